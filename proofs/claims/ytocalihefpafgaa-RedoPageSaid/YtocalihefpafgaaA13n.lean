/- A nil slice may be read as an empty one, wherever it stands. -/
import Derived.Test.YtocalihefpafgaaA13l
set_option linter.unusedVariables false
set_option linter.unusedSimpArgs false
namespace Go.AW

mutual
def nz : PV → PV
  | .nilsl => .slice []
  | .slice xs => .slice (nzLL xs)
  | q => q
def nzL : List PV → List PV
  | [] => []
  | q :: r => nz q :: nzL r
def nzLL : List (List PV) → List (List PV)
  | [] => []
  | x :: r => nzL x :: nzLL r
end
def nzC : Ce → Ce
  | .p x => .p (nz x)
  | c => c
def nzV : V → V
  | .one c => .one (nzC c)
  | .agg cs => .agg (cs.map nzC)
  | v => v

theorem nzL_map : ∀ xs : List PV, nzL xs = xs.map nz
  | [] => rfl
  | x :: r => by simp [nzL, nzL_map r]
theorem nzLL_map : ∀ xs : List (List PV), nzLL xs = xs.map nzL
  | [] => rfl
  | x :: r => by simp [nzLL, nzLL_map r]
theorem nzLL_flatten : ∀ xs : List (List PV), (nzLL xs).flatten = nzL xs.flatten
  | [] => rfl
  | x :: r => by simp [nzLL, nzLL_flatten r, nzL_map]

theorem repP_nz {w : World} {I : Nat → Prop} {q : PV} {v : Value} (h : RepP w I q v) : RepP w I (nz q) v := by
  induction h with
  | bool b => exact .bool b
  | int k n => exact .int k n
  | str s => exact .str s
  | nilp => exact .nilp
  | nilsl => exact .sl0 none 0 fun _ => rfl
  | nilf => exact .nilf
  | func f => exact .func f
  | nesl a cap => exact .nesl a cap
  | sl0 a cap h => exact .sl0 a cap h
  | sl xs b off cap sz arr e fr vs hI hh hz hc hv hl hr ih =>
    have hlen : (nzLL xs).length = xs.length := by simp [nzLL_map]
    have := RepP.sl (w := w) (I := I) (nzLL xs) b off cap sz arr e fr vs hI hh (fun x hx => by
      rw [nzLL_map] at hx
      obtain ⟨y, hy, rfl⟩ := List.mem_map.1 hx
      rw [nzL_map, List.length_map]; exact hz y hy) (by omega) hv (by rw [nzLL_flatten, nzL_map, List.length_map]; exact hl) (fun k q v hq hk => by
      rw [nzLL_flatten, nzL_map, List.getElem?_map] at hq
      cases hx : xs.flatten[k]? with
      | none => rw [hx] at hq; simp at hq
      | some q0 =>
        rw [hx] at hq; simp at hq; subst hq
        exact ih k q0 v hx hk)
    rw [hlen] at this
    simpa only [nz] using this

section
variable {P : Program} {T : Tab} {w : World} {I : Nat → Prop} {m : Nat → Option Obj} {gv : GV}
theorem repC_nz {c : Ce} {v : Value} (h : RepC T w I m gv c v) : RepC T w I m gv (nzC c) v := by
  cases c with
  | p x => exact repP_nz h
  | _ => exact h
theorem repV_nz {x : V} {v : Value} (h : RepV T w I m gv x v) : RepV T w I m gv (nzV x) v := by
  cases x with
  | one c => exact repC_nz h
  | agg cs =>
    obtain ⟨arr, h1, h2, h3⟩ := h
    refine ⟨arr, h1, by simpa using h2, fun k c v hc hv => ?_⟩
    rw [List.getElem?_map] at hc
    cases hx : cs[k]? with
    | none => rw [hx] at hc; simp at hc
    | some c0 => rw [hx] at hc; simp at hc; subst hc; exact repC_nz (h3 k c0 v hx hv)
  | _ => exact h

theorem con_nz {f : Nat} {args : List V} {M M' : List (Nat × Obj)} {r : V} (h : ConSem P T f (args.map nzV) M r M') : ConSem P T f args M r M' := by
  refine ⟨h.1, fun w gv J vs hJ hrel hsz hargs => h.2 w gv J vs hJ hrel (by simpa using hsz) (fun k a v ha hv => ?_)⟩
  rw [List.getElem?_map] at ha
  cases hx : args[k]? with
  | none => rw [hx] at ha; simp at ha
  | some a0 => rw [hx] at ha; simp at ha; subst ha; exact repV_nz (hargs k a0 v hx hv)
end
end Go.AW
