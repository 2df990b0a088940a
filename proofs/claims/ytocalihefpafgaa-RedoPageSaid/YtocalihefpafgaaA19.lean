/- Rows of own slices, as they stand in a walk. -/
import Derived.Test.YtocalihefpafgaaA17
import Derived.Test.YtocalihefpafgaaA13l
set_option linter.unusedVariables false
set_option linter.unusedSimpArgs false
namespace Go.AW

section
variable {C : Con} {T : Tab} {L : Code → (Ex → St → Prop) → St → Prop} {Q : Ex → St → Prop} {k : List It} {σ : St} {ops : Array Oper} {r : List Oper} {dst : Option Nat} {acc : Option (List (List Loc × List Loc) × List Loc)}
theorem elem_eq {xs : List (List PV)} {i : Nat} {g : List PV → Rd Wr} {x : List PV} (hx : xs[i]? = some x) : elemS C T L Q xs i g dst ops r acc k σ = GoR C T L Q (g x) dst ops r acc k σ := by
  simp [elemS, hx]
theorem elemC_eq {xs : List Ce} {i : Nat} {g : Ce → Rd Wr} {x : Ce} (hx : xs[i]? = some x) : elemCS C T L Q xs i g dst ops r acc k σ = GoR C T L Q (g x) dst ops r acc k σ := by
  simp [elemCS, hx]
end

/-- The cells of a row of own slices. -/
def rowsC (d : Nat) (ls : List (List (List PV))) : List Ce := ls.mapIdx fun i l => .osl (rowI d i) l.length
/-- Memory with such a row. -/
def mR (d e : Nat) (ls : List (List (List PV))) (m : Nat → Option Obj) (j : Nat) : Option Obj :=
  if j = d then some (.box (rowsC d ls)) else if 1000000 + 1000 * d ≤ j ∧ j < 1000000 + 1000 * d + ls.length then (ls[j - (1000000 + 1000 * d)]?).map (.sl e) else m j

theorem rowsC_length {d : Nat} {ls : List (List (List PV))} : (rowsC d ls).length = ls.length := by simp [rowsC]
theorem rowsC_get {d : Nat} {ls : List (List (List PV))} {i : Nat} (h : i < ls.length) : (rowsC d ls)[i]? = some (.osl (rowI d i) ls[i].length) := by
  simp [rowsC, h]
theorem mR_box {d e : Nat} {ls : List (List (List PV))} {m : Nat → Option Obj} : mR d e ls m d = some (.box (rowsC d ls)) := by simp [mR]
theorem rowI_ne {d i : Nat} : rowI d i ≠ d := by unfold rowI; omega
theorem mR_row {d e : Nat} {ls : List (List (List PV))} {m : Nat → Option Obj} {i : Nat} (h : i < ls.length) : mR d e ls m (rowI d i) = some (.sl e ls[i]) := by
  unfold mR
  rw [if_neg rowI_ne, if_pos (by unfold rowI; omega)]
  have : rowI d i - (1000000 + 1000 * d) = i := by unfold rowI; omega
  rw [this]; simp [h]
theorem mR_other {d e : Nat} {ls : List (List (List PV))} {m : Nat → Option Obj} {j : Nat} (h : j ≠ d) (h2 : j < 1000000) : mR d e ls m j = m j := by
  unfold mR
  rw [if_neg h, if_neg (by omega)]

theorem mR_new {d e n : Nat} {m : Nat → Option Obj} : (rowsM d e n).foldl (fun m x => upd m x.1 (some x.2)) m = mR d e (List.replicate n []) m := by
  funext j
  have hb : ((List.range n).map fun i => Ce.osl (rowI d i) 0) = rowsC d (List.replicate n []) := by
    refine List.ext_getElem (by simp [rowsC]) fun i h1 h2 => ?_
    simp [rowsC]
  simp only [rowsM, List.foldl_append, List.foldl_cons, List.foldl_nil]
  unfold upd mR
  by_cases hj : j = d
  · rw [if_pos hj, if_pos hj, hb]
  · rw [if_neg hj, if_neg hj]
    have := rowsF_get d e m n j
    unfold upd at this
    rw [this, List.length_replicate]
    by_cases h : 1000000 + 1000 * d ≤ j ∧ j < 1000000 + 1000 * d + n
    · rw [if_pos h, if_pos h]
      rw [List.getElem?_replicate, if_pos (by omega)]; rfl
    · rw [if_neg h, if_neg h]

/-- One slice of the row grows, and stands in its place again. -/
theorem mR_put {d e : Nat} {ls : List (List (List PV))} {m : Nat → Option Obj} {i : Nat} (h : i < ls.length) (l : List (List PV)) (n : Nat) (hn : n = l.length) :
    upd (upd (mR d e ls m) (rowI d i) (some (.sl e l))) d (some (.box (splice (rowsC d ls) i [.osl (rowI d i) n]))) = mR d e (ls.set i l) m := by
  subst hn
  have hb : splice (rowsC d ls) i [.osl (rowI d i) l.length] = rowsC d (ls.set i l) := by
    refine List.ext_getElem? fun k => ?_
    rw [getElem?_splice _ _ _ _ (by simp [rowsC]; omega)]
    by_cases hk : k < i
    · rw [if_pos hk]; simp [rowsC, List.getElem?_set_ne (show i ≠ k by omega)]
    · rw [if_neg hk]
      by_cases hk2 : k < i + [Ce.osl (rowI d i) l.length].length
      · rw [if_pos hk2]
        simp at hk2
        have : k = i := by omega
        subst this
        simp [rowsC, h]
      · rw [if_neg hk2]
        simp at hk2
        simp [rowsC, List.getElem?_set_ne (show i ≠ k by omega)]
  funext j
  rw [hb]
  unfold upd
  by_cases hj : j = d
  · rw [if_pos hj, hj, mR_box]
  · rw [if_neg hj]
    by_cases hi : j = rowI d i
    · rw [if_pos hi, hi, mR_row (by simpa using h)]
      simp
    · rw [if_neg hi]
      unfold mR
      rw [if_neg hj, if_neg hj, List.length_set]
      by_cases hr : 1000000 + 1000 * d ≤ j ∧ j < 1000000 + 1000 * d + ls.length
      · rw [if_pos hr, if_pos hr, List.getElem?_set_ne (by intro e; apply hi; unfold rowI; omega)]
      · rw [if_neg hr, if_neg hr]

/-- A row of own slices, read as data. -/
theorem view_rows {d e : Nat} {ls : List (List (List PV))} {m m' : Nat → Option Obj} (h1 : m' d = none) (h2 : ∀ i, i < ls.length → m' (rowI d i) = none) :
    ViewC (mR d e ls m) m' (.bsl d ls.length) (.p (.slice (ls.map fun x => [.slice x]))) := by
  refine .bsl d ls.length e (rowsC d ls) ls mR_box rfl h1 rowsC_length fun k x hx => ?_
  have hk : k < ls.length := (List.getElem?_eq_some_iff.1 hx).1
  have : ls[k] = x := (List.getElem?_eq_some_iff.1 hx).2
  refine ⟨rowI d k, ?_, ?_, h2 k hk⟩
  · rw [rowsC_get hk, this]
  · rw [mR_row hk, this]

theorem upd_mR {d e k : Nat} {ls : List (List (List PV))} {m : Nat → Option Obj} {v : Option Obj} (h : k ≠ d) (h2 : k < 1000000) : upd (mR d e ls m) k v = mR d e ls (upd m k v) := by
  funext j
  simp only [upd, mR]
  by_cases hj : j = k
  · subst hj
    rw [if_pos rfl, if_neg h, if_neg (by omega), if_pos rfl]
  · rw [if_neg hj, if_neg hj]

/-- Forgetting, down to a row of own slices. -/
theorem weak_mR {E : Env} {σ : St} {l : List (Nat × V)} {d e : Nat} {ls : List (List (List PV))} {m2 : Nat → Option Obj} (h : agreeT σ.t l) (hm : σ.m = mR d e ls m2) (hr : refsT [d] l = true) (h0 : E.m0 = fun _ => none) :
    Weak E σ { t := tOf l, m := mR d e ls (fun _ => none) } := by
  have key : ∀ j, mR d e ls (fun _ => none) j = none ∨ mR d e ls (fun _ => none) j = σ.m j := by
    intro j
    rw [hm]
    unfold mR
    by_cases hj : j = d
    · rw [if_pos hj, if_pos hj]; exact .inr rfl
    · rw [if_neg hj, if_neg hj]
      by_cases hr : 1000000 + 1000 * d ≤ j ∧ j < 1000000 + 1000 * d + ls.length
      · rw [if_pos hr, if_pos hr]; exact .inr rfl
      · rw [if_neg hr]; exact .inl rfl
  have hrow : ∀ i, i < ls.length → mR d e ls (fun _ => none) (rowI d i) = σ.m (rowI d i) := fun i hi => by rw [hm, mR_row hi, mR_row hi]
  refine ⟨tOf_agree h, key, fun i id hid => ?_, fun id o ho j hj => ?_, fun id o h => by rw [h0] at h; cases h⟩
  · have := refsT_tOf hr i id hid
    simp at this; subst this
    rw [hm, mR_box]; exact mR_box (m := fun _ => none)
  · have ho : mR d e ls (fun _ => none) id = some o := ho
    unfold mR at ho
    by_cases hid : id = d
    · rw [if_pos hid] at ho
      cases ho
      simp only [refsO, List.mem_flatMap] at hj
      obtain ⟨c, hc, hj⟩ := hj
      obtain ⟨i, hi, rfl⟩ := List.getElem_of_mem hc
      have hi' : i < ls.length := by rwa [rowsC_length] at hi
      have : (rowsC d ls)[i] = .osl (rowI d i) ls[i].length := by simp [rowsC]
      rw [this] at hj
      simp [refsC] at hj; subst hj
      exact hrow i hi'
    · rw [if_neg hid] at ho
      split at ho
      · cases hx : ls[id - (1000000 + 1000 * d)]? with
        | none => rw [hx] at ho; cases ho
        | some x => rw [hx] at ho; cases ho; simp [refsO] at hj
      · cases ho

theorem weakF_refl {E : Env} {σ : St} : WeakF E σ σ :=
  ⟨fun i => .inr (.inl ⟨rfl, fun _ _ => rfl⟩), fun _ => .inr rfl, fun _ _ _ _ _ => rfl, fun _ _ _ => rfl⟩

/-- A row of own slices is read as data from now on: the place of its header, what else is kept. -/
theorem freeze_mR {E : Env} {σ : St} {l : List (Nat × V)} {d e h : Nat} {ls : List (List (List PV))} {m2 : Nat → Option Obj} (hl : agreeT σ.t l) (hd : σ.t h = .one (.bsl d ls.length)) (hm : σ.m = mR d e ls m2) (hr : refsT [] l = true) (h0 : E.m0 = fun _ => none) :
    WeakF E σ { t := tOf ((h, .one (.p (.slice (ls.map fun x => [.slice x])))) :: l), m := fun _ => none } := by
  constructor
  · intro i
    by_cases hi : i = h
    · subst hi
      refine .inr (.inr ⟨_, _, hd, by simp [tOf]; rfl, ?_⟩)
      rw [hm]
      exact view_rows rfl fun _ _ => rfl
    · have e : tOf ((h, .one (.p (.slice (ls.map fun x => [.slice x])))) :: l) i = tOf l i := by simp only [tOf, if_neg hi]
      show tOf _ i = _ ∨ _
      rcases tOf_agree hl i with h1 | h1
      · exact .inl (e.trans h1)
      · refine .inr (.inl ⟨e.trans h1, fun id hid => ?_⟩)
        have hid : id ∈ refsV (tOf ((h, .one (.p (.slice (ls.map fun x => [.slice x])))) :: l) i) := hid
        rw [e] at hid
        have := refsT_tOf hr i id hid
        simp at this
  · exact fun _ => .inl rfl
  · intro id o ho; cases ho
  · intro id o ho; rw [h0] at ho; cases ho
end Go.AW
