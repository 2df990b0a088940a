/- Each abstract operation tells what the model's operation does. -/
import Derived.Test.YtocalihefpafgaaA2
import Derived.Great.BuildSlice
set_option linter.unusedVariables false
set_option linter.unusedSimpArgs false
namespace Go.AW

/-- The value of a pure cell that leads nowhere. -/
def pvVal : PV → Value
  | .bool b => .bool b | .int k n => .int k n | .str s => .string s | .nilp => .pointer none | .nilsl => .slice none 0 0 | .nilf => .nilFunc
  | .func f => .func (.func f) #[] #[] | .slice _ => .slice none 0 0 | .nesl => .slice none 0 0

def simpleP : PV → Bool
  | .slice _ => false
  | .nesl => false
  | _ => true

def primP : PV → Bool
  | .bool _ | .int _ _ | .str _ => true
  | _ => false

def descOk : TD → TypeDesc → Prop
  | .bool, .bool => True | .int k, .int k' => k = k' | .str, .string => True | .ptr e, .pointer e' => e = e' | .sl e, .slice e' => e = e'
  | .arr n e, .array n' e' => n = n' ∧ e = e' | .struct fs, .struct fields => fields.toList.map (fun f => (f.offset, f.type)) = fs | .func, .func .. => True
  | _, _ => False

/-- What is to be known of a type whose values are compared as wholes. -/
def EqOk (P : Program) (t : Nat) (zero : List PV) : Prop :=
  ∀ (xs ys : List PV), likeL xs zero = true → likeL ys zero = true → ∀ (x y : Operand) (w : World),
    (do eqGuard .eql t x y (.agg (xs.map pvVal).toArray) (.agg (ys.map pvVal).toArray); binOp .eql t (.agg (xs.map pvVal).toArray) (.agg (ys.map pvVal).toArray)).run P w = .ok (.bool (eqLP xs ys)) w ∧
    (do eqGuard .neq t x y (.agg (xs.map pvVal).toArray) (.agg (ys.map pvVal).toArray); binOp .neq t (.agg (xs.map pvVal).toArray) (.agg (ys.map pvVal).toArray)).run P w = .ok (.bool (!(eqLP xs ys))) w

structure TyOk (P : Program) (t : Nat) (i : TI) : Prop where
  desc : ∃ ds, P.underlying t = some ds ∧ descOk i.d ds
  info : ∃ ti z, P.info? t = some ti ∧ ti.size = i.size ∧ ti.bytes = i.bytes ∧ ti.zero = some z ∧ z.cells.toList = i.zero.map pvVal
  simple : i.zero.all simpleP = true
  len : i.zero.length = i.size
  eq : i.eqok = true → EqOk P t i.zero

def TabOk (P : Program) (T : Tab) : Prop := ∀ t, (T t).d ≠ .other → TyOk P t (T t)

theorem repP_simple (w : World) (I : Nat → Prop) : ∀ q : PV, simpleP q = true → RepP w I q (pvVal q)
  | .bool b, _ => .bool b
  | .int k n, _ => .int k n
  | .str s, _ => .str s
  | .nilp, _ => .nilp
  | .nilsl, _ => .nilsl
  | .nilf, _ => .nilf
  | .func f, _ => .func f
  | .slice _, h => by simp [simpleP] at h
  | .nesl, h => by simp [simpleP] at h

theorem repP_prim {w : World} {I : Nat → Prop} {q : PV} {v : Value} (h : RepP w I q v) (hp : primP q = true) : v = pvVal q := by
  cases h <;> first | rfl | (simp [primP] at hp)

section
variable {P : Program} {T : Tab} (hT : TabOk P T)
include hT

theorem run_underlying_T {t : Nat} (h : (T t).d ≠ .other) : ∃ ds, descOk (T t).d ds ∧ P.underlying t = some ds ∧ ∀ w, (underlying t).run P w = .ok ds w := by
  obtain ⟨ds, h1, h2⟩ := (hT t h).desc
  exact ⟨ds, h2, h1, fun w => run_underlying h1 w⟩

theorem run_isAgg_T {t : Nat} (h : (T t).d ≠ .other) (w : World) : (isAgg t).run P w = .ok (T t).d.isAgg w := by
  obtain ⟨ds, h1, _, h2⟩ := run_underlying_T hT h
  simp only [isAgg, Sem.run_bind, h2, Result.andThen_ok]
  generalize (T t).d = d at *
  cases d <;> cases ds <;> simp_all [descOk, TD.isAgg]

theorem run_sizeOf_T {t : Nat} (h : (T t).d ≠ .other) (w : World) : (sizeOf t).run P w = .ok (T t).size w := by
  obtain ⟨ti, z, h1, h2, _⟩ := (hT t h).info
  simp [sizeOf, typeInfo, h1, h2]

theorem run_typeInfo_T {t : Nat} (h : (T t).d ≠ .other) : ∃ ti z, (∀ w, (typeInfo t).run P w = .ok ti w) ∧ P.info? t = some ti ∧ ti.size = (T t).size ∧ ti.bytes = (T t).bytes ∧ ti.zero = some z ∧ z.cells.toList = (T t).zero.map pvVal := by
  obtain ⟨ti, z, h1, h2⟩ := (hT t h).info
  exact ⟨ti, z, fun w => by simp [typeInfo, h1], h1, h2⟩

theorem run_zeroValue_T {t : Nat} (h : (T t).d ≠ .other) : ∃ z, (∀ w, (zeroValue t).run P w = .ok z w) ∧ z.cells.toList = (T t).zero.map pvVal := by
  obtain ⟨ti, z, h1, _, _, _, h4, h5⟩ := run_typeInfo_T hT h
  exact ⟨z, fun w => by simp [zeroValue, h1, h4], h5⟩

omit hT in
theorem cell_of_heap {w : World} {b off : Nat} {arr : Array Value} {e : TypeId} {fr : Nat × Nat} (hh : w.heap[b]? = some (.cells arr e fr)) : w.cell? ⟨b, off, none⟩ = arr[off]? := by
  simp [World.cell?, hh]

omit hT in
theorem add_none (b off k : Nat) : (⟨b, off, none⟩ : Addr).add k = ⟨b, off + k, none⟩ := by
  unfold Addr.add; split
  · subst_vars; rfl
  · rfl

theorem run_load_agg {t : Nat} (h : (T t).d ≠ .other) (ha : (T t).d.isAgg = true) {w : World} {b off : Nat} {arr : Array Value} {e : TypeId} {fr : Nat × Nat} (hh : w.heap[b]? = some (.cells arr e fr))
    (us : List Value) (hl : us.length = (T t).size) (hu : ∀ (k : Nat) u, us[k]? = some u → arr[off + k]? = some u) :
    (Instr.loadAt t (.pointer (some ⟨b, off, none⟩))).run P w = .ok (.agg us.toArray) w := by
  have := run_loadCells_list (P := P) w ⟨b, off, none⟩ us (fun j v hj => by rw [add_none, cell_of_heap hh]; exact hu j v hj)
  rw [hl] at this
  simp [Instr.loadAt, Instr.sureAddr, loadVar, run_isAgg_T hT h, ha, run_sizeOf_T hT h, this]

theorem run_load_one {t : Nat} (h : (T t).d ≠ .other) (ha : (T t).d.isAgg = false) {w : World} {b off : Nat} {arr : Array Value} {e : TypeId} {fr : Nat × Nat} (hh : w.heap[b]? = some (.cells arr e fr))
    (u : Value) (hu : arr[off]? = some u) : (Instr.loadAt t (.pointer (some ⟨b, off, none⟩))).run P w = .ok u w := by
  simp [Instr.loadAt, Instr.sureAddr, loadVar, run_isAgg_T hT h, ha, cell_of_heap hh, hu]
end

/-! ### Small laws on lists -/
theorem repL_drop {T : Tab} {w : World} {I : Nat → Prop} {m : Nat → Option Obj} {gv : GV} {cs : List Ce} {vs : List Value} (h : RepL T w I m gv cs vs) (k : Nat) : RepL T w I m gv (cs.drop k) (vs.drop k) :=
  ⟨by simp [h.1], fun i c v hc hv => h.2 (k + i) c v (by simpa [List.getElem?_drop] using hc) (by simpa [List.getElem?_drop] using hv)⟩
theorem repL_take {T : Tab} {w : World} {I : Nat → Prop} {m : Nat → Option Obj} {gv : GV} {cs : List Ce} {vs : List Value} (h : RepL T w I m gv cs vs) (k : Nat) : RepL T w I m gv (cs.take k) (vs.take k) := by
  refine ⟨by simp [h.1], fun i c v hc hv => ?_⟩
  rw [List.getElem?_take] at hc hv
  split at hc
  · rename_i hk
    rw [if_pos hk] at hv
    exact h.2 i c v hc hv
  · cases hc
theorem repL_append {T : Tab} {w : World} {I : Nat → Prop} {m : Nat → Option Obj} {gv : GV} {cs cs' : List Ce} {vs vs' : List Value} (h : RepL T w I m gv cs vs) (h' : RepL T w I m gv cs' vs') : RepL T w I m gv (cs ++ cs') (vs ++ vs') := by
  refine ⟨by simp [h.1, h'.1], fun i c v hc hv => ?_⟩
  rw [List.getElem?_append] at hc hv
  rw [h.1] at hv
  split at hc
  · rename_i hk
    rw [if_pos hk] at hv
    exact h.2 i c v hc hv
  · rename_i hk
    rw [if_neg hk] at hv
    exact h'.2 _ c v hc hv
theorem repL_nil {T : Tab} {w : World} {I : Nat → Prop} {m : Nat → Option Obj} {gv : GV} : RepL T w I m gv [] [] := ⟨rfl, fun k c v h => by simp at h⟩
theorem repL_cons {T : Tab} {w : World} {I : Nat → Prop} {m : Nat → Option Obj} {gv : GV} {c : Ce} {v : Value} {cs : List Ce} {vs : List Value} (h : RepC T w I m gv c v) (h' : RepL T w I m gv cs vs) : RepL T w I m gv (c :: cs) (v :: vs) := by
  refine ⟨by simp [h'.1], fun i c' v' hc hv => ?_⟩
  cases i with
  | zero => simp at hc hv; subst hc; subst hv; exact h
  | succ i => simp at hc hv; exact h'.2 i c' v' hc hv
theorem repL_splice {T : Tab} {w : World} {I : Nat → Prop} {m : Nat → Option Obj} {gv : GV} {cs new : List Ce} {vs us : List Value} (h : RepL T w I m gv cs vs) (h' : RepL T w I m gv new us) (k : Nat) :
    RepL T w I m gv (splice cs k new) (splice vs k us) := by
  unfold splice
  rw [h'.1]
  exact repL_append (repL_append (repL_take h k) h') (repL_drop h _)
theorem repL_p {T : Tab} {w : World} {I : Nat → Prop} {m : Nat → Option Obj} {gv : GV} {qs : List PV} {vs : List Value} (hl : vs.length = qs.length) (h : ∀ (k : Nat) q v, qs[k]? = some q → vs[k]? = some v → RepP w I q v) : RepL T w I m gv (qs.map .p) vs :=
  ⟨by simp [hl], fun k c v hc hv => by
    rw [List.getElem?_map] at hc
    cases hq : qs[k]? with
    | none => simp [hq] at hc
    | some q => simp [hq] at hc; subst hc; exact h k q v hq hv⟩
theorem pureL_map : ∀ {cs : List Ce} {qs : List PV}, pureL cs = some qs → cs = qs.map .p
  | [], qs, h => by simp [pureL] at h; subst h; rfl
  | .p x :: r, qs, h => by
    simp only [pureL, Option.map_eq_some_iff] at h
    obtain ⟨ys, h1, rfl⟩ := h
    simp [pureL_map h1]
  | .ptr _ _ :: _, _, h | .osl _ _ :: _, _, h | .oel _ _ _ _ :: _, _, h | .ip _ :: _, _, h | .bsl _ _ :: _, _, h => by simp [pureL] at h
theorem repL_one {T : Tab} {w : World} {I : Nat → Prop} {m : Nat → Option Obj} {gv : GV} {cs : List Ce} {vs : List Value} (h : RepL T w I m gv cs vs) : ∀ v ∈ vs, v.oneCell' = true := by
  intro v hv
  obtain ⟨k, hk, rfl⟩ := List.getElem_of_mem hv
  have hlt : k < cs.length := by rw [← h.1]; exact hk
  exact RepC.one (h.2 k cs[k] _ (by simp [hlt]) (by simp [hk]))

theorem flatten_len {α : Type} : ∀ (xs : List (List α)) (sz : Nat), (∀ x ∈ xs, x.length = sz) → xs.flatten.length = xs.length * sz
  | [], sz, _ => by simp
  | x :: r, sz, h => by
    simp only [List.flatten_cons, List.length_append, List.length_cons, flatten_len r sz (fun y hy => h y (by simp [hy])), h x (by simp), Nat.add_mul]
    omega
theorem flatten_get {α : Type} : ∀ (xs : List (List α)) (sz : Nat), (∀ x ∈ xs, x.length = sz) → ∀ (i j : Nat) (x : List α), xs[i]? = some x → j < sz → xs.flatten[i * sz + j]? = x[j]?
  | [], sz, _, i, j, x, h, _ => by simp at h
  | y :: r, sz, hz, i, j, x, h, hj => by
    have hy : y.length = sz := hz y (by simp)
    cases i with
    | zero =>
      simp at h; subst h
      simp only [List.flatten_cons, Nat.zero_mul, Nat.zero_add]
      rw [List.getElem?_append_left (by omega)]
    | succ i =>
      simp only [List.flatten_cons]
      rw [List.getElem?_append_right (by rw [hy, Nat.succ_mul]; omega)]
      have := flatten_get r sz (fun z hz' => hz z (by simp [hz'])) i j x (by simpa using h) hj
      rw [← this, hy]
      congr 1
      rw [Nat.succ_mul]; omega
theorem flatten_set {α : Type} : ∀ (xs : List (List α)) (sz : Nat), (∀ x ∈ xs, x.length = sz) → ∀ (i : Nat) (y : List α), i < xs.length → y.length = sz → (xs.set i y).flatten = splice xs.flatten (i * sz) y
  | [], sz, _, i, y, h, _ => by simp at h
  | x :: r, sz, hz, i, y, h, hy => by
    have hx : x.length = sz := hz x (by simp)
    cases i with
    | zero => simp [splice, List.set, hy, ← hx]
    | succ i =>
      have ih := flatten_set r sz (fun z hz' => hz z (by simp [hz'])) i y (by simpa using h) hy
      have e : (i + 1) * sz = x.length + i * sz := by rw [Nat.succ_mul, hx]; omega
      simp only [List.set_cons_succ, List.flatten_cons, ih, splice, e, List.take_length_add_append, Nat.add_assoc, List.drop_length_add_append, List.append_assoc]

theorem getElem?_splice {α : Type} (cs us : List α) (k j : Nat) (h : k + us.length ≤ cs.length) : (splice cs k us)[j]? = if j < k then cs[j]? else if j < k + us.length then us[j - k]? else cs[j]? := by
  unfold splice
  rw [List.append_assoc, List.getElem?_append, List.length_take, Nat.min_eq_left (by omega)]
  split
  · rename_i hj; rw [List.getElem?_take, if_pos hj]
  · rename_i hj
    rw [List.getElem?_append]
    split
    · rename_i hj2; rw [if_pos (by omega)]
    · rename_i hj2; rw [if_neg (by omega), List.getElem?_drop]; congr 1; omega
theorem length_splice {α : Type} (cs us : List α) (k : Nat) (h : k + us.length ≤ cs.length) : (splice cs k us).length = cs.length := by simp [splice]; omega
theorem take_splice {α : Type} (cs us : List α) (k n : Nat) (h : k + us.length ≤ n) (hn : n ≤ cs.length) : (splice cs k us).take n = splice (cs.take n) k us := by
  apply List.ext_getElem?
  intro j
  rw [List.getElem?_take, getElem?_splice _ _ _ _ (by omega), getElem?_splice _ _ _ _ (by rw [List.length_take]; omega)]
  simp only [List.getElem?_take]
  by_cases h1 : j < n
  · simp [h1]
  · simp [h1, show ¬ j < k by omega, show ¬ j < k + us.length by omega]
theorem splice_splice {α : Type} (xs : List (List α)) (sz i off : Nat) (r new : List α) (hz : ∀ x ∈ xs, x.length = sz) (hi : xs[i]? = some r) (h : off + new.length ≤ r.length) :
    splice xs.flatten (i * sz) (splice r off new) = splice xs.flatten (i * sz + off) new := by
  have hr : r.length = sz := hz r (List.mem_of_getElem? hi)
  have hlt : i < xs.length := (List.getElem?_eq_some_iff.1 hi).1
  have hle : i * sz + sz ≤ xs.length * sz := by
    have := Nat.mul_le_mul_right sz (show i + 1 ≤ xs.length from hlt)
    rwa [Nat.succ_mul] at this
  have hf := flatten_len xs sz hz
  apply List.ext_getElem?
  intro j
  have hs := length_splice r new off h
  rw [getElem?_splice xs.flatten (splice r off new) _ _ (by omega), getElem?_splice xs.flatten new _ _ (by omega), hs]
  by_cases c1 : j < i * sz
  · simp [c1, show j < i * sz + off by omega]
  · simp only [c1, if_false]
    by_cases c2 : j < i * sz + r.length
    · have hg := flatten_get xs sz hz i (j - i * sz) r hi (by omega)
      rw [show i * sz + (j - i * sz) = j by omega] at hg
      rw [if_pos c2, getElem?_splice _ _ _ _ h, hg]
      by_cases c3 : j < i * sz + off
      · simp [c3, show j - i * sz < off by omega]
      · simp only [c3, if_false, show ¬ j - i * sz < off by omega]
        by_cases c4 : j < i * sz + off + new.length
        · simp [c4, show j - i * sz < off + new.length by omega, Nat.sub_add_eq]
        · simp [c4, show ¬ j - i * sz < off + new.length by omega]
    · simp [c2, show ¬ j < i * sz + off by omega, show ¬ j < i * sz + off + new.length by omega]
end Go.AW
