import Derived.Test.YtocalihefpafgaaA1
import Derived.Laws.StructEq
import Derived.Laws.Strings
import Derived.Laws.Small
import Derived.Laws.OwnMore
/- The soundness of the abstract operations: binary operations, literals, slices, append, calls. -/
set_option linter.unusedVariables false
set_option linter.unusedSimpArgs false
namespace Go.AW

section
variable {P : Program} {T : Tab} {E : Env} {N : Nat} {gv : GV} {σ : St} {a : Act} {w : World}

theorem beq_bytes (s t : ByteArray) : (s.toList == t.toList) = decide (s = t) := by
  rw [ByteArray.toList_eq, ByteArray.toList_eq]
  by_cases h : s = t
  · subst h; simp
  · have : ¬ s.data.toList = t.data.toList := fun e => h (by
      obtain ⟨⟨x⟩⟩ := s; obtain ⟨⟨y⟩⟩ := t; simp at e; subst e; rfl)
    rw [decide_eq_false h]
    simpa using this

theorem prims_of {cs : List Ce} {vs : List Value} {I : Nat → Prop} {m : Nat → Option Obj} {qs : List PV} (h : RepL T w I m gv cs vs) (hp : pureL cs = some qs) (hq : ∀ q ∈ qs, primP q = true) : vs = qs.map pvVal := by
  have := pureL_map hp
  subst this
  apply List.ext_getElem?
  intro k
  have hl := h.1
  simp at hl
  by_cases hk : k < qs.length
  · have h1 : vs[k]? = some (vs[k]'(by omega)) := by simp [show k < vs.length by omega]
    have h2 : qs[k]? = some qs[k] := by simp [hk]
    rw [h1, List.getElem?_map, h2]
    have := h.2 k (.p qs[k]) _ (by simp [h2]) h1
    simp [repP_prim this (hq _ (List.getElem_mem hk))]
  · simp [hk, show ¬ k < vs.length by omega]

theorem like_prim : ∀ {xs zs : List PV}, likeL xs zs = true → ∀ q ∈ xs, primP q = true
  | [], _, _, q, hq => by cases hq
  | x :: xs, [], h, _, _ => by simp [likeL] at h
  | x :: xs, z :: zs, h, q, hq => by
    simp only [likeL, Bool.and_eq_true] at h
    rcases List.mem_cons.1 hq with rfl | hq
    · revert h; cases q <;> cases z <;> simp [likeP, primP]
    · exact like_prim h.2 q hq

theorem run_eq_ptr (d : Nat) {t e : TypeId} (h : P.underlying t = some (.pointer e)) (p : Option Addr) : (Op.equalIn (d + 1) t (.pointer p) (.pointer none)).run P w = .ok p.isNone w := by
  cases p <;> simp only [Op.equalIn, Sem.run_bind, run_underlying h, Result.andThen_ok] <;> rfl
theorem run_equal_ptr {t e : TypeId} (h : P.underlying t = some (.pointer e)) (p : Option Addr) : (Op.equal t (.pointer p) (.pointer none)).run P w = .ok p.isNone w := run_eq_ptr 9999 h p
theorem run_eq_func (d : Nat) {t : TypeId} {as bs : Array TypeId} {b : Bool} (h : P.underlying t = some (.func as bs b)) (f : Fn) (x y : Array Value) : (Op.equalIn (d + 1) t (.func f x y) .nilFunc).run P w = .ok false w := by
  simp only [Op.equalIn, Sem.run_bind, run_underlying h, Result.andThen_ok]; rfl
theorem run_equal_func {t : TypeId} {as bs : Array TypeId} {b : Bool} (h : P.underlying t = some (.func as bs b)) (f : Fn) (x y : Array Value) : (Op.equal t (.func f x y) .nilFunc).run P w = .ok false w := run_eq_func 9999 h f x y

theorem run_eq_sl (d : Nat) {t e : TypeId} (h : P.underlying t = some (.slice e)) (p : Option Addr) (n c : Nat) : (Op.equalIn (d + 1) t (.slice p n c) (.slice none 0 0)).run P w = .ok p.isNone w := by
  cases p <;> simp only [Op.equalIn, Sem.run_bind, run_underlying h, Result.andThen_ok] <;> rfl
theorem run_equal_sl {t e : TypeId} (h : P.underlying t = some (.slice e)) (p : Option Addr) (n c : Nat) : (Op.equal t (.slice p n c) (.slice none 0 0)).run P w = .ok p.isNone w := run_eq_sl 9999 h p n c

variable (hT : TabOk P T)
include hT

theorem sound_bin {o : Oper} {op : BinOp} {t u : Nat} {x y : Operand} {wr : Wr} {fp : List Loc} {C : Con} (hr : RelG T E N gv σ a w) (hdst : ∀ i, o.dst = some i → i < N) (ho : o.op = .binOp op t x y u)
    (h : Run C (binR T op t (σ.ev x) (σ.ev y)) σ wr fp) : Sound P T E N σ a w o wr := by
  have hx := ev_rep hr x
  have hy := ev_rep hr y
  have hex : (execOp a.eval o).run P w = ((do eqGuard op t x y (a.eval x) (a.eval y); binOp op t (a.eval x) (a.eval y) : Sem Value).run P w).andThen fun v w' => .ok (.value v) w' := by
    simp only [execOp, ho, Sem.run_bind]
    cases (eqGuard op t x y (a.eval x) (a.eval y)).run P w <;> rfl
  unfold binR at h
  split at h
  · rename_i k n k' n' hxv hyv
    rw [hxv] at hx
    rw [hyv] at hy
    have h1 : a.eval x = .int k n := rp_int hx
    have h2 : a.eval y = .int k' n' := rp_int hy
    rw [h1, h2] at hex
    split at h
    · rename_i hk
      subst hk
      split at h
      · rename_i r hr'
        refine sound_ret hr hdst h (u := .int k r) ?_ (RepP.int _ _)
        rw [hex]
        cases op <;> simp [arI] at hr' <;> subst hr' <;> simp [eqGuard, binOp, Op.intArith]
      · split at h
        · rename_i q hq
          refine sound_ret hr hdst h (u := .bool q) ?_ (RepP.bool _)
          rw [hex]
          cases op <;> simp only [cmpI, Option.some.injEq, reduceCtorEq] at hq <;> subst hq <;> simp [eqGuard, binOp, Op.intCmp] <;> rfl
        · split at h
          · obtain ⟨hn, h⟩ := h
            refine sound_ret hr hdst h (u := .int k (n.tmod n')) ?_ (RepP.int _ _)
            rw [hex]; simp [eqGuard, binOp, Op.intDiv, hn]
          · obtain ⟨hn, h⟩ := h
            refine sound_ret hr hdst h (u := .int k (k.wrap (n.tdiv n'))) ?_ (RepP.int _ _)
            rw [hex]; simp [eqGuard, binOp, Op.intDiv, hn]
          · exact h.elim
    · exact h.elim
  · rename_i s s' hxv hyv
    rw [hxv] at hx
    rw [hyv] at hy
    have h1 : a.eval x = .string s := rp_str hx
    have h2 : a.eval y = .string s' := rp_str hy
    rw [h1, h2] at hex
    split at h
    · refine sound_ret hr hdst h ?_ (RepP.bool _)
      rw [hex]; simp [eqGuard, binOp, Op.stringOp, beq_bytes]
    · refine sound_ret hr hdst h ?_ (RepP.bool _)
      rw [hex]; simp [eqGuard, binOp, Op.stringOp, beq_bytes]
    · exact h.elim
  · rename_i b b' hxv hyv
    rw [hxv] at hx
    rw [hyv] at hy
    have h1 : a.eval x = .bool b := rp_bool hx
    have h2 : a.eval y = .bool b' := rp_bool hy
    rw [h1, h2] at hex
    have hrun : (T t).d = .bool → (Op.equal t (.bool b) (.bool b')).run P w = .ok (b == b') w := by
      intro hd
      obtain ⟨ds, h3, h4, h5⟩ := run_underlying_T hT (t := t) (by rw [hd]; simp)
      rw [hd] at h3
      cases ds <;> simp [descOk] at h3
      exact run_equal_bool w t b b' h4
    split at h
    · rename_i hd
      refine sound_ret hr hdst h ?_ (RepP.bool _)
      rw [hex]; simp [eqGuard, binOp, hrun hd]
    · rename_i hd
      refine sound_ret hr hdst h ?_ (RepP.bool _)
      rw [hex]; simp [eqGuard, binOp, hrun hd]
    · exact h.elim
  · rename_i xs ys hxv hyv
    rw [hxv] at hx
    rw [hyv] at hy
    obtain ⟨xa, h1, hxl⟩ := hx
    obtain ⟨ya, h2, hyl⟩ := hy
    rw [h1, h2] at hex
    split at h
    · rename_i heq
      split at h
      · rename_i qx qy hqx hqy
        obtain ⟨⟨hne, l1, l2⟩, h⟩ := h
        have e1 : xa = (qx.map pvVal).toArray := by rw [← prims_of hxl hqx (like_prim l1)]
        have e2 : ya = (qy.map pvVal).toArray := by rw [← prims_of hyl hqy (like_prim l2)]
        obtain ⟨hh1, hh2⟩ := (hT t hne).eq heq qx qy l1 l2 x y w
        rw [← e1, ← e2] at hh1 hh2
        split at h
        · exact sound_ret hr hdst h (by rw [hex, hh1]; rfl) (RepP.bool _)
        · exact sound_ret hr hdst h (by rw [hex, hh2]; rfl) (RepP.bool _)
        · exact h.elim
      · exact h.elim
    · exact h.elim
  · rename_i hxv hyv
    rw [hxv] at hx
    rw [hyv] at hy
    have h1 : a.eval x = .pointer none := rp_nilp hx
    have h2 : a.eval y = .pointer none := rp_nilp hy
    rw [h1, h2] at hex
    have hrun : ∀ e, (T t).d = .ptr e → (Op.equal t (.pointer none) (.pointer none)).run P w = .ok true w := by
      intro e hd
      obtain ⟨ds, h3, h4, h5⟩ := run_underlying_T hT (t := t) (by rw [hd]; simp)
      rw [hd] at h3
      cases ds <;> simp [descOk] at h3
      exact run_equal_ptr h4 _
    split at h
    · rename_i e hd
      refine sound_ret hr hdst h ?_ (RepP.bool _)
      rw [hex]; simp [eqGuard, binOp, hrun e hd]
    · rename_i e hd
      refine sound_ret hr hdst h ?_ (RepP.bool _)
      rw [hex]; simp [eqGuard, binOp, hrun e hd]
    · exact h.elim
  · rename_i id off hxv hyv
    rw [hxv] at hx
    rw [hyv] at hy
    obtain ⟨b, cs, _, _, h1⟩ := hx
    have h2 : a.eval y = .pointer none := rp_nilp hy
    rw [h1, h2] at hex
    have hrun : ∀ e, (T t).d = .ptr e → (Op.equal t (.pointer (some ⟨b, off, none⟩)) (.pointer none)).run P w = .ok false w := by
      intro e hd
      obtain ⟨ds, h3, h4, h5⟩ := run_underlying_T hT (t := t) (by rw [hd]; simp)
      rw [hd] at h3
      cases ds <;> simp [descOk] at h3
      exact run_equal_ptr h4 _
    split at h
    · rename_i e hd
      refine sound_ret hr hdst h ?_ (RepP.bool _)
      rw [hex]; simp [eqGuard, binOp, hrun e hd]
    · rename_i e hd
      refine sound_ret hr hdst h ?_ (RepP.bool _)
      rw [hex]; simp [eqGuard, binOp, hrun e hd]
    · exact h.elim
  · rename_i f hxv hyv
    rw [hxv] at hx
    rw [hyv] at hy
    have h1 : a.eval x = .func (.func f) #[] #[] := rp_func hx
    have h2 : a.eval y = .nilFunc := rp_nilf hy
    rw [h1, h2] at hex
    have hrun : (T t).d = .func → (Op.equal t (.func (.func f) #[] #[]) .nilFunc).run P w = .ok false w := by
      intro hd
      obtain ⟨ds, h3, h4, h5⟩ := run_underlying_T hT (t := t) (by rw [hd]; simp)
      rw [hd] at h3
      cases ds <;> simp [descOk] at h3
      exact run_equal_func h4 _ _ _
    split at h
    · rename_i hd
      refine sound_ret hr hdst h ?_ (RepP.bool _)
      rw [hex]; simp [eqGuard, binOp, hrun hd]
    · rename_i hd
      refine sound_ret hr hdst h ?_ (RepP.bool _)
      rw [hex]; simp [eqGuard, binOp, hrun hd]
    · exact h.elim
  · rename_i hxv hyv
    rw [hxv] at hx
    rw [hyv] at hy
    have h1 : a.eval x = .slice none 0 0 := rp_nilsl hx
    have h2 : a.eval y = .slice none 0 0 := rp_nilsl hy
    rw [h1, h2] at hex
    have hrun : ∀ e, (T t).d = .sl e → (Op.equal t (.slice none 0 0) (.slice none 0 0)).run P w = .ok true w := by
      intro e hd
      obtain ⟨ds, h3, h4, h5⟩ := run_underlying_T hT (t := t) (by rw [hd]; simp)
      rw [hd] at h3
      cases ds <;> simp [descOk] at h3
      exact run_equal_sl h4 _ _ _
    split at h
    · rename_i e hd
      refine sound_ret hr hdst h ?_ (RepP.bool _)
      rw [hex]; simp [eqGuard, binOp, hrun e hd]
    · rename_i e hd
      refine sound_ret hr hdst h ?_ (RepP.bool _)
      rw [hex]; simp [eqGuard, binOp, hrun e hd]
    · exact h.elim
  · rename_i hxv hyv
    rw [hxv] at hx
    rw [hyv] at hy
    obtain ⟨p, c, h1⟩ := rp_nesl hx
    have h2 : a.eval y = .slice none 0 0 := rp_nilsl hy
    rw [h1, h2] at hex
    have hrun : ∀ e, (T t).d = .sl e → (Op.equal t (.slice (some p) 0 c) (.slice none 0 0)).run P w = .ok false w := by
      intro e hd
      obtain ⟨ds, h3, h4, h5⟩ := run_underlying_T hT (t := t) (by rw [hd]; simp)
      rw [hd] at h3
      cases ds <;> simp [descOk] at h3
      exact run_equal_sl h4 _ _ _
    split at h
    · rename_i e hd
      refine sound_ret hr hdst h ?_ (RepP.bool _)
      rw [hex]; simp [eqGuard, binOp, hrun e hd]
    · rename_i e hd
      refine sound_ret hr hdst h ?_ (RepP.bool _)
      rw [hex]; simp [eqGuard, binOp, hrun e hd]
    · exact h.elim
  · rename_i z zs hxv hyv
    rw [hxv] at hx
    rw [hyv] at hy
    obtain ⟨p, n, c, h1⟩ : ∃ p n c, a.eval x = .slice (some p) n c := by
      have hx : RepP w (Imm E σ.m gv w) (.slice (z :: zs)) (a.eval x) := hx
      generalize a.eval x = xv at hx
      cases hx; exact ⟨_, _, _, rfl⟩
    have h2 : a.eval y = .slice none 0 0 := rp_nilsl hy
    rw [h1, h2] at hex
    have hrun : ∀ e, (T t).d = .sl e → (Op.equal t (.slice (some p) n c) (.slice none 0 0)).run P w = .ok false w := by
      intro e hd
      obtain ⟨ds, h3, h4, h5⟩ := run_underlying_T hT (t := t) (by rw [hd]; simp)
      rw [hd] at h3
      cases ds <;> simp [descOk] at h3
      exact run_equal_sl h4 _ _ _
    split at h
    · rename_i e hd
      refine sound_ret hr hdst h ?_ (RepP.bool _)
      rw [hex]; simp [eqGuard, binOp, hrun e hd]
    · rename_i e hd
      refine sound_ret hr hdst h ?_ (RepP.bool _)
      rw [hex]; simp [eqGuard, binOp, hrun e hd]
    · exact h.elim
  · rename_i id n' hxv hyv
    rw [hxv] at hx
    rw [hyv] at hy
    obtain ⟨h0, e', xs, hm, hn1, hn2⟩ := hx
    obtain ⟨fp', rfl, h⟩ := h
    simp only [hm] at h
    obtain ⟨⟨hnn, hn0⟩, h⟩ := h
    obtain ⟨hz, vs, ⟨ho1, ho2⟩, hvs⟩ := hr.rep id _ hm
    have hv := hn2 hnn
    obtain ⟨p, c, h1⟩ : ∃ p c, a.eval x = .slice (some p) n' c := by
      rcases ho2 with ⟨_, hx0⟩ | ⟨g, cap, cur, hv2, _⟩
      · exact absurd (hnn.trans hx0) hn0
      · simp at hv2
        rw [hv, hv2.1]; exact ⟨_, _, rfl⟩
    have h2 : a.eval y = .slice none 0 0 := rp_nilsl hy
    rw [h1, h2] at hex
    have hrun : ∀ e, (T t).d = .sl e → (Op.equal t (.slice (some p) n' c) (.slice none 0 0)).run P w = .ok false w := by
      intro e hd
      obtain ⟨ds, h3, h4, h5⟩ := run_underlying_T hT (t := t) (by rw [hd]; simp)
      rw [hd] at h3
      cases ds <;> simp [descOk] at h3
      exact run_equal_sl h4 _ _ _
    split at h
    · rename_i e hd
      refine sound_ret hr hdst h ?_ (RepP.bool _)
      rw [hex]; simp [eqGuard, binOp, hrun e hd]
    · rename_i e hd
      refine sound_ret hr hdst h ?_ (RepP.bool _)
      rw [hex]; simp [eqGuard, binOp, hrun e hd]
    · exact h.elim
  · exact h.elim
end
end Go.AW

/- The soundness of the abstract operations: literals, slices, make, append. -/
set_option linter.unusedVariables false
set_option linter.unusedSimpArgs false
namespace Go.AW

theorem foldl_set : ∀ (l : List Value) (k off : Nat) (cells : Array Value), off + k + l.length ≤ cells.size →
    ((l.zipIdx k).foldl (fun cs x => cs.setIfInBounds (off + x.2) x.1) cells).toList = splice cells.toList (off + k) l
  | [], k, off, cells, h => by simp [splice]
  | v :: l, k, off, cells, h => by
    simp only [List.zipIdx_cons, List.foldl_cons]
    simp at h
    rw [foldl_set l (k + 1) off _ (by simp; omega)]
    apply List.ext_getElem?
    intro j
    rw [getElem?_splice _ _ _ _ (by simp; omega), getElem?_splice _ _ _ _ (by simp; omega)]
    simp only [Array.toList_setIfInBounds, List.getElem?_set, List.length_cons, Array.length_toList]
    by_cases c1 : j < off + k
    · simp [c1, show j < off + (k + 1) by omega, show off + k ≠ j by omega]
    · by_cases c2 : j = off + k
      · subst c2; simp [show off + k < off + (k + 1) by omega, show off + k < cells.size by omega]
      · have c3 : ¬ j < off + (k + 1) := by omega
        simp only [c1, c3, if_false]
        by_cases c4 : j < off + (k + 1) + l.length
        · rw [if_pos c4, if_pos (by omega)]
          obtain ⟨i, hi⟩ : ∃ i, j - (off + k) = i + 1 := ⟨j - (off + k) - 1, by omega⟩
          rw [hi, List.getElem?_cons_succ]; congr 1; omega
        · rw [if_neg c4, if_neg (by omega), if_neg (by omega)]

theorem fill_foldl (v : Value) (off : Nat) (cells : Array Value) (h : off + v.cells.size ≤ cells.size) :
    (v.cells.zipIdx.foldl (fun cs (c, j) => cs.setIfInBounds (off + j) c) cells).toList = splice cells.toList off v.cells.toList := by
  have := foldl_set v.cells.toList 0 off cells (by simpa using h)
  simp only [Nat.add_zero] at this
  rw [← this, ← Array.foldl_toList]
  simp [Array.toList_zipIdx]

section
variable {P : Program} {T : Tab} {E : Env} {N : Nat} {gv : GV} {σ : St} {a : Act} {w : World}

/-- Parts laid over a literal's zero value: the model's way tells the same. -/
theorem fill_rep {I : Nat → Prop} {m : Nat → Option Obj} {place place' : Nat → Option (Nat × Nat)} (hp : ∀ i x, place i = some x → place' i = some x) :
    ∀ (vs : List (Nat × V)) (us : List (Nat × Value)) (cs r : List Ce) (cells : Array Value), vs.map (·.1) = us.map (·.1) →
    (∀ (k : Nat) x y, vs[k]? = some x → us[k]? = some y → RepV T w I m gv x.2 y.2) → RepL T w I m gv cs cells.toList → fillA place cs vs = some r →
    ∃ out, Instr.fill place' cells us = some out ∧ RepL T w I m gv r out.toList
  | [], [], cs, r, cells, _, _, hl, h => by simp [fillA] at h; subst h; exact ⟨cells, rfl, hl⟩
  | [], _ :: _, cs, r, cells, h1, _, _, _ => by simp at h1
  | _ :: _, [], cs, r, cells, h1, _, _, _ => by simp at h1
  | (i, v) :: vs, (i', u) :: us, cs, r, cells, h1, h2, hl, h => by
    simp at h1
    obtain ⟨rfl, h1⟩ := h1
    have hv := h2 0 _ _ rfl rfl
    simp only [fillA] at h
    split at h
    · rename_i off size ncs hpl hcs
      split at h
      · rename_i hc
        obtain ⟨hc1, hc2⟩ := hc
        have hcr := cells_rep hv hcs
        have hsz : u.cells.size = size := by have := hcr.1; simp at this; omega
        have hcl : cells.size = cs.length := by have := hl.1; simpa using this
        have hle : ¬ off + u.cells.size > cells.size := by omega
        obtain ⟨out, ho, hr⟩ := fill_rep hp vs us (splice cs off ncs) r (u.cells.zipIdx.foldl (fun cs (c, j) => cs.setIfInBounds (off + j) c) cells) h1
          (fun k x y hx hy => h2 (k + 1) x y (by simpa using hx) (by simpa using hy)) (by rw [fill_foldl u off cells (by omega)]; exact repL_splice hl hcr off) h
        refine ⟨out, ?_, hr⟩
        simp only [Instr.fill, hp i _ hpl, hsz, ne_eq, not_true_eq_false, false_or, decide_eq_true_eq]
        rw [hsz] at hle
        simp only [hle, Bool.or_self, decide_false, Bool.false_eq_true, if_false, bne_self_eq_false, Bool.false_or]
        simpa using ho
      · cases h
    · cases h

theorem zipIdx_parts (parts : Array (Nat × Operand)) : ((parts.map fun (i, x) => (i, a.eval x)).toList) = (parts.toList.map (·.1)).zip (parts.toList.map fun x => a.eval x.2) := by
  rw [Array.toList_map]
  induction parts.toList with
  | nil => rfl
  | cons x l ih => simp [ih]

omit T E N gv σ a w in
theorem zip_maps {α β γ : Type} (f : α → β) (g : α → γ) : ∀ l : List α, (l.map f).zip (l.map g) = l.map fun z => (f z, g z)
  | [] => rfl
  | x :: l => by simp [zip_maps f g l]

theorem parts_rep (hr : RelG T E N gv σ a w) (l : List (Nat × Operand)) : ∀ (k : Nat) x y, ((l.map (·.1)).zip ((l.map (·.2)).map σ.ev))[k]? = some x → ((l.map (·.1)).zip (l.map fun x => a.eval x.2))[k]? = some y → RepV T w (Imm E σ.m gv w) σ.m gv x.2 y.2 := by
  intro k x y hx hy
  have e1 : (l.map (·.1)).zip ((l.map (·.2)).map σ.ev) = l.map fun z => (z.1, σ.ev z.2) := by rw [List.map_map]; exact zip_maps _ _ l
  have e2 : (l.map (·.1)).zip (l.map fun x => a.eval x.2) = l.map fun z => (z.1, a.eval z.2) := zip_maps _ _ l
  rw [e1, List.getElem?_map] at hx
  rw [e2, List.getElem?_map] at hy
  cases hz : l[k]? with
  | none => simp [hz] at hx
  | some z =>
    simp [hz] at hx hy
    subst hx; subst hy
    exact ev_rep hr z.2

variable (hT : TabOk P T)
include hT

theorem sound_build {o : Oper} {t : Nat} {parts : Array (Nat × Operand)} {wr : Wr} {fp : List Loc} {C : Con} (hr : RelG T E N gv σ a w) (hdst : ∀ i, o.dst = some i → i < N) (ho : o.op = .build t parts)
    (h : Run C (buildR T t ((parts.toList.map (·.1)).zip ((parts.toList.map (·.2)).map σ.ev))) σ wr fp) : Sound P T E N σ a w o wr := by
  unfold buildR at h
  split at h
  · rename_i fs hd
    split at h
    · rename_i cs hf
      obtain ⟨hne, rfl, _⟩ := h
      have hnt : (T t).d ≠ .other := by rw [hd]; simp
      obtain ⟨ti, z, h1, h2, _, _, h5, h6⟩ := run_typeInfo_T hT hnt
      obtain ⟨ds, h7, h8, h9⟩ := run_underlying_T hT hnt
      rw [hd] at h7
      cases ds with
      | struct fields =>
        simp only [descOk] at h7
        have hplaces : fields.toList.mapM (fun f => (P.info? f.type).map fun i => (f.offset, i.size)) = some (fs.map fun f => (f.1, (T f.2).size)) := by
          rw [← h7] at hne ⊢
          clear h7 h8 h9 hf hd
          generalize fields.toList = fl at hne ⊢
          induction fl with
          | nil => rfl
          | cons f l ih =>
            obtain ⟨ti', z', hi, hs, _⟩ := (hT f.type (hne (f.offset, f.type) (by simp))).info
            simp only [List.mapM_cons, hi, Option.map_some, Option.bind_eq_bind, Option.bind_some, List.map_cons, hs]
            rw [ih (fun g hg => hne g (List.mem_cons_of_mem _ hg))]
            simp
        obtain ⟨out, hout, hrep⟩ := fill_rep (gv := gv) (w := w) (T := T) (place := placeS T fs) (place' := fun i => (fs.map fun f => (f.1, (T f.2).size)).toArray[i]?) (I := Imm E σ.m gv w) (m := σ.m)
          (fun i x hx => by simp only [placeS] at hx; simpa [List.getElem?_map] using hx) _ ((parts.toList.map (·.1)).zip (parts.toList.map fun x => a.eval x.2)) _ _ z.cells
          (by simp [List.map_fst_zip]) (parts_rep hr _) (zero_repL hT hnt h6) hf
        refine sound_value hr hdst (u := .agg out) ?_ ⟨out, rfl, hrep⟩
        have hb : P.built t (parts.map fun (i, x) => (i, a.eval x)).toList = some out := by
          unfold Program.built
          simp only [h2, h8, h5, hplaces]
          rw [zipIdx_parts]; exact hout
        simp [execOp, ho, run_build w t _ out hb]
      | _ => simp [descOk] at h7
    · exact h.elim
  · exact h.elim

omit hT in
/-- The parts of a slice literal, from place k on. -/
theorem fill_slice {I : Nat → Prop} {m : Nat → Option Obj} (size : Nat) : ∀ (vs : List (Nat × V)) (us : List (Nat × Value)) (k : Nat) (xs : List (List PV)) (cells : Array Value), vs.map (·.1) = us.map (·.1) →
    (∀ (k : Nat) x y, vs[k]? = some x → us[k]? = some y → RepV T w I m gv x.2 y.2) → slicePartsA size k vs = some xs → cells.size = (k + xs.length) * size →
    ∃ out, Instr.fill (fun i => some (i * size, size)) cells us = some out ∧ (∀ x ∈ xs, x.length = size) ∧ out.toList.take (k * size) = cells.toList.take (k * size) ∧ out.size = cells.size ∧
      ∀ (j : Nat) q v, xs.flatten[j]? = some q → out[k * size + j]? = some v → RepP w I q v
  | [], [], k, xs, cells, _, _, h, hs => by simp [slicePartsA] at h; subst h; exact ⟨cells, rfl, by simp, rfl, rfl, by simp⟩
  | [], _ :: _, k, xs, cells, h1, _, _, _ => by simp at h1
  | _ :: _, [], k, xs, cells, h1, _, _, _ => by simp at h1
  | (i, v) :: vs, (i', u) :: us, k, xs, cells, h1, h2, h, hs => by
    simp at h1
    obtain ⟨rfl, h1⟩ := h1
    have hv := h2 0 _ _ rfl rfl
    simp only [slicePartsA] at h
    split at h
    · rename_i cs hcs
      split at h
      · rename_i x xs' hpx hrest
        split at h
        · rename_i hc
          obtain ⟨rfl, hxl⟩ := hc
          simp at h; subst h
          have hcr := cells_rep hv hcs
          have := pureL_map hpx
          subst this
          have hsz : u.cells.size = size := by have := hcr.1; simp at this; omega
          have hk : i * size + size ≤ cells.size := by
            rw [hs]; simp only [List.length_cons]
            have := Nat.mul_le_mul_right size (show i + 1 ≤ i + (xs'.length + 1) by omega)
            rwa [Nat.succ_mul] at this
          have hfold := fill_foldl u (i * size) cells (by omega)
          have hfs : (u.cells.zipIdx.foldl (fun cs (c, j) => cs.setIfInBounds (i * size + j) c) cells).size = cells.size := by
            have := congrArg List.length hfold
            simp [splice] at this
            simp; omega
          obtain ⟨out, ho, hx1, ht, hos, hr⟩ := fill_slice size vs us (i + 1) xs' (u.cells.zipIdx.foldl (fun cs (c, j) => cs.setIfInBounds (i * size + j) c) cells) h1
            (fun k x y hx hy => h2 (k + 1) x y (by simpa using hx) (by simpa using hy)) hrest (by rw [hfs, hs]; simp only [List.length_cons]; congr 1; omega)
          have e1 : (i + 1) * size = i * size + size := Nat.succ_mul _ _
          have hget : ∀ j, j < (i + 1) * size → out.toList[j]? = (splice cells.toList (i * size) u.cells.toList)[j]? := by
            intro j hj
            have := congrArg (fun l => l[j]?) ht
            simp only [List.getElem?_take, hj, if_true] at this
            rw [this, hfold]
          refine ⟨out, ?_, ?_, ?_, by rw [hos, hfs], ?_⟩
          · simp only [Instr.fill, hsz]
            rw [if_neg (by simp; omega)]
            exact ho
          · intro y hy
            rcases List.mem_cons.1 hy with rfl | hy
            · exact hxl
            · exact hx1 y hy
          · apply List.ext_getElem?
            intro j
            simp only [List.getElem?_take]
            by_cases hj : j < i * size
            · simp only [hj, if_true]
              rw [hget j (by omega), getElem?_splice _ _ _ _ (by simp; omega), if_pos hj]
            · simp [hj]
          · intro j q v' hq hv'
            simp only [List.flatten_cons] at hq
            by_cases hj : j < size
            · rw [List.getElem?_append_left (by omega)] at hq
              have h3 := hget (i * size + j) (by omega)
              rw [getElem?_splice _ _ _ _ (by simp; omega), if_neg (by omega), if_pos (by simp; omega), Nat.add_sub_cancel_left] at h3
              have hv'' : out.toList[i * size + j]? = some v' := by simpa using hv'
              rw [hv''] at h3
              exact hcr.2 j (.p q) v' (by simp [hq]) h3.symm
            · rw [List.getElem?_append_right (by omega), hxl] at hq
              exact hr (j - size) q v' hq (by rw [e1, show i * size + size + (j - size) = i * size + j by omega]; exact hv')
        · cases h
      · cases h
    · cases h

theorem sound_buildSlice {o : Oper} {t len : Nat} {parts : Array (Nat × Operand)} {wr : Wr} {fp : List Loc} {C : Con} (hr : RelG T E N gv σ a w) (hdst : ∀ i, o.dst = some i → i < N) (ho : o.op = .buildSlice t len parts)
    (h : Run C (buildSliceR T o.dst t len ((parts.toList.map (·.1)).zip ((parts.toList.map (·.2)).map σ.ev))) σ wr fp) : Sound P T E N σ a w o wr := by
  unfold buildSliceR at h
  split at h
  · rename_i e hd
    obtain ⟨ds, h7, h8, h9⟩ := run_underlying_T hT (t := t) (by rw [hd]; simp)
    rw [hd] at h7
    cases ds <;> simp [descOk] at h7
    subst h7
    split at h
    · rename_i hnil
      have hpn : parts = #[] := by
        cases hp : parts.toList with
        | nil => exact Array.toList_eq_nil_iff.1 hp
        | cons x l => rw [hp] at hnil; simp at hnil
      subst hpn
      split at h
      · rename_i d hdd
        obtain ⟨fp', rfl, h⟩ := h
        cases hm : σ.m d with
        | some ob => simp [hm, Run] at h
        | none =>
          simp only [hm] at h
          obtain ⟨⟨hl0, hne⟩, rfl, _⟩ := h
          subst hl0
          have hrun : (execOp a.eval o).run P w = .ok (.value (.slice (some ⟨w.heap.size, 0, none⟩) 0 0)) (w.alloc (.cells #[] e)) := by
            simp [execOp, ho, Instr.buildSlice, h9, run_sizeOf_T hT hne, Instr.fill, newRow, Array.range_zero']
          intro next Q hn
          refine wp_value hrun (hn (upd gv d (some ⟨w.heap.size, 0, none⟩, 0)) _ _ ?_)
          have ht := turn_new (gv := gv) (w := w) hm (.sl e []) 0 (.cells #[] e)
          have := hr.put_turn ht (fun ob hob => ?_) (dst := o.dst) hdst (v := .one (.osl d 0)) (u := .slice (some ⟨w.heap.size, 0, none⟩) 0 0) ?_
          · exact this
          · simp [upd] at hob; subst hob
            refine ⟨by simp, [], ⟨by simp, .inr ⟨w.heap.size, 0, #[], by simp [upd], Nat.zero_le _, heap_alloc_new _ _, Nat.le_refl _, Nat.zero_le _, by simp, by simp⟩⟩, by simp⟩
          · exact ⟨rfl, e, [], by simp [upd], by simp, fun _ => by simp [upd]⟩
      · exact h.elim
    · rename_i p r hcons
      split at h
      · rename_i xs hxs
        obtain ⟨⟨hlen, hne, hpos, hzl, hsmall⟩, h⟩ := h
        obtain ⟨ti, z, h1, h2, h3, _, h5, h6⟩ := run_typeInfo_T hT hne
        rw [← hcons] at hxs
        have hlpos : 0 < xs.length := by
          rw [hcons] at hxs
          obtain ⟨i, v⟩ := p
          simp only [slicePartsA] at hxs
          split at hxs
          · split at hxs
            · split at hxs
              · simp at hxs; subst hxs; simp
              · cases hxs
            · cases hxs
          · cases hxs
        have hzs : z.cells.size = (T e).size := by
          have := congrArg List.length h6
          simp at this; omega
        obtain ⟨out, hout, hx1, _, hos, hrep⟩ := fill_slice (gv := gv) (w := w) (T := T) (I := Imm E σ.m gv w) (m := σ.m) (T e).size _ ((parts.toList.map (·.1)).zip (parts.toList.map fun x => a.eval x.2)) 0 xs
          ((Array.range (len * (T e).size)).map (z.cells[· % z.cells.size]!)) (by simp [List.map_fst_zip]) (parts_rep hr _) hxs (by simp [hlen])
        have hmul : ¬ len * (T e).size = 0 := by
          intro h0
          rcases Nat.mul_eq_zero.1 h0 with h0 | h0 <;> omega
        have hrun : (execOp a.eval o).run P w = .ok (.value (.slice (some ⟨w.heap.size, 0, none⟩) len len)) (w.alloc (.cells out e)) := by
          have := run_buildSlice (P := P) w t e len (parts.map fun (i, x) => (i, a.eval x)) out ti z h8 h2 h5 (by rw [h3]; omega) (by rw [h3]; exact hmul) (by rw [h3, zipIdx_parts]; exact hout)
          simp only [execOp, ho, Sem.run_bind, this, Result.andThen_ok, Sem.run_pure]
        obtain ⟨rfl, _⟩ := h
        intro next Q hn
        refine wp_value hrun (hn gv _ _ ?_)
        refine hr.put_grow (w' := w.alloc (.cells out e)) rfl rfl rfl (by simp) (fun b hb => heap_alloc_old w _ b hb) hdst ?_
        have hg := hr.toRelM.grow (w' := w.alloc (.cells out e)) rfl rfl rfl (by simp) (fun b hb => heap_alloc_old w _ b hb)
        have hfl := flatten_len xs (T e).size hx1
        have hosz : out.size = xs.length * (T e).size := by rw [hos]; simp [hlen]
        show RepP _ _ (.slice xs) _
        rw [hlen]
        refine .sl xs w.heap.size 0 xs.length (T e).size out e (0, 0) out.toList ⟨.inr hr.size, by simp, fun id ob hm hb => ?_⟩ (heap_alloc_new _ _) hx1 (Nat.le_refl _) (fun k v hk => by simpa using hk) (by rw [hfl]; simpa using hosz) (fun k q v hq hv => ?_)
        · have := (hr.own id ob _ hm hb).1; omega
        · exact RepP.mono (fun b hb => hg.2 b hb) (hrep k q v hq (by simpa using hv))
      · exact h.elim
  · exact h.elim
end
end Go.AW

/- The soundness of the abstract operations: make, slices of slices, append, calls; all operations in one. -/
set_option linter.unusedVariables false
set_option linter.unusedSimpArgs false
namespace Go.AW

theorem flatten_take {α : Type} : ∀ (xs : List (List α)) (sz : Nat), (∀ x ∈ xs, x.length = sz) → ∀ n, (xs.take n).flatten = xs.flatten.take (n * sz)
  | [], sz, _, n => by simp
  | x :: r, sz, hz, 0 => by simp
  | x :: r, sz, hz, n + 1 => by
    have hx : x.length = sz := hz x (by simp)
    rw [List.take_succ_cons, List.flatten_cons, List.flatten_cons, flatten_take r sz (fun y hy => hz y (by simp [hy])) n, show (n + 1) * sz = x.length + n * sz by rw [Nat.succ_mul, hx]; omega, List.take_length_add_append]
theorem flatten_drop {α : Type} : ∀ (xs : List (List α)) (sz : Nat), (∀ x ∈ xs, x.length = sz) → ∀ n, (xs.drop n).flatten = xs.flatten.drop (n * sz)
  | [], sz, _, n => by simp
  | x :: r, sz, hz, 0 => by simp
  | x :: r, sz, hz, n + 1 => by
    have hx : x.length = sz := hz x (by simp)
    rw [List.drop_succ_cons, List.flatten_cons, flatten_drop r sz (fun y hy => hz y (by simp [hy])) n, show (n + 1) * sz = x.length + n * sz by rw [Nat.succ_mul, hx]; omega, List.drop_length_add_append]

section
variable {P : Program} {T : Tab} {E : Env} {N : Nat} {gv : GV} {σ : St} {a : Act} {w : World} (hT : TabOk P T)

theorem sound_pick {o : Oper} {c x y : Operand} {wr : Wr} {fp : List Loc} {C : Con} (hr : RelG T E N gv σ a w) (hdst : ∀ i, o.dst = some i → i < N) (ho : o.op = .pick c x y) {q : Bool} (hq : σ.ev c = .one (.p (.bool q)))
    (h : Run C (if q then evR x fun v => .ret ⟨v, []⟩ else evR y fun v => .ret ⟨v, []⟩) σ wr fp) : Sound P T E N σ a w o wr := by
  have hc := ev_rep hr c
  rw [hq] at hc
  have hc' : a.eval c = .bool q := rp_bool hc
  cases q with
  | true =>
    simp only [if_true] at h
    obtain ⟨fp', rfl, _⟩ := run_evR h
    exact sound_value hr hdst (u := a.eval x) (by simp [execOp, ho, hc', asBool]) (ev_rep hr x)
  | false =>
    simp only [Bool.false_eq_true, if_false] at h
    obtain ⟨fp', rfl, _⟩ := run_evR h
    exact sound_value hr hdst (u := a.eval y) (by simp [execOp, ho, hc', asBool]) (ev_rep hr y)

omit hT in
theorem rowsF_get (d e : Nat) (m : Nat → Option Obj) : ∀ (n j : Nat), (((List.range n).map fun i => (rowI d i, Obj.sl e [])).foldl (fun m x => upd m x.1 (some x.2)) m) j = if 1000000 + 1000 * d ≤ j ∧ j < 1000000 + 1000 * d + n then some (.sl e []) else m j
  | 0, j => by simp; intro h; omega
  | n + 1, j => by
    rw [List.range_succ, List.map_append, List.foldl_append]
    simp only [List.map_cons, List.map_nil, List.foldl_cons, List.foldl_nil, upd, rowI]
    by_cases h : j = 1000000 + 1000 * d + n
    · rw [if_pos h, if_pos (by omega)]
    · rw [if_neg h]
      have := rowsF_get d e m n j
      simp only [rowI] at this
      rw [this]
      by_cases h2 : 1000000 + 1000 * d ≤ j ∧ j < 1000000 + 1000 * d + n
      · rw [if_pos h2, if_pos (by omega)]
      · rw [if_neg h2, if_neg (by omega)]

omit hT in
/-- Slices of the call's own, all nil. -/
theorem RelG.rowsNew (hr : RelG T E N gv σ a w) (d e : Nat) : ∀ n, (∀ i, i < n → σ.m (rowI d i) = none) →
    ∃ gv', RelG T E N gv' { t := σ.t, m := ((List.range n).map fun i => (rowI d i, Obj.sl e [])).foldl (fun m x => upd m x.1 (some x.2)) σ.m } a w ∧ ∀ i, i < n → gv' (rowI d i) = (none, 0)
  | 0, _ => ⟨gv, hr, fun i h => by omega⟩
  | n + 1, h => by
    obtain ⟨gv', h1, h2⟩ := RelG.rowsNew hr d e n fun i hi => h i (by omega)
    have hm : (((List.range n).map fun i => (rowI d i, Obj.sl e [])).foldl (fun m x => upd m x.1 (some x.2)) σ.m) (rowI d n) = none := by
      rw [rowsF_get, if_neg (by unfold rowI; omega)]; exact h n (by omega)
    generalize hM : ((List.range n).map fun i => (rowI d i, Obj.sl e [])).foldl (fun m x => upd m x.1 (some x.2)) σ.m = M at h1 hm
    have ht : Turn M gv' w (rowI d n) (upd M (rowI d n) (some (.sl e []))) (upd gv' (rowI d n) (none, 0)) w :=
      ⟨rfl, rfl, rfl, Nat.le_refl _, fun id h => by simp [upd, h], fun id h => by simp [upd, h], fun _ _ _ => rfl, fun o' b' _ h => by simp [blk, upd] at h, fun cs h => (by rw [hm] at h; cases h), fun e xs h => (by rw [hm] at h; cases h)⟩
    have := h1.put_turn ht (fun ob hob => ?_) (dst := none) (fun i h => by cases h) (v := .undef) (u := undef) trivial
    · refine ⟨upd gv' (rowI d n) (none, 0), ?_, fun i hi => ?_⟩
      · rw [List.range_succ, List.map_append, List.foldl_append, hM]
        exact this
      · by_cases hin : i = n
        · subst hin; simp [upd]
        · have : rowI d i ≠ rowI d n := by unfold rowI; omega
          simp only [upd, if_neg this]; exact h2 i (by omega)
    · simp [upd] at hob; subst hob
      exact ⟨by simp, [], ⟨by simp, .inl ⟨by simp [upd], rfl⟩⟩, by simp⟩

include hT

theorem sound_make {o : Oper} {t : Nat} {x y : Operand} {wr : Wr} {fp : List Loc} {C : Con} (hr : RelG T E N gv σ a w) (hdst : ∀ i, o.dst = some i → i < N) (ho : o.op = .makeSlice t x y)
    (h : Run C (makeR T o.dst t (σ.ev x) (σ.ev y)) σ wr fp) : Sound P T E N σ a w o wr := by
  have hx := ev_rep hr x
  have hy := ev_rep hr y
  unfold makeR at h
  split at h
  · rename_i e k n k' n' d hd hxv hyv hdd
    rw [hxv] at hx
    rw [hyv] at hy
    have h1 : a.eval x = .int k n := rp_int hx
    have h2 : a.eval y = .int k' n' := rp_int hy
    obtain ⟨fp', rfl, h⟩ := h
    cases hm : σ.m d with
    | some ob => simp [hm, Run] at h
    | none =>
      simp only [hm] at h
      have hcom : (n' = n ∧ 0 ≤ n ∧ n * (T e).bytes ≤ 140737488355328 ∧ n ≤ maxLen ∧ (T e).d ≠ .other ∧ (T e).zero.length = (T e).size) ∧
          (((∃ e', (T e).d = .sl e' ∧ (∀ i, i < n.toNat → σ.m (rowI d i) = none) ∧ (T e).zero = [.nilsl] ∧ wr = ⟨.one (.bsl d n.toNat), rowsM d e' n.toNat⟩)) ∨ wr = ⟨.one (.osl d n.toNat), [(d, .sl e (List.replicate n.toNat (T e).zero))]⟩) := by
        split at h
        · rename_i e' hde
          obtain ⟨fp2, _, h1, h2, h3, h4, _⟩ := h
          exact ⟨h2, .inl ⟨e', hde, h1, h3, h4⟩⟩
        · exact ⟨h.1, .inr h.2.1⟩
      clear h
      obtain ⟨⟨rfl, h0, hby, hmax, hne, hzl⟩, hcase⟩ := hcom
      obtain ⟨ti, z, h3, h4, h5, h6, h7, h8⟩ := run_typeInfo_T hT hne
      obtain ⟨ds, h9, h10, h11⟩ := run_underlying_T hT (t := t) (by rw [hd]; simp)
      rw [hd] at h9
      cases ds <;> simp [descOk] at h9
      subst h9
      have hzs : z.cells.size = (T e).size := by
        have := congrArg List.length h8
        simp at this; omega
      have hm63 : n' ≤ 9223372036854775807 := by simp [maxLen] at hmax; omega
      have hb : (ti.bytes : Int) * n' ≤ 281474976710656 := by rw [h6, Int.mul_comm]; omega
      have hrun : (execOp a.eval o).run P w = .ok (.value (.slice (some ⟨w.heap.size, 0, none⟩) n'.toNat n'.toNat)) (w.alloc (.cells (madeCells z.cells (n'.toNat * ti.size)) e)) := by
        have := run_make (P := P) w t e ti z h10 h4 h7 k k' n' n' h0 (Int.le_refl _) hb hm63
        simp only [execOp, ho, h1, h2, Sem.run_bind, this, Result.andThen_ok, Sem.run_pure]
      rcases hcase with ⟨e', hde, hfr, hz0, rfl⟩ | rfl
      · obtain ⟨gv1, hr1, hg1⟩ := hr.rowsNew d e' n'.toNat hfr
        have hget := rowsF_get d e' σ.m n'.toNat
        have hm1 : (((List.range n'.toNat).map fun i => (rowI d i, Obj.sl e' [])).foldl (fun m x => upd m x.1 (some x.2)) σ.m) d = none := by
          rw [hget, if_neg (by omega)]; exact hm
        intro next Q hn
        refine wp_value hrun (hn (upd gv1 d (some ⟨w.heap.size, 0, none⟩, n'.toNat)) _ _ ?_)
        have happ : σ.app o.dst ⟨.one (.bsl d n'.toNat), rowsM d e' n'.toNat⟩ = { t := putT σ.t o.dst (.one (.bsl d n'.toNat)), m := upd (((List.range n'.toNat).map fun i => (rowI d i, Obj.sl e' [])).foldl (fun m x => upd m x.1 (some x.2)) σ.m) d (some (.box ((List.range n'.toNat).map fun i => .osl (rowI d i) 0))) } := by
          simp only [St.app, rowsM, List.foldl_append, List.foldl_cons, List.foldl_nil]
        rw [happ]
        generalize ((List.range n'.toNat).map fun i => (rowI d i, Obj.sl e' [])).foldl (fun m x => upd m x.1 (some x.2)) σ.m = M at hr1 hget hm1 ⊢
        have ht := turn_new (σ := ⟨σ.t, M⟩) (gv := gv1) (w := w) hm1 (.box ((List.range n'.toNat).map fun i => .osl (rowI d i) 0)) n'.toNat (.cells (madeCells z.cells (n'.toNat * ti.size)) e)
        refine hr1.put_turn ht (fun ob hob => ?_) (dst := o.dst) hdst (v := .one (.bsl d n'.toNat)) (u := .slice (some ⟨w.heap.size, 0, none⟩) n'.toNat n'.toNat) ?_
        · simp [upd] at hob; subst hob
          have hs1 : (T e).size = 1 := by rw [← hzl, hz0]; rfl
          refine ⟨w.heap.size, _, e, by simp [upd], heap_alloc_new _ _, by simp [size_madeCells, h5, hs1], fun k c v hc hv => ?_⟩
          have hk : k < n'.toNat := by
            have := (List.getElem?_eq_some_iff.1 hc).1
            simpa using this
          rw [List.getElem?_map, List.getElem?_range hk] at hc
          simp at hc; subst hc
          have hv2 : v = .slice none 0 0 := by
            have e2 : z.cells.toList = [.slice none 0 0] := by rw [h8, hz0]; rfl
            simp only [madeCells, Array.toList_map, Array.toList_range, List.getElem?_map, h5] at hv
            rw [List.getElem?_range (by rw [hs1]; omega)] at hv
            simp only [Option.map_some, Option.some.injEq] at hv
            rw [← hv, hzs, hs1, Nat.mod_one]
            have e3 : z.cells[0]? = some (.slice none 0 0) := by rw [← Array.getElem?_toList, e2]; rfl
            rw [Array.getElem!_eq_getD, Array.getD_eq_getD_getElem?, e3]; rfl
          subst hv2
          refine ⟨rfl, e', [], ?_, Nat.le_refl _, fun _ => ?_⟩
          · have : rowI d k ≠ d := by unfold rowI; omega
            simp only [upd, if_neg this, hget]
            rw [if_pos (by unfold rowI; omega)]
          · have : rowI d k ≠ d := by unfold rowI; omega
            simp only [upd, if_neg this, hg1 k hk]
        · exact ⟨w.heap.size, (List.range n'.toNat).map fun i => Ce.osl (rowI d i) 0, by simp [upd], by simp [upd], rfl⟩
      intro next Q hn
      refine wp_value hrun (hn (upd gv d (some ⟨w.heap.size, 0, none⟩, n'.toNat)) _ _ ?_)
      have ht := turn_new (gv := gv) (w := w) hm (.sl e (List.replicate n'.toNat (T e).zero)) n'.toNat (.cells (madeCells z.cells (n'.toNat * ti.size)) e)
      have := hr.put_turn ht (fun ob hob => ?_) (dst := o.dst) hdst (v := .one (.osl d n'.toNat)) (u := .slice (some ⟨w.heap.size, 0, none⟩) n'.toNat n'.toNat) ?_
      · exact this
      · simp [upd] at hob; subst hob
        have hz : ∀ y ∈ List.replicate n'.toNat (T e).zero, y.length = (T e).size := fun y hy => by rw [List.eq_of_mem_replicate hy]; exact hzl
        refine ⟨hz, (madeCells z.cells (n'.toNat * ti.size)).toList, ⟨by simp [size_madeCells, h5], .inr ⟨w.heap.size, n'.toNat, _, by simp [upd], Nat.zero_le _, heap_alloc_new _ _, by simp, by simp [maxLen] at hmax ⊢; omega, by simp [size_madeCells, h5], ?_⟩⟩, ?_⟩
        · rw [List.take_of_length_le (by simp [size_madeCells, h5])]
        · intro j q v hq hv
          have hjl : j < n'.toNat * (T e).size := by
            have := (List.getElem?_eq_some_iff.1 hq).1
            rw [flatten_len _ _ hz] at this
            simpa using this
          have hpos : 0 < (T e).size := by
            rcases Nat.eq_zero_or_pos (T e).size with h | h
            · rw [h] at hjl; simp at hjl
            · exact h
          have hlt := Nat.mod_lt j hpos
          have hdv : j / (T e).size < n'.toNat := (Nat.div_lt_iff_lt_mul hpos).2 hjl
          have hq2 := flatten_get _ (T e).size hz (j / (T e).size) (j % (T e).size) (T e).zero (by simp [hdv]) hlt
          rw [show j / (T e).size * (T e).size + j % (T e).size = j by rw [Nat.mul_comm]; exact Nat.div_add_mod _ _] at hq2
          rw [hq2] at hq
          have hv2 : v = pvVal q := by
            have e2 : z.cells.toList[j % (T e).size]? = some (pvVal q) := by rw [h8, List.getElem?_map, hq]; rfl
            simp only [madeCells, Array.toList_map, Array.toList_range, List.getElem?_map, h5] at hv
            rw [List.getElem?_range hjl] at hv
            simp only [Option.map_some, Option.some.injEq] at hv
            rw [← hv, hzs]
            have e3 : z.cells[j % (T e).size]? = some (pvVal q) := by simpa using e2
            rw [Array.getElem!_eq_getD, Array.getD_eq_getD_getElem?, e3]; rfl
          subst hv2
          exact repP_simple _ _ q (List.all_eq_true.1 (hT e hne).simple q (List.mem_of_getElem? hq))
      · exact ⟨rfl, e, List.replicate n'.toNat (T e).zero, by simp [upd], by simp, fun _ => by simp [upd]⟩
  · exact h.elim

theorem sound_slice {o : Oper} {t : Nat} {x : Operand} {lo hi : Option Operand} {wr : Wr} {fp : List Loc} {C : Con} (hr : RelG T E N gv σ a w) (hdst : ∀ i, o.dst = some i → i < N) (ho : o.op = .slice t x lo hi none)
    (h : Run C (sliceR T t (σ.ev x) (lo.map σ.ev) (hi.map σ.ev)) σ wr fp) : Sound P T E N σ a w o wr := by
  have hx := ev_rep hr x
  -- the bounds
  have hb1 : ∀ (x : Operand) (k : Int → Rd Wr), Run C (boundR (σ.ev x) k) σ wr fp → ∃ kk n, a.eval x = .int kk n ∧ Run C (k n) σ wr fp := by
    intro x k h
    have hx := ev_rep hr x
    unfold boundR at h
    split at h
    · rename_i kk n hv
      rw [hv] at hx
      exact ⟨kk, n, rp_int hx, h⟩
    · exact h.elim
  have hbd : ∀ (isSlice : Bool) (n cap : Nat), n ≤ cap → ∀ (k : Nat → Nat → Rd Wr), Run C (boundsR (lo.map σ.ev) (hi.map σ.ev) n k) σ wr fp →
      ∃ l h, l ≤ h ∧ h ≤ n ∧ (Instr.sliceBounds isSlice n cap (lo.map a.eval) (hi.map a.eval) none).run P w = .ok (l, h, cap) w ∧ Run C (k l h) σ wr fp := by
    intro isSlice n cap hcap k h
    cases lo with
    | none =>
      cases hi with
      | none => exact ⟨0, n, Nat.zero_le _, Nat.le_refl _, by simp [Instr.sliceBounds], h⟩
      | some hi =>
        obtain ⟨kh, hv, h1, ⟨h2, h3⟩, h4⟩ := hb1 hi _ h
        refine ⟨0, hv.toNat, Nat.zero_le _, by omega, ?_, h4⟩
        have : hv ≤ (cap : Int) := by omega
        simp [Instr.sliceBounds, Instr.sliceBound, h1, asIntOf, h2, this]
    | some lo =>
      obtain ⟨kl, lv, h1, h⟩ := hb1 lo _ h
      cases hi with
      | none =>
        obtain ⟨⟨h2, h3⟩, h4⟩ := h
        refine ⟨lv.toNat, n, by omega, Nat.le_refl _, ?_, h4⟩
        simp [Instr.sliceBounds, Instr.sliceBound, h1, asIntOf, h2, h3]
      | some hi =>
        obtain ⟨kh, hv, h2, ⟨h3, h4, h5⟩, h6⟩ := hb1 hi _ h
        refine ⟨lv.toNat, hv.toNat, by omega, by omega, ?_, h6⟩
        have e1 : 0 ≤ hv := by omega
        have e2 : hv ≤ (cap : Int) := by omega
        have e3 : lv ≤ ((hv.toNat : Nat) : Int) := by omega
        simp only [Option.map_some, Instr.sliceBounds, Instr.sliceBound, h1, h2, asIntOf, Sem.run_bind, Sem.run_pure, Result.andThen_ok]
        simp only [e1, e2, e3, h3, and_self, if_true, Sem.run_pure, Result.andThen_ok]
  unfold sliceR at h
  split at h
  · rename_i s hd hxv
    rw [hxv] at hx
    have h1 : a.eval x = .string s := rp_str hx
    obtain ⟨ds, h9, h10, h11⟩ := run_underlying_T hT (t := t) (by rw [hd]; simp)
    rw [hd] at h9
    cases ds <;> simp [descOk] at h9
    obtain ⟨l, hh, hlh, hhn, hrun, h⟩ := hbd false s.size s.size (Nat.le_refl _) _ h
    refine sound_ret hr hdst h (u := .string (s.extract l hh)) ?_ (RepP.str _)
    simp only [execOp, ho, Instr.sliceAt, Instr.slice, h1, Sem.run_bind, h11, Result.andThen_ok, Option.isSome_none, Bool.false_eq_true, if_false, hrun, Sem.run_pure, Option.map_none]
  · rename_i e xs hd hxv
    rw [hxv] at hx
    obtain ⟨⟨hne, hzz⟩, h⟩ := h
    have hx : RepP w (Imm E σ.m gv w) (.slice xs) (a.eval x) := hx
    obtain ⟨ds, h9, h10, h11⟩ := run_underlying_T hT (t := t) (by rw [hd]; simp)
    rw [hd] at h9
    cases ds <;> simp [descOk] at h9
    subst h9
    have hval : ∃ b cap, a.eval x = .slice b xs.length cap ∧ xs.length ≤ cap := by
      generalize a.eval x = xv at hx
      cases hx with
      | sl0 b cap _ => exact ⟨b, cap, rfl, Nat.zero_le _⟩
      | sl _ b off cap sz arr e' fr vs hI hh hz hc hv hl hrep => exact ⟨_, cap, rfl, hc⟩
    obtain ⟨b, cap, hxe, hcap⟩ := hval
    obtain ⟨l, hh, hlh, hhn, hrun, h⟩ := hbd true xs.length cap hcap _ h
    have hex : (execOp a.eval o).run P w = .ok (.value (.slice (if cap = l then b else b.map (·.add (l * (T e).size))) (hh - l) (cap - l))) w := by
      simp only [execOp, ho, Instr.sliceAt, Instr.slice, hxe, Sem.run_bind, h11, Result.andThen_ok, Option.isSome_none, hrun, Sem.run_pure, Option.map_none, run_sizeOf_T hT hne]
    refine sound_ret hr hdst h hex ?_
    show RepP _ _ _ _
    rw [hxe] at hx
    by_cases hemp : hh = l
    · subst hemp
      have : (xs.take hh).drop hh = [] := by simp
      rw [this, Nat.sub_self]
      refine .sl0 _ _ fun hnone => ?_
      have hb : b = none := by
        split at hnone
        · exact hnone
        · simpa using hnone
      subst hb
      cases hx with
      | sl0 _ _ h0 => have := h0 rfl; omega
    · generalize hg : (Value.slice b xs.length cap) = xv at hx
      cases hx with
      | sl0 b' cap' _ => simp at hhn; omega
      | sl _ b' off cap' sz arr e' fr vs hI hhp hz hc hv hl hrep =>
        simp at hg
        obtain ⟨rfl, rfl⟩ := hg
        have hxne : xs ≠ [] := by intro e; subst e; simp at hhn; omega
        obtain ⟨y, hy⟩ := List.exists_mem_of_ne_nil xs hxne
        have hsz : sz = (T e).size := (hz y hy).symm.trans (hzz y hy)
        subst hsz
        rw [if_neg (by omega)]
        have hlen : ((xs.take hh).drop l).length = hh - l := by simp; omega
        have hz2 : ∀ y ∈ xs.take hh, y.length = (T e).size := fun y hy => hzz y (List.mem_of_mem_take hy)
        have hz3 : ∀ y ∈ (xs.take hh).drop l, y.length = (T e).size := fun y hy => hz2 y (List.mem_of_mem_drop hy)
        have hfl := flatten_len xs (T e).size hzz
        have hle1 : hh * (T e).size ≤ xs.length * (T e).size := Nat.mul_le_mul_right _ hhn
        have hle2 : l * (T e).size ≤ hh * (T e).size := Nat.mul_le_mul_right _ hlh
        simp only [Option.map_some, add_none]
        rw [← hlen]
        refine .sl _ b' (off + l * (T e).size) (cap - l) (T e).size arr e' fr ((vs.take (hh * (T e).size)).drop (l * (T e).size)) hI hhp hz3 (by omega) (fun k v hk => ?_) ?_ (fun k q v hq hk => ?_)
        · rw [List.getElem?_drop, List.getElem?_take] at hk
          split at hk
          · rw [Nat.add_assoc]; exact hv _ v hk
          · cases hk
        · rw [flatten_len _ _ hz3, hlen, List.length_drop, List.length_take, Nat.sub_mul]
          omega
        · rw [flatten_drop _ _ hz2, flatten_take _ _ hzz] at hq
          rw [List.getElem?_drop, List.getElem?_take] at hq hk
          split at hk
          · rename_i hc; rw [if_pos hc] at hq; exact hrep _ q v hq hk
          · cases hk
  · exact h.elim

omit hT in
/-- What append takes its new elements from. -/
theorem src_rep {C : Con} {α : Type} {v : V} {u : Value} {k : List (List PV) → Rd α} {x : α} {fp : List Loc} (hr : RelG T E N gv σ a w) (he : RepV T w (Imm E σ.m gv w) σ.m gv v u) (h : Run C (readSl v k) σ x fp) :
    ∃ ys fp' b cap, Run C (k ys) σ x fp' ∧ u = .slice b ys.length cap ∧ ∀ sz, (∀ y ∈ ys, y.length = sz) → ys ≠ [] → ∃ (ad : Addr) (news : List Value), b = some ad ∧ news.length = ys.length * sz ∧
      (∀ (j : Nat) z, news[j]? = some z → w.cell? (ad.add j) = some z) ∧ ∀ (j : Nat) q z, ys.flatten[j]? = some q → news[j]? = some z → RepP w (Imm E σ.m gv w) q z := by
  unfold readSl at h
  split at h
  · have : u = .slice none 0 0 := rp_nilsl he
    exact ⟨[], fp, none, 0, h, this, fun sz _ hn => absurd rfl hn⟩
  · obtain ⟨b, c, hb⟩ := rp_nesl he
    exact ⟨[], fp, some b, c, h, hb, fun sz _ hn => absurd rfl hn⟩
  · rename_i xs
    have he : RepP w (Imm E σ.m gv w) (.slice xs) u := he
    cases he with
    | sl0 b cap _ => exact ⟨[], fp, b, cap, h, rfl, fun sz _ hn => absurd rfl hn⟩
    | sl _ b off cap sz arr e fr vs hI hh hz hc hv hl hrep =>
      refine ⟨xs, fp, _, cap, h, rfl, fun sz' hz' hn => ⟨_, vs, rfl, ?_, fun j z hj => ?_, hrep⟩⟩
      · rw [hl, flatten_len _ _ hz']
      · rw [add_none, cell_of_heap hh]; exact hv j z hj
  · rename_i id n
    obtain ⟨h0, e, xs, h5, h6, h7⟩ := he
    obtain ⟨fp', rfl, h⟩ := h
    simp only [h5] at h
    obtain ⟨hn, h⟩ := h
    have h7 := h7 hn
    obtain ⟨hz, vs, ⟨ho1, ho2⟩, hvs⟩ := hr.rep id _ h5
    refine ⟨xs, fp', _, _, h, by rw [h7, hn], fun sz hz' hne => ?_⟩
    rcases ho2 with ⟨hnil, hn0⟩ | ⟨g, cap, cur, hv, _, hh, hcap, _, hsz, htake⟩
    · exact absurd (List.length_eq_zero_iff.1 hn0) hne
    · simp at hv
      obtain ⟨y, hy⟩ := List.exists_mem_of_ne_nil xs hne
      have hse : sz = (T e).size := (hz' y hy).symm.trans (hz y hy)
      subst hse
      refine ⟨_, vs, hv.1, ho1, fun j z hj => ?_, hvs⟩
      rw [add_none, cell_of_heap hh, Nat.zero_add]
      rw [← htake, List.getElem?_take] at hj
      split at hj
      · simpa using hj
      · cases hj
  · exact h.elim
end
end Go.AW

/- append and calls; then all operations in one. -/
set_option linter.unusedVariables false
set_option linter.unusedSimpArgs false
namespace Go.AW

section
variable {P : Program} {T : Tab} {E : Env} {N : Nat} {gv : GV} {σ : St} {a : Act} {w : World} (hT : TabOk P T)

theorem drew_grow (w : World) : ∀ b, b < w.heap.size → w.drew.heap[b]? = w.heap[b]? := fun b _ => rfl

/-- A new block under a new name, behind a draw. -/
theorem turn_new_drew {d : Nat} (hm : σ.m d = none) (obj : Obj) (cap : Nat) (o : Go.Obj) :
    Turn σ.m gv w d (upd σ.m d (some obj)) (upd gv d (some ⟨w.heap.size, 0, none⟩, cap)) (w.drew.alloc o) where
  tape := rfl
  os := rfl
  output := rfl
  size := by simp
  m_ne := fun id h => by simp [upd, h]
  gv_ne := fun id h => by simp [upd, h]
  heap := fun b hb _ => heap_alloc_old w.drew o b hb
  place := fun o' b _ h => by simp [blk, upd] at h; subst h; exact ⟨by simp, .inr (Nat.le_refl _)⟩
  box := fun cs h => by rw [hm] at h; cases h
  sl := fun e xs h => by rw [hm] at h; cases h

theorem take_append_len {α : Type} (xs ys : List α) (n : Nat) (h : xs.length = n) : (xs ++ ys).take n = xs := by subst h; simp

include hT

theorem sound_append {o : Oper} {t : Nat} {x y : Operand} {wr : Wr} {fp : List Loc} {C : Con} (hr : RelG T E N gv σ a w) (hdst : ∀ i, o.dst = some i → i < N)
    (ho : o.op = .call { callee := .builtin .append, args := #[x, y], argTypes := #[t, t] })
    (h : Run C (appR T o.dst t (σ.ev x) (σ.ev y)) σ wr fp) : Sound P T E N σ a w o wr := by
  have hx := ev_rep hr x
  have hy := ev_rep hr y
  have hex : (execOp a.eval o).run P w = ((Builtin.append_ #[t, t] o.type #[a.eval x, a.eval y]).run P w).andThen fun v w' => .ok (.value v) w' := by
    simp [execOp, ho, resolve, invoke, builtin]
  unfold appR at h
  split at h
  · rename_i e hd
    obtain ⟨ds, h9, h10, h11⟩ := run_underlying_T hT (t := t) (by rw [hd]; simp)
    rw [hd] at h9
    cases ds <;> simp [descOk] at h9
    simp only [← h9] at h10 h11
    clear h9
    obtain ⟨ys, fp1, b, cap, h, hyv, hsrc⟩ := src_rep hr hy h
    rw [hyv] at hex
    split at h
    · rename_i d hxv hdd
      rw [hxv] at hx
      have h1 : a.eval x = .slice none 0 0 := rp_nilsl hx
      rw [h1] at hex
      obtain ⟨fp', rfl, h⟩ := h
      cases hm : σ.m d with
      | some ob => simp [hm, Run] at h
      | none =>
        simp only [hm] at h
        obtain ⟨⟨hne, hz, hpos, hby, hmax⟩, rfl, _⟩ := h
        obtain ⟨ti, z, h3, h4, h5, h6, h7, h8⟩ := run_typeInfo_T hT hne
        by_cases hyn : ys = []
        · subst hyn
          have hrun : (execOp a.eval o).run P w = .ok (.value (.slice none 0 0)) w := by
            rw [hex]
            cases b <;> simp [Builtin.append_, h11, sizeOf, typeInfo, h4, Builtin.lenOf, Builtin.firstCells, loadCells, loadCellsFrom]
          intro next Q hn
          refine wp_value hrun (hn (upd gv d (none, 0)) _ _ ?_)
          have ht : Turn σ.m gv w d (upd σ.m d (some (.sl e []))) (upd gv d (none, 0)) w :=
            ⟨rfl, rfl, rfl, Nat.le_refl _, fun id h => by simp [upd, h], fun id h => by simp [upd, h], fun _ _ _ => rfl, fun o' b' _ h => by simp [blk, upd] at h, fun cs h => (by rw [hm] at h; cases h), fun e xs h => (by rw [hm] at h; cases h)⟩
          have := hr.put_turn ht (fun ob hob => ?_) (dst := o.dst) hdst (v := .one (.osl d 0)) (u := .slice none 0 0) ?_
          · exact this
          · simp [upd] at hob; subst hob
            exact ⟨by simp, [], ⟨by simp, .inl ⟨by simp [upd], rfl⟩⟩, by simp⟩
          · exact ⟨rfl, e, [], by simp [upd], by simp, fun _ => by simp [upd]⟩
        · obtain ⟨ad, news, rfl, hnl, hnc, hnr⟩ := hsrc (T e).size hz hyn
          have hl0 : 0 < ys.length := List.length_pos_iff.2 hyn
          have h63 : (ys.length : Int) ≤ 9223372036854775807 := by simp [maxLen] at hmax; omega
          have h48 : ys.length * ti.bytes ≤ 281474976710656 := by rw [h6]; omega
          rw [run_append_nil (P := P) w t o.type e ti z h10 h4 h7 ad ys.length cap news (by rw [h5]; exact hnl) hnc hl0 h63 h48] at hex
          have hrun := hex
          simp only [Result.andThen_ok] at hrun
          generalize hgc : grownCap w ys.length 0 e = gc at hrun
          have hgc1 : ys.length ≤ gc := hgc ▸ grownCap_ge w _ _ _
          have hgc2 : gc ≤ maxLen := hgc ▸ grownCap_le_maxLen w _ _ _ hmax
          have hzc : z.cells.size = (T e).size := by
            have := congrArg List.length h8
            have h12 := (hT e hne).len
            simp at this; omega
          intro next Q hn
          refine wp_value hrun (hn (upd gv d (some ⟨w.heap.size, 0, none⟩, gc)) _ _ ?_)
          have ht := turn_new_drew (gv := gv) (w := w) hm (.sl e ys) gc (.cells (news.toArray ++ Builtin.zeroCells z.cells (gc - ys.length)) e)
          have := hr.put_turn ht (fun ob hob => ?_) (dst := o.dst) hdst (v := .one (.osl d ys.length)) (u := .slice (some ⟨w.heap.size, 0, none⟩) ys.length gc) ?_
          · exact this
          · simp [upd] at hob; subst hob
            refine ⟨hz, news, ⟨hnl, .inr ⟨w.heap.size, gc, _, by simp [upd], Nat.zero_le _, heap_alloc_new w.drew _, hgc1, hgc2, ?_, ?_⟩⟩, fun k q v hq hv => RepP.mono (fun b hb => ht.imm b hb) (hnr k q v hq hv)⟩
            · simp only [Array.size_append, List.size_toArray, size_zeroCells, hzc, hnl]
              rw [← Nat.add_mul]; congr 1; omega
            · simp only [Array.toList_append]
              exact take_append_len _ _ _ hnl
          · exact ⟨rfl, e, ys, by simp [upd], Nat.le_refl _, fun _ => by simp [upd]⟩
    · rename_i dd id n hxv
      rw [hxv] at hx
      obtain ⟨h0, e', xs, hm, hn1, hn2⟩ := hx
      obtain ⟨fp', rfl, h⟩ := h
      simp only [hm] at h
      obtain ⟨⟨hnn, rfl, hne, hpos, hz, hby, hmax⟩, rfl, _⟩ := h
      have h1 := hn2 hnn
      rw [hnn] at h1
      rw [h1] at hex
      obtain ⟨ti, z, h3, h4, h5, h6, h7, h8⟩ := run_typeInfo_T hT hne
      have hzc : z.cells.size = (T e').size := by
        have := congrArg List.length h8
        have h12 := (hT e' hne).len
        simp at this; omega
      obtain ⟨hzx, vs, ⟨ho1, ho2⟩, hvs⟩ := hr.rep id _ hm
      have hzz : ∀ y ∈ xs ++ ys, y.length = (T e').size := fun y hy => by
        rcases List.mem_append.1 hy with hy | hy
        · exact hzx y hy
        · exact hz y hy
      have hfx := flatten_len xs (T e').size hzx
      -- what stands in the row behind
      have hrep : ∀ (w' : World) (I' : Nat → Prop) (news : List Value), (∀ b, Imm E σ.m gv w b → I' b ∧ w'.heap[b]? = w.heap[b]?) → (∀ (j : Nat) q z, ys.flatten[j]? = some q → news[j]? = some z → RepP w (Imm E σ.m gv w) q z) →
          ∀ (k : Nat) q v, (xs ++ ys).flatten[k]? = some q → (vs ++ news)[k]? = some v → RepP w' I' q v := by
        intro w' I' news hI hnr k q v hq hv
        have ho1' : vs.length = xs.length * (T e').size := ho1
        rw [List.flatten_append, List.getElem?_append, hfx] at hq
        rw [List.getElem?_append, ho1'] at hv
        split at hq
        · rename_i hk; rw [if_pos hk] at hv; exact RepP.mono hI (hvs k q v hq hv)
        · rename_i hk; rw [if_neg hk] at hv; exact RepP.mono hI (hnr _ q v hq hv)
      -- nothing is appended
      have hnil : ys = [] → Sound P T E N σ a w o ⟨.one (.osl id (xs.length + ys.length)), [(id, .sl e' (xs ++ ys))]⟩ := by
        intro hyn
        subst hyn
        have hle : xs.length ≤ (gv id).2 := by
          rcases ho2 with ⟨hv, h0⟩ | ⟨g, c, cur, hv, _, _, hc, _⟩
          · omega
          · simp at hv; omega
        have hrun : (execOp a.eval o).run P w = .ok (.value (.slice (gv id).1 xs.length (gv id).2)) w := by
          rw [hex]
          cases b <;> cases (gv id).1 <;> simp [Builtin.append_, h11, sizeOf, typeInfo, h4, Builtin.lenOf, hle, Builtin.firstCells, storeCells, loadCells, loadCellsFrom]
        intro next Q hn
        refine wp_value hrun (hn gv _ _ ?_)
        have hsame : upd σ.m id (some (.sl e' (xs ++ []))) = σ.m := by funext j; unfold upd; split <;> simp_all
        have := hr.put (dst := o.dst) hdst (v := .one (.osl id xs.length)) (u := .slice (gv id).1 xs.length (gv id).2) ⟨rfl, e', xs, hm, Nat.le_refl _, fun _ => rfl⟩
        show RelG T E N gv { t := putT σ.t o.dst (.one (.osl id (xs.length + [].length))), m := upd σ.m id (some (.sl e' (xs ++ []))) } _ _
        rw [hsame]
        exact this
      by_cases hyn : ys = []
      · exact hnil hyn
      obtain ⟨ad, news, rfl, hnl, hnc, hnr⟩ := hsrc (T e').size hz hyn
      have hl0 : 0 < ys.length := List.length_pos_iff.2 hyn
      have h1c : ∀ u ∈ news, u.oneCell' = true := by
        intro u hu
        obtain ⟨k, hk, rfl⟩ := List.getElem_of_mem hu
        have hk2 : k < ys.flatten.length := by rw [flatten_len _ _ hz]; omega
        exact RepP.one (hnr k _ _ (List.getElem?_eq_getElem hk2) (List.getElem?_eq_getElem hk))
      rcases ho2 with ⟨hv, hx0⟩ | ⟨g, c, cur, hv, _, hh, hcap, hcmax, hcsz, htake⟩
      · -- the slice was nil
        simp at hv
        have hxs : xs = [] := List.length_eq_zero_iff.1 hx0
        subst hxs
        simp only [List.nil_append, List.length_nil, Nat.zero_add] at *
        rw [hv.1, hv.2.2] at hex
        have h63 : (ys.length : Int) ≤ 9223372036854775807 := by simp [maxLen] at hmax; omega
        have h48 : ys.length * ti.bytes ≤ 281474976710656 := by rw [h6]; omega
        rw [run_append_nil (P := P) w t o.type e' ti z h10 h4 h7 ad ys.length cap news (by rw [h5]; exact hnl) hnc hl0 h63 h48] at hex
        have hrun := hex
        simp only [Result.andThen_ok] at hrun
        generalize hgc : grownCap w ys.length 0 e' = gc at hrun
        have hgc1 : ys.length ≤ gc := hgc ▸ grownCap_ge w _ _ _
        have hgc2 : gc ≤ maxLen := hgc ▸ grownCap_le_maxLen w _ _ _ hmax
        intro next Q hn
        refine wp_value hrun (hn (upd gv id (some ⟨w.heap.size, 0, none⟩, gc)) _ _ ?_)
        have ht : Turn σ.m gv w id (upd σ.m id (some (.sl e' ys))) (upd gv id (some ⟨w.heap.size, 0, none⟩, gc)) (w.drew.alloc (.cells (news.toArray ++ Builtin.zeroCells z.cells (gc - ys.length)) e')) := by
          refine ⟨rfl, rfl, rfl, by simp, fun i h => by simp [upd, h], fun i h => by simp [upd, h], fun b' hb' _ => heap_alloc_old w.drew _ b' hb', fun o' b' _ h => ?_, fun cs h => (by rw [hm] at h; cases h), fun e2 xs2 h => ?_⟩
          · simp [blk, upd] at h; subst h; exact ⟨by simp, .inr (Nat.le_refl _)⟩
          · rw [hm] at h; simp at h; obtain ⟨rfl, rfl⟩ := h
            exact ⟨ys, by simp [upd], by simp, fun h => absurd (List.length_eq_zero_iff.1 (by simpa using h)) hyn⟩
        have := hr.put_turn ht (fun ob hob => ?_) (dst := o.dst) hdst (v := .one (.osl id ys.length)) (u := .slice (some ⟨w.heap.size, 0, none⟩) ys.length gc) ?_
        · exact this
        · simp [upd] at hob; subst hob
          refine ⟨hz, news, ⟨hnl, .inr ⟨w.heap.size, gc, _, by simp [upd], Nat.zero_le _, heap_alloc_new w.drew _, hgc1, hgc2, ?_, ?_⟩⟩, fun k q v hq hv => RepP.mono (fun b hb => ht.imm b hb) (hnr k q v hq hv)⟩
          · simp only [Array.size_append, List.size_toArray, size_zeroCells, hzc, hnl]
            rw [← Nat.add_mul]; congr 1; omega
          · simp only [Array.toList_append]
            exact take_append_len _ _ _ hnl
        · exact ⟨rfl, e', ys, by simp [upd], Nat.le_refl _, fun _ => by simp [upd]⟩
      · simp at hv
        obtain ⟨hg1, hg2⟩ := hv
        subst hg2
        rw [hg1] at hex
        have hlen : (xs ++ ys).length = xs.length + ys.length := by simp
        have hmulxy : (xs.length + ys.length) * (T e').size = xs.length * (T e').size + ys.length * (T e').size := Nat.add_mul _ _ _
        by_cases hroom : xs.length + ys.length ≤ (gv id).2
        · have hfit : xs.length * ti.size + news.length ≤ cur.size := by
            rw [h5, hnl, hcsz, ← Nat.add_mul]; exact Nat.mul_le_mul_right _ hroom
          rw [run_append_room (P := P) w t o.type e' ti h10 h4 g xs.length (gv id).2 cur hh ad ys.length cap news (by rw [h5]; exact hnl) hnc h1c hroom hfit] at hex
          have hrun := hex
          simp only [Result.andThen_ok] at hrun
          rw [h5] at hrun
          intro next Q hn
          refine wp_value hrun (hn gv _ _ ?_)
          generalize hnew : (cur.toList.take (xs.length * (T e').size) ++ news ++ cur.toList.drop (xs.length * (T e').size + news.length)).toArray = nw at hrun ⊢
          have ht : Turn σ.m gv w id (upd σ.m id (some (.sl e' (xs ++ ys)))) gv (w.setRow g nw) := by
            refine ⟨rfl, rfl, rfl, by simp, fun i hi => by simp [upd, hi], fun _ _ => rfl, fun b' hb' hno => ?_, fun o' b' ho' hb' => ?_, fun cs h => (by rw [hm] at h; cases h), fun e2 xs2 h => ?_⟩
            · exact setRow_other w g b' _ (fun e => hno _ hm (by simp [blk, hg1, e]))
            · have : b' = g := by simp [blk, hg1] at hb'; exact hb'.symm
              subst this
              exact ⟨by simp; exact (Array.getElem?_eq_some_iff.1 hh).1, .inl ⟨_, hm, hb'⟩⟩
            · rw [hm] at h; simp at h; obtain ⟨rfl, rfl⟩ := h
              exact ⟨xs ++ ys, by simp [upd], by simp, fun _ => rfl⟩
          have hnsz : nw.size = cur.size := by subst hnew; simp; rw [h5] at hfit; omega
          have := hr.put_turn ht (fun ob hob => ?_) (dst := o.dst) hdst (v := .one (.osl id (xs.length + ys.length))) (u := .slice (some ⟨g, 0, none⟩) (xs.length + ys.length) (gv id).2) ?_
          · exact this
          · simp [upd] at hob; subst hob
            refine ⟨hzz, vs ++ news, ⟨?_, .inr ⟨g, (gv id).2, nw, ?_, Nat.zero_le _, setRow_heap w g cur _ e' (0, 0) hh, by rw [hlen]; exact hroom, hcmax, by rw [hnsz, hcsz], ?_⟩⟩, hrep _ _ news (fun b hb => ht.imm b hb) hnr⟩
            · have ho1' : vs.length = xs.length * (T e').size := ho1
              rw [List.length_append, ho1', hnl, hlen, hmulxy]
            · rw [hg1]
            · subst hnew
              rw [hlen, hmulxy, htake, ← hnl]
              simp only [List.toList_toArray]
              rw [List.take_append_of_le_length (by have ho1' : vs.length = xs.length * (T e').size := ho1; simp; omega)]
              exact List.take_of_length_le (by have ho1' : vs.length = xs.length * (T e').size := ho1; simp; omega)
          · exact ⟨rfl, e', xs ++ ys, by simp [upd], by simp, fun _ => by rw [hg1]⟩
        · have h63 : ((xs.length + ys.length : Nat) : Int) ≤ 9223372036854775807 := by simp [maxLen] at hmax; omega
          have hfit := growslice_fits (need := xs.length + ys.length) (old := (gv id).2) (bytes := ti.bytes) (by omega) (by rw [h6]; exact hby)
          rw [run_append_grow (P := P) w t o.type e' ti z h10 h4 h7 ⟨g, 0, none⟩ xs.length (gv id).2 vs (by rw [h5]; exact ho1)
              (fun j v hj => by
                rw [add_none, cell_of_heap hh, Nat.zero_add]
                rw [← htake, List.getElem?_take] at hj
                split at hj
                · simpa using hj
                · cases hj) ad ys.length cap news (by rw [h5]; exact hnl) hnc (by omega) h63 hfit] at hex
          have hrun := hex
          simp only [Result.andThen_ok] at hrun
          generalize hgc : grownCap w (xs.length + ys.length) (gv id).2 e' = gc at hrun
          have hgc1 : xs.length + ys.length ≤ gc := hgc ▸ grownCap_ge w _ _ _
          have hgc2 : gc ≤ maxLen := hgc ▸ grownCap_le_maxLen w _ _ _ hmax
          generalize hnew : vs.toArray ++ news.toArray ++ Builtin.zeroCells z.cells (gc - (xs.length + ys.length)) = nw at hrun
          intro next Q hn
          refine wp_value hrun (hn (upd gv id (some ⟨w.heap.size, 0, none⟩, gc)) _ _ ?_)
          have ht : Turn σ.m gv w id (upd σ.m id (some (.sl e' (xs ++ ys)))) (upd gv id (some ⟨w.heap.size, 0, none⟩, gc)) (w.drew.alloc (.cells nw e')) := by
            refine ⟨rfl, rfl, rfl, by simp, fun i h => by simp [upd, h], fun i h => by simp [upd, h], fun b' hb' _ => heap_alloc_old w.drew _ b' hb', fun o' b' _ h => ?_, fun cs h => (by rw [hm] at h; cases h), fun e2 xs2 h => ?_⟩
            · simp [blk, upd] at h; subst h; exact ⟨by simp, .inr (Nat.le_refl _)⟩
            · rw [hm] at h; simp at h; obtain ⟨rfl, rfl⟩ := h
              exact ⟨xs ++ ys, by simp [upd], by simp, fun h => by simp at h; exact absurd h (by intro e; subst e; simp at hl0)⟩
          have ho1' : vs.length = xs.length * (T e').size := ho1
          have := hr.put_turn ht (fun ob hob => ?_) (dst := o.dst) hdst (v := .one (.osl id (xs.length + ys.length))) (u := .slice (some ⟨w.heap.size, 0, none⟩) (xs.length + ys.length) gc) ?_
          · exact this
          · simp [upd] at hob; subst hob
            refine ⟨hzz, vs ++ news, ⟨?_, .inr ⟨w.heap.size, gc, nw, by simp [upd], Nat.zero_le _, heap_alloc_new w.drew _, by rw [hlen]; exact hgc1, hgc2, ?_, ?_⟩⟩, hrep _ _ news (fun b hb => ht.imm b hb) hnr⟩
            · rw [List.length_append, ho1', hnl, hlen, hmulxy]
            · subst hnew
              simp only [Array.size_append, List.size_toArray, size_zeroCells, hzc, hnl, ho1']
              rw [← hmulxy, ← Nat.add_mul]; congr 1; omega
            · subst hnew
              simp only [Array.toList_append]
              exact take_append_len _ _ _ (by rw [List.length_append, ho1', hnl, hlen, hmulxy])
          · exact ⟨rfl, e', xs ++ ys, by simp [upd], by simp, fun _ => by simp [upd]⟩
    · exact h.elim
  · exact h.elim
end
end Go.AW

/- Renaming the memory that a call is lent. -/
set_option linter.unusedVariables false
set_option linter.unusedSimpArgs false
namespace Go.AW

section
variable {T : Tab} {w : World} {I I' : Nat → Prop} {m m' : Nat → Option Obj} {gv gv' : GV} {f : Nat → Nat}

theorem repC_ren {c : Ce} {v : Value} (hI : ∀ b, I b → I' b) (hm : ∀ id ∈ refsC c, ∀ o, m id = some o → m' (f id) = some (renO f o) ∧ gv' (f id) = gv id) (h : RepC T w I m gv c v) : RepC T w I' m' gv' (renC f c) v := by
  cases c with
  | p x => exact RepP.mono (fun b hb => ⟨hI b hb, rfl⟩) h
  | ptr id off =>
    obtain ⟨b, cs, h1, h2, h3⟩ := h
    obtain ⟨h4, h5⟩ := hm id (by simp [refsC]) _ h1
    exact ⟨b, _, h4, by rw [h5]; exact h2, h3⟩
  | osl id n =>
    obtain ⟨h0, e, xs, h1, h2, h3⟩ := h
    obtain ⟨h4, h5⟩ := hm id (by simp [refsC]) _ h1
    exact ⟨h0, e, xs, h4, h2, fun hn => by rw [h5]; exact h3 hn⟩
  | oel id n i off =>
    obtain ⟨h0, e, xs, h1, h2, h3⟩ := h
    obtain ⟨h4, h5⟩ := hm id (by simp [refsC]) _ h1
    exact ⟨h0, e, xs, h4, h2, fun hn => by rw [h5]; exact h3 hn⟩
  | ip cs =>
    obtain ⟨b, off, arr, e, fr, vs, h1, h2, h3, h4, h5, h6⟩ := h
    exact ⟨b, off, arr, e, fr, vs, h1, hI b h2, h3, h4, h5, fun k q u hq hu => RepP.mono (fun b hb => ⟨hI b hb, rfl⟩) (h6 k q u hq hu)⟩
  | bsl id n =>
    obtain ⟨b, cs, h1, h2, h3⟩ := h
    obtain ⟨h4, h5⟩ := hm id (by simp [refsC]) _ h1
    exact ⟨b, _, h4, by rw [h5]; exact h2, h3⟩

theorem repL_ren {c : List Ce} {v : List Value} (hI : ∀ b, I b → I' b) (hm : ∀ id ∈ c.flatMap refsC, ∀ o, m id = some o → m' (f id) = some (renO f o) ∧ gv' (f id) = gv id) (h : RepL T w I m gv c v) : RepL T w I' m' gv' (c.map (renC f)) v := by
  refine ⟨by simp [h.1], fun k x u hx hu => ?_⟩
  rw [List.getElem?_map] at hx
  cases hc : c[k]? with
  | none => rw [hc] at hx; cases hx
  | some y =>
    rw [hc] at hx
    simp only [Option.map_some, Option.some.injEq] at hx
    subst hx
    exact repC_ren hI (fun id hid => hm id (List.mem_flatMap.2 ⟨y, List.mem_of_getElem? hc, hid⟩)) (h.2 k y u hc hu)

theorem repV_ren {x : V} {v : Value} (hI : ∀ b, I b → I' b) (hm : ∀ id ∈ refsV x, ∀ o, m id = some o → m' (f id) = some (renO f o) ∧ gv' (f id) = gv id) (h : RepV T w I m gv x v) : RepV T w I' m' gv' (renV f x) v := by
  cases x with
  | undef => trivial
  | one c => exact repC_ren hI hm h
  | agg cs => obtain ⟨arr, h1, h2⟩ := h; exact ⟨arr, h1, repL_ren hI hm h2⟩
  | tup xs =>
    obtain ⟨arr, h1, h2, h3⟩ := h
    refine ⟨arr, h1, by simp [h2], fun k x u hx hu => ?_⟩
    rw [List.getElem?_map] at hx
    cases hc : xs[k]? with
    | none => rw [hc] at hx; cases hx
    | some y =>
      rw [hc] at hx
      simp only [Option.map_some, Option.some.injEq] at hx
      subst hx
      have hm' : ∀ id ∈ refsW y, ∀ o, m id = some o → m' (f id) = some (renO f o) ∧ gv' (f id) = gv id := fun id hid => hm id (List.mem_flatMap.2 ⟨y, List.mem_of_getElem? hc, hid⟩)
      have := h3 k y u hc hu
      cases y with
      | one c => exact repC_ren hI hm' this
      | agg cs => obtain ⟨arr, h1, h2⟩ := this; exact ⟨arr, h1, repL_ren hI hm' h2⟩

theorem repO_ren {id : Nat} {o : Obj} (hI : ∀ b, I b → I' b) (hg : gv' (f id) = gv id) (hm : ∀ id ∈ refsO o, ∀ o, m id = some o → m' (f id) = some (renO f o) ∧ gv' (f id) = gv id) (h : RepO T w I m gv id o) : RepO T w I' m' gv' (f id) (renO f o) := by
  cases o with
  | box cs =>
    obtain ⟨b, arr, e, h1, h2, h3⟩ := h
    exact ⟨b, arr, e, by rw [hg]; exact h1, h2, repL_ren hI hm h3⟩
  | sl e xs =>
    obtain ⟨h0, vs, h1, h2⟩ := h
    exact ⟨h0, vs, by rw [hg]; exact h1, fun k q v hq hv => RepP.mono (fun b hb => ⟨hI b hb, rfl⟩) (h2 k q v hq hv)⟩

/-- What a value speaks of is there. -/
theorem refsC_dom {c : Ce} {v : Value} (h : RepC T w I m gv c v) : ∀ id ∈ refsC c, ∃ o, m id = some o := by
  intro id hid
  cases c <;> simp [refsC] at hid
  · subst hid; obtain ⟨b, cs, h1, _⟩ := h; exact ⟨_, h1⟩
  · subst hid; obtain ⟨_, e, xs, h1, _⟩ := h; exact ⟨_, h1⟩
  · subst hid; obtain ⟨_, e, xs, h1, _⟩ := h; exact ⟨_, h1⟩
  · subst hid; obtain ⟨b, cs, h1, _⟩ := h; exact ⟨_, h1⟩
theorem refsL_dom {c : List Ce} {v : List Value} (h : RepL T w I m gv c v) : ∀ id ∈ c.flatMap refsC, ∃ o, m id = some o := by
  intro id hid
  obtain ⟨y, hy, hid⟩ := List.mem_flatMap.1 hid
  obtain ⟨k, hk⟩ := List.mem_iff_getElem?.1 hy
  have hlt : k < v.length := by rw [h.1]; exact (List.getElem?_eq_some_iff.1 hk).1
  exact refsC_dom (h.2 k y v[k] hk (List.getElem?_eq_getElem hlt)) id hid
theorem refsV_dom {x : V} {v : Value} (h : RepV T w I m gv x v) : ∀ id ∈ refsV x, ∃ o, m id = some o := by
  intro id hid
  cases x with
  | undef => simp [refsV] at hid
  | one c => exact refsC_dom h id hid
  | agg cs => obtain ⟨arr, h1, h2⟩ := h; exact refsL_dom h2 id hid
  | tup xs =>
    obtain ⟨arr, h1, h2, h3⟩ := h
    obtain ⟨y, hy, hid⟩ := List.mem_flatMap.1 hid
    obtain ⟨k, hk⟩ := List.mem_iff_getElem?.1 hy
    have hlt : k < arr.size := by rw [h2]; exact (List.getElem?_eq_some_iff.1 hk).1
    have := h3 k y arr[k] hk (Array.getElem?_eq_getElem hlt)
    cases y with
    | one c => exact refsC_dom this id hid
    | agg cs => obtain ⟨arr, h1, h2⟩ := this; exact refsL_dom h2 id hid
theorem refsO_dom {id0 : Nat} {o : Obj} (h : RepO T w I m gv id0 o) : ∀ id ∈ refsO o, ∃ o, m id = some o := by
  intro id hid
  cases o with
  | box cs => obtain ⟨b, arr, e, h1, h2, h3⟩ := h; exact refsL_dom h3 id hid
  | sl e xs => simp [refsO] at hid
end

/-! ### The list of what is lent -/

theorem gather_run {C : Con} {α : Type} {σ : St} {a : α} {fp : List Loc} : ∀ (n : Nat) (todo : List Nat) (M : List (Nat × Obj)) (k : List (Nat × Obj) → Rd α), Run C (gatherR n todo M k) σ a fp →
    (∀ x ∈ M, σ.m x.1 = some x.2) → (M.map (·.1)).Nodup → (∀ x ∈ M, ∀ id ∈ refsO x.2, id ∈ M.map (·.1) ∨ id ∈ todo) →
    ∃ N fp', Run C (k N) σ a fp' ∧ (∀ x ∈ N, σ.m x.1 = some x.2) ∧ (N.map (·.1)).Nodup ∧ (∀ x ∈ N, ∀ id ∈ refsO x.2, id ∈ N.map (·.1)) ∧ ∀ id, id ∈ M.map (·.1) ∨ id ∈ todo → id ∈ N.map (·.1)
  | n, [], M, k, h, h1, h2, h3 => by
    have e : gatherR n [] M k = k M := by cases n <;> rfl
    rw [e] at h
    exact ⟨M, fp, h, h1, h2, fun x hx id hid => (h3 x hx id hid).elim (fun h => h) (fun h => by simp at h), fun id h => h.elim (fun h => h) (fun h => by simp at h)⟩
  | 0, _ :: _, M, k, h, _, _, _ => h.elim
  | n + 1, i :: r, M, k, h, h1, h2, h3 => by
    unfold gatherR at h
    split at h
    · rename_i hany
      obtain ⟨x, hx, hxi⟩ := List.any_eq_true.1 hany
      have hxi : x.1 = i := by simpa using hxi
      have him : i ∈ M.map (·.1) := List.mem_map.2 ⟨x, hx, hxi⟩
      obtain ⟨N, fp', k1, k2, k3, k4, k5⟩ := gather_run n r M k h h1 h2 (fun y hy id hid => by
        rcases h3 y hy id hid with h | h
        · exact .inl h
        · rcases List.mem_cons.1 h with rfl | h
          · exact .inl him
          · exact .inr h)
      refine ⟨N, fp', k1, k2, k3, k4, fun id hid => ?_⟩
      rcases hid with h | h
      · exact k5 id (.inl h)
      · rcases List.mem_cons.1 h with rfl | h
        · exact k5 _ (.inl him)
        · exact k5 id (.inr h)
    · rename_i hany
      obtain ⟨fp', rfl, h⟩ := h
      dsimp only at h
      split at h
      · rename_i o ho
        have hni : i ∉ M.map (·.1) := by
          intro hi
          obtain ⟨x, hx, hxi⟩ := List.mem_map.1 hi
          exact hany (List.any_eq_true.2 ⟨x, hx, by simpa using hxi⟩)
        obtain ⟨N, fp'', k1, k2, k3, k4, k5⟩ := gather_run n (refsO o ++ r) (M ++ [(i, o)]) k h (fun x hx => by
            rcases List.mem_append.1 hx with hx | hx
            · exact h1 x hx
            · simp at hx; subst hx; exact ho) (by
            rw [List.map_append, List.nodup_append]
            refine ⟨h2, by simp, fun a ha b hb => ?_⟩
            simp at hb; subst hb
            rintro rfl; exact hni ha) (fun x hx id hid => by
            rcases List.mem_append.1 hx with hx | hx
            · rcases h3 x hx id hid with h | h
              · exact .inl (by simp only [List.map_append, List.mem_append]; exact .inl h)
              · rcases List.mem_cons.1 h with rfl | h
                · exact .inl (by simp)
                · exact .inr (by simp [h])
            · simp at hx; subst hx
              exact .inr (by simp [hid]))
        refine ⟨N, fp'', k1, k2, k3, k4, fun id hid => k5 id ?_⟩
        rcases hid with h | h
        · exact .inl (by simp only [List.map_append, List.mem_append]; exact .inl h)
        · rcases List.mem_cons.1 h with rfl | h
          · exact .inl (by simp)
          · exact .inr (by simp [h])
      · exact h.elim

theorem toIn_spec : ∀ (M : List (Nat × Obj)) (k id : Nat), id ∈ M.map (·.1) → k ≤ toIn M k id ∧ toIn M k id < k + M.length ∧ (M[toIn M k id - k]?).map (·.1) = some id
  | [], k, id, h => by simp at h
  | x :: M, k, id, h => by
    unfold toIn
    split
    · rename_i hx; subst hx; simp
    · rename_i hx
      have h' : id ∈ M.map (·.1) := by
        rcases List.mem_cons.1 h with h | h
        · exact absurd h.symm hx
        · exact h
      obtain ⟨h1, h2, h3⟩ := toIn_spec M (k + 1) id h'
      refine ⟨by omega, by simp; omega, ?_⟩
      obtain ⟨j, hj⟩ : ∃ j, toIn M (k + 1) id - k = j + 1 := ⟨toIn M (k + 1) id - k - 1, by omega⟩
      rw [hj, List.getElem?_cons_succ, show j = toIn M (k + 1) id - (k + 1) by omega]
      exact h3
theorem toOut_spec : ∀ (M : List (Nat × Obj)) (k d i : Nat), k ≤ i → i < k + M.length → (M[i - k]?).map (·.1) = some (toOut M k d i)
  | [], k, d, i, h1, h2 => by simp at h2; omega
  | x :: M, k, d, i, h1, h2 => by
    unfold toOut
    split
    · rename_i h; subst h; simp
    · rename_i h
      obtain ⟨j, hj⟩ : ∃ j, i - k = j + 1 := ⟨i - k - 1, by omega⟩
      rw [hj, List.getElem?_cons_succ, show j = i - (k + 1) by omega]
      exact toOut_spec M (k + 1) d i (by omega) (by simp at h2; omega)
theorem toOut_new : ∀ (M : List (Nat × Obj)) (k d i : Nat), ¬ (k ≤ i ∧ i < k + M.length) → toOut M k d i = d
  | [], k, d, i, h => rfl
  | x :: M, k, d, i, h => by
    unfold toOut
    rw [if_neg (by simp at h; omega)]
    exact toOut_new M (k + 1) d i (by simp at h; omega)
theorem toOut_toIn {M : List (Nat × Obj)} {id d : Nat} (h : id ∈ M.map (·.1)) : toOut M 1000 d (toIn M 1000 id) = id := by
  obtain ⟨h1, h2, h3⟩ := toIn_spec M 1000 id h
  have := toOut_spec M 1000 d _ h1 h2
  rw [h3] at this
  exact (Option.some.inj this).symm
theorem nodup_pos {M : List (Nat × Obj)} (hn : (M.map (·.1)).Nodup) {i j id : Nat} (hi : (M[i]?).map (·.1) = some id) (hj : (M[j]?).map (·.1) = some id) : i = j := by
  rw [← List.getElem?_map] at hi hj
  obtain ⟨h1, h2⟩ := List.getElem?_eq_some_iff.1 hi
  obtain ⟨h3, h4⟩ := List.getElem?_eq_some_iff.1 hj
  exact (List.getElem_inj hn).1 (h2.trans h4.symm)
theorem toIn_toOut {M : List (Nat × Obj)} (hn : (M.map (·.1)).Nodup) {i d : Nat} (h1 : 1000 ≤ i) (h2 : i < 1000 + M.length) : toOut M 1000 d i ∈ M.map (·.1) ∧ toIn M 1000 (toOut M 1000 d i) = i := by
  have h := toOut_spec M 1000 d i h1 h2
  have hm : toOut M 1000 d i ∈ M.map (·.1) := by
    rw [← List.getElem?_map] at h
    exact List.mem_of_getElem? h
  refine ⟨hm, ?_⟩
  obtain ⟨k1, k2, k3⟩ := toIn_spec M 1000 _ hm
  have := nodup_pos hn k3 h
  omega

theorem mOf_lentIn (M : List (Nat × Obj)) (i : Nat) : ∀ (R : List (Nat × Obj)) (k : Nat), mOf (lentIn R k M) i = if k ≤ i ∧ i < k + R.length then (R[i - k]?).map (fun x => renO (toIn M 1000) x.2) else none
  | [], k => by simp [lentIn, mOf]
  | x :: R, k => by
    have ih := mOf_lentIn M i R (k + 1)
    unfold lentIn
    by_cases h : k = i
    · subst h
      rw [if_pos ⟨Nat.le_refl _, by simp⟩]
      simp [mOf]
    · have e : mOf ((k, renO (toIn M 1000) x.2) :: lentIn R (k + 1) M) i = mOf (lentIn R (k + 1) M) i := by
        simp [mOf, List.find?_cons, h]
      rw [e, ih]
      by_cases hc : k + 1 ≤ i ∧ i < k + 1 + R.length
      · rw [if_pos hc, if_pos ⟨by omega, by simp; omega⟩]
        obtain ⟨j, hj⟩ : ∃ j, i - k = j + 1 := ⟨i - k - 1, by omega⟩
        rw [hj, List.getElem?_cons_succ, show i - (k + 1) = j by omega]
      · rw [if_neg hc, if_neg (by simp; omega)]

theorem lent_get {σm : Nat → Option Obj} {M : List (Nat × Obj)} (hM : ∀ x ∈ M, σm x.1 = some x.2) {i : Nat} {o : Obj} (h : mOf (lentIn M 1000 M) i = some o) {d : Nat} :
    1000 ≤ i ∧ i < 1000 + M.length ∧ ∃ o', σm (toOut M 1000 d i) = some o' ∧ o = renO (toIn M 1000) o' ∧ (toOut M 1000 d i, o') ∈ M := by
  rw [mOf_lentIn] at h
  split at h
  · rename_i hi
    refine ⟨hi.1, hi.2, ?_⟩
    have hs := toOut_spec M 1000 d i hi.1 hi.2
    cases hx : M[i - 1000]? with
    | none => rw [hx] at h; cases h
    | some x =>
      rw [hx] at h hs
      simp only [Option.map_some, Option.some.injEq] at h hs
      have hmem := List.mem_of_getElem? hx
      exact ⟨x.2, by rw [← hs]; exact hM x hmem, h.symm, by rw [← hs]; exact hmem⟩
  · cases h
theorem lent_mk {M : List (Nat × Obj)} (hn : (M.map (·.1)).Nodup) {x : Nat × Obj} (hx : x ∈ M) : mOf (lentIn M 1000 M) (toIn M 1000 x.1) = some (renO (toIn M 1000) x.2) := by
  obtain ⟨h1, h2, h3⟩ := toIn_spec M 1000 x.1 (List.mem_map.2 ⟨x, hx, rfl⟩)
  rw [mOf_lentIn, if_pos ⟨h1, h2⟩]
  obtain ⟨k, hk⟩ := List.mem_iff_getElem?.1 hx
  have : k = toIn M 1000 x.1 - 1000 := nodup_pos hn (by rw [hk]; rfl) h3
  rw [← this, hk]; rfl

theorem foldl_rev {g : Nat → Nat} {h : Obj → Obj} : ∀ (M' : List (Nat × Obj)) (m : Nat → Option Obj) (i : Nat), (∀ x ∈ M', ∀ y ∈ M', g x.1 = g y.1 → x.1 = y.1) →
    ((M'.map fun x => (g x.1, h x.2)).reverse.foldl (fun m x => upd m x.1 (some x.2)) m) i = (match M'.find? (fun x => g x.1 == i) with | some x => some (h x.2) | none => m i)
  | [], m, i, _ => rfl
  | x :: M', m, i, hg => by
    simp only [List.map_cons, List.reverse_cons, List.foldl_append, List.foldl_cons, List.foldl_nil, List.find?_cons]
    simp only [upd]
    by_cases hi : i = g x.1
    · subst hi; simp
    · rw [if_neg hi]
      have : (g x.1 == i) = false := by simpa using fun h => hi h.symm
      rw [this]
      exact foldl_rev M' m i (fun y hy z hz => hg y (by simp [hy]) z (by simp [hz]))
end Go.AW

/- A call by its contract; all operations in one; regions. -/
set_option linter.unusedVariables false
set_option linter.unusedSimpArgs false
namespace Go.AW

section
variable {P : Program} {T : Tab} {E : Env} {N : Nat} {gv : GV} {σ : St} {a : Act} {w : World} (hT : TabOk P T)

theorem run_call {f : Operand} {args : Array Operand} {ats : Array Nat} {o : Oper} {g : Nat} {fn : Func} (ho : o.op = .call { callee := .value f, args := args, argTypes := ats }) (hf : a.eval f = .func (.func g) #[] #[])
    (h1 : P.funcs[g]? = some fn) (h2 : fn.body.isSome = true) (h3 : (fn.name == "runtime.NumGoroutine") = false) : (execOp a.eval o).run P w = .ok (.enter g (args.map a.eval)) w := by
  have h2' : fn.body.isNone = false := by cases h : fn.body <;> simp_all
  simp only [execOp, ho, resolve, hf, Deferred.ofValue, Sem.run_bind, Sem.run_pure, Result.andThen_ok, invoke, callFunc, run_program, h1, h2', h3, Bool.false_eq_true, if_false]
  simp

theorem newIn_nil {n : Nat} {M' : List (Nat × Obj)} (h : newIn n M' = []) {x : Nat × Obj} (hx : x ∈ M') : 1000 ≤ x.1 ∧ x.1 < 1000 + n := by
  have := List.filter_eq_nil_iff.1 h x.1 (List.mem_map.2 ⟨x, hx, rfl⟩)
  simpa using this
theorem newIn_one {n k : Nat} {M' : List (Nat × Obj)} (h : newIn n M' = [k]) {x : Nat × Obj} (hx : x ∈ M') : (1000 ≤ x.1 ∧ x.1 < 1000 + n) ∨ x.1 = k := by
  by_cases hc : 1000 ≤ x.1 ∧ x.1 < 1000 + n
  · exact .inl hc
  · have hm : x.1 ∈ newIn n M' := List.mem_filter.2 ⟨List.mem_map.2 ⟨x, hx, rfl⟩, by simp only [Bool.not_eq_true', Bool.and_eq_false_iff, decide_eq_false_iff_not]; omega⟩
    rw [h] at hm
    exact .inr (by simpa using hm)

theorem mOf_mem {M : List (Nat × Obj)} {i : Nat} {o : Obj} (h : mOf M i = some o) : (i, o) ∈ M := by
  unfold mOf at h
  cases hf : M.find? (fun x => x.1 == i) with
  | none => rw [hf] at h; cases h
  | some x =>
    rw [hf] at h
    simp only [Option.map_some, Option.some.injEq] at h
    have h1 := List.find?_some hf
    have h2 := List.mem_of_find?_eq_some hf
    have : x.1 = i := by simpa using h1
    subst h this
    exact h2

/-- What comes back from a call, laid into the caller's state. -/
theorem call_back {M M' : List (Nat × Obj)} {d : Nat} {r : V} {dst : Option Nat} {w' : World} {gv1 : GV} {v : Value} (hr : RelG T E N gv σ a w) (hdst : ∀ i, dst = some i → i < N)
    (hM : ∀ x ∈ M, σ.m x.1 = some x.2) (hn : (M.map (·.1)).Nodup)
    (hJ : ∀ b, Imm E σ.m gv w b → b < w.heap.size ∧ ¬ ∃ id o, mOf (lentIn M 1000 M) id = some o ∧ blk (fun k => gv (toOut M 1000 d k)) id = some b)
    (hrel : RelM T ⟨w, mOf (lentIn M 1000 M), fun k => gv (toOut M 1000 d k), Imm E σ.m gv w, fun b => ∃ id o, mOf (lentIn M 1000 M) id = some o ∧ blk (fun k => gv (toOut M 1000 d k)) id = some b, hJ⟩ gv1 (mOf M') w')
    (hv : RepV T w' (Imm ⟨w, mOf (lentIn M 1000 M), fun k => gv (toOut M 1000 d k), Imm E σ.m gv w, fun b => ∃ id o, mOf (lentIn M 1000 M) id = some o ∧ blk (fun k => gv (toOut M 1000 d k)) id = some b, hJ⟩ (mOf M') gv1 w') (mOf M') gv1 r v)
    (hnew : ∀ x ∈ M', (1000 ≤ x.1 ∧ x.1 < 1000 + M.length) ∨ (σ.m d = none ∧ ∀ y ∈ M', ¬ (1000 ≤ y.1 ∧ y.1 < 1000 + M.length) → y.1 = x.1)) :
    ∃ gv', RelG T E N gv' (σ.app dst ⟨renV (toOut M 1000 d) r, (M'.map fun x => (toOut M 1000 d x.1, renO (toOut M 1000 d) x.2)).reverse⟩) (a.put dst v) w' := by
  -- names
  have hMd : ∀ x ∈ M, σ.m d = none → x.1 ≠ d := fun x hx h e => by rw [← e, hM x hx] at h; cases h
  have hsplit : ∀ k ∈ M'.map (·.1), (1000 ≤ k ∧ k < 1000 + M.length ∧ toOut M 1000 d k ∈ M.map (·.1) ∧ toIn M 1000 (toOut M 1000 d k) = k) ∨ (¬ (1000 ≤ k ∧ k < 1000 + M.length) ∧ toOut M 1000 d k = d ∧ σ.m d = none) := by
    intro k hk
    obtain ⟨x, hx, rfl⟩ := List.mem_map.1 hk
    by_cases hc : 1000 ≤ x.1 ∧ x.1 < 1000 + M.length
    · exact .inl ⟨hc.1, hc.2, toIn_toOut hn hc.1 hc.2⟩
    · exact .inr ⟨hc, toOut_new M 1000 d x.1 hc, ((hnew x hx).resolve_left hc).1⟩
  have hinj : ∀ x ∈ M', ∀ y ∈ M', toOut M 1000 d x.1 = toOut M 1000 d y.1 → x.1 = y.1 := by
    intro x hx y hy he
    rcases hsplit x.1 (List.mem_map.2 ⟨x, hx, rfl⟩) with ⟨a1, a2, a3, a4⟩ | ⟨a1, a2, a3⟩ <;> rcases hsplit y.1 (List.mem_map.2 ⟨y, hy, rfl⟩) with ⟨b1, b2, b3, b4⟩ | ⟨b1, b2, b3⟩
    · rw [← a4, ← b4, he]
    · rw [he, b2] at a3
      obtain ⟨z, hz, hzd⟩ := List.mem_map.1 a3
      exact absurd hzd (hMd z hz b3)
    · rw [← he, a2] at b3
      obtain ⟨z, hz, hzd⟩ := List.mem_map.1 b3
      exact absurd hzd (hMd z hz a3)
    · exact ((hnew y hy).resolve_left b1).2 x hx a1
  -- the new state
  let m1 : Nat → Option Obj := ((M'.map fun x => (toOut M 1000 d x.1, renO (toOut M 1000 d) x.2)).reverse.foldl (fun m x => upd m x.1 (some x.2)) σ.m)
  have hm1 : ∀ i, m1 i = (match M'.find? (fun x => toOut M 1000 d x.1 == i) with | some x => some (renO (toOut M 1000 d) x.2) | none => σ.m i) := fun i => foldl_rev M' σ.m i hinj
  let gv2 : GV := fun i => match M'.find? (fun x => toOut M 1000 d x.1 == i) with | some x => gv1 x.1 | none => gv i
  have hgv2 : ∀ i, gv2 i = (match M'.find? (fun x => toOut M 1000 d x.1 == i) with | some x => gv1 x.1 | none => gv i) := fun i => rfl
  have hin : ∀ k o, mOf M' k = some o → m1 (toOut M 1000 d k) = some (renO (toOut M 1000 d) o) ∧ gv2 (toOut M 1000 d k) = gv1 k := by
    intro k o hk
    have hmem := mOf_mem hk
    have : ∃ x, M'.find? (fun x => toOut M 1000 d x.1 == toOut M 1000 d k) = some x := by
      cases hf : M'.find? (fun x => toOut M 1000 d x.1 == toOut M 1000 d k) with
      | some x => exact ⟨x, rfl⟩
      | none => exact absurd (List.find?_eq_none.1 hf (k, o) hmem) (by simp)
    obtain ⟨x, hx⟩ := this
    have hxm := List.mem_of_find?_eq_some hx
    have hxe : toOut M 1000 d x.1 = toOut M 1000 d k := by simpa using List.find?_some hx
    have hxk : x.1 = k := hinj x hxm (k, o) hmem hxe
    -- the first with that name
    have hfirst : M'.find? (fun x => x.1 == k) = some x := by
      have : ∀ (L : List (Nat × Obj)), (∀ y ∈ L, y ∈ M') → L.find? (fun x => toOut M 1000 d x.1 == toOut M 1000 d k) = L.find? (fun x => x.1 == k) := by
        intro L
        induction L with
        | nil => intro _; rfl
        | cons y L ih =>
          intro hL
          simp only [List.find?_cons]
          have he : (toOut M 1000 d y.1 == toOut M 1000 d k) = (y.1 == k) := by
            by_cases hyk : y.1 = k
            · rw [hyk]; simp
            · have : toOut M 1000 d y.1 ≠ toOut M 1000 d k := fun h => hyk (hinj y (hL y (by simp)) (k, o) hmem h)
              rw [beq_eq_false_iff_ne.2 this, beq_eq_false_iff_ne.2 hyk]
          rw [he, ih (fun z hz => hL z (by simp [hz]))]
      rw [← this M' (fun _ h => h)]; exact hx
    have ho : o = x.2 := by
      unfold mOf at hk; rw [hfirst] at hk; simpa using hk.symm
    refine ⟨by rw [hm1, hx, ho], ?_⟩
    rw [hgv2, hx, ← hxk]
  have hcase : ∀ i o, m1 i = some o → (∃ k o', mOf M' k = some o' ∧ i = toOut M 1000 d k ∧ o = renO (toOut M 1000 d) o' ∧ gv2 i = gv1 k) ∨ (σ.m i = some o ∧ gv2 i = gv i ∧ i ∉ M.map (·.1) ∧ ∀ k o', mOf M' k = some o' → toOut M 1000 d k ≠ i) := by
    intro i o hi
    rw [hm1] at hi
    cases hf : M'.find? (fun x => toOut M 1000 d x.1 == i) with
    | some x =>
      left
      have hxm := List.mem_of_find?_eq_some hf
      have hxe : toOut M 1000 d x.1 = i := by simpa using List.find?_some hf
      have : ∃ o', mOf M' x.1 = some o' := by
        unfold mOf
        cases hg : M'.find? (fun y => y.1 == x.1) with
        | some y => exact ⟨y.2, rfl⟩
        | none => exact absurd (List.find?_eq_none.1 hg x hxm) (by simp)
      obtain ⟨o', ho'⟩ := this
      obtain ⟨h1, h2⟩ := hin x.1 o' ho'
      rw [hxe] at h1 h2
      refine ⟨x.1, o', ho', hxe.symm, ?_, h2⟩
      rw [hm1] at h1
      exact Option.some.inj (hi.symm.trans h1)
    | none =>
      right
      rw [hf] at hi
      have hno : ∀ k o', mOf M' k = some o' → toOut M 1000 d k ≠ i := fun k o' hk he => by
        have := List.find?_eq_none.1 hf (k, o') (mOf_mem hk)
        simp [he] at this
      refine ⟨hi, ?_, fun him => ?_, hno⟩
      · rw [hgv2, hf]
      · -- what was lent comes back
        obtain ⟨x, hx, rfl⟩ := List.mem_map.1 him
        have hl := lent_mk hn hx
        cases ho : x.2 with
        | box cs =>
          rw [ho] at hl
          obtain ⟨cs', h1, _⟩ := hrel.pers.box _ _ hl
          exact hno _ _ h1 (toOut_toIn him)
        | sl e xs =>
          rw [ho] at hl
          obtain ⟨xs', h1, _⟩ := hrel.pers.sl _ _ _ hl
          exact hno _ _ h1 (toOut_toIn him)
  -- blocks that the callee may write
  have hB : ∀ b, (∃ id o, mOf (lentIn M 1000 M) id = some o ∧ blk (fun k => gv (toOut M 1000 d k)) id = some b) → ∃ x ∈ M, blk gv x.1 = some b := by
    rintro b ⟨id, o, h1, h2⟩
    obtain ⟨_, _, o', h3, _, h4⟩ := lent_get hM h1 (d := d)
    exact ⟨_, h4, h2⟩
  have hkeep : ∀ b, b < w.heap.size → (∀ x ∈ M, blk gv x.1 ≠ some b) → w'.heap[b]? = w.heap[b]? := fun b hb hx => hrel.keep b hb fun hBb => by
    obtain ⟨x, hxm, hxb⟩ := hB b hBb
    exact hx x hxm hxb
  have himmheap : ∀ b, Imm E σ.m gv w b → w'.heap[b]? = w.heap[b]? := fun b hb => hkeep b hb.2.1 fun x hx => hb.2.2 x.1 x.2 (hM x hx)
  -- blocks of what came back
  have hown' : ∀ k o b, mOf M' k = some o → blk gv1 k = some b → b < w'.heap.size ∧ ((∃ x ∈ M, blk gv x.1 = some b) ∨ w.heap.size ≤ b) := by
    intro k o b h1 h2
    obtain ⟨h3, h4⟩ := hrel.own k o b h1 h2
    exact ⟨h3, h4.imp (hB b) id⟩
  have himm1 : ∀ b, Imm ⟨w, mOf (lentIn M 1000 M), fun k => gv (toOut M 1000 d k), Imm E σ.m gv w, fun b => ∃ id o, mOf (lentIn M 1000 M) id = some o ∧ blk (fun k => gv (toOut M 1000 d k)) id = some b, hJ⟩ (mOf M') gv1 w' b → Imm E m1 gv2 w' b := by
    rintro b ⟨h1, h2, h3⟩
    refine ⟨?_, h2, fun i o hi hb => ?_⟩
    · rcases h1 with h1 | h1
      · exact h1.1
      · exact .inr (Nat.le_trans hr.size h1)
    · rcases hcase i o hi with ⟨k, o', k1, k2, k3, k4⟩ | ⟨k1, k2, k3, k4⟩
      · refine h3 k o' k1 ?_
        simpa [blk, k4] using hb
      · have hb' : blk gv i = some b := by simpa [blk, k2] using hb
        rcases h1 with h1 | h1
        · exact h1.2.2 i o k1 hb'
        · have := (hr.own i o b k1 hb').1
          have h1 : w.heap.size ≤ b := h1
          omega
  have himm0 : ∀ b, Imm E σ.m gv w b → Imm E m1 gv2 w' b ∧ w'.heap[b]? = w.heap[b]? := by
    intro b hb
    refine ⟨⟨hb.1, Nat.lt_of_lt_of_le hb.2.1 hrel.size, fun i o hi hbk => ?_⟩, himmheap b hb⟩
    rcases hcase i o hi with ⟨k, o', k1, k2, k3, k4⟩ | ⟨k1, k2, k3, k4⟩
    · have hb' : blk gv1 k = some b := by simpa [blk, k4] using hbk
      rcases (hown' k o' b k1 hb').2 with ⟨x, hx, hxb⟩ | h
      · exact hb.2.2 x.1 x.2 (hM x hx) hxb
      · have := hb.2.1; omega
    · exact hb.2.2 i o k1 (by simpa [blk, k2] using hbk)
  have hpers : Pers σ.m gv m1 gv2 := by
    refine ⟨fun i cs hi => ?_, fun i e xs hi => ?_⟩
    · by_cases him : i ∈ M.map (·.1)
      · obtain ⟨x, hx, rfl⟩ := List.mem_map.1 him
        have hl := lent_mk hn hx
        have hxo : x.2 = .box cs := Option.some.inj ((hM x hx).symm.trans hi)
        rw [hxo] at hl
        obtain ⟨cs', h1, h2⟩ := hrel.pers.box _ _ hl
        obtain ⟨h3, h4⟩ := hin _ _ h1
        rw [toOut_toIn him] at h3 h4
        exact ⟨_, h3, by rw [h4, h2]; show (gv (toOut M 1000 d (toIn M 1000 x.1))).1 = _; rw [toOut_toIn him]⟩
      · have : m1 i = σ.m i ∧ gv2 i = gv i := by
          cases hf : M'.find? (fun x => toOut M 1000 d x.1 == i) with
          | none => exact ⟨by rw [hm1, hf], by rw [hgv2, hf]⟩
          | some x =>
            have hxm := List.mem_of_find?_eq_some hf
            have hxe : toOut M 1000 d x.1 = i := by simpa using List.find?_some hf
            rcases hsplit x.1 (List.mem_map.2 ⟨x, hxm, rfl⟩) with ⟨_, _, h, _⟩ | ⟨_, h, h'⟩
            · rw [hxe] at h; exact absurd h him
            · rw [hxe] at h; rw [h, h'] at hi; cases hi
        exact ⟨cs, by rw [this.1]; exact hi, by rw [this.2]⟩
    · by_cases him : i ∈ M.map (·.1)
      · obtain ⟨x, hx, rfl⟩ := List.mem_map.1 him
        have hl := lent_mk hn hx
        have hxo : x.2 = .sl e xs := Option.some.inj ((hM x hx).symm.trans hi)
        rw [hxo] at hl
        obtain ⟨xs', h1, h2, h3⟩ := hrel.pers.sl _ _ _ hl
        obtain ⟨h4, h5⟩ := hin _ _ h1
        rw [toOut_toIn him] at h4 h5
        exact ⟨_, h4, h2, fun he => by rw [h5, h3 he]; show gv (toOut M 1000 d (toIn M 1000 x.1)) = _; rw [toOut_toIn him]⟩
      · have : m1 i = σ.m i ∧ gv2 i = gv i := by
          cases hf : M'.find? (fun x => toOut M 1000 d x.1 == i) with
          | none => exact ⟨by rw [hm1, hf], by rw [hgv2, hf]⟩
          | some x =>
            have hxm := List.mem_of_find?_eq_some hf
            have hxe : toOut M 1000 d x.1 = i := by simpa using List.find?_some hf
            rcases hsplit x.1 (List.mem_map.2 ⟨x, hxm, rfl⟩) with ⟨_, _, h, _⟩ | ⟨_, h, h'⟩
            · rw [hxe] at h; exact absurd h him
            · rw [hxe] at h; rw [h, h'] at hi; cases hi
        exact ⟨xs, by rw [this.1]; exact hi, Nat.le_refl _, fun _ => by rw [this.2]⟩
  refine ⟨gv2, { tape := hrel.tape.trans hr.tape, os := hrel.os.trans hr.os, output := hrel.output.trans hr.output, size := Nat.le_trans hr.size hrel.size, keep := ?_, rep := ?_, own := ?_, inj := ?_, new := ?_, pers := hr.pers.trans hpers, defers := ?_, n := ?_, t := ?_ }⟩
  · intro b hb hBb
    rw [hkeep b (Nat.lt_of_lt_of_le hb hr.size) (fun x hx hxb => ?_), hr.keep b hb hBb]
    rcases (hr.own x.1 x.2 b (hM x hx) hxb).2 with h | h
    · exact hBb h
    · omega
  · intro i o hi
    rcases hcase i o hi with ⟨k, o', k1, rfl, rfl, k4⟩ | ⟨k1, k2, k3, k4⟩
    · exact repO_ren (f := toOut M 1000 d) himm1 k4 (fun id _ ob hob => hin id ob hob) (hrel.rep k o' k1)
    · exact RepO.mono himm0 hpers k2 (fun b hb => hkeep b (hr.own i o b k1 hb).1 fun x hx hxb => k3 (by
        have := hr.inj i x.1 o x.2 b k1 (hM x hx) hb hxb
        rw [this]; exact List.mem_map.2 ⟨x, hx, rfl⟩)) (hr.rep i o k1)
  · intro i o b hi hb
    rcases hcase i o hi with ⟨k, o', k1, k2, k3, k4⟩ | ⟨k1, k2, k3, k4⟩
    · obtain ⟨h1, h2⟩ := hown' k o' b k1 (by simpa [blk, k4] using hb)
      refine ⟨h1, ?_⟩
      rcases h2 with ⟨x, hx, hxb⟩ | h2
      · exact (hr.own x.1 x.2 b (hM x hx) hxb).2
      · exact .inr (Nat.le_trans hr.size h2)
    · obtain ⟨h1, h2⟩ := hr.own i o b k1 (by simpa [blk, k2] using hb)
      exact ⟨Nat.lt_of_lt_of_le h1 hrel.size, h2⟩
  · intro i i' o o' b hi hi' hb hb'
    have mixed : ∀ i i' o o', (∃ k o2, mOf M' k = some o2 ∧ i = toOut M 1000 d k ∧ o = renO (toOut M 1000 d) o2 ∧ gv2 i = gv1 k) → (σ.m i' = some o' ∧ gv2 i' = gv i' ∧ i' ∉ M.map (·.1) ∧ ∀ k o2, mOf M' k = some o2 → toOut M 1000 d k ≠ i') → blk gv2 i = some b → blk gv2 i' = some b → False := by
      rintro i i' o o' ⟨k, o2, k1, k2, k3, k4⟩ ⟨l1, l2, l3, l4⟩ hb hb'
      have hb2 : blk gv i' = some b := by simpa [blk, l2] using hb'
      rcases (hown' k o2 b k1 (by simpa [blk, k4] using hb)).2 with ⟨x, hx, hxb⟩ | h
      · have := hr.inj i' x.1 o' x.2 b l1 (hM x hx) hb2 hxb
        exact l3 (by rw [this]; exact List.mem_map.2 ⟨x, hx, rfl⟩)
      · have := (hr.own i' o' b l1 hb2).1; omega
    rcases hcase i o hi with hk | hk <;> rcases hcase i' o' hi' with hl | hl
    · obtain ⟨k, o2, k1, k2, k3, k4⟩ := hk
      obtain ⟨l, o3, l1, l2, l3, l4⟩ := hl
      have := hrel.inj k l o2 o3 b k1 l1 (by simpa [blk, k4] using hb) (by simpa [blk, l4] using hb')
      rw [k2, l2, this]
    · exact (mixed i i' o o' hk hl hb hb').elim
    · exact (mixed i' i o' o hl hk hb' hb).elim
    · exact hr.inj i i' o o' b hk.1 hl.1 (by simpa [blk, hk.2.1] using hb) (by simpa [blk, hl.2.1] using hb')
  · intro i o b hi hb
    rcases hcase i o hi with ⟨k, o', k1, k2, k3, k4⟩ | ⟨k1, k2, k3, k4⟩
    · rcases hrel.new k o' b k1 (by simpa [blk, k4] using hb) with h | ⟨⟨o0, h1⟩, h2⟩
      · exact .inl (Nat.le_trans hr.size h)
      · obtain ⟨_, _, o2, h3, _, _⟩ := lent_get hM h1 (d := d)
        rw [k2]
        exact hr.new _ o2 b h3 h2
    · exact hr.new i o b k1 (by simpa [blk, k2] using hb)
  · cases dst <;> exact hr.defers
  · cases dst <;> simp [Act.put, hr.n]
  · intro i
    rw [put_get hr.n hdst]
    have hold : RepV T w' (Imm E m1 gv2 w') m1 gv2 (σ.t i) (a.tmps.getD i undef) := RepV.mono himm0 hpers (hr.t i)
    have hres : RepV T w' (Imm E m1 gv2 w') m1 gv2 (renV (toOut M 1000 d) r) v := repV_ren (f := toOut M 1000 d) himm1 (fun id _ ob hob => hin id ob hob) hv
    cases dst with
    | none => simp only [reduceCtorEq, if_false]; exact hold
    | some k =>
      simp only [Option.some.injEq, St.app, upd, putT]
      by_cases h : k = i
      · subst h; simp only [if_true]; exact hres
      · rw [if_neg h, if_neg (fun e => h e.symm)]; exact hold

theorem sound_call {o : Oper} {f : Operand} {args : Array Operand} {ats : Array Nat} {wr : Wr} {fp : List Loc} (hr : RelG T E N gv σ a w) (hdst : ∀ i, o.dst = some i → i < N)
    (ho : o.op = .call { callee := .value f, args := args, argTypes := ats })
    (h : Run (ConSem P T) (callR o.dst (σ.ev f) (args.toList.map σ.ev)) σ wr fp) : Sound P T E N σ a w o wr := by
  have hf := ev_rep hr f
  unfold callR at h
  split at h
  · rename_i g hfv
    rw [hfv] at hf
    have hf' : a.eval f = .func (.func g) #[] #[] := rp_func hf
    obtain ⟨M, fp1, h, hM, hn, hcl, htodo⟩ := gather_run 64 _ [] _ h (by simp) (by simp) (by simp)
    obtain ⟨r, M', ⟨⟨fn, h1, h2, h3⟩, hcon⟩, h⟩ := h
    -- the state that the callee begins with, whatever the name for what is new
    have key : ∀ d, (∀ x ∈ M', (1000 ≤ x.1 ∧ x.1 < 1000 + M.length) ∨ (σ.m d = none ∧ ∀ y ∈ M', ¬ (1000 ≤ y.1 ∧ y.1 < 1000 + M.length) → y.1 = x.1)) →
        Sound P T E N σ a w o ⟨renV (toOut M 1000 d) r, (M'.map fun x => (toOut M 1000 d x.1, renO (toOut M 1000 d) x.2)).reverse⟩ := by
      intro d hnew
      have hget : ∀ id o, mOf (lentIn M 1000 M) id = some o → 1000 ≤ id ∧ id < 1000 + M.length ∧ ∃ o', σ.m (toOut M 1000 d id) = some o' ∧ o = renO (toIn M 1000) o' ∧ (toOut M 1000 d id, o') ∈ M := fun id o h => lent_get hM h
      have hJ : ∀ b, Imm E σ.m gv w b → b < w.heap.size ∧ ¬ ∃ id o, mOf (lentIn M 1000 M) id = some o ∧ blk (fun k => gv (toOut M 1000 d k)) id = some b := by
        refine fun b hb => ⟨hb.2.1, ?_⟩
        rintro ⟨id, o, h4, h5⟩
        obtain ⟨_, _, o', h6, _, _⟩ := hget id o h4
        exact hb.2.2 _ _ h6 h5
      have hin : ∀ id ∈ M.map (·.1), ∀ ob, σ.m id = some ob → mOf (lentIn M 1000 M) (toIn M 1000 id) = some (renO (toIn M 1000) ob) ∧ gv (toOut M 1000 d (toIn M 1000 id)) = gv id := by
        intro id hid ob hob
        obtain ⟨x, hx, rfl⟩ := List.mem_map.1 hid
        have : x.2 = ob := Option.some.inj ((hM x hx).symm.trans hob)
        exact ⟨by rw [← this]; exact lent_mk hn hx, by rw [toOut_toIn hid]⟩
      have hrel : RelM T ⟨w, mOf (lentIn M 1000 M), fun k => gv (toOut M 1000 d k), Imm E σ.m gv w, fun b => ∃ id o, mOf (lentIn M 1000 M) id = some o ∧ blk (fun k => gv (toOut M 1000 d k)) id = some b, hJ⟩ (fun k => gv (toOut M 1000 d k)) (mOf (lentIn M 1000 M)) w := by
        refine ⟨rfl, rfl, rfl, Nat.le_refl _, fun _ _ _ => rfl, fun id o h4 => ?_, fun id o b h4 h5 => ?_, fun id id' o o' b h4 h5 h6 h7 => ?_, fun id o b h4 h5 => ?_, Pers.refl _ _⟩
        · obtain ⟨h5, h6, o', h7, rfl, h8⟩ := hget id o h4
          have hid : toOut M 1000 d id ∈ M.map (·.1) := List.mem_map.2 ⟨_, h8, rfl⟩
          have e := (toIn_toOut hn h5 h6 (d := d)).2
          have := repO_ren (f := toIn M 1000) (m' := mOf (lentIn M 1000 M)) (gv' := fun k => gv (toOut M 1000 d k)) (I' := Imm ⟨w, mOf (lentIn M 1000 M), fun k => gv (toOut M 1000 d k), Imm E σ.m gv w, fun b => ∃ id o, mOf (lentIn M 1000 M) id = some o ∧ blk (fun k => gv (toOut M 1000 d k)) id = some b, hJ⟩ (mOf (lentIn M 1000 M)) (fun k => gv (toOut M 1000 d k)) w)
            (fun b hb => ⟨.inl hb, hb.2.1, fun i o hi hb' => (hJ b hb).2 ⟨i, o, hi, hb'⟩⟩) (by show gv _ = _; rw [e]) (fun i hi => hin i (hcl _ h8 i hi)) (hr.rep _ _ h7)
          rw [e] at this; exact this
        · obtain ⟨_, _, o', h7, _, _⟩ := hget id o h4
          exact ⟨(hr.own _ _ b h7 h5).1, .inl ⟨id, o, h4, h5⟩⟩
        · obtain ⟨a1, a2, o1, a3, _, _⟩ := hget id o h4
          obtain ⟨b1, b2, o2, b3, _, _⟩ := hget id' o' h5
          have := hr.inj _ _ _ _ b a3 b3 h6 h7
          rw [← (toIn_toOut hn a1 a2 (d := d)).2, ← (toIn_toOut hn b1 b2 (d := d)).2, this]
        · exact .inr ⟨⟨o, h4⟩, h5⟩
      have hc := hcon w (fun k => gv (toOut M 1000 d k)) (Imm E σ.m gv w) (args.map a.eval) hJ hrel (by simp) (fun k x v hx hv => by
        simp only [List.getElem?_map, Array.getElem?_toList] at hx
        simp only [Array.getElem?_map] at hv
        cases hk : args[k]? with
        | none => simp [hk] at hx
        | some z =>
          simp [hk] at hx hv
          subst hx; subst hv
          refine repV_ren (fun b hb => hb) (fun id hid => hin id (htodo id (.inr ?_))) (ev_rep hr z)
          exact List.mem_flatMap.2 ⟨_, List.mem_map.2 ⟨z, by simpa using Array.mem_of_getElem? hk, rfl⟩, hid⟩)
      intro next Q hnx
      unfold Oper.wp
      rw [run_call ho hf' h1 h2 h3]
      refine Calls.mono hc ?_
      rintro e w' ⟨v, gv1, rfl, hrel', hv⟩
      obtain ⟨gv2, hfin⟩ := call_back hr hdst hM hn hJ hrel' hv hnew
      exact hnx gv2 _ _ hfin
    unfold afterR at h
    split at h
    · rename_i hnew
      obtain ⟨rfl, _⟩ := h
      exact key 0 fun x hx => .inl (newIn_nil hnew hx)
    · rename_i k hnew
      split at h
      · exact h.elim
      · rename_i d hd
        obtain ⟨fp2, rfl, h⟩ := h
        dsimp only at h
        split at h
        · exact h.elim
        · rename_i hmd
          obtain ⟨rfl, _⟩ := h
          refine key d fun x hx => ?_
          rcases newIn_one hnew hx with h | h
          · exact .inl h
          · exact .inr ⟨hmd, fun y hy hny => ((newIn_one hnew hy).resolve_left hny).trans h.symm⟩
    · exact h.elim
  · exact h.elim

include hT
/-- ALL OPERATIONS. -/
theorem sound_op {o : Oper} {wr : Wr} {fp : List Loc} (hr : RelG T E N gv σ a w) (hdst : ∀ i, o.dst = some i → i < N) (h : Run (ConSem P T) (opR T o) σ wr fp) : Sound P T E N σ a w o wr := by
  unfold opR at h
  split at h
  · rename_i x ho; obtain ⟨_, rfl, _⟩ := run_evR h; exact sound_move hr hdst (.inl ho)
  · rename_i x ho; obtain ⟨_, rfl, _⟩ := run_evR h; exact sound_move hr hdst (.inr ho)
  · rename_i c x y ho
    obtain ⟨fp1, h⟩ := run_evR h
    split at h
    · rename_i q hq; exact sound_pick hr hdst ho hq h
    · exact h.elim
  · rename_i e ho; exact sound_alloc hT hr hdst ho h
  · rename_i e x ho; obtain ⟨fp1, h⟩ := run_evR h; exact sound_box hr hdst ho h
  · rename_i t parts ho; obtain ⟨fp1, h⟩ := run_evL h; exact sound_build hT hr hdst ho h
  · rename_i t n parts ho; obtain ⟨fp1, h⟩ := run_evL h; exact sound_buildSlice hT hr hdst ho h
  · rename_i t x ho; obtain ⟨fp1, h⟩ := run_evR h; exact sound_load hT hr hdst ho h
  · rename_i t x y ho; obtain ⟨fp1, h⟩ := run_evR h; obtain ⟨fp2, h⟩ := run_evR h; exact sound_store hT hr hdst ho h
  · rename_i x ho; obtain ⟨fp1, h⟩ := run_evR h; exact sound_nilCheck hr hdst ho h
  · rename_i op t x y u ho; obtain ⟨fp1, h⟩ := run_evR h; obtain ⟨fp2, h⟩ := run_evR h; exact sound_bin hT hr hdst ho h
  · rename_i t x ho; obtain ⟨fp1, h⟩ := run_evR h; exact sound_unOp_not hr hdst ho h
  · rename_i t x ho; obtain ⟨fp1, h⟩ := run_evR h; exact sound_unOp_neg hr hdst ho h
  · rename_i s d x ho; obtain ⟨fp1, h⟩ := run_evR h; exact sound_convert hT hr hdst ho h
  · rename_i t x y ho; obtain ⟨fp1, h⟩ := run_evR h; obtain ⟨fp2, h⟩ := run_evR h; exact sound_make hT hr hdst ho h
  · rename_i t x lo hi ho
    obtain ⟨fp1, h⟩ := run_evR h
    cases lo with
    | none =>
      cases hi with
      | none => exact sound_slice hT hr hdst ho h
      | some hi => obtain ⟨fp2, h⟩ := run_evR h; exact sound_slice hT hr hdst ho h
    | some lo =>
      cases hi with
      | none => obtain ⟨fp2, h⟩ := run_evR h; exact sound_slice hT hr hdst ho h
      | some hi => obtain ⟨fp2, h⟩ := run_evR h; obtain ⟨fp3, h⟩ := run_evR h; exact sound_slice hT hr hdst ho h
  · rename_i t x f ho; obtain ⟨fp1, h⟩ := run_evR h; exact sound_field hT hr hdst ho h
  · rename_i t x y ho; obtain ⟨fp1, h⟩ := run_evR h; obtain ⟨fp2, h⟩ := run_evR h; exact sound_idx hT hr hdst ho h
  · rename_i t x y ho; obtain ⟨fp1, h⟩ := run_evR h; obtain ⟨fp2, h⟩ := run_evR h; exact sound_index hT hr hdst ho h
  · rename_i t x f ho; obtain ⟨fp1, h⟩ := run_evR h; exact sound_fieldV hT hr hdst ho h
  · rename_i x i ho; obtain ⟨fp1, h⟩ := run_evR h; exact sound_extract hr hdst ho h
  · rename_i args ats ho
    split at h
    · rename_i x t hx ht
      obtain ⟨fp1, h⟩ := run_evR h
      have e1 : args = #[x] := by rw [← Array.toArray_toList (xs := args), hx]
      have e2 : ats = #[t] := by rw [← Array.toArray_toList (xs := ats), ht]
      subst e1; subst e2
      exact sound_len hT hr hdst ho h
    · exact h.elim
  · rename_i args ats ho
    split at h
    · rename_i x y t u hx ht
      obtain ⟨fp1, h⟩ := run_evR h; obtain ⟨fp2, h⟩ := run_evR h
      have e1 : args = #[x, y] := by rw [← Array.toArray_toList (xs := args), hx]
      have e2 : ats = #[t, u] := by rw [← Array.toArray_toList (xs := ats), ht]
      subst e1; subst e2
      split at h
      · rename_i hu; subst hu; exact sound_append hT hr hdst ho h
      · exact h.elim
    · exact h.elim
  · rename_i args ats ho
    split at h
    · rename_i x y hx
      obtain ⟨fp1, h⟩ := run_evR h; obtain ⟨fp2, h⟩ := run_evR h
      have e1 : args = #[x, y] := by rw [← Array.toArray_toList (xs := args), hx]
      subst e1
      exact sound_min hr hdst ho h
    · exact h.elim
  · rename_i args ats ho
    split at h
    · rename_i x y hx
      obtain ⟨fp1, h⟩ := run_evR h; obtain ⟨fp2, h⟩ := run_evR h
      have e1 : args = #[x, y] := by rw [← Array.toArray_toList (xs := args), hx]
      subst e1
      exact sound_max hr hdst ho h
    · exact h.elim
  · rename_i f args ats ho
    obtain ⟨fp1, h⟩ := run_evR h; obtain ⟨fp2, h⟩ := run_evL h
    exact sound_call hr hdst ho h
  · exact h.elim
end
end Go.AW
