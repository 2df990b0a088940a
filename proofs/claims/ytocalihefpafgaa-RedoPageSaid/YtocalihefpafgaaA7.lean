/- The soundness of the abstract operations: binary operations, literals, slices, append, calls. -/
import Derived.Test.YtocalihefpafgaaA6
import Derived.Laws.StructEq
import Derived.Laws.Strings
import Derived.Laws.Small
set_option linter.unusedVariables false
set_option linter.unusedSimpArgs false
namespace Go.AW

section
variable {P : Program} {T : Tab} {E : Env} {N : Nat} {gv : GV} {σ : St} {a : Act} {w : World}

theorem beq_bytes (s t : ByteArray) : (s.toList == t.toList) = decide (s = t) := by
  rw [ByteArray.toList_eq, ByteArray.toList_eq]
  by_cases h : s = t
  · subst h; simp
  · have : ¬ s.data.toList = t.data.toList := fun e => h (by
      obtain ⟨⟨x⟩⟩ := s; obtain ⟨⟨y⟩⟩ := t; simp at e; subst e; rfl)
    rw [decide_eq_false h]
    simpa using this

theorem prims_of {cs : List Ce} {vs : List Value} {I : Nat → Prop} {m : Nat → Option Obj} {qs : List PV} (h : RepL T w I m gv cs vs) (hp : pureL cs = some qs) (hq : ∀ q ∈ qs, primP q = true) : vs = qs.map pvVal := by
  have := pureL_map hp
  subst this
  apply List.ext_getElem?
  intro k
  have hl := h.1
  simp at hl
  by_cases hk : k < qs.length
  · have h1 : vs[k]? = some (vs[k]'(by omega)) := by simp [show k < vs.length by omega]
    have h2 : qs[k]? = some qs[k] := by simp [hk]
    rw [h1, List.getElem?_map, h2]
    have := h.2 k (.p qs[k]) _ (by simp [h2]) h1
    simp [repP_prim this (hq _ (List.getElem_mem hk))]
  · simp [hk, show ¬ k < vs.length by omega]

theorem like_prim : ∀ {xs zs : List PV}, likeL xs zs = true → ∀ q ∈ xs, primP q = true
  | [], _, _, q, hq => by cases hq
  | x :: xs, [], h, _, _ => by simp [likeL] at h
  | x :: xs, z :: zs, h, q, hq => by
    simp only [likeL, Bool.and_eq_true] at h
    rcases List.mem_cons.1 hq with rfl | hq
    · revert h; cases q <;> cases z <;> simp [likeP, primP]
    · exact like_prim h.2 q hq

theorem run_eq_ptr (d : Nat) {t e : TypeId} (h : P.underlying t = some (.pointer e)) (p : Option Addr) : (Op.equalIn (d + 1) t (.pointer p) (.pointer none)).run P w = .ok p.isNone w := by
  cases p <;> simp only [Op.equalIn, Sem.run_bind, run_underlying h, Result.andThen_ok] <;> rfl
theorem run_equal_ptr {t e : TypeId} (h : P.underlying t = some (.pointer e)) (p : Option Addr) : (Op.equal t (.pointer p) (.pointer none)).run P w = .ok p.isNone w := run_eq_ptr 9999 h p
theorem run_eq_func (d : Nat) {t : TypeId} {as bs : Array TypeId} {b : Bool} (h : P.underlying t = some (.func as bs b)) (f : Fn) (x y : Array Value) : (Op.equalIn (d + 1) t (.func f x y) .nilFunc).run P w = .ok false w := by
  simp only [Op.equalIn, Sem.run_bind, run_underlying h, Result.andThen_ok]; rfl
theorem run_equal_func {t : TypeId} {as bs : Array TypeId} {b : Bool} (h : P.underlying t = some (.func as bs b)) (f : Fn) (x y : Array Value) : (Op.equal t (.func f x y) .nilFunc).run P w = .ok false w := run_eq_func 9999 h f x y

theorem run_eq_sl (d : Nat) {t e : TypeId} (h : P.underlying t = some (.slice e)) (p : Option Addr) (n c : Nat) : (Op.equalIn (d + 1) t (.slice p n c) (.slice none 0 0)).run P w = .ok p.isNone w := by
  cases p <;> simp only [Op.equalIn, Sem.run_bind, run_underlying h, Result.andThen_ok] <;> rfl
theorem run_equal_sl {t e : TypeId} (h : P.underlying t = some (.slice e)) (p : Option Addr) (n c : Nat) : (Op.equal t (.slice p n c) (.slice none 0 0)).run P w = .ok p.isNone w := run_eq_sl 9999 h p n c

variable (hT : TabOk P T)
include hT

theorem sound_bin {o : Oper} {op : BinOp} {t u : Nat} {x y : Operand} {wr : Wr} {fp : List Loc} {C : Con} (hr : RelG T E N gv σ a w) (hdst : ∀ i, o.dst = some i → i < N) (ho : o.op = .binOp op t x y u)
    (h : Run C (binR T op t (σ.ev x) (σ.ev y)) σ wr fp) : Sound P T E N σ a w o wr := by
  have hx := ev_rep hr x
  have hy := ev_rep hr y
  have hex : (execOp a.eval o).run P w = ((do eqGuard op t x y (a.eval x) (a.eval y); binOp op t (a.eval x) (a.eval y) : Sem Value).run P w).andThen fun v w' => .ok (.value v) w' := by
    simp only [execOp, ho, Sem.run_bind]
    cases (eqGuard op t x y (a.eval x) (a.eval y)).run P w <;> rfl
  unfold binR at h
  split at h
  · rename_i k n k' n' hxv hyv
    rw [hxv] at hx
    rw [hyv] at hy
    have h1 : a.eval x = .int k n := rp_int hx
    have h2 : a.eval y = .int k' n' := rp_int hy
    rw [h1, h2] at hex
    split at h
    · rename_i hk
      subst hk
      split at h
      · rename_i r hr'
        refine sound_ret hr hdst h (u := .int k r) ?_ (RepP.int _ _)
        rw [hex]
        cases op <;> simp [arI] at hr' <;> subst hr' <;> simp [eqGuard, binOp, Op.intArith]
      · split at h
        · rename_i q hq
          refine sound_ret hr hdst h (u := .bool q) ?_ (RepP.bool _)
          rw [hex]
          cases op <;> simp only [cmpI, Option.some.injEq, reduceCtorEq] at hq <;> subst hq <;> simp [eqGuard, binOp, Op.intCmp] <;> rfl
        · split at h
          · obtain ⟨hn, h⟩ := h
            refine sound_ret hr hdst h (u := .int k (n.tmod n')) ?_ (RepP.int _ _)
            rw [hex]; simp [eqGuard, binOp, Op.intDiv, hn]
          · obtain ⟨hn, h⟩ := h
            refine sound_ret hr hdst h (u := .int k (k.wrap (n.tdiv n'))) ?_ (RepP.int _ _)
            rw [hex]; simp [eqGuard, binOp, Op.intDiv, hn]
          · exact h.elim
    · exact h.elim
  · rename_i s s' hxv hyv
    rw [hxv] at hx
    rw [hyv] at hy
    have h1 : a.eval x = .string s := rp_str hx
    have h2 : a.eval y = .string s' := rp_str hy
    rw [h1, h2] at hex
    split at h
    · refine sound_ret hr hdst h ?_ (RepP.bool _)
      rw [hex]; simp [eqGuard, binOp, Op.stringOp, beq_bytes]
    · refine sound_ret hr hdst h ?_ (RepP.bool _)
      rw [hex]; simp [eqGuard, binOp, Op.stringOp, beq_bytes]
    · exact h.elim
  · rename_i b b' hxv hyv
    rw [hxv] at hx
    rw [hyv] at hy
    have h1 : a.eval x = .bool b := rp_bool hx
    have h2 : a.eval y = .bool b' := rp_bool hy
    rw [h1, h2] at hex
    have hrun : (T t).d = .bool → (Op.equal t (.bool b) (.bool b')).run P w = .ok (b == b') w := by
      intro hd
      obtain ⟨ds, h3, h4, h5⟩ := run_underlying_T hT (t := t) (by rw [hd]; simp)
      rw [hd] at h3
      cases ds <;> simp [descOk] at h3
      exact run_equal_bool w t b b' h4
    split at h
    · rename_i hd
      refine sound_ret hr hdst h ?_ (RepP.bool _)
      rw [hex]; simp [eqGuard, binOp, hrun hd]
    · rename_i hd
      refine sound_ret hr hdst h ?_ (RepP.bool _)
      rw [hex]; simp [eqGuard, binOp, hrun hd]
    · exact h.elim
  · rename_i xs ys hxv hyv
    rw [hxv] at hx
    rw [hyv] at hy
    obtain ⟨xa, h1, hxl⟩ := hx
    obtain ⟨ya, h2, hyl⟩ := hy
    rw [h1, h2] at hex
    split at h
    · rename_i heq
      split at h
      · rename_i qx qy hqx hqy
        obtain ⟨⟨hne, l1, l2⟩, h⟩ := h
        have e1 : xa = (qx.map pvVal).toArray := by rw [← prims_of hxl hqx (like_prim l1)]
        have e2 : ya = (qy.map pvVal).toArray := by rw [← prims_of hyl hqy (like_prim l2)]
        obtain ⟨hh1, hh2⟩ := (hT t hne).eq heq qx qy l1 l2 x y w
        rw [← e1, ← e2] at hh1 hh2
        split at h
        · exact sound_ret hr hdst h (by rw [hex, hh1]; rfl) (RepP.bool _)
        · exact sound_ret hr hdst h (by rw [hex, hh2]; rfl) (RepP.bool _)
        · exact h.elim
      · exact h.elim
    · exact h.elim
  · rename_i hxv hyv
    rw [hxv] at hx
    rw [hyv] at hy
    have h1 : a.eval x = .pointer none := rp_nilp hx
    have h2 : a.eval y = .pointer none := rp_nilp hy
    rw [h1, h2] at hex
    have hrun : ∀ e, (T t).d = .ptr e → (Op.equal t (.pointer none) (.pointer none)).run P w = .ok true w := by
      intro e hd
      obtain ⟨ds, h3, h4, h5⟩ := run_underlying_T hT (t := t) (by rw [hd]; simp)
      rw [hd] at h3
      cases ds <;> simp [descOk] at h3
      exact run_equal_ptr h4 _
    split at h
    · rename_i e hd
      refine sound_ret hr hdst h ?_ (RepP.bool _)
      rw [hex]; simp [eqGuard, binOp, hrun e hd]
    · rename_i e hd
      refine sound_ret hr hdst h ?_ (RepP.bool _)
      rw [hex]; simp [eqGuard, binOp, hrun e hd]
    · exact h.elim
  · rename_i id off hxv hyv
    rw [hxv] at hx
    rw [hyv] at hy
    obtain ⟨b, cs, _, _, h1⟩ := hx
    have h2 : a.eval y = .pointer none := rp_nilp hy
    rw [h1, h2] at hex
    have hrun : ∀ e, (T t).d = .ptr e → (Op.equal t (.pointer (some ⟨b, off, none⟩)) (.pointer none)).run P w = .ok false w := by
      intro e hd
      obtain ⟨ds, h3, h4, h5⟩ := run_underlying_T hT (t := t) (by rw [hd]; simp)
      rw [hd] at h3
      cases ds <;> simp [descOk] at h3
      exact run_equal_ptr h4 _
    split at h
    · rename_i e hd
      refine sound_ret hr hdst h ?_ (RepP.bool _)
      rw [hex]; simp [eqGuard, binOp, hrun e hd]
    · rename_i e hd
      refine sound_ret hr hdst h ?_ (RepP.bool _)
      rw [hex]; simp [eqGuard, binOp, hrun e hd]
    · exact h.elim
  · rename_i f hxv hyv
    rw [hxv] at hx
    rw [hyv] at hy
    have h1 : a.eval x = .func (.func f) #[] #[] := rp_func hx
    have h2 : a.eval y = .nilFunc := rp_nilf hy
    rw [h1, h2] at hex
    have hrun : (T t).d = .func → (Op.equal t (.func (.func f) #[] #[]) .nilFunc).run P w = .ok false w := by
      intro hd
      obtain ⟨ds, h3, h4, h5⟩ := run_underlying_T hT (t := t) (by rw [hd]; simp)
      rw [hd] at h3
      cases ds <;> simp [descOk] at h3
      exact run_equal_func h4 _ _ _
    split at h
    · rename_i hd
      refine sound_ret hr hdst h ?_ (RepP.bool _)
      rw [hex]; simp [eqGuard, binOp, hrun hd]
    · rename_i hd
      refine sound_ret hr hdst h ?_ (RepP.bool _)
      rw [hex]; simp [eqGuard, binOp, hrun hd]
    · exact h.elim
  · rename_i hxv hyv
    rw [hxv] at hx
    rw [hyv] at hy
    have h1 : a.eval x = .slice none 0 0 := rp_nilsl hx
    have h2 : a.eval y = .slice none 0 0 := rp_nilsl hy
    rw [h1, h2] at hex
    have hrun : ∀ e, (T t).d = .sl e → (Op.equal t (.slice none 0 0) (.slice none 0 0)).run P w = .ok true w := by
      intro e hd
      obtain ⟨ds, h3, h4, h5⟩ := run_underlying_T hT (t := t) (by rw [hd]; simp)
      rw [hd] at h3
      cases ds <;> simp [descOk] at h3
      exact run_equal_sl h4 _ _ _
    split at h
    · rename_i e hd
      refine sound_ret hr hdst h ?_ (RepP.bool _)
      rw [hex]; simp [eqGuard, binOp, hrun e hd]
    · rename_i e hd
      refine sound_ret hr hdst h ?_ (RepP.bool _)
      rw [hex]; simp [eqGuard, binOp, hrun e hd]
    · exact h.elim
  · rename_i hxv hyv
    rw [hxv] at hx
    rw [hyv] at hy
    obtain ⟨p, c, h1⟩ := rp_nesl hx
    have h2 : a.eval y = .slice none 0 0 := rp_nilsl hy
    rw [h1, h2] at hex
    have hrun : ∀ e, (T t).d = .sl e → (Op.equal t (.slice (some p) 0 c) (.slice none 0 0)).run P w = .ok false w := by
      intro e hd
      obtain ⟨ds, h3, h4, h5⟩ := run_underlying_T hT (t := t) (by rw [hd]; simp)
      rw [hd] at h3
      cases ds <;> simp [descOk] at h3
      exact run_equal_sl h4 _ _ _
    split at h
    · rename_i e hd
      refine sound_ret hr hdst h ?_ (RepP.bool _)
      rw [hex]; simp [eqGuard, binOp, hrun e hd]
    · rename_i e hd
      refine sound_ret hr hdst h ?_ (RepP.bool _)
      rw [hex]; simp [eqGuard, binOp, hrun e hd]
    · exact h.elim
  · rename_i z zs hxv hyv
    rw [hxv] at hx
    rw [hyv] at hy
    obtain ⟨p, n, c, h1⟩ : ∃ p n c, a.eval x = .slice (some p) n c := by
      have hx : RepP w (Imm E σ.m gv w) (.slice (z :: zs)) (a.eval x) := hx
      generalize a.eval x = xv at hx
      cases hx; exact ⟨_, _, _, rfl⟩
    have h2 : a.eval y = .slice none 0 0 := rp_nilsl hy
    rw [h1, h2] at hex
    have hrun : ∀ e, (T t).d = .sl e → (Op.equal t (.slice (some p) n c) (.slice none 0 0)).run P w = .ok false w := by
      intro e hd
      obtain ⟨ds, h3, h4, h5⟩ := run_underlying_T hT (t := t) (by rw [hd]; simp)
      rw [hd] at h3
      cases ds <;> simp [descOk] at h3
      exact run_equal_sl h4 _ _ _
    split at h
    · rename_i e hd
      refine sound_ret hr hdst h ?_ (RepP.bool _)
      rw [hex]; simp [eqGuard, binOp, hrun e hd]
    · rename_i e hd
      refine sound_ret hr hdst h ?_ (RepP.bool _)
      rw [hex]; simp [eqGuard, binOp, hrun e hd]
    · exact h.elim
  · rename_i id n' hxv hyv
    rw [hxv] at hx
    rw [hyv] at hy
    obtain ⟨h0, e', xs, hm, hn1, hn2⟩ := hx
    obtain ⟨fp', rfl, h⟩ := h
    simp only [hm] at h
    obtain ⟨⟨hnn, hn0⟩, h⟩ := h
    obtain ⟨hz, vs, ⟨ho1, ho2⟩, hvs⟩ := hr.rep id _ hm
    have hv := hn2 hnn
    obtain ⟨p, c, h1⟩ : ∃ p c, a.eval x = .slice (some p) n' c := by
      rcases ho2 with ⟨_, hx0⟩ | ⟨g, cap, cur, hv2, _⟩
      · exact absurd (hnn.trans hx0) hn0
      · simp at hv2
        rw [hv, hv2.1]; exact ⟨_, _, rfl⟩
    have h2 : a.eval y = .slice none 0 0 := rp_nilsl hy
    rw [h1, h2] at hex
    have hrun : ∀ e, (T t).d = .sl e → (Op.equal t (.slice (some p) n' c) (.slice none 0 0)).run P w = .ok false w := by
      intro e hd
      obtain ⟨ds, h3, h4, h5⟩ := run_underlying_T hT (t := t) (by rw [hd]; simp)
      rw [hd] at h3
      cases ds <;> simp [descOk] at h3
      exact run_equal_sl h4 _ _ _
    split at h
    · rename_i e hd
      refine sound_ret hr hdst h ?_ (RepP.bool _)
      rw [hex]; simp [eqGuard, binOp, hrun e hd]
    · rename_i e hd
      refine sound_ret hr hdst h ?_ (RepP.bool _)
      rw [hex]; simp [eqGuard, binOp, hrun e hd]
    · exact h.elim
  · exact h.elim
end
end Go.AW
