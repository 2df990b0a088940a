/- The soundness of the abstract operations: make, slices of slices, append, calls; all operations in one. -/
import Derived.Test.YtocalihefpafgaaA8
set_option linter.unusedVariables false
set_option linter.unusedSimpArgs false
namespace Go.AW

theorem flatten_take {α : Type} : ∀ (xs : List (List α)) (sz : Nat), (∀ x ∈ xs, x.length = sz) → ∀ n, (xs.take n).flatten = xs.flatten.take (n * sz)
  | [], sz, _, n => by simp
  | x :: r, sz, hz, 0 => by simp
  | x :: r, sz, hz, n + 1 => by
    have hx : x.length = sz := hz x (by simp)
    rw [List.take_succ_cons, List.flatten_cons, List.flatten_cons, flatten_take r sz (fun y hy => hz y (by simp [hy])) n, show (n + 1) * sz = x.length + n * sz by rw [Nat.succ_mul, hx]; omega, List.take_length_add_append]
theorem flatten_drop {α : Type} : ∀ (xs : List (List α)) (sz : Nat), (∀ x ∈ xs, x.length = sz) → ∀ n, (xs.drop n).flatten = xs.flatten.drop (n * sz)
  | [], sz, _, n => by simp
  | x :: r, sz, hz, 0 => by simp
  | x :: r, sz, hz, n + 1 => by
    have hx : x.length = sz := hz x (by simp)
    rw [List.drop_succ_cons, List.flatten_cons, flatten_drop r sz (fun y hy => hz y (by simp [hy])) n, show (n + 1) * sz = x.length + n * sz by rw [Nat.succ_mul, hx]; omega, List.drop_length_add_append]

section
variable {P : Program} {T : Tab} {E : Env} {N : Nat} {gv : GV} {σ : St} {a : Act} {w : World} (hT : TabOk P T)

theorem sound_pick {o : Oper} {c x y : Operand} {wr : Wr} {fp : List Loc} {C : Con} (hr : RelG T E N gv σ a w) (hdst : ∀ i, o.dst = some i → i < N) (ho : o.op = .pick c x y) {q : Bool} (hq : σ.ev c = .one (.p (.bool q)))
    (h : Run C (if q then evR x fun v => .ret ⟨v, []⟩ else evR y fun v => .ret ⟨v, []⟩) σ wr fp) : Sound P T E N σ a w o wr := by
  have hc := ev_rep hr c
  rw [hq] at hc
  have hc' : a.eval c = .bool q := rp_bool hc
  cases q with
  | true =>
    simp only [if_true] at h
    obtain ⟨fp', rfl, _⟩ := run_evR h
    exact sound_value hr hdst (u := a.eval x) (by simp [execOp, ho, hc', asBool]) (ev_rep hr x)
  | false =>
    simp only [Bool.false_eq_true, if_false] at h
    obtain ⟨fp', rfl, _⟩ := run_evR h
    exact sound_value hr hdst (u := a.eval y) (by simp [execOp, ho, hc', asBool]) (ev_rep hr y)

omit hT in
theorem rowsF_get (d e : Nat) (m : Nat → Option Obj) : ∀ (n j : Nat), (((List.range n).map fun i => (rowI d i, Obj.sl e [])).foldl (fun m x => upd m x.1 (some x.2)) m) j = if 1000000 + 1000 * d ≤ j ∧ j < 1000000 + 1000 * d + n then some (.sl e []) else m j
  | 0, j => by simp; intro h; omega
  | n + 1, j => by
    rw [List.range_succ, List.map_append, List.foldl_append]
    simp only [List.map_cons, List.map_nil, List.foldl_cons, List.foldl_nil, upd, rowI]
    by_cases h : j = 1000000 + 1000 * d + n
    · rw [if_pos h, if_pos (by omega)]
    · rw [if_neg h]
      have := rowsF_get d e m n j
      simp only [rowI] at this
      rw [this]
      by_cases h2 : 1000000 + 1000 * d ≤ j ∧ j < 1000000 + 1000 * d + n
      · rw [if_pos h2, if_pos (by omega)]
      · rw [if_neg h2, if_neg (by omega)]

omit hT in
/-- Slices of the call's own, all nil. -/
theorem RelG.rowsNew (hr : RelG T E N gv σ a w) (d e : Nat) : ∀ n, (∀ i, i < n → σ.m (rowI d i) = none) →
    ∃ gv', RelG T E N gv' { t := σ.t, m := ((List.range n).map fun i => (rowI d i, Obj.sl e [])).foldl (fun m x => upd m x.1 (some x.2)) σ.m } a w ∧ ∀ i, i < n → gv' (rowI d i) = (none, 0)
  | 0, _ => ⟨gv, hr, fun i h => by omega⟩
  | n + 1, h => by
    obtain ⟨gv', h1, h2⟩ := RelG.rowsNew hr d e n fun i hi => h i (by omega)
    have hm : (((List.range n).map fun i => (rowI d i, Obj.sl e [])).foldl (fun m x => upd m x.1 (some x.2)) σ.m) (rowI d n) = none := by
      rw [rowsF_get, if_neg (by unfold rowI; omega)]; exact h n (by omega)
    generalize hM : ((List.range n).map fun i => (rowI d i, Obj.sl e [])).foldl (fun m x => upd m x.1 (some x.2)) σ.m = M at h1 hm
    have ht : Turn M gv' w (rowI d n) (upd M (rowI d n) (some (.sl e []))) (upd gv' (rowI d n) (none, 0)) w :=
      ⟨rfl, rfl, rfl, Nat.le_refl _, fun id h => by simp [upd, h], fun id h => by simp [upd, h], fun _ _ _ => rfl, fun o' b' _ h => by simp [blk, upd] at h, fun cs h => (by rw [hm] at h; cases h), fun e xs h => (by rw [hm] at h; cases h)⟩
    have := h1.put_turn ht (fun ob hob => ?_) (dst := none) (fun i h => by cases h) (v := .undef) (u := undef) trivial
    · refine ⟨upd gv' (rowI d n) (none, 0), ?_, fun i hi => ?_⟩
      · rw [List.range_succ, List.map_append, List.foldl_append, hM]
        exact this
      · by_cases hin : i = n
        · subst hin; simp [upd]
        · have : rowI d i ≠ rowI d n := by unfold rowI; omega
          simp only [upd, if_neg this]; exact h2 i (by omega)
    · simp [upd] at hob; subst hob
      exact ⟨by simp, [], ⟨by simp, .inl ⟨by simp [upd], rfl⟩⟩, by simp⟩

include hT

theorem sound_make {o : Oper} {t : Nat} {x y : Operand} {wr : Wr} {fp : List Loc} {C : Con} (hr : RelG T E N gv σ a w) (hdst : ∀ i, o.dst = some i → i < N) (ho : o.op = .makeSlice t x y)
    (h : Run C (makeR T o.dst t (σ.ev x) (σ.ev y)) σ wr fp) : Sound P T E N σ a w o wr := by
  have hx := ev_rep hr x
  have hy := ev_rep hr y
  unfold makeR at h
  split at h
  · rename_i e k n k' n' d hd hxv hyv hdd
    rw [hxv] at hx
    rw [hyv] at hy
    have h1 : a.eval x = .int k n := rp_int hx
    have h2 : a.eval y = .int k' n' := rp_int hy
    obtain ⟨fp', rfl, h⟩ := h
    cases hm : σ.m d with
    | some ob => simp [hm, Run] at h
    | none =>
      simp only [hm] at h
      have hcom : (n' = n ∧ 0 ≤ n ∧ n * (T e).bytes ≤ 140737488355328 ∧ n ≤ maxLen ∧ (T e).d ≠ .other ∧ (T e).zero.length = (T e).size) ∧
          (((∃ e', (T e).d = .sl e' ∧ (∀ i, i < n.toNat → σ.m (rowI d i) = none) ∧ (T e).zero = [.nilsl] ∧ wr = ⟨.one (.bsl d n.toNat), rowsM d e' n.toNat⟩)) ∨ wr = ⟨.one (.osl d n.toNat), [(d, .sl e (List.replicate n.toNat (T e).zero))]⟩) := by
        split at h
        · rename_i e' hde
          obtain ⟨fp2, _, h1, h2, h3, h4, _⟩ := h
          exact ⟨h2, .inl ⟨e', hde, h1, h3, h4⟩⟩
        · exact ⟨h.1, .inr h.2.1⟩
      clear h
      obtain ⟨⟨rfl, h0, hby, hmax, hne, hzl⟩, hcase⟩ := hcom
      obtain ⟨ti, z, h3, h4, h5, h6, h7, h8⟩ := run_typeInfo_T hT hne
      obtain ⟨ds, h9, h10, h11⟩ := run_underlying_T hT (t := t) (by rw [hd]; simp)
      rw [hd] at h9
      cases ds <;> simp [descOk] at h9
      subst h9
      have hzs : z.cells.size = (T e).size := by
        have := congrArg List.length h8
        simp at this; omega
      have hm63 : n' ≤ 9223372036854775807 := by simp [maxLen] at hmax; omega
      have hb : (ti.bytes : Int) * n' ≤ 281474976710656 := by rw [h6, Int.mul_comm]; omega
      have hrun : (execOp a.eval o).run P w = .ok (.value (.slice (some ⟨w.heap.size, 0, none⟩) n'.toNat n'.toNat)) (w.alloc (.cells (madeCells z.cells (n'.toNat * ti.size)) e)) := by
        have := run_make (P := P) w t e ti z h10 h4 h7 k k' n' n' h0 (Int.le_refl _) hb hm63
        simp only [execOp, ho, h1, h2, Sem.run_bind, this, Result.andThen_ok, Sem.run_pure]
      rcases hcase with ⟨e', hde, hfr, hz0, rfl⟩ | rfl
      · obtain ⟨gv1, hr1, hg1⟩ := hr.rowsNew d e' n'.toNat hfr
        have hget := rowsF_get d e' σ.m n'.toNat
        have hm1 : (((List.range n'.toNat).map fun i => (rowI d i, Obj.sl e' [])).foldl (fun m x => upd m x.1 (some x.2)) σ.m) d = none := by
          rw [hget, if_neg (by omega)]; exact hm
        intro next Q hn
        refine wp_value hrun (hn (upd gv1 d (some ⟨w.heap.size, 0, none⟩, n'.toNat)) _ _ ?_)
        have happ : σ.app o.dst ⟨.one (.bsl d n'.toNat), rowsM d e' n'.toNat⟩ = { t := putT σ.t o.dst (.one (.bsl d n'.toNat)), m := upd (((List.range n'.toNat).map fun i => (rowI d i, Obj.sl e' [])).foldl (fun m x => upd m x.1 (some x.2)) σ.m) d (some (.box ((List.range n'.toNat).map fun i => .osl (rowI d i) 0))) } := by
          simp only [St.app, rowsM, List.foldl_append, List.foldl_cons, List.foldl_nil]
        rw [happ]
        generalize ((List.range n'.toNat).map fun i => (rowI d i, Obj.sl e' [])).foldl (fun m x => upd m x.1 (some x.2)) σ.m = M at hr1 hget hm1 ⊢
        have ht := turn_new (σ := ⟨σ.t, M⟩) (gv := gv1) (w := w) hm1 (.box ((List.range n'.toNat).map fun i => .osl (rowI d i) 0)) n'.toNat (.cells (madeCells z.cells (n'.toNat * ti.size)) e)
        refine hr1.put_turn ht (fun ob hob => ?_) (dst := o.dst) hdst (v := .one (.bsl d n'.toNat)) (u := .slice (some ⟨w.heap.size, 0, none⟩) n'.toNat n'.toNat) ?_
        · simp [upd] at hob; subst hob
          have hs1 : (T e).size = 1 := by rw [← hzl, hz0]; rfl
          refine ⟨w.heap.size, _, e, by simp [upd], heap_alloc_new _ _, by simp [size_madeCells, h5, hs1], fun k c v hc hv => ?_⟩
          have hk : k < n'.toNat := by
            have := (List.getElem?_eq_some_iff.1 hc).1
            simpa using this
          rw [List.getElem?_map, List.getElem?_range hk] at hc
          simp at hc; subst hc
          have hv2 : v = .slice none 0 0 := by
            have e2 : z.cells.toList = [.slice none 0 0] := by rw [h8, hz0]; rfl
            simp only [madeCells, Array.toList_map, Array.toList_range, List.getElem?_map, h5] at hv
            rw [List.getElem?_range (by rw [hs1]; omega)] at hv
            simp only [Option.map_some, Option.some.injEq] at hv
            rw [← hv, hzs, hs1, Nat.mod_one]
            have e3 : z.cells[0]? = some (.slice none 0 0) := by rw [← Array.getElem?_toList, e2]; rfl
            rw [Array.getElem!_eq_getD, Array.getD_eq_getD_getElem?, e3]; rfl
          subst hv2
          refine ⟨rfl, e', [], ?_, Nat.le_refl _, fun _ => ?_⟩
          · have : rowI d k ≠ d := by unfold rowI; omega
            simp only [upd, if_neg this, hget]
            rw [if_pos (by unfold rowI; omega)]
          · have : rowI d k ≠ d := by unfold rowI; omega
            simp only [upd, if_neg this, hg1 k hk]
        · exact ⟨w.heap.size, (List.range n'.toNat).map fun i => Ce.osl (rowI d i) 0, by simp [upd], by simp [upd], rfl⟩
      intro next Q hn
      refine wp_value hrun (hn (upd gv d (some ⟨w.heap.size, 0, none⟩, n'.toNat)) _ _ ?_)
      have ht := turn_new (gv := gv) (w := w) hm (.sl e (List.replicate n'.toNat (T e).zero)) n'.toNat (.cells (madeCells z.cells (n'.toNat * ti.size)) e)
      have := hr.put_turn ht (fun ob hob => ?_) (dst := o.dst) hdst (v := .one (.osl d n'.toNat)) (u := .slice (some ⟨w.heap.size, 0, none⟩) n'.toNat n'.toNat) ?_
      · exact this
      · simp [upd] at hob; subst hob
        have hz : ∀ y ∈ List.replicate n'.toNat (T e).zero, y.length = (T e).size := fun y hy => by rw [List.eq_of_mem_replicate hy]; exact hzl
        refine ⟨hz, (madeCells z.cells (n'.toNat * ti.size)).toList, ⟨by simp [size_madeCells, h5], .inr ⟨w.heap.size, n'.toNat, _, by simp [upd], Nat.zero_le _, heap_alloc_new _ _, by simp, by simp [maxLen] at hmax ⊢; omega, by simp [size_madeCells, h5], ?_⟩⟩, ?_⟩
        · rw [List.take_of_length_le (by simp [size_madeCells, h5])]
        · intro j q v hq hv
          have hjl : j < n'.toNat * (T e).size := by
            have := (List.getElem?_eq_some_iff.1 hq).1
            rw [flatten_len _ _ hz] at this
            simpa using this
          have hpos : 0 < (T e).size := by
            rcases Nat.eq_zero_or_pos (T e).size with h | h
            · rw [h] at hjl; simp at hjl
            · exact h
          have hlt := Nat.mod_lt j hpos
          have hdv : j / (T e).size < n'.toNat := (Nat.div_lt_iff_lt_mul hpos).2 hjl
          have hq2 := flatten_get _ (T e).size hz (j / (T e).size) (j % (T e).size) (T e).zero (by simp [hdv]) hlt
          rw [show j / (T e).size * (T e).size + j % (T e).size = j by rw [Nat.mul_comm]; exact Nat.div_add_mod _ _] at hq2
          rw [hq2] at hq
          have hv2 : v = pvVal q := by
            have e2 : z.cells.toList[j % (T e).size]? = some (pvVal q) := by rw [h8, List.getElem?_map, hq]; rfl
            simp only [madeCells, Array.toList_map, Array.toList_range, List.getElem?_map, h5] at hv
            rw [List.getElem?_range hjl] at hv
            simp only [Option.map_some, Option.some.injEq] at hv
            rw [← hv, hzs]
            have e3 : z.cells[j % (T e).size]? = some (pvVal q) := by simpa using e2
            rw [Array.getElem!_eq_getD, Array.getD_eq_getD_getElem?, e3]; rfl
          subst hv2
          exact repP_simple _ _ q (List.all_eq_true.1 (hT e hne).simple q (List.mem_of_getElem? hq))
      · exact ⟨rfl, e, List.replicate n'.toNat (T e).zero, by simp [upd], by simp, fun _ => by simp [upd]⟩
  · exact h.elim

theorem sound_slice {o : Oper} {t : Nat} {x : Operand} {lo hi : Option Operand} {wr : Wr} {fp : List Loc} {C : Con} (hr : RelG T E N gv σ a w) (hdst : ∀ i, o.dst = some i → i < N) (ho : o.op = .slice t x lo hi none)
    (h : Run C (sliceR T t (σ.ev x) (lo.map σ.ev) (hi.map σ.ev)) σ wr fp) : Sound P T E N σ a w o wr := by
  have hx := ev_rep hr x
  -- the bounds
  have hb1 : ∀ (x : Operand) (k : Int → Rd Wr), Run C (boundR (σ.ev x) k) σ wr fp → ∃ kk n, a.eval x = .int kk n ∧ Run C (k n) σ wr fp := by
    intro x k h
    have hx := ev_rep hr x
    unfold boundR at h
    split at h
    · rename_i kk n hv
      rw [hv] at hx
      exact ⟨kk, n, rp_int hx, h⟩
    · exact h.elim
  have hbd : ∀ (isSlice : Bool) (n cap : Nat), n ≤ cap → ∀ (k : Nat → Nat → Rd Wr), Run C (boundsR (lo.map σ.ev) (hi.map σ.ev) n k) σ wr fp →
      ∃ l h, l ≤ h ∧ h ≤ n ∧ (Instr.sliceBounds isSlice n cap (lo.map a.eval) (hi.map a.eval) none).run P w = .ok (l, h, cap) w ∧ Run C (k l h) σ wr fp := by
    intro isSlice n cap hcap k h
    cases lo with
    | none =>
      cases hi with
      | none => exact ⟨0, n, Nat.zero_le _, Nat.le_refl _, by simp [Instr.sliceBounds], h⟩
      | some hi =>
        obtain ⟨kh, hv, h1, ⟨h2, h3⟩, h4⟩ := hb1 hi _ h
        refine ⟨0, hv.toNat, Nat.zero_le _, by omega, ?_, h4⟩
        have : hv ≤ (cap : Int) := by omega
        simp [Instr.sliceBounds, Instr.sliceBound, h1, asIntOf, h2, this]
    | some lo =>
      obtain ⟨kl, lv, h1, h⟩ := hb1 lo _ h
      cases hi with
      | none =>
        obtain ⟨⟨h2, h3⟩, h4⟩ := h
        refine ⟨lv.toNat, n, by omega, Nat.le_refl _, ?_, h4⟩
        simp [Instr.sliceBounds, Instr.sliceBound, h1, asIntOf, h2, h3]
      | some hi =>
        obtain ⟨kh, hv, h2, ⟨h3, h4, h5⟩, h6⟩ := hb1 hi _ h
        refine ⟨lv.toNat, hv.toNat, by omega, by omega, ?_, h6⟩
        have e1 : 0 ≤ hv := by omega
        have e2 : hv ≤ (cap : Int) := by omega
        have e3 : lv ≤ ((hv.toNat : Nat) : Int) := by omega
        simp only [Option.map_some, Instr.sliceBounds, Instr.sliceBound, h1, h2, asIntOf, Sem.run_bind, Sem.run_pure, Result.andThen_ok]
        simp only [e1, e2, e3, h3, and_self, if_true, Sem.run_pure, Result.andThen_ok]
  unfold sliceR at h
  split at h
  · rename_i s hd hxv
    rw [hxv] at hx
    have h1 : a.eval x = .string s := rp_str hx
    obtain ⟨ds, h9, h10, h11⟩ := run_underlying_T hT (t := t) (by rw [hd]; simp)
    rw [hd] at h9
    cases ds <;> simp [descOk] at h9
    obtain ⟨l, hh, hlh, hhn, hrun, h⟩ := hbd false s.size s.size (Nat.le_refl _) _ h
    refine sound_ret hr hdst h (u := .string (s.extract l hh)) ?_ (RepP.str _)
    simp only [execOp, ho, Instr.sliceAt, Instr.slice, h1, Sem.run_bind, h11, Result.andThen_ok, Option.isSome_none, Bool.false_eq_true, if_false, hrun, Sem.run_pure, Option.map_none]
  · rename_i e xs hd hxv
    rw [hxv] at hx
    obtain ⟨⟨hne, hzz⟩, h⟩ := h
    have hx : RepP w (Imm E σ.m gv w) (.slice xs) (a.eval x) := hx
    obtain ⟨ds, h9, h10, h11⟩ := run_underlying_T hT (t := t) (by rw [hd]; simp)
    rw [hd] at h9
    cases ds <;> simp [descOk] at h9
    subst h9
    have hval : ∃ b cap, a.eval x = .slice b xs.length cap ∧ xs.length ≤ cap := by
      generalize a.eval x = xv at hx
      cases hx with
      | sl0 b cap _ => exact ⟨b, cap, rfl, Nat.zero_le _⟩
      | sl _ b off cap sz arr e' fr vs hI hh hz hc hv hl hrep => exact ⟨_, cap, rfl, hc⟩
    obtain ⟨b, cap, hxe, hcap⟩ := hval
    obtain ⟨l, hh, hlh, hhn, hrun, h⟩ := hbd true xs.length cap hcap _ h
    have hex : (execOp a.eval o).run P w = .ok (.value (.slice (if cap = l then b else b.map (·.add (l * (T e).size))) (hh - l) (cap - l))) w := by
      simp only [execOp, ho, Instr.sliceAt, Instr.slice, hxe, Sem.run_bind, h11, Result.andThen_ok, Option.isSome_none, hrun, Sem.run_pure, Option.map_none, run_sizeOf_T hT hne]
    refine sound_ret hr hdst h hex ?_
    show RepP _ _ _ _
    rw [hxe] at hx
    by_cases hemp : hh = l
    · subst hemp
      have : (xs.take hh).drop hh = [] := by simp
      rw [this, Nat.sub_self]
      refine .sl0 _ _ fun hnone => ?_
      have hb : b = none := by
        split at hnone
        · exact hnone
        · simpa using hnone
      subst hb
      cases hx with
      | sl0 _ _ h0 => have := h0 rfl; omega
    · generalize hg : (Value.slice b xs.length cap) = xv at hx
      cases hx with
      | sl0 b' cap' _ => simp at hhn; omega
      | sl _ b' off cap' sz arr e' fr vs hI hhp hz hc hv hl hrep =>
        simp at hg
        obtain ⟨rfl, rfl⟩ := hg
        have hxne : xs ≠ [] := by intro e; subst e; simp at hhn; omega
        obtain ⟨y, hy⟩ := List.exists_mem_of_ne_nil xs hxne
        have hsz : sz = (T e).size := (hz y hy).symm.trans (hzz y hy)
        subst hsz
        rw [if_neg (by omega)]
        have hlen : ((xs.take hh).drop l).length = hh - l := by simp; omega
        have hz2 : ∀ y ∈ xs.take hh, y.length = (T e).size := fun y hy => hzz y (List.mem_of_mem_take hy)
        have hz3 : ∀ y ∈ (xs.take hh).drop l, y.length = (T e).size := fun y hy => hz2 y (List.mem_of_mem_drop hy)
        have hfl := flatten_len xs (T e).size hzz
        have hle1 : hh * (T e).size ≤ xs.length * (T e).size := Nat.mul_le_mul_right _ hhn
        have hle2 : l * (T e).size ≤ hh * (T e).size := Nat.mul_le_mul_right _ hlh
        simp only [Option.map_some, add_none]
        rw [← hlen]
        refine .sl _ b' (off + l * (T e).size) (cap - l) (T e).size arr e' fr ((vs.take (hh * (T e).size)).drop (l * (T e).size)) hI hhp hz3 (by omega) (fun k v hk => ?_) ?_ (fun k q v hq hk => ?_)
        · rw [List.getElem?_drop, List.getElem?_take] at hk
          split at hk
          · rw [Nat.add_assoc]; exact hv _ v hk
          · cases hk
        · rw [flatten_len _ _ hz3, hlen, List.length_drop, List.length_take, Nat.sub_mul]
          omega
        · rw [flatten_drop _ _ hz2, flatten_take _ _ hzz] at hq
          rw [List.getElem?_drop, List.getElem?_take] at hq hk
          split at hk
          · rename_i hc; rw [if_pos hc] at hq; exact hrep _ q v hq hk
          · cases hk
  · exact h.elim

omit hT in
/-- What append takes its new elements from. -/
theorem src_rep {C : Con} {α : Type} {v : V} {u : Value} {k : List (List PV) → Rd α} {x : α} {fp : List Loc} (hr : RelG T E N gv σ a w) (he : RepV T w (Imm E σ.m gv w) σ.m gv v u) (h : Run C (readSl v k) σ x fp) :
    ∃ ys fp' b cap, Run C (k ys) σ x fp' ∧ u = .slice b ys.length cap ∧ ∀ sz, (∀ y ∈ ys, y.length = sz) → ys ≠ [] → ∃ (ad : Addr) (news : List Value), b = some ad ∧ news.length = ys.length * sz ∧
      (∀ (j : Nat) z, news[j]? = some z → w.cell? (ad.add j) = some z) ∧ ∀ (j : Nat) q z, ys.flatten[j]? = some q → news[j]? = some z → RepP w (Imm E σ.m gv w) q z := by
  unfold readSl at h
  split at h
  · have : u = .slice none 0 0 := rp_nilsl he
    exact ⟨[], fp, none, 0, h, this, fun sz _ hn => absurd rfl hn⟩
  · obtain ⟨b, c, hb⟩ := rp_nesl he
    exact ⟨[], fp, some b, c, h, hb, fun sz _ hn => absurd rfl hn⟩
  · rename_i xs
    have he : RepP w (Imm E σ.m gv w) (.slice xs) u := he
    cases he with
    | sl0 b cap _ => exact ⟨[], fp, b, cap, h, rfl, fun sz _ hn => absurd rfl hn⟩
    | sl _ b off cap sz arr e fr vs hI hh hz hc hv hl hrep =>
      refine ⟨xs, fp, _, cap, h, rfl, fun sz' hz' hn => ⟨_, vs, rfl, ?_, fun j z hj => ?_, hrep⟩⟩
      · rw [hl, flatten_len _ _ hz']
      · rw [add_none, cell_of_heap hh]; exact hv j z hj
  · rename_i id n
    obtain ⟨h0, e, xs, h5, h6, h7⟩ := he
    obtain ⟨fp', rfl, h⟩ := h
    simp only [h5] at h
    obtain ⟨hn, h⟩ := h
    have h7 := h7 hn
    obtain ⟨hz, vs, ⟨ho1, ho2⟩, hvs⟩ := hr.rep id _ h5
    refine ⟨xs, fp', _, _, h, by rw [h7, hn], fun sz hz' hne => ?_⟩
    rcases ho2 with ⟨hnil, hn0⟩ | ⟨g, cap, cur, hv, _, hh, hcap, _, hsz, htake⟩
    · exact absurd (List.length_eq_zero_iff.1 hn0) hne
    · simp at hv
      obtain ⟨y, hy⟩ := List.exists_mem_of_ne_nil xs hne
      have hse : sz = (T e).size := (hz' y hy).symm.trans (hz y hy)
      subst hse
      refine ⟨_, vs, hv.1, ho1, fun j z hj => ?_, hvs⟩
      rw [add_none, cell_of_heap hh, Nat.zero_add]
      rw [← htake, List.getElem?_take] at hj
      split at hj
      · simpa using hj
      · cases hj
  · exact h.elim
end
end Go.AW
