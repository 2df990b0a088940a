/- The soundness of the abstract operations: new memory, stores, comparisons, places. -/
import Derived.Test.YtocalihefpafgaaA4
set_option linter.unusedVariables false
set_option linter.unusedSimpArgs false
namespace Go.AW

section
variable {P : Program} {T : Tab} {E : Env} {N : Nat} {gv : GV} {σ : St} {a : Act} {w : World}

theorem heap_alloc_new (w : World) (o : Go.Obj) : (w.alloc o).heap[w.heap.size]? = some o := by
  show (w.heap.push o)[w.heap.size]? = some o
  simp
theorem heap_alloc_old (w : World) (o : Go.Obj) (b : Nat) (h : b < w.heap.size) : (w.alloc o).heap[b]? = w.heap[b]? := by
  show (w.heap.push o)[b]? = _
  rw [Array.getElem?_push, if_neg (by omega)]

/-- A new block under a new name. -/
theorem turn_new {d : Nat} (hm : σ.m d = none) (obj : Obj) (cap : Nat) (o : Go.Obj) :
    Turn σ.m gv w d (upd σ.m d (some obj)) (upd gv d (some ⟨w.heap.size, 0, none⟩, cap)) (w.alloc o) where
  tape := rfl
  os := rfl
  output := rfl
  size := by simp
  m_ne := fun id h => by simp [upd, h]
  gv_ne := fun id h => by simp [upd, h]
  heap := fun b hb _ => heap_alloc_old w o b hb
  place := fun o' b _ h => by simp [blk, upd] at h; subst h; exact ⟨by simp, .inr (Nat.le_refl _)⟩
  box := fun cs h => by rw [hm] at h; cases h
  sl := fun e xs h => by rw [hm] at h; cases h

theorem sound_new_box {o : Oper} {d : Nat} {cs : List Ce} {arr : Array Value} {e : TypeId} (hr : RelG T E N gv σ a w) (hd : o.dst = some d) (hdN : d < N) (hm : σ.m d = none)
    (h : (execOp a.eval o).run P w = .ok (.value (.pointer (some ⟨w.heap.size, 0, none⟩))) (w.alloc (.cells arr e)))
    (hl : RepL T w (Imm E σ.m gv w) σ.m gv cs arr.toList) : Sound P T E N σ a w o ⟨.one (.ptr d 0), [(d, .box cs)]⟩ := by
  intro next Q hn
  refine wp_value h (hn (upd gv d (some ⟨w.heap.size, 0, none⟩, 0)) _ _ ?_)
  have ht := turn_new (gv := gv) (w := w) hm (.box cs) 0 (.cells arr e)
  have := hr.put_turn ht (fun ob hob => ?_) (dst := o.dst) (by rw [hd]; rintro i ⟨⟩; exact hdN) (v := .one (.ptr d 0)) (u := .pointer (some ⟨w.heap.size, 0, none⟩)) ?_
  · exact this
  · simp [upd] at hob; subst hob
    exact ⟨w.heap.size, arr, e, by simp [upd], heap_alloc_new _ _, RepL.mono (fun b hb => ht.imm b hb) ht.pers hl⟩
  · exact ⟨w.heap.size, cs, by simp [upd], by simp [upd], rfl⟩

theorem sound_box {o : Oper} {e : Nat} {x : Operand} {wr : Wr} {fp : List Loc} {C : Con} (hr : RelG T E N gv σ a w) (hdst : ∀ i, o.dst = some i → i < N) (ho : o.op = .box e x)
    (h : Run C (boxR o.dst (σ.ev x)) σ wr fp) : Sound P T E N σ a w o wr := by
  have he := ev_rep hr x
  unfold boxR at h
  split at h
  · rename_i d cs hd hc
    obtain ⟨fp', rfl, h⟩ := h
    cases hm : σ.m d with
    | some ob => simp [hm, Run] at h
    | none =>
      simp only [hm] at h
      obtain ⟨rfl, _⟩ := h
      have hrun : (execOp a.eval o).run P w = .ok (.value (.pointer (some ⟨w.heap.size, 0, none⟩))) (w.alloc (.cells (a.eval x).cells e)) := by
        simp [execOp, ho, Instr.box, newVar, newRow]
      refine sound_new_box hr hd (hdst d hd) hm hrun ?_
      unfold cellsV at hc
      split at hc
      · rename_i c hx; rw [hx] at he; simp at hc; subst hc
        have h1 := RepC.one he
        have : (a.eval x).cells = #[a.eval x] := by cases hv : a.eval x <;> simp_all [Value.cells, Value.oneCell']
        rw [this]
        exact repL_cons he repL_nil
      · rename_i cs' hx; rw [hx] at he; simp at hc; subst hc
        obtain ⟨arr, h1, h2⟩ := he
        rw [h1]; exact h2
      · cases hc
  · exact h.elim

/-- What may stand in a constant place. -/
theorem cells_rep {v : V} {u : Value} {cs : List Ce} {I : Nat → Prop} {m : Nat → Option Obj} (he : RepV T w I m gv v u) (hc : cellsV v = some cs) : RepL T w I m gv cs u.cells.toList := by
  unfold cellsV at hc
  split at hc
  · simp at hc; subst hc
    have h1 := RepC.one he
    have : u.cells = #[u] := by cases u <;> simp_all [Value.cells, Value.oneCell']
    rw [this]
    exact repL_cons he repL_nil
  · simp at hc; subst hc
    obtain ⟨arr, h1, h2⟩ := he
    rw [h1]; exact h2
  · cases hc

variable (hT : TabOk P T)
include hT

theorem zero_repL {e : Nat} (hne : (T e).d ≠ .other) {z : Value} (hz : z.cells.toList = (T e).zero.map pvVal) {I : Nat → Prop} {m : Nat → Option Obj} : RepL T w I m gv ((T e).zero.map .p) z.cells.toList := by
  rw [hz]
  refine repL_p (by simp) (fun k q v hq hv => ?_)
  rw [List.getElem?_map, hq] at hv
  simp at hv; subst hv
  exact repP_simple w I q (List.all_eq_true.1 (hT e hne).simple q (List.mem_of_getElem? hq))

theorem sound_alloc {o : Oper} {e : Nat} {wr : Wr} {fp : List Loc} {C : Con} (hr : RelG T E N gv σ a w) (hdst : ∀ i, o.dst = some i → i < N) (ho : o.op = .alloc e)
    (h : Run C (allocR T o.dst e) σ wr fp) : Sound P T E N σ a w o wr := by
  unfold allocR at h
  split at h
  · rename_i d hd
    obtain ⟨fp', rfl, h⟩ := h
    cases hm : σ.m d with
    | some ob => simp [hm, Run] at h
    | none =>
      simp only [hm] at h
      obtain ⟨hne, rfl, _⟩ := h
      obtain ⟨z, hz, hzc⟩ := run_zeroValue_T hT hne
      have hrun : (execOp a.eval o).run P w = .ok (.value (.pointer (some ⟨w.heap.size, 0, none⟩))) (w.alloc (.cells z.cells e)) := by
        simp [execOp, ho, Instr.alloc, hz, newVar, newRow]
      exact sound_new_box hr hd (hdst d hd) hm hrun (zero_repL hT hne hzc)
  · exact h.elim

omit hT in
theorem list_of_splice {arr : Array Value} {k : Nat} {us : List Value} (h : k + us.length ≤ arr.size) : (splice arr.toList k us).length = arr.size := by
  simp [splice]; omega

theorem sound_store {o : Oper} {t : Nat} {x y : Operand} {wr : Wr} {fp : List Loc} {C : Con} (hr : RelG T E N gv σ a w) (hdst : ∀ i, o.dst = some i → i < N) (ho : o.op = .store t x y)
    (h : Run C (storeR T t (σ.ev x) (σ.ev y)) σ wr fp) : Sound P T E N σ a w o wr := by
  have hx := ev_rep hr x
  have hy := ev_rep hr y
  -- the store itself
  have hst : (T t).d ≠ .other → ∀ (b k : Nat) (arr : Array Value) (e : TypeId), a.eval x = .pointer (some ⟨b, k, none⟩) → w.heap[b]? = some (.cells arr e (0, 0)) → (a.eval y).cells.size = (T t).size → k + (a.eval y).cells.size ≤ arr.size →
      (∀ v ∈ (a.eval y).cells.toList, v.oneCell' = true) → (execOp a.eval o).run P w = .ok .skip (w.setRow b (splice arr.toList k (a.eval y).cells.toList).toArray) := by
    intro hne b k arr e hp hh hs hk h1
    have := run_storeCells_at P b k e (a.eval y).cells.toList 0 arr w hh (by simpa using hk) h1
    simp only [Nat.add_zero] at this
    simp only [execOp, ho, Instr.storeAt, hp, Instr.sureAddr, storeVar, Sem.run_bind, Sem.run_pure, Result.andThen_ok, run_sizeOf_T hT hne, hs, ne_eq, not_true_eq_false, if_false]
    simp [this, splice]
  -- a row turned at one object's block
  have hturn : ∀ (id b : Nat) (obj obj' : Obj) (arr : Array Value) (e : TypeId) (new : Array Value), σ.m id = some obj → (gv id).1 = some ⟨b, 0, none⟩ → w.heap[b]? = some (.cells arr e (0, 0)) →
      (∀ cs, obj = .box cs → ∃ cs', obj' = .box cs') → (∀ e xs, obj = .sl e xs → ∃ xs', obj' = .sl e xs' ∧ xs'.length = xs.length) →
      Turn σ.m gv w id (upd σ.m id (some obj')) gv (w.setRow b new) := by
    intro id b obj obj' arr e new hm hg hh hbox hsl
    refine ⟨rfl, rfl, rfl, by simp, fun i hi => by simp [upd, hi], fun _ _ => rfl, fun b' hb' hno => ?_, fun o' b' ho' hb' => ?_, fun cs hcs => ?_, fun e' xs hxs => ?_⟩
    · refine setRow_other w b b' new (fun e => hno obj hm ?_)
      simp [blk, hg, e]
    · have : b' = b := by simp [blk, hg] at hb'; exact hb'.symm
      subst this
      exact ⟨by simp; exact (Array.getElem?_eq_some_iff.1 hh).1, .inl ⟨obj, hm, hb'⟩⟩
    · rw [hm] at hcs; simp at hcs
      obtain ⟨cs', h'⟩ := hbox cs hcs
      exact ⟨cs', by simp [upd, h'], rfl⟩
    · rw [hm] at hxs; simp at hxs
      obtain ⟨xs', h', hl'⟩ := hsl e' xs hxs
      exact ⟨xs', by simp [upd, h'], by omega, fun _ => rfl⟩
  unfold storeR at h
  split at h
  · rename_i id off new hxv hnew
    rw [hxv] at hx
    obtain ⟨b, cs, h1, h2, h3⟩ := hx
    obtain ⟨fp', rfl, h⟩ := h
    simp only [h1] at h
    obtain ⟨⟨hne, hl, hle⟩, rfl, _⟩ := h
    obtain ⟨b', arr, e, h4, h5, h6⟩ := hr.rep id _ h1
    have : b' = b := by rw [h2] at h4; simp at h4; exact h4.symm
    subst this
    have hcr := cells_rep hy hnew
    have hcl : (a.eval y).cells.size = new.length := by have := hcr.1; simpa using this
    have hal : arr.size = cs.length := by have := h6.1; simpa using this
    have hrun := hst hne b' off arr e h3 h5 (by omega) (by omega) (repL_one hcr)
    have ht := hturn id b' _ (.box (splice cs off new)) arr e (splice arr.toList off (a.eval y).cells.toList).toArray h1 h2 h5 (fun cs _ => ⟨_, rfl⟩) (fun e xs h => by cases h)
    intro next Q hn
    refine wp_skip' hrun (hn gv _ _ ?_)
    have := hr.put_turn ht (fun ob hob => ?_) (dst := o.dst) hdst (v := .undef) (u := undef) trivial
    · exact this
    · simp [upd] at hob; subst hob
      refine ⟨b', _, e, h2, setRow_heap w b' arr _ e (0, 0) h5, ?_⟩
      simpa using RepL.mono (fun b hb => ht.imm b hb) ht.pers (repL_splice h6 hcr off)
  · rename_i id n i off new hxv hnew
    rw [hxv] at hx
    split at h
    · rename_i new' hpure
      have hnn := pureL_map hpure
      subst hnn
      obtain ⟨h0, e, xs, h1, h2, h3⟩ := hx
      obtain ⟨fp', rfl, h⟩ := h
      simp only [h1] at h
      obtain ⟨hn', r, hxi, ⟨hne, hl, hle⟩, rfl, _⟩ := h
      obtain ⟨b, h4, h5⟩ := h3 hn'
      obtain ⟨hz, vs, ⟨ho1, ho2⟩, hvs⟩ := hr.rep id _ h1
      rcases ho2 with ⟨hnil, _⟩ | ⟨g, cap, cur, hv, _, hh, hcap, hmax, hsz, htake⟩
      · rw [h4] at hnil; simp at hnil
      rw [h4] at hv; simp at hv
      obtain ⟨rfl, rfl⟩ := hv
      have hi : i < xs.length := (List.getElem?_eq_some_iff.1 hxi).1
      have hrl : r.length = (T e).size := hz r (List.mem_of_getElem? hxi)
      have hcr := cells_rep hy hnew
      have hcl : (a.eval y).cells.size = new'.length := by have := hcr.1; simpa using this
      have hle2 : i * (T e).size + (T e).size ≤ xs.length * (T e).size := by
        have := Nat.mul_le_mul_right (T e).size (show i + 1 ≤ xs.length from hi)
        rwa [Nat.succ_mul] at this
      have hle3 : xs.length * (T e).size ≤ (gv id).2 * (T e).size := Nat.mul_le_mul_right _ hcap
      have hrun := hst hne b (i * (T e).size + off) cur e h5 hh (by omega) (by omega) (repL_one hcr)
      have ht := hturn id b _ (.sl e (xs.set i (splice r off new'))) cur e (splice cur.toList (i * (T e).size + off) (a.eval y).cells.toList).toArray h1 h4 hh (fun cs h => by cases h)
        (fun e xs h => by cases h; exact ⟨_, rfl, by simp⟩)
      intro next Q hn
      refine wp_skip' hrun (hn gv _ _ ?_)
      have := hr.put_turn ht (fun ob hob => ?_) (dst := o.dst) hdst (v := .undef) (u := undef) trivial
      · exact this
      · simp [upd] at hob; subst hob
        have hslen : (splice r off new').length = (T e).size := by simp [splice]; omega
        refine ⟨fun x hx => ?_, splice vs (i * (T e).size + off) (a.eval y).cells.toList, ⟨?_, .inr ⟨b, (gv id).2, _, ?_, Nat.zero_le _, setRow_heap w b cur _ e (0, 0) hh, ?_, hmax, ?_, ?_⟩⟩, ?_⟩
        · rcases List.mem_or_eq_of_mem_set hx with hx | hx
          · exact hz x hx
          · rw [hx]; exact hslen
        · have : vs.length = xs.length * (T e).size := ho1
          simp [splice]; omega
        · rw [h4]
        · simpa using hcap
        · simp [splice]; omega
        · have hvl : vs.length = xs.length * (T e).size := ho1
          have hclL : (a.eval y).cells.toList.length = new'.length := by simpa using hcl
          rw [← htake]
          simp only [List.length_set]
          exact take_splice _ _ _ _ (by omega) (by simp; omega)
        · intro k q v hq hv
          have hflat : (xs.set i (splice r off new')).flatten = splice xs.flatten (i * (T e).size + off) new' := by
            rw [flatten_set xs (T e).size hz i _ hi hslen]
            exact splice_splice xs (T e).size i off r new' hz hxi hle
          rw [hflat] at hq
          have hfl := flatten_len xs (T e).size hz
          have hvl : vs.length = xs.length * (T e).size := ho1
          have hp1 : RepL T w (Imm E σ.m gv w) σ.m gv (xs.flatten.map Ce.p) vs := repL_p (by omega) hvs
          have := repL_splice hp1 hcr (i * (T e).size + off)
          have hmap : splice (xs.flatten.map Ce.p) (i * (T e).size + off) (new'.map Ce.p) = (splice xs.flatten (i * (T e).size + off) new').map Ce.p := by simp [splice]
          rw [hmap] at this
          have := this.2 k (.p q) v (by simp [hq]) hv
          exact RepP.mono (fun b hb => ht.imm b hb) this
    · exact h.elim
  · exact h.elim
end
end Go.AW
