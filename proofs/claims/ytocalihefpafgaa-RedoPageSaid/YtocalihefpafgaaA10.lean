/- append and calls; then all operations in one. -/
import Derived.Test.YtocalihefpafgaaA9
set_option linter.unusedVariables false
set_option linter.unusedSimpArgs false
namespace Go.AW

section
variable {P : Program} {T : Tab} {E : Env} {N : Nat} {gv : GV} {σ : St} {a : Act} {w : World} (hT : TabOk P T)

theorem drew_grow (w : World) : ∀ b, b < w.heap.size → w.drew.heap[b]? = w.heap[b]? := fun b _ => rfl

/-- A new block under a new name, behind a draw. -/
theorem turn_new_drew {d : Nat} (hm : σ.m d = none) (obj : Obj) (cap : Nat) (o : Go.Obj) :
    Turn σ.m gv w d (upd σ.m d (some obj)) (upd gv d (some ⟨w.heap.size, 0, none⟩, cap)) (w.drew.alloc o) where
  tape := rfl
  os := rfl
  output := rfl
  size := by simp
  m_ne := fun id h => by simp [upd, h]
  gv_ne := fun id h => by simp [upd, h]
  heap := fun b hb _ => heap_alloc_old w.drew o b hb
  place := fun o' b _ h => by simp [blk, upd] at h; subst h; exact ⟨by simp, .inr (Nat.le_refl _)⟩
  box := fun cs h => by rw [hm] at h; cases h
  sl := fun e xs h => by rw [hm] at h; cases h

theorem take_append_len {α : Type} (xs ys : List α) (n : Nat) (h : xs.length = n) : (xs ++ ys).take n = xs := by subst h; simp

include hT

theorem sound_append {o : Oper} {t : Nat} {x y : Operand} {wr : Wr} {fp : List Loc} {C : Con} (hr : RelG T E N gv σ a w) (hdst : ∀ i, o.dst = some i → i < N)
    (ho : o.op = .call { callee := .builtin .append, args := #[x, y], argTypes := #[t, t] })
    (h : Run C (appR T o.dst t (σ.ev x) (σ.ev y)) σ wr fp) : Sound P T E N σ a w o wr := by
  have hx := ev_rep hr x
  have hy := ev_rep hr y
  have hex : (execOp a.eval o).run P w = ((Builtin.append_ #[t, t] o.type #[a.eval x, a.eval y]).run P w).andThen fun v w' => .ok (.value v) w' := by
    simp [execOp, ho, resolve, invoke, builtin]
  unfold appR at h
  split at h
  · rename_i e hd
    obtain ⟨ds, h9, h10, h11⟩ := run_underlying_T hT (t := t) (by rw [hd]; simp)
    rw [hd] at h9
    cases ds <;> simp [descOk] at h9
    simp only [← h9] at h10 h11
    clear h9
    obtain ⟨ys, fp1, b, cap, h, hyv, hsrc⟩ := src_rep hr hy h
    rw [hyv] at hex
    split at h
    · rename_i d hxv hdd
      rw [hxv] at hx
      have h1 : a.eval x = .slice none 0 0 := rp_nilsl hx
      rw [h1] at hex
      obtain ⟨fp', rfl, h⟩ := h
      cases hm : σ.m d with
      | some ob => simp [hm, Run] at h
      | none =>
        simp only [hm] at h
        obtain ⟨⟨hne, hz, hpos, hby, hmax⟩, rfl, _⟩ := h
        obtain ⟨ti, z, h3, h4, h5, h6, h7, h8⟩ := run_typeInfo_T hT hne
        by_cases hyn : ys = []
        · subst hyn
          have hrun : (execOp a.eval o).run P w = .ok (.value (.slice none 0 0)) w := by
            rw [hex]
            cases b <;> simp [Builtin.append_, h11, sizeOf, typeInfo, h4, Builtin.lenOf, Builtin.firstCells, loadCells, loadCellsFrom]
          intro next Q hn
          refine wp_value hrun (hn (upd gv d (none, 0)) _ _ ?_)
          have ht : Turn σ.m gv w d (upd σ.m d (some (.sl e []))) (upd gv d (none, 0)) w :=
            ⟨rfl, rfl, rfl, Nat.le_refl _, fun id h => by simp [upd, h], fun id h => by simp [upd, h], fun _ _ _ => rfl, fun o' b' _ h => by simp [blk, upd] at h, fun cs h => (by rw [hm] at h; cases h), fun e xs h => (by rw [hm] at h; cases h)⟩
          have := hr.put_turn ht (fun ob hob => ?_) (dst := o.dst) hdst (v := .one (.osl d 0)) (u := .slice none 0 0) ?_
          · exact this
          · simp [upd] at hob; subst hob
            exact ⟨by simp, [], ⟨by simp, .inl ⟨by simp [upd], rfl⟩⟩, by simp⟩
          · exact ⟨rfl, e, [], by simp [upd], by simp, fun _ => by simp [upd]⟩
        · obtain ⟨ad, news, rfl, hnl, hnc, hnr⟩ := hsrc (T e).size hz hyn
          have hl0 : 0 < ys.length := List.length_pos_iff.2 hyn
          have h63 : (ys.length : Int) ≤ 9223372036854775807 := by simp [maxLen] at hmax; omega
          have h48 : ys.length * ti.bytes ≤ 281474976710656 := by rw [h6]; omega
          rw [run_append_nil (P := P) w t o.type e ti z h10 h4 h7 ad ys.length cap news (by rw [h5]; exact hnl) hnc hl0 h63 h48] at hex
          have hrun := hex
          simp only [Result.andThen_ok] at hrun
          generalize hgc : grownCap w ys.length 0 e = gc at hrun
          have hgc1 : ys.length ≤ gc := hgc ▸ grownCap_ge w _ _ _
          have hgc2 : gc ≤ maxLen := hgc ▸ grownCap_le_maxLen w _ _ _ hmax
          have hzc : z.cells.size = (T e).size := by
            have := congrArg List.length h8
            have h12 := (hT e hne).len
            simp at this; omega
          intro next Q hn
          refine wp_value hrun (hn (upd gv d (some ⟨w.heap.size, 0, none⟩, gc)) _ _ ?_)
          have ht := turn_new_drew (gv := gv) (w := w) hm (.sl e ys) gc (.cells (news.toArray ++ Builtin.zeroCells z.cells (gc - ys.length)) e)
          have := hr.put_turn ht (fun ob hob => ?_) (dst := o.dst) hdst (v := .one (.osl d ys.length)) (u := .slice (some ⟨w.heap.size, 0, none⟩) ys.length gc) ?_
          · exact this
          · simp [upd] at hob; subst hob
            refine ⟨hz, news, ⟨hnl, .inr ⟨w.heap.size, gc, _, by simp [upd], Nat.zero_le _, heap_alloc_new w.drew _, hgc1, hgc2, ?_, ?_⟩⟩, fun k q v hq hv => RepP.mono (fun b hb => ht.imm b hb) (hnr k q v hq hv)⟩
            · simp only [Array.size_append, List.size_toArray, size_zeroCells, hzc, hnl]
              rw [← Nat.add_mul]; congr 1; omega
            · simp only [Array.toList_append]
              exact take_append_len _ _ _ hnl
          · exact ⟨rfl, e, ys, by simp [upd], Nat.le_refl _, fun _ => by simp [upd]⟩
    · rename_i dd id n hxv
      rw [hxv] at hx
      obtain ⟨h0, e', xs, hm, hn1, hn2⟩ := hx
      obtain ⟨fp', rfl, h⟩ := h
      simp only [hm] at h
      obtain ⟨⟨hnn, rfl, hne, hpos, hz, hby, hmax⟩, rfl, _⟩ := h
      have h1 := hn2 hnn
      rw [hnn] at h1
      rw [h1] at hex
      obtain ⟨ti, z, h3, h4, h5, h6, h7, h8⟩ := run_typeInfo_T hT hne
      have hzc : z.cells.size = (T e').size := by
        have := congrArg List.length h8
        have h12 := (hT e' hne).len
        simp at this; omega
      obtain ⟨hzx, vs, ⟨ho1, ho2⟩, hvs⟩ := hr.rep id _ hm
      have hzz : ∀ y ∈ xs ++ ys, y.length = (T e').size := fun y hy => by
        rcases List.mem_append.1 hy with hy | hy
        · exact hzx y hy
        · exact hz y hy
      have hfx := flatten_len xs (T e').size hzx
      -- what stands in the row behind
      have hrep : ∀ (w' : World) (I' : Nat → Prop) (news : List Value), (∀ b, Imm E σ.m gv w b → I' b ∧ w'.heap[b]? = w.heap[b]?) → (∀ (j : Nat) q z, ys.flatten[j]? = some q → news[j]? = some z → RepP w (Imm E σ.m gv w) q z) →
          ∀ (k : Nat) q v, (xs ++ ys).flatten[k]? = some q → (vs ++ news)[k]? = some v → RepP w' I' q v := by
        intro w' I' news hI hnr k q v hq hv
        have ho1' : vs.length = xs.length * (T e').size := ho1
        rw [List.flatten_append, List.getElem?_append, hfx] at hq
        rw [List.getElem?_append, ho1'] at hv
        split at hq
        · rename_i hk; rw [if_pos hk] at hv; exact RepP.mono hI (hvs k q v hq hv)
        · rename_i hk; rw [if_neg hk] at hv; exact RepP.mono hI (hnr _ q v hq hv)
      -- nothing is appended
      have hnil : ys = [] → Sound P T E N σ a w o ⟨.one (.osl id (xs.length + ys.length)), [(id, .sl e' (xs ++ ys))]⟩ := by
        intro hyn
        subst hyn
        have hle : xs.length ≤ (gv id).2 := by
          rcases ho2 with ⟨hv, h0⟩ | ⟨g, c, cur, hv, _, _, hc, _⟩
          · omega
          · simp at hv; omega
        have hrun : (execOp a.eval o).run P w = .ok (.value (.slice (gv id).1 xs.length (gv id).2)) w := by
          rw [hex]
          cases b <;> cases (gv id).1 <;> simp [Builtin.append_, h11, sizeOf, typeInfo, h4, Builtin.lenOf, hle, Builtin.firstCells, storeCells, loadCells, loadCellsFrom]
        intro next Q hn
        refine wp_value hrun (hn gv _ _ ?_)
        have hsame : upd σ.m id (some (.sl e' (xs ++ []))) = σ.m := by funext j; unfold upd; split <;> simp_all
        have := hr.put (dst := o.dst) hdst (v := .one (.osl id xs.length)) (u := .slice (gv id).1 xs.length (gv id).2) ⟨rfl, e', xs, hm, Nat.le_refl _, fun _ => rfl⟩
        show RelG T E N gv { t := putT σ.t o.dst (.one (.osl id (xs.length + [].length))), m := upd σ.m id (some (.sl e' (xs ++ []))) } _ _
        rw [hsame]
        exact this
      by_cases hyn : ys = []
      · exact hnil hyn
      obtain ⟨ad, news, rfl, hnl, hnc, hnr⟩ := hsrc (T e').size hz hyn
      have hl0 : 0 < ys.length := List.length_pos_iff.2 hyn
      have h1c : ∀ u ∈ news, u.oneCell' = true := by
        intro u hu
        obtain ⟨k, hk, rfl⟩ := List.getElem_of_mem hu
        have hk2 : k < ys.flatten.length := by rw [flatten_len _ _ hz]; omega
        exact RepP.one (hnr k _ _ (List.getElem?_eq_getElem hk2) (List.getElem?_eq_getElem hk))
      rcases ho2 with ⟨hv, hx0⟩ | ⟨g, c, cur, hv, _, hh, hcap, hcmax, hcsz, htake⟩
      · -- the slice was nil
        simp at hv
        have hxs : xs = [] := List.length_eq_zero_iff.1 hx0
        subst hxs
        simp only [List.nil_append, List.length_nil, Nat.zero_add] at *
        rw [hv.1, hv.2.2] at hex
        have h63 : (ys.length : Int) ≤ 9223372036854775807 := by simp [maxLen] at hmax; omega
        have h48 : ys.length * ti.bytes ≤ 281474976710656 := by rw [h6]; omega
        rw [run_append_nil (P := P) w t o.type e' ti z h10 h4 h7 ad ys.length cap news (by rw [h5]; exact hnl) hnc hl0 h63 h48] at hex
        have hrun := hex
        simp only [Result.andThen_ok] at hrun
        generalize hgc : grownCap w ys.length 0 e' = gc at hrun
        have hgc1 : ys.length ≤ gc := hgc ▸ grownCap_ge w _ _ _
        have hgc2 : gc ≤ maxLen := hgc ▸ grownCap_le_maxLen w _ _ _ hmax
        intro next Q hn
        refine wp_value hrun (hn (upd gv id (some ⟨w.heap.size, 0, none⟩, gc)) _ _ ?_)
        have ht : Turn σ.m gv w id (upd σ.m id (some (.sl e' ys))) (upd gv id (some ⟨w.heap.size, 0, none⟩, gc)) (w.drew.alloc (.cells (news.toArray ++ Builtin.zeroCells z.cells (gc - ys.length)) e')) := by
          refine ⟨rfl, rfl, rfl, by simp, fun i h => by simp [upd, h], fun i h => by simp [upd, h], fun b' hb' _ => heap_alloc_old w.drew _ b' hb', fun o' b' _ h => ?_, fun cs h => (by rw [hm] at h; cases h), fun e2 xs2 h => ?_⟩
          · simp [blk, upd] at h; subst h; exact ⟨by simp, .inr (Nat.le_refl _)⟩
          · rw [hm] at h; simp at h; obtain ⟨rfl, rfl⟩ := h
            exact ⟨ys, by simp [upd], by simp, fun h => absurd (List.length_eq_zero_iff.1 (by simpa using h)) hyn⟩
        have := hr.put_turn ht (fun ob hob => ?_) (dst := o.dst) hdst (v := .one (.osl id ys.length)) (u := .slice (some ⟨w.heap.size, 0, none⟩) ys.length gc) ?_
        · exact this
        · simp [upd] at hob; subst hob
          refine ⟨hz, news, ⟨hnl, .inr ⟨w.heap.size, gc, _, by simp [upd], Nat.zero_le _, heap_alloc_new w.drew _, hgc1, hgc2, ?_, ?_⟩⟩, fun k q v hq hv => RepP.mono (fun b hb => ht.imm b hb) (hnr k q v hq hv)⟩
          · simp only [Array.size_append, List.size_toArray, size_zeroCells, hzc, hnl]
            rw [← Nat.add_mul]; congr 1; omega
          · simp only [Array.toList_append]
            exact take_append_len _ _ _ hnl
        · exact ⟨rfl, e', ys, by simp [upd], Nat.le_refl _, fun _ => by simp [upd]⟩
      · simp at hv
        obtain ⟨hg1, hg2⟩ := hv
        subst hg2
        rw [hg1] at hex
        have hlen : (xs ++ ys).length = xs.length + ys.length := by simp
        have hmulxy : (xs.length + ys.length) * (T e').size = xs.length * (T e').size + ys.length * (T e').size := Nat.add_mul _ _ _
        by_cases hroom : xs.length + ys.length ≤ (gv id).2
        · have hfit : xs.length * ti.size + news.length ≤ cur.size := by
            rw [h5, hnl, hcsz, ← Nat.add_mul]; exact Nat.mul_le_mul_right _ hroom
          rw [run_append_room (P := P) w t o.type e' ti h10 h4 g xs.length (gv id).2 cur hh ad ys.length cap news (by rw [h5]; exact hnl) hnc h1c hroom hfit] at hex
          have hrun := hex
          simp only [Result.andThen_ok] at hrun
          rw [h5] at hrun
          intro next Q hn
          refine wp_value hrun (hn gv _ _ ?_)
          generalize hnew : (cur.toList.take (xs.length * (T e').size) ++ news ++ cur.toList.drop (xs.length * (T e').size + news.length)).toArray = nw at hrun ⊢
          have ht : Turn σ.m gv w id (upd σ.m id (some (.sl e' (xs ++ ys)))) gv (w.setRow g nw) := by
            refine ⟨rfl, rfl, rfl, by simp, fun i hi => by simp [upd, hi], fun _ _ => rfl, fun b' hb' hno => ?_, fun o' b' ho' hb' => ?_, fun cs h => (by rw [hm] at h; cases h), fun e2 xs2 h => ?_⟩
            · exact setRow_other w g b' _ (fun e => hno _ hm (by simp [blk, hg1, e]))
            · have : b' = g := by simp [blk, hg1] at hb'; exact hb'.symm
              subst this
              exact ⟨by simp; exact (Array.getElem?_eq_some_iff.1 hh).1, .inl ⟨_, hm, hb'⟩⟩
            · rw [hm] at h; simp at h; obtain ⟨rfl, rfl⟩ := h
              exact ⟨xs ++ ys, by simp [upd], by simp, fun _ => rfl⟩
          have hnsz : nw.size = cur.size := by subst hnew; simp; rw [h5] at hfit; omega
          have := hr.put_turn ht (fun ob hob => ?_) (dst := o.dst) hdst (v := .one (.osl id (xs.length + ys.length))) (u := .slice (some ⟨g, 0, none⟩) (xs.length + ys.length) (gv id).2) ?_
          · exact this
          · simp [upd] at hob; subst hob
            refine ⟨hzz, vs ++ news, ⟨?_, .inr ⟨g, (gv id).2, nw, ?_, Nat.zero_le _, setRow_heap w g cur _ e' (0, 0) hh, by rw [hlen]; exact hroom, hcmax, by rw [hnsz, hcsz], ?_⟩⟩, hrep _ _ news (fun b hb => ht.imm b hb) hnr⟩
            · have ho1' : vs.length = xs.length * (T e').size := ho1
              rw [List.length_append, ho1', hnl, hlen, hmulxy]
            · rw [hg1]
            · subst hnew
              rw [hlen, hmulxy, htake, ← hnl]
              simp only [List.toList_toArray]
              rw [List.take_append_of_le_length (by have ho1' : vs.length = xs.length * (T e').size := ho1; simp; omega)]
              exact List.take_of_length_le (by have ho1' : vs.length = xs.length * (T e').size := ho1; simp; omega)
          · exact ⟨rfl, e', xs ++ ys, by simp [upd], by simp, fun _ => by rw [hg1]⟩
        · have h63 : ((xs.length + ys.length : Nat) : Int) ≤ 9223372036854775807 := by simp [maxLen] at hmax; omega
          have hfit := growslice_fits (need := xs.length + ys.length) (old := (gv id).2) (bytes := ti.bytes) (by omega) (by rw [h6]; exact hby)
          rw [run_append_grow (P := P) w t o.type e' ti z h10 h4 h7 ⟨g, 0, none⟩ xs.length (gv id).2 vs (by rw [h5]; exact ho1)
              (fun j v hj => by
                rw [add_none, cell_of_heap hh, Nat.zero_add]
                rw [← htake, List.getElem?_take] at hj
                split at hj
                · simpa using hj
                · cases hj) ad ys.length cap news (by rw [h5]; exact hnl) hnc (by omega) h63 hfit] at hex
          have hrun := hex
          simp only [Result.andThen_ok] at hrun
          generalize hgc : grownCap w (xs.length + ys.length) (gv id).2 e' = gc at hrun
          have hgc1 : xs.length + ys.length ≤ gc := hgc ▸ grownCap_ge w _ _ _
          have hgc2 : gc ≤ maxLen := hgc ▸ grownCap_le_maxLen w _ _ _ hmax
          generalize hnew : vs.toArray ++ news.toArray ++ Builtin.zeroCells z.cells (gc - (xs.length + ys.length)) = nw at hrun
          intro next Q hn
          refine wp_value hrun (hn (upd gv id (some ⟨w.heap.size, 0, none⟩, gc)) _ _ ?_)
          have ht : Turn σ.m gv w id (upd σ.m id (some (.sl e' (xs ++ ys)))) (upd gv id (some ⟨w.heap.size, 0, none⟩, gc)) (w.drew.alloc (.cells nw e')) := by
            refine ⟨rfl, rfl, rfl, by simp, fun i h => by simp [upd, h], fun i h => by simp [upd, h], fun b' hb' _ => heap_alloc_old w.drew _ b' hb', fun o' b' _ h => ?_, fun cs h => (by rw [hm] at h; cases h), fun e2 xs2 h => ?_⟩
            · simp [blk, upd] at h; subst h; exact ⟨by simp, .inr (Nat.le_refl _)⟩
            · rw [hm] at h; simp at h; obtain ⟨rfl, rfl⟩ := h
              exact ⟨xs ++ ys, by simp [upd], by simp, fun h => by simp at h; exact absurd h (by intro e; subst e; simp at hl0)⟩
          have ho1' : vs.length = xs.length * (T e').size := ho1
          have := hr.put_turn ht (fun ob hob => ?_) (dst := o.dst) hdst (v := .one (.osl id (xs.length + ys.length))) (u := .slice (some ⟨w.heap.size, 0, none⟩) (xs.length + ys.length) gc) ?_
          · exact this
          · simp [upd] at hob; subst hob
            refine ⟨hzz, vs ++ news, ⟨?_, .inr ⟨w.heap.size, gc, nw, by simp [upd], Nat.zero_le _, heap_alloc_new w.drew _, by rw [hlen]; exact hgc1, hgc2, ?_, ?_⟩⟩, hrep _ _ news (fun b hb => ht.imm b hb) hnr⟩
            · rw [List.length_append, ho1', hnl, hlen, hmulxy]
            · subst hnew
              simp only [Array.size_append, List.size_toArray, size_zeroCells, hzc, hnl, ho1']
              rw [← hmulxy, ← Nat.add_mul]; congr 1; omega
            · subst hnew
              simp only [Array.toList_append]
              exact take_append_len _ _ _ (by rw [List.length_append, ho1', hnl, hlen, hmulxy])
          · exact ⟨rfl, e', xs ++ ys, by simp [upd], by simp, fun _ => by simp [upd]⟩
    · exact h.elim
  · exact h.elim
end
end Go.AW
