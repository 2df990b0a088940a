/- The soundness of the abstract operations: literals, slices, make, append. -/
import Derived.Test.YtocalihefpafgaaA7
import Derived.Laws.OwnMore
set_option linter.unusedVariables false
set_option linter.unusedSimpArgs false
namespace Go.AW

theorem foldl_set : ∀ (l : List Value) (k off : Nat) (cells : Array Value), off + k + l.length ≤ cells.size →
    ((l.zipIdx k).foldl (fun cs x => cs.setIfInBounds (off + x.2) x.1) cells).toList = splice cells.toList (off + k) l
  | [], k, off, cells, h => by simp [splice]
  | v :: l, k, off, cells, h => by
    simp only [List.zipIdx_cons, List.foldl_cons]
    simp at h
    rw [foldl_set l (k + 1) off _ (by simp; omega)]
    apply List.ext_getElem?
    intro j
    rw [getElem?_splice _ _ _ _ (by simp; omega), getElem?_splice _ _ _ _ (by simp; omega)]
    simp only [Array.toList_setIfInBounds, List.getElem?_set, List.length_cons, Array.length_toList]
    by_cases c1 : j < off + k
    · simp [c1, show j < off + (k + 1) by omega, show off + k ≠ j by omega]
    · by_cases c2 : j = off + k
      · subst c2; simp [show off + k < off + (k + 1) by omega, show off + k < cells.size by omega]
      · have c3 : ¬ j < off + (k + 1) := by omega
        simp only [c1, c3, if_false]
        by_cases c4 : j < off + (k + 1) + l.length
        · rw [if_pos c4, if_pos (by omega)]
          obtain ⟨i, hi⟩ : ∃ i, j - (off + k) = i + 1 := ⟨j - (off + k) - 1, by omega⟩
          rw [hi, List.getElem?_cons_succ]; congr 1; omega
        · rw [if_neg c4, if_neg (by omega), if_neg (by omega)]

theorem fill_foldl (v : Value) (off : Nat) (cells : Array Value) (h : off + v.cells.size ≤ cells.size) :
    (v.cells.zipIdx.foldl (fun cs (c, j) => cs.setIfInBounds (off + j) c) cells).toList = splice cells.toList off v.cells.toList := by
  have := foldl_set v.cells.toList 0 off cells (by simpa using h)
  simp only [Nat.add_zero] at this
  rw [← this, ← Array.foldl_toList]
  simp [Array.toList_zipIdx]

section
variable {P : Program} {T : Tab} {E : Env} {N : Nat} {gv : GV} {σ : St} {a : Act} {w : World}

/-- Parts laid over a literal's zero value: the model's way tells the same. -/
theorem fill_rep {I : Nat → Prop} {m : Nat → Option Obj} {place place' : Nat → Option (Nat × Nat)} (hp : ∀ i x, place i = some x → place' i = some x) :
    ∀ (vs : List (Nat × V)) (us : List (Nat × Value)) (cs r : List Ce) (cells : Array Value), vs.map (·.1) = us.map (·.1) →
    (∀ (k : Nat) x y, vs[k]? = some x → us[k]? = some y → RepV T w I m gv x.2 y.2) → RepL T w I m gv cs cells.toList → fillA place cs vs = some r →
    ∃ out, Instr.fill place' cells us = some out ∧ RepL T w I m gv r out.toList
  | [], [], cs, r, cells, _, _, hl, h => by simp [fillA] at h; subst h; exact ⟨cells, rfl, hl⟩
  | [], _ :: _, cs, r, cells, h1, _, _, _ => by simp at h1
  | _ :: _, [], cs, r, cells, h1, _, _, _ => by simp at h1
  | (i, v) :: vs, (i', u) :: us, cs, r, cells, h1, h2, hl, h => by
    simp at h1
    obtain ⟨rfl, h1⟩ := h1
    have hv := h2 0 _ _ rfl rfl
    simp only [fillA] at h
    split at h
    · rename_i off size ncs hpl hcs
      split at h
      · rename_i hc
        obtain ⟨hc1, hc2⟩ := hc
        have hcr := cells_rep hv hcs
        have hsz : u.cells.size = size := by have := hcr.1; simp at this; omega
        have hcl : cells.size = cs.length := by have := hl.1; simpa using this
        have hle : ¬ off + u.cells.size > cells.size := by omega
        obtain ⟨out, ho, hr⟩ := fill_rep hp vs us (splice cs off ncs) r (u.cells.zipIdx.foldl (fun cs (c, j) => cs.setIfInBounds (off + j) c) cells) h1
          (fun k x y hx hy => h2 (k + 1) x y (by simpa using hx) (by simpa using hy)) (by rw [fill_foldl u off cells (by omega)]; exact repL_splice hl hcr off) h
        refine ⟨out, ?_, hr⟩
        simp only [Instr.fill, hp i _ hpl, hsz, ne_eq, not_true_eq_false, false_or, decide_eq_true_eq]
        rw [hsz] at hle
        simp only [hle, Bool.or_self, decide_false, Bool.false_eq_true, if_false, bne_self_eq_false, Bool.false_or]
        simpa using ho
      · cases h
    · cases h

theorem zipIdx_parts (parts : Array (Nat × Operand)) : ((parts.map fun (i, x) => (i, a.eval x)).toList) = (parts.toList.map (·.1)).zip (parts.toList.map fun x => a.eval x.2) := by
  rw [Array.toList_map]
  induction parts.toList with
  | nil => rfl
  | cons x l ih => simp [ih]

omit T E N gv σ a w in
theorem zip_maps {α β γ : Type} (f : α → β) (g : α → γ) : ∀ l : List α, (l.map f).zip (l.map g) = l.map fun z => (f z, g z)
  | [] => rfl
  | x :: l => by simp [zip_maps f g l]

theorem parts_rep (hr : RelG T E N gv σ a w) (l : List (Nat × Operand)) : ∀ (k : Nat) x y, ((l.map (·.1)).zip ((l.map (·.2)).map σ.ev))[k]? = some x → ((l.map (·.1)).zip (l.map fun x => a.eval x.2))[k]? = some y → RepV T w (Imm E σ.m gv w) σ.m gv x.2 y.2 := by
  intro k x y hx hy
  have e1 : (l.map (·.1)).zip ((l.map (·.2)).map σ.ev) = l.map fun z => (z.1, σ.ev z.2) := by rw [List.map_map]; exact zip_maps _ _ l
  have e2 : (l.map (·.1)).zip (l.map fun x => a.eval x.2) = l.map fun z => (z.1, a.eval z.2) := zip_maps _ _ l
  rw [e1, List.getElem?_map] at hx
  rw [e2, List.getElem?_map] at hy
  cases hz : l[k]? with
  | none => simp [hz] at hx
  | some z =>
    simp [hz] at hx hy
    subst hx; subst hy
    exact ev_rep hr z.2

variable (hT : TabOk P T)
include hT

theorem sound_build {o : Oper} {t : Nat} {parts : Array (Nat × Operand)} {wr : Wr} {fp : List Loc} {C : Con} (hr : RelG T E N gv σ a w) (hdst : ∀ i, o.dst = some i → i < N) (ho : o.op = .build t parts)
    (h : Run C (buildR T t ((parts.toList.map (·.1)).zip ((parts.toList.map (·.2)).map σ.ev))) σ wr fp) : Sound P T E N σ a w o wr := by
  unfold buildR at h
  split at h
  · rename_i fs hd
    split at h
    · rename_i cs hf
      obtain ⟨hne, rfl, _⟩ := h
      have hnt : (T t).d ≠ .other := by rw [hd]; simp
      obtain ⟨ti, z, h1, h2, _, _, h5, h6⟩ := run_typeInfo_T hT hnt
      obtain ⟨ds, h7, h8, h9⟩ := run_underlying_T hT hnt
      rw [hd] at h7
      cases ds with
      | struct fields =>
        simp only [descOk] at h7
        have hplaces : fields.toList.mapM (fun f => (P.info? f.type).map fun i => (f.offset, i.size)) = some (fs.map fun f => (f.1, (T f.2).size)) := by
          rw [← h7] at hne ⊢
          clear h7 h8 h9 hf hd
          generalize fields.toList = fl at hne ⊢
          induction fl with
          | nil => rfl
          | cons f l ih =>
            obtain ⟨ti', z', hi, hs, _⟩ := (hT f.type (hne (f.offset, f.type) (by simp))).info
            simp only [List.mapM_cons, hi, Option.map_some, Option.bind_eq_bind, Option.bind_some, List.map_cons, hs]
            rw [ih (fun g hg => hne g (List.mem_cons_of_mem _ hg))]
            simp
        obtain ⟨out, hout, hrep⟩ := fill_rep (gv := gv) (w := w) (T := T) (place := placeS T fs) (place' := fun i => (fs.map fun f => (f.1, (T f.2).size)).toArray[i]?) (I := Imm E σ.m gv w) (m := σ.m)
          (fun i x hx => by simp only [placeS] at hx; simpa [List.getElem?_map] using hx) _ ((parts.toList.map (·.1)).zip (parts.toList.map fun x => a.eval x.2)) _ _ z.cells
          (by simp [List.map_fst_zip]) (parts_rep hr _) (zero_repL hT hnt h6) hf
        refine sound_value hr hdst (u := .agg out) ?_ ⟨out, rfl, hrep⟩
        have hb : P.built t (parts.map fun (i, x) => (i, a.eval x)).toList = some out := by
          unfold Program.built
          simp only [h2, h8, h5, hplaces]
          rw [zipIdx_parts]; exact hout
        simp [execOp, ho, run_build w t _ out hb]
      | _ => simp [descOk] at h7
    · exact h.elim
  · exact h.elim

omit hT in
/-- The parts of a slice literal, from place k on. -/
theorem fill_slice {I : Nat → Prop} {m : Nat → Option Obj} (size : Nat) : ∀ (vs : List (Nat × V)) (us : List (Nat × Value)) (k : Nat) (xs : List (List PV)) (cells : Array Value), vs.map (·.1) = us.map (·.1) →
    (∀ (k : Nat) x y, vs[k]? = some x → us[k]? = some y → RepV T w I m gv x.2 y.2) → slicePartsA size k vs = some xs → cells.size = (k + xs.length) * size →
    ∃ out, Instr.fill (fun i => some (i * size, size)) cells us = some out ∧ (∀ x ∈ xs, x.length = size) ∧ out.toList.take (k * size) = cells.toList.take (k * size) ∧ out.size = cells.size ∧
      ∀ (j : Nat) q v, xs.flatten[j]? = some q → out[k * size + j]? = some v → RepP w I q v
  | [], [], k, xs, cells, _, _, h, hs => by simp [slicePartsA] at h; subst h; exact ⟨cells, rfl, by simp, rfl, rfl, by simp⟩
  | [], _ :: _, k, xs, cells, h1, _, _, _ => by simp at h1
  | _ :: _, [], k, xs, cells, h1, _, _, _ => by simp at h1
  | (i, v) :: vs, (i', u) :: us, k, xs, cells, h1, h2, h, hs => by
    simp at h1
    obtain ⟨rfl, h1⟩ := h1
    have hv := h2 0 _ _ rfl rfl
    simp only [slicePartsA] at h
    split at h
    · rename_i cs hcs
      split at h
      · rename_i x xs' hpx hrest
        split at h
        · rename_i hc
          obtain ⟨rfl, hxl⟩ := hc
          simp at h; subst h
          have hcr := cells_rep hv hcs
          have := pureL_map hpx
          subst this
          have hsz : u.cells.size = size := by have := hcr.1; simp at this; omega
          have hk : i * size + size ≤ cells.size := by
            rw [hs]; simp only [List.length_cons]
            have := Nat.mul_le_mul_right size (show i + 1 ≤ i + (xs'.length + 1) by omega)
            rwa [Nat.succ_mul] at this
          have hfold := fill_foldl u (i * size) cells (by omega)
          have hfs : (u.cells.zipIdx.foldl (fun cs (c, j) => cs.setIfInBounds (i * size + j) c) cells).size = cells.size := by
            have := congrArg List.length hfold
            simp [splice] at this
            simp; omega
          obtain ⟨out, ho, hx1, ht, hos, hr⟩ := fill_slice size vs us (i + 1) xs' (u.cells.zipIdx.foldl (fun cs (c, j) => cs.setIfInBounds (i * size + j) c) cells) h1
            (fun k x y hx hy => h2 (k + 1) x y (by simpa using hx) (by simpa using hy)) hrest (by rw [hfs, hs]; simp only [List.length_cons]; congr 1; omega)
          have e1 : (i + 1) * size = i * size + size := Nat.succ_mul _ _
          have hget : ∀ j, j < (i + 1) * size → out.toList[j]? = (splice cells.toList (i * size) u.cells.toList)[j]? := by
            intro j hj
            have := congrArg (fun l => l[j]?) ht
            simp only [List.getElem?_take, hj, if_true] at this
            rw [this, hfold]
          refine ⟨out, ?_, ?_, ?_, by rw [hos, hfs], ?_⟩
          · simp only [Instr.fill, hsz]
            rw [if_neg (by simp; omega)]
            exact ho
          · intro y hy
            rcases List.mem_cons.1 hy with rfl | hy
            · exact hxl
            · exact hx1 y hy
          · apply List.ext_getElem?
            intro j
            simp only [List.getElem?_take]
            by_cases hj : j < i * size
            · simp only [hj, if_true]
              rw [hget j (by omega), getElem?_splice _ _ _ _ (by simp; omega), if_pos hj]
            · simp [hj]
          · intro j q v' hq hv'
            simp only [List.flatten_cons] at hq
            by_cases hj : j < size
            · rw [List.getElem?_append_left (by omega)] at hq
              have h3 := hget (i * size + j) (by omega)
              rw [getElem?_splice _ _ _ _ (by simp; omega), if_neg (by omega), if_pos (by simp; omega), Nat.add_sub_cancel_left] at h3
              have hv'' : out.toList[i * size + j]? = some v' := by simpa using hv'
              rw [hv''] at h3
              exact hcr.2 j (.p q) v' (by simp [hq]) h3.symm
            · rw [List.getElem?_append_right (by omega), hxl] at hq
              exact hr (j - size) q v' hq (by rw [e1, show i * size + size + (j - size) = i * size + j by omega]; exact hv')
        · cases h
      · cases h
    · cases h

theorem sound_buildSlice {o : Oper} {t len : Nat} {parts : Array (Nat × Operand)} {wr : Wr} {fp : List Loc} {C : Con} (hr : RelG T E N gv σ a w) (hdst : ∀ i, o.dst = some i → i < N) (ho : o.op = .buildSlice t len parts)
    (h : Run C (buildSliceR T o.dst t len ((parts.toList.map (·.1)).zip ((parts.toList.map (·.2)).map σ.ev))) σ wr fp) : Sound P T E N σ a w o wr := by
  unfold buildSliceR at h
  split at h
  · rename_i e hd
    obtain ⟨ds, h7, h8, h9⟩ := run_underlying_T hT (t := t) (by rw [hd]; simp)
    rw [hd] at h7
    cases ds <;> simp [descOk] at h7
    subst h7
    split at h
    · rename_i hnil
      have hpn : parts = #[] := by
        cases hp : parts.toList with
        | nil => exact Array.toList_eq_nil_iff.1 hp
        | cons x l => rw [hp] at hnil; simp at hnil
      subst hpn
      split at h
      · rename_i d hdd
        obtain ⟨fp', rfl, h⟩ := h
        cases hm : σ.m d with
        | some ob => simp [hm, Run] at h
        | none =>
          simp only [hm] at h
          obtain ⟨⟨hl0, hne⟩, rfl, _⟩ := h
          subst hl0
          have hrun : (execOp a.eval o).run P w = .ok (.value (.slice (some ⟨w.heap.size, 0, none⟩) 0 0)) (w.alloc (.cells #[] e)) := by
            simp [execOp, ho, Instr.buildSlice, h9, run_sizeOf_T hT hne, Instr.fill, newRow, Array.range_zero']
          intro next Q hn
          refine wp_value hrun (hn (upd gv d (some ⟨w.heap.size, 0, none⟩, 0)) _ _ ?_)
          have ht := turn_new (gv := gv) (w := w) hm (.sl e []) 0 (.cells #[] e)
          have := hr.put_turn ht (fun ob hob => ?_) (dst := o.dst) hdst (v := .one (.osl d 0)) (u := .slice (some ⟨w.heap.size, 0, none⟩) 0 0) ?_
          · exact this
          · simp [upd] at hob; subst hob
            refine ⟨by simp, [], ⟨by simp, .inr ⟨w.heap.size, 0, #[], by simp [upd], Nat.zero_le _, heap_alloc_new _ _, Nat.le_refl _, Nat.zero_le _, by simp, by simp⟩⟩, by simp⟩
          · exact ⟨rfl, e, [], by simp [upd], by simp, fun _ => by simp [upd]⟩
      · exact h.elim
    · rename_i p r hcons
      split at h
      · rename_i xs hxs
        obtain ⟨⟨hlen, hne, hpos, hzl, hsmall⟩, h⟩ := h
        obtain ⟨ti, z, h1, h2, h3, _, h5, h6⟩ := run_typeInfo_T hT hne
        rw [← hcons] at hxs
        have hlpos : 0 < xs.length := by
          rw [hcons] at hxs
          obtain ⟨i, v⟩ := p
          simp only [slicePartsA] at hxs
          split at hxs
          · split at hxs
            · split at hxs
              · simp at hxs; subst hxs; simp
              · cases hxs
            · cases hxs
          · cases hxs
        have hzs : z.cells.size = (T e).size := by
          have := congrArg List.length h6
          simp at this; omega
        obtain ⟨out, hout, hx1, _, hos, hrep⟩ := fill_slice (gv := gv) (w := w) (T := T) (I := Imm E σ.m gv w) (m := σ.m) (T e).size _ ((parts.toList.map (·.1)).zip (parts.toList.map fun x => a.eval x.2)) 0 xs
          ((Array.range (len * (T e).size)).map (z.cells[· % z.cells.size]!)) (by simp [List.map_fst_zip]) (parts_rep hr _) hxs (by simp [hlen])
        have hmul : ¬ len * (T e).size = 0 := by
          intro h0
          rcases Nat.mul_eq_zero.1 h0 with h0 | h0 <;> omega
        have hrun : (execOp a.eval o).run P w = .ok (.value (.slice (some ⟨w.heap.size, 0, none⟩) len len)) (w.alloc (.cells out e)) := by
          have := run_buildSlice (P := P) w t e len (parts.map fun (i, x) => (i, a.eval x)) out ti z h8 h2 h5 (by rw [h3]; omega) (by rw [h3]; exact hmul) (by rw [h3, zipIdx_parts]; exact hout)
          simp only [execOp, ho, Sem.run_bind, this, Result.andThen_ok, Sem.run_pure]
        obtain ⟨rfl, _⟩ := h
        intro next Q hn
        refine wp_value hrun (hn gv _ _ ?_)
        refine hr.put_grow (w' := w.alloc (.cells out e)) rfl rfl rfl (by simp) (fun b hb => heap_alloc_old w _ b hb) hdst ?_
        have hg := hr.toRelM.grow (w' := w.alloc (.cells out e)) rfl rfl rfl (by simp) (fun b hb => heap_alloc_old w _ b hb)
        have hfl := flatten_len xs (T e).size hx1
        have hosz : out.size = xs.length * (T e).size := by rw [hos]; simp [hlen]
        show RepP _ _ (.slice xs) _
        rw [hlen]
        refine .sl xs w.heap.size 0 xs.length (T e).size out e (0, 0) out.toList ⟨.inr hr.size, by simp, fun id ob hm hb => ?_⟩ (heap_alloc_new _ _) hx1 (Nat.le_refl _) (fun k v hk => by simpa using hk) (by rw [hfl]; simpa using hosz) (fun k q v hq hv => ?_)
        · have := (hr.own id ob _ hm hb).1; omega
        · exact RepP.mono (fun b hb => hg.2 b hb) (hrep k q v hq (by simpa using hv))
      · exact h.elim
  · exact h.elim
end
end Go.AW
