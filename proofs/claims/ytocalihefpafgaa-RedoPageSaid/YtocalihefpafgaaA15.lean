/- From what the row says of an argument to what the walk asks of it. -/
import Derived.Test.YtocalihefpafgaaA14
import Derived.ChangeOld
import Derived.SizedLaws
import Derived.OpenShut
import Derived.Test.YtocalihefpafgaaRows
set_option linter.unusedVariables false
set_option linter.unusedSimpArgs false
namespace Go.AW
open Go.Proofs.Ytocalihefpafgaa.Rows (uptoBulk uptoBulkAll)

mutual
def pb : PV → Nat
  | .slice xs => pbLL xs + 1
  | .str s => s.size + 1
  | _ => 1
def pbL : List PV → Nat
  | [] => 0
  | q :: qs => pb q + pbL qs
def pbLL : List (List PV) → Nat
  | [] => 0
  | x :: xs => pbL x + pbLL xs
end
theorem pbL_append : ∀ a b : List PV, pbL (a ++ b) = pbL a + pbL b
  | [], b => by simp [pbL]
  | x :: a, b => by simp [pbL, pbL_append a b]; omega

def consec (T : Tab) : List (Nat × Nat) → Nat → Nat → Bool
  | [], off, size => off == size
  | f :: fs, off, size => f.1 == off && consec T fs (off + (T f.2).size) size

def okTy (T : Tab) : Nat → Nat → Bool
  | 0, _ => false
  | n + 1, t => match (T t).d with
    | .bool | .int _ | .str => (T t).size == 1
    | .sl e => (T t).size == 1 && okTy T n e && decide (0 < (T e).size)
    | .arr m e => okTy T n e && (T t).size == m * (T e).size
    | .struct fs => consec T fs 0 (T t).size && fs.all (fun f => okTy T n f.2)
    | _ => false

def WfFields (W : Nat → List PV → Prop) : List (Nat × Nat) → List PV → Prop
  | [], qs => qs = []
  | f :: fs, qs => ∃ a b, qs = a ++ b ∧ W f.2 a ∧ WfFields W fs b

/-- Cells that are well formed for a type. -/
def Wf (T : Tab) : Nat → Nat → List PV → Prop
  | 0, _, _ => False
  | n + 1, t, qs => match (T t).d with
    | .bool => ∃ b, qs = [.bool b]
    | .int k => ∃ m, qs = [.int k m] ∧ (Lit.int k m).wf = true
    | .str => ∃ s : ByteArray, qs = [.str s] ∧ s.size ≤ reachBytes
    | .sl e => ∃ xs, qs = [.slice xs] ∧ xs.length * (T e).bytes ≤ reachBytes ∧ xs.length ≤ maxLen ∧ ∀ x ∈ xs, Wf T n e x
    | .arr m e => ∃ xs : List (List PV), xs.length = m ∧ qs = xs.flatten ∧ ∀ x ∈ xs, Wf T n e x
    | .struct fs => WfFields (Wf T n) fs qs
    | _ => False

def RepAll (w : World) (qs : List PV) (cs : List Value) : Prop := qs.length = cs.length ∧ ∀ (k : Nat) q v, qs[k]? = some q → cs[k]? = some v → RepP w (fun b => b < w.heap.size) q v

theorem RepAll.nil {w : World} : RepAll w [] [] := ⟨rfl, fun k q v h => by simp at h⟩
theorem RepAll.one {w : World} {q : PV} {v : Value} (h : RepP w (fun b => b < w.heap.size) q v) : RepAll w [q] [v] := by
  refine ⟨rfl, fun k q' v' h1 h2 => ?_⟩
  cases k with
  | zero => simp at h1 h2; subst h1 h2; exact h
  | succ k => simp at h1
theorem RepAll.append {w : World} {a b : List PV} {c d : List Value} (h1 : RepAll w a c) (h2 : RepAll w b d) : RepAll w (a ++ b) (c ++ d) := by
  refine ⟨by simp [h1.1, h2.1], fun k q v hq hv => ?_⟩
  by_cases hk : k < a.length
  · rw [List.getElem?_append_left hk] at hq
    rw [List.getElem?_append_left (by rw [← h1.1]; exact hk)] at hv
    exact h1.2 k q v hq hv
  · rw [List.getElem?_append_right (by omega)] at hq
    rw [List.getElem?_append_right (by rw [← h1.1]; omega), ← h1.1] at hv
    exact h2.2 _ q v hq hv

section
variable {H : Type} {enc : TypeId × Value → H} {P : Program} {T : Tab} {w : World}

theorem cellsOf_T (hT : TabOk P T) {t : Nat} (h : (T t).d ≠ .other) : P.cellsOf t = (T t).size := by
  obtain ⟨ti, z, h1, h2, _⟩ := (hT t h).info
  simp [Program.cellsOf, h1, h2]
theorem bytesOf_T (hT : TabOk P T) {t : Nat} (h : (T t).d ≠ .other) : P.bytesOf t = (T t).bytes := by
  obtain ⟨ti, z, h1, h2, h3, _⟩ := (hT t h).info
  simp [Program.bytesOf, h1, h3]
theorem okTy_other {n t : Nat} (h : okTy T n t = true) : (T t).d ≠ .other := by
  intro h2
  cases n with
  | zero => simp [okTy] at h
  | succ n => simp [okTy, h2] at h

/-- What a reading says, at a fixed number of steps. -/
def Opens (enc : TypeId × Value → H) (P : Program) (T : Tab) (w : World) (n t : Nat) : Prop := ∀ (fuel : Nat) (cs : List Value) (x : DataW H × List MemPlace), DataW.trod enc P w 0 (fun _ => true) true fuel t cs = some x →
  (∀ m ∈ x.1.weights P t, m ≤ reachBytes) → ∃ qs, RepAll w qs cs ∧ Wf T n t qs ∧ pbL qs ≤ uptoBulk x.1

theorem open_fields (hT : TabOk P T) {n m : Nat} {cs : List Value} : ∀ (fs : List Field) (off size : Nat) (xs : List (DataW H × List MemPlace)),
    consec T (fs.map fun f => (f.offset, f.type)) off size = true → (∀ f ∈ fs, okTy T n f.type = true) → (∀ f ∈ fs, Opens enc P T w n f.type) → xs.length = fs.length →
    (∀ (i : Nat) (f : Field), fs[i]? = some f → DataW.trod enc P w 0 (fun _ => true) true m f.type ((cs.drop f.offset).take (P.cellsOf f.type)) = xs[i]?) →
    (∀ k ∈ DataW.weightsEach P (fs.map (·.type)) (xs.map (·.1)), k ≤ reachBytes) → size = cs.length →
    ∃ qs, RepAll w qs (cs.drop off) ∧ WfFields (Wf T n) (fs.map fun f => (f.offset, f.type)) qs ∧ pbL qs ≤ uptoBulkAll (xs.map (·.1))
  | [], off, size, xs, hc, _, _, hl, _, _, hs => by
    simp only [List.map_nil, consec, beq_iff_eq] at hc
    have hx : xs = [] := List.length_eq_zero_iff.1 (by simpa using hl)
    subst hx
    have : cs.drop off = [] := List.drop_eq_nil_iff.2 (by omega)
    rw [this]
    exact ⟨[], RepAll.nil, rfl, by simp [pbL, uptoBulkAll]⟩
  | f :: fs, off, size, xs, hc, ho, hO, hl, hx, hw, hs => by
    simp only [List.map_cons, consec, Bool.and_eq_true, beq_iff_eq] at hc
    match xs, hl with
    | x :: xs, hl =>
      have h0 := hx 0 f rfl
      simp only [List.getElem?_cons_zero] at h0
      have hcell := cellsOf_T hT (okTy_other (ho f (by simp)))
      simp only [List.map_cons, DataW.weightsEach, List.mem_append] at hw
      obtain ⟨qs, h1, h2, h3⟩ := hO f (by simp) m _ x h0 (fun k hk => hw k (Or.inl hk))
      obtain ⟨qs', h4, h5, h6⟩ := open_fields hT (m := m) (cs := cs) fs (off + (T f.type).size) size xs hc.2 (fun g hg => ho g (by simp [hg])) (fun g hg => hO g (by simp [hg])) (by simpa using hl)
        (fun i g hg => by have := hx (i + 1) g (by simpa using hg); simpa using this) (fun k hk => hw k (Or.inr hk)) hs
      have e : cs.drop off = (cs.drop f.offset).take (P.cellsOf f.type) ++ cs.drop (off + (T f.type).size) := by
        rw [hc.1, hcell, ← List.drop_drop]; exact (List.take_append_drop _ _).symm
      exact ⟨qs ++ qs', by rw [e]; exact h1.append h4, ⟨qs, qs', rfl, h2, h5⟩, by rw [pbL_append]; simp only [List.map_cons, uptoBulkAll]; omega⟩

/-- Elements one behind the other. -/
theorem open_items {n e sz m : Nat} (hO : Opens enc P T w n e) (cs : List Value) (xs : List (DataW H × List MemPlace)) (hx : ∀ (i : Nat), i < xs.length → DataW.trod enc P w 0 (fun _ => true) true m e ((cs.drop (i * sz)).take sz) = xs[i]?)
    (hw : ∀ k ∈ DataW.weightsAll P e (xs.map (·.1)), k ≤ reachBytes) (hl : cs.length = xs.length * sz) :
    ∃ qss : List (List PV), qss.length = xs.length ∧ RepAll w qss.flatten cs ∧ (∀ x ∈ qss, Wf T n e x) ∧ pbLL qss ≤ uptoBulkAll (xs.map (·.1)) := by
  induction xs generalizing cs with
  | nil =>
    have : cs = [] := List.length_eq_zero_iff.1 (by simpa using hl)
    subst this
    exact ⟨[], rfl, RepAll.nil, by simp, by simp [pbLL, uptoBulkAll]⟩
  | cons x xs ih =>
    have h0 := hx 0 (by simp)
    simp only [Nat.zero_mul, List.drop_zero, List.getElem?_cons_zero] at h0
    simp only [List.map_cons, DataW.weightsAll, List.mem_append] at hw
    obtain ⟨qs, h1, h2, h3⟩ := hO m _ x h0 (fun k hk => hw k (Or.inl hk))
    obtain ⟨qss, k1, k2, k3, k4⟩ := ih (cs.drop sz) (fun i hi => by
      have := hx (i + 1) (by simp; omega)
      rw [List.drop_drop, show sz + i * sz = (i + 1) * sz by rw [Nat.succ_mul]; omega]
      simpa using this) (fun k hk => hw k (Or.inr hk)) (by rw [List.length_drop, hl, List.length_cons, Nat.succ_mul]; omega)
    refine ⟨qs :: qss, by simp [k1], ?_, ?_, by simp only [pbLL, List.map_cons, uptoBulkAll]; omega⟩
    · rw [List.flatten_cons, ← List.take_append_drop sz cs]
      exact h1.append k2
    · intro y hy
      rcases List.mem_cons.1 hy with rfl | hy
      · exact h2
      · exact k3 y hy

theorem bulkAll_append {H : Type} : ∀ a b : List (DataW H), uptoBulkAll (a ++ b) = uptoBulkAll a + uptoBulkAll b
  | [], b => by simp [uptoBulkAll]
  | x :: a, b => by simp [uptoBulkAll, bulkAll_append a b]; omega

theorem pbL_flatten : ∀ xs : List (List PV), pbL xs.flatten = pbLL xs
  | [] => rfl
  | x :: xs => by rw [List.flatten_cons, pbL_append, pbL_flatten xs]; rfl

theorem Wf_len : ∀ {n t : Nat} {qs : List PV}, okTy T n t = true → Wf T n t qs → qs.length = (T t).size
  | 0, t, qs, h, _ => by simp [okTy] at h
  | n + 1, t, qs, h, hw => by
    simp only [okTy] at h
    simp only [Wf] at hw
    generalize hd : (T t).d = d at h hw
    cases d with
    | bool => obtain ⟨b, rfl⟩ := hw; simp at h; simp [h]
    | int k => obtain ⟨b, rfl, _⟩ := hw; simp at h; simp [h]
    | str => obtain ⟨b, rfl, _⟩ := hw; simp at h; simp [h]
    | sl e => simp only [Bool.and_eq_true, beq_iff_eq] at h; obtain ⟨xs, rfl, _⟩ := hw; simp [h.1.1]
    | arr m e =>
      obtain ⟨xs, h1, rfl, h2⟩ := hw
      simp only [Bool.and_eq_true, beq_iff_eq] at h
      rw [h.2, ← h1]
      have hx : ∀ x ∈ xs, x.length = (T e).size := fun x hx => Wf_len h.1 (h2 x hx)
      clear h1 h2 h
      induction xs with
      | nil => simp
      | cons x xs ih =>
        rw [List.flatten_cons, List.length_append, ih (fun y hy => hx y (by simp [hy])), hx x (by simp), List.length_cons, Nat.succ_mul]; omega
    | struct fs =>
      simp only [Bool.and_eq_true] at h
      have key : ∀ (fs : List (Nat × Nat)) (off : Nat) (qs : List PV), consec T fs off (T t).size = true → fs.all (fun f => okTy T n f.2) = true → WfFields (Wf T n) fs qs → off + qs.length = (T t).size := by
        intro fs
        induction fs with
        | nil => intro off qs h1 _ h3; simp [consec] at h1; simp only [WfFields] at h3; subst h3; simp [h1]
        | cons f fs ih =>
          intro off qs h1 h2 h3
          simp only [consec, Bool.and_eq_true] at h1
          simp only [List.all_cons, Bool.and_eq_true] at h2
          obtain ⟨a, b, rfl, ha, hb⟩ := h3
          have := ih _ b h1.2 h2.2 hb
          have hl := Wf_len h2.1 ha
          rw [List.length_append]; omega
      have := key fs 0 qs h.1 h.2 hw
      omega
    | _ => simp at h

theorem open_trod (hT : TabOk P T) : ∀ n t, okTy T n t = true → Opens enc P T w n t
  | 0, t, h => by simp [okTy] at h
  | n + 1, t, h => by
    intro fuel cs x hx hw
    obtain ⟨ds, hds, hd⟩ := (hT t (okTy_other h)).desc
    have hcell := cellsOf_T hT (okTy_other h)
    have h0 := h
    simp only [okTy] at h
    generalize hdd : (T t).d = d at h hd
    cases d with
    | bool =>
      cases ds <;> simp [descOk] at hd
      obtain ⟨b, rfl, rfl⟩ := DataW.trod_bool hds hx
      exact ⟨[.bool b], RepAll.one (.bool b), by simp only [Wf, hdd]; exact ⟨b, rfl⟩, by simp [pbL, pb, uptoBulk]⟩
    | int k =>
      cases ds <;> simp [descOk] at hd
      subst hd
      obtain ⟨b, rfl, rfl, hwf⟩ := DataW.trod_int hds hx
      exact ⟨[.int _ b], RepAll.one (.int _ b), by simp only [Wf, hdd]; exact ⟨b, rfl, hwf⟩, by simp [pbL, pb, uptoBulk]⟩
    | str =>
      cases ds <;> simp [descOk] at hd
      obtain ⟨s, rfl, rfl, hs⟩ := DataW.trod_string hds hx
      have hs2 : s.size ≤ reachBytes := by
        have := hw s.data.toList.length (by simp [DataW.weights])
        rw [Array.length_toList] at this
        exact this
      refine ⟨[.str s], RepAll.one (.str s), by simp only [Wf, hdd]; exact ⟨s, rfl, hs2⟩, ?_⟩
      simp only [pbL, pb, uptoBulk, Array.length_toList]
      exact Nat.le_refl _
    | sl e =>
      cases ds <;> simp [descOk] at hd
      subst hd
      simp only [Bool.and_eq_true, decide_eq_true_eq, beq_iff_eq] at h
      have hec := cellsOf_T hT (okTy_other h.1.2)
      have heb := bytesOf_T hT (okTy_other h.1.2)
      rcases DataW.trod_slice hds hx with ⟨rfl, rfl⟩ | ⟨a, len, cap, elems, rest, m, rfl, rfl, rfl, _, hlc, hcm, hel, hget, _, _⟩
      · exact ⟨[.slice []], RepAll.one (.sl0 none 0 fun _ => rfl), by simp only [Wf, hdd]; exact ⟨[], rfl, by simp, by simp, by simp⟩, by simp [pbL, pb, pbLL, uptoBulk]⟩
      · simp only [DataW.weights, hds] at hw
        have hw1 := hw _ (List.mem_cons_self ..)
        rw [List.length_map, List.length_map, heb] at hw1
        have hw2 : ∀ k ∈ DataW.weightsAll P e (elems.map (·.1)), k ≤ reachBytes := fun k hk => hw k (by simp [hk])
        have hlen : elems.length * (T e).bytes ≤ reachBytes := Nat.le_trans (Nat.mul_le_mul_right _ (by omega)) hw1
        by_cases h0l : len = 0
        · subst h0l
          refine ⟨[.slice []], RepAll.one (.sl0 _ _ fun h => by cases h), by simp only [Wf, hdd]; exact ⟨[], rfl, by simp, by simp, by simp⟩, ?_⟩
          simp [pbL, pb, pbLL, uptoBulk]
        · -- there is a block
          have hcells : ∀ i, i < len → ∃ cs', w.cells? 0 (a.add (i * (T e).size)) (T e).size = some cs' ∧ some cs' >>= DataW.trod enc P w 0 (fun _ => true) true m e = elems[i]? := by
            intro i hi
            have := hget i hi
            rw [hec] at this
            cases hc : w.cells? 0 (a.add (i * (T e).size)) (T e).size with
            | none => rw [hc] at this; simp at this; omega
            | some cs' => rw [hc] at this; exact ⟨cs', rfl, this⟩
          obtain ⟨c0, hc0, _⟩ := hcells 0 (by omega)
          have hz : a.add (0 * (T e).size) = a := by simp [Addr.add]
          rw [hz] at hc0
          obtain ⟨_, hl0, hg0⟩ := World.cells?_some hc0
          have ha0 := hg0 0 h.2
          have hz2 : a.add 0 = a := by simp [Addr.add]
          rw [hz2, List.getElem?_eq_getElem (by omega)] at ha0
          obtain ⟨b, off, sp⟩ := a
          simp only [World.cell?] at ha0
          split at ha0
          · rename_i arr et fr hheap
            have hsp : sp = none := by
              cases sp with
              | none => rfl
              | some s => simp at ha0
            subst hsp
            have hb : b < w.heap.size := by
              have := (Array.getElem?_eq_some_iff.1 hheap).1
              exact this
            -- all cells of the row
            have hall : ∀ j, j < len * (T e).size → ∃ v, arr[off + j]? = some v := by
              intro j hj
              have hi : j / (T e).size < len := Nat.div_lt_of_lt_mul (by rw [Nat.mul_comm]; exact hj)
              obtain ⟨cs', hc', _⟩ := hcells _ hi
              obtain ⟨_, hl', hg'⟩ := World.cells?_some hc'
              have hr := hg' (j % (T e).size) (Nat.mod_lt _ h.2)
              have e1 : (Addr.add (Addr.add ⟨b, off, none⟩ (j / (T e).size * (T e).size)) (j % (T e).size)) = ⟨b, off + j, none⟩ := by
                have := Nat.div_add_mod j (T e).size
                rw [Nat.mul_comm] at this
                unfold Addr.add
                split <;> split <;> simp_all <;> omega
              rw [e1] at hr
              simp only [World.cell?, hheap] at hr
              have hlt : j % (T e).size < cs'.length := by rw [hl']; exact Nat.mod_lt _ h.2
              rw [List.getElem?_eq_getElem hlt] at hr
              exact ⟨_, by simpa using hr⟩
            have hsz : off + len * (T e).size ≤ arr.size := by
              have hp : 0 < len * (T e).size := Nat.mul_pos (by omega) h.2
              obtain ⟨v, hv⟩ := hall (len * (T e).size - 1) (by omega)
              have := (Array.getElem?_eq_some_iff.1 hv).1
              omega
            let vs := (arr.toList.drop off).take (len * (T e).size)
            have hvl : vs.length = len * (T e).size := by simp [vs]; omega
            have hvs : ∀ (k : Nat) v, vs[k]? = some v → arr[off + k]? = some v := by
              intro k v hk
              have hlt : k < vs.length := (List.getElem?_eq_some_iff.1 hk).1
              simp only [vs] at hk
              rw [List.getElem?_take_of_lt (by omega), List.getElem?_drop] at hk
              simpa using hk
            have hitems : ∀ i, i < elems.length → DataW.trod enc P w 0 (fun _ => true) true m e ((vs.drop (i * (T e).size)).take (T e).size) = elems[i]? := by
              intro i hi
              obtain ⟨cs', hc', hd'⟩ := hcells i (by omega)
              obtain ⟨_, hl', hg'⟩ := World.cells?_some hc'
              have : (vs.drop (i * (T e).size)).take (T e).size = cs' := by
                have hb1 : i * (T e).size + (T e).size ≤ len * (T e).size := by
                  rw [← Nat.succ_mul]; exact Nat.mul_le_mul_right _ (by omega)
                refine List.ext_getElem? fun k => ?_
                by_cases hk : k < (T e).size
                · rw [List.getElem?_take_of_lt hk, List.getElem?_drop, ← hg' k hk]
                  have e1 : (Addr.add (Addr.add ⟨b, off, none⟩ (i * (T e).size)) k) = ⟨b, off + (i * (T e).size + k), none⟩ := by
                    unfold Addr.add
                    split <;> split <;> simp_all <;> omega
                  rw [e1]
                  have hlt : i * (T e).size + k < vs.length := by omega
                  simp only [World.cell?, hheap]
                  rw [List.getElem?_eq_getElem hlt]
                  have := hvs _ _ (List.getElem?_eq_getElem hlt)
                  simp [this]
                · rw [List.getElem?_eq_none (by simp; omega), List.getElem?_eq_none (by omega)]
              rw [this]; simpa using hd'
            obtain ⟨qss, k1, k2, k3, k4⟩ := open_items (open_trod hT n e h.1.2) vs elems hitems hw2 (by rw [hvl, hel])
            refine ⟨[.slice qss], RepAll.one ?_, by simp only [Wf, hdd]; exact ⟨qss, rfl, by rw [k1]; exact hlen, by omega, k3⟩, ?_⟩
            · have := RepP.sl (w := w) (I := fun b => b < w.heap.size) qss b off cap (T e).size arr et fr vs hb hheap (fun x hx => Wf_len h.1.2 (k3 x hx)) (by omega) hvs (by rw [k2.1]) (fun k q v hq hv => k2.2 k q v hq hv)
              rw [k1, hel] at this; exact this
            · simp only [pbL, pb, uptoBulk]; omega
          · cases ha0
    | arr m e =>
      cases ds <;> simp [descOk] at hd
      obtain ⟨rfl, rfl⟩ := hd
      simp only [Bool.and_eq_true, beq_iff_eq] at h
      have hec := cellsOf_T hT (okTy_other h.1)
      obtain ⟨xs, f, rfl, rfl, hcl, hxl, hg⟩ := DataW.trod_array hds hx
      rw [hcell] at hcl
      rw [hec] at hg
      simp only [DataW.weights, hds] at hw
      obtain ⟨qss, k1, k2, k3, k4⟩ := open_items (open_trod hT n e h.1) cs xs (fun i hi => hg i (by omega)) hw (by rw [hcl, h.2, hxl])
      refine ⟨qss.flatten, k2, by simp only [Wf, hdd]; exact ⟨qss, by omega, rfl, k3⟩, ?_⟩
      rw [pbL_flatten]; simp only [uptoBulk]; omega
    | struct fs =>
      cases ds <;> simp [descOk] at hd
      rename_i fields
      subst hd
      simp only [Bool.and_eq_true] at h
      obtain ⟨xs, f, rfl, rfl, hcl, hxl, hg⟩ := DataW.trod_struct hds hx
      rw [hcell] at hcl
      simp only [DataW.weights, hds] at hw
      have hok : ∀ g ∈ fields.toList, okTy T n g.type = true := fun g hg => by
        have := List.all_eq_true.1 h.2 (g.offset, g.type) (List.mem_map.2 ⟨g, hg, rfl⟩)
        exact this
      obtain ⟨qs, k1, k2, k3⟩ := open_fields hT (m := f) (cs := cs) fields.toList 0 (T t).size xs h.1 hok (fun g hg => open_trod hT n g.type (hok g hg)) (by simpa using hxl) (fun i g hi => hg i g (by simpa using hi)) hw (by omega)
      exact ⟨qs, by simpa using k1, by simp only [Wf, hdd]; exact k2, by simp only [uptoBulk]; omega⟩
    | _ => simp at h
end
end Go.AW
