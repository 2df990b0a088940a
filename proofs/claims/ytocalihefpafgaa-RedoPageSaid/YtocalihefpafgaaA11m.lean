/- Renaming the memory that a call is lent. -/
import Derived.Test.YtocalihefpafgaaA10
set_option linter.unusedVariables false
set_option linter.unusedSimpArgs false
namespace Go.AW

section
variable {T : Tab} {w : World} {I I' : Nat → Prop} {m m' : Nat → Option Obj} {gv gv' : GV} {f : Nat → Nat}

theorem repC_ren {c : Ce} {v : Value} (hI : ∀ b, I b → I' b) (hm : ∀ id ∈ refsC c, ∀ o, m id = some o → m' (f id) = some (renO f o) ∧ gv' (f id) = gv id) (h : RepC T w I m gv c v) : RepC T w I' m' gv' (renC f c) v := by
  cases c with
  | p x => exact RepP.mono (fun b hb => ⟨hI b hb, rfl⟩) h
  | ptr id off =>
    obtain ⟨b, cs, h1, h2, h3⟩ := h
    obtain ⟨h4, h5⟩ := hm id (by simp [refsC]) _ h1
    exact ⟨b, _, h4, by rw [h5]; exact h2, h3⟩
  | osl id n =>
    obtain ⟨h0, e, xs, h1, h2, h3⟩ := h
    obtain ⟨h4, h5⟩ := hm id (by simp [refsC]) _ h1
    exact ⟨h0, e, xs, h4, h2, fun hn => by rw [h5]; exact h3 hn⟩
  | oel id n i off =>
    obtain ⟨h0, e, xs, h1, h2, h3⟩ := h
    obtain ⟨h4, h5⟩ := hm id (by simp [refsC]) _ h1
    exact ⟨h0, e, xs, h4, h2, fun hn => by rw [h5]; exact h3 hn⟩
  | ip cs =>
    obtain ⟨b, off, arr, e, fr, vs, h1, h2, h3, h4, h5, h6⟩ := h
    exact ⟨b, off, arr, e, fr, vs, h1, hI b h2, h3, h4, h5, fun k q u hq hu => RepP.mono (fun b hb => ⟨hI b hb, rfl⟩) (h6 k q u hq hu)⟩
  | bsl id n =>
    obtain ⟨b, cs, h1, h2, h3⟩ := h
    obtain ⟨h4, h5⟩ := hm id (by simp [refsC]) _ h1
    exact ⟨b, _, h4, by rw [h5]; exact h2, h3⟩

theorem repL_ren {c : List Ce} {v : List Value} (hI : ∀ b, I b → I' b) (hm : ∀ id ∈ c.flatMap refsC, ∀ o, m id = some o → m' (f id) = some (renO f o) ∧ gv' (f id) = gv id) (h : RepL T w I m gv c v) : RepL T w I' m' gv' (c.map (renC f)) v := by
  refine ⟨by simp [h.1], fun k x u hx hu => ?_⟩
  rw [List.getElem?_map] at hx
  cases hc : c[k]? with
  | none => rw [hc] at hx; cases hx
  | some y =>
    rw [hc] at hx
    simp only [Option.map_some, Option.some.injEq] at hx
    subst hx
    exact repC_ren hI (fun id hid => hm id (List.mem_flatMap.2 ⟨y, List.mem_of_getElem? hc, hid⟩)) (h.2 k y u hc hu)

theorem repV_ren {x : V} {v : Value} (hI : ∀ b, I b → I' b) (hm : ∀ id ∈ refsV x, ∀ o, m id = some o → m' (f id) = some (renO f o) ∧ gv' (f id) = gv id) (h : RepV T w I m gv x v) : RepV T w I' m' gv' (renV f x) v := by
  cases x with
  | undef => trivial
  | one c => exact repC_ren hI hm h
  | agg cs => obtain ⟨arr, h1, h2⟩ := h; exact ⟨arr, h1, repL_ren hI hm h2⟩
  | tup xs =>
    obtain ⟨arr, h1, h2, h3⟩ := h
    refine ⟨arr, h1, by simp [h2], fun k x u hx hu => ?_⟩
    rw [List.getElem?_map] at hx
    cases hc : xs[k]? with
    | none => rw [hc] at hx; cases hx
    | some y =>
      rw [hc] at hx
      simp only [Option.map_some, Option.some.injEq] at hx
      subst hx
      have hm' : ∀ id ∈ refsW y, ∀ o, m id = some o → m' (f id) = some (renO f o) ∧ gv' (f id) = gv id := fun id hid => hm id (List.mem_flatMap.2 ⟨y, List.mem_of_getElem? hc, hid⟩)
      have := h3 k y u hc hu
      cases y with
      | one c => exact repC_ren hI hm' this
      | agg cs => obtain ⟨arr, h1, h2⟩ := this; exact ⟨arr, h1, repL_ren hI hm' h2⟩

theorem repO_ren {id : Nat} {o : Obj} (hI : ∀ b, I b → I' b) (hg : gv' (f id) = gv id) (hm : ∀ id ∈ refsO o, ∀ o, m id = some o → m' (f id) = some (renO f o) ∧ gv' (f id) = gv id) (h : RepO T w I m gv id o) : RepO T w I' m' gv' (f id) (renO f o) := by
  cases o with
  | box cs =>
    obtain ⟨b, arr, e, h1, h2, h3⟩ := h
    exact ⟨b, arr, e, by rw [hg]; exact h1, h2, repL_ren hI hm h3⟩
  | sl e xs =>
    obtain ⟨h0, vs, h1, h2⟩ := h
    exact ⟨h0, vs, by rw [hg]; exact h1, fun k q v hq hv => RepP.mono (fun b hb => ⟨hI b hb, rfl⟩) (h2 k q v hq hv)⟩

/-- What a value speaks of is there. -/
theorem refsC_dom {c : Ce} {v : Value} (h : RepC T w I m gv c v) : ∀ id ∈ refsC c, ∃ o, m id = some o := by
  intro id hid
  cases c <;> simp [refsC] at hid
  · subst hid; obtain ⟨b, cs, h1, _⟩ := h; exact ⟨_, h1⟩
  · subst hid; obtain ⟨_, e, xs, h1, _⟩ := h; exact ⟨_, h1⟩
  · subst hid; obtain ⟨_, e, xs, h1, _⟩ := h; exact ⟨_, h1⟩
  · subst hid; obtain ⟨b, cs, h1, _⟩ := h; exact ⟨_, h1⟩
theorem refsL_dom {c : List Ce} {v : List Value} (h : RepL T w I m gv c v) : ∀ id ∈ c.flatMap refsC, ∃ o, m id = some o := by
  intro id hid
  obtain ⟨y, hy, hid⟩ := List.mem_flatMap.1 hid
  obtain ⟨k, hk⟩ := List.mem_iff_getElem?.1 hy
  have hlt : k < v.length := by rw [h.1]; exact (List.getElem?_eq_some_iff.1 hk).1
  exact refsC_dom (h.2 k y v[k] hk (List.getElem?_eq_getElem hlt)) id hid
theorem refsV_dom {x : V} {v : Value} (h : RepV T w I m gv x v) : ∀ id ∈ refsV x, ∃ o, m id = some o := by
  intro id hid
  cases x with
  | undef => simp [refsV] at hid
  | one c => exact refsC_dom h id hid
  | agg cs => obtain ⟨arr, h1, h2⟩ := h; exact refsL_dom h2 id hid
  | tup xs =>
    obtain ⟨arr, h1, h2, h3⟩ := h
    obtain ⟨y, hy, hid⟩ := List.mem_flatMap.1 hid
    obtain ⟨k, hk⟩ := List.mem_iff_getElem?.1 hy
    have hlt : k < arr.size := by rw [h2]; exact (List.getElem?_eq_some_iff.1 hk).1
    have := h3 k y arr[k] hk (Array.getElem?_eq_getElem hlt)
    cases y with
    | one c => exact refsC_dom this id hid
    | agg cs => obtain ⟨arr, h1, h2⟩ := this; exact refsL_dom h2 id hid
theorem refsO_dom {id0 : Nat} {o : Obj} (h : RepO T w I m gv id0 o) : ∀ id ∈ refsO o, ∃ o, m id = some o := by
  intro id hid
  cases o with
  | box cs => obtain ⟨b, arr, e, h1, h2, h3⟩ := h; exact refsL_dom h3 id hid
  | sl e xs => simp [refsO] at hid
end

/-! ### The list of what is lent -/

theorem gather_run {C : Con} {α : Type} {σ : St} {a : α} {fp : List Loc} : ∀ (n : Nat) (todo : List Nat) (M : List (Nat × Obj)) (k : List (Nat × Obj) → Rd α), Run C (gatherR n todo M k) σ a fp →
    (∀ x ∈ M, σ.m x.1 = some x.2) → (M.map (·.1)).Nodup → (∀ x ∈ M, ∀ id ∈ refsO x.2, id ∈ M.map (·.1) ∨ id ∈ todo) →
    ∃ N fp', Run C (k N) σ a fp' ∧ (∀ x ∈ N, σ.m x.1 = some x.2) ∧ (N.map (·.1)).Nodup ∧ (∀ x ∈ N, ∀ id ∈ refsO x.2, id ∈ N.map (·.1)) ∧ ∀ id, id ∈ M.map (·.1) ∨ id ∈ todo → id ∈ N.map (·.1)
  | n, [], M, k, h, h1, h2, h3 => by
    have e : gatherR n [] M k = k M := by cases n <;> rfl
    rw [e] at h
    exact ⟨M, fp, h, h1, h2, fun x hx id hid => (h3 x hx id hid).elim (fun h => h) (fun h => by simp at h), fun id h => h.elim (fun h => h) (fun h => by simp at h)⟩
  | 0, _ :: _, M, k, h, _, _, _ => h.elim
  | n + 1, i :: r, M, k, h, h1, h2, h3 => by
    unfold gatherR at h
    split at h
    · rename_i hany
      obtain ⟨x, hx, hxi⟩ := List.any_eq_true.1 hany
      have hxi : x.1 = i := by simpa using hxi
      have him : i ∈ M.map (·.1) := List.mem_map.2 ⟨x, hx, hxi⟩
      obtain ⟨N, fp', k1, k2, k3, k4, k5⟩ := gather_run n r M k h h1 h2 (fun y hy id hid => by
        rcases h3 y hy id hid with h | h
        · exact .inl h
        · rcases List.mem_cons.1 h with rfl | h
          · exact .inl him
          · exact .inr h)
      refine ⟨N, fp', k1, k2, k3, k4, fun id hid => ?_⟩
      rcases hid with h | h
      · exact k5 id (.inl h)
      · rcases List.mem_cons.1 h with rfl | h
        · exact k5 _ (.inl him)
        · exact k5 id (.inr h)
    · rename_i hany
      obtain ⟨fp', rfl, h⟩ := h
      dsimp only at h
      split at h
      · rename_i o ho
        have hni : i ∉ M.map (·.1) := by
          intro hi
          obtain ⟨x, hx, hxi⟩ := List.mem_map.1 hi
          exact hany (List.any_eq_true.2 ⟨x, hx, by simpa using hxi⟩)
        obtain ⟨N, fp'', k1, k2, k3, k4, k5⟩ := gather_run n (refsO o ++ r) (M ++ [(i, o)]) k h (fun x hx => by
            rcases List.mem_append.1 hx with hx | hx
            · exact h1 x hx
            · simp at hx; subst hx; exact ho) (by
            rw [List.map_append, List.nodup_append]
            refine ⟨h2, by simp, fun a ha b hb => ?_⟩
            simp at hb; subst hb
            rintro rfl; exact hni ha) (fun x hx id hid => by
            rcases List.mem_append.1 hx with hx | hx
            · rcases h3 x hx id hid with h | h
              · exact .inl (by simp only [List.map_append, List.mem_append]; exact .inl h)
              · rcases List.mem_cons.1 h with rfl | h
                · exact .inl (by simp)
                · exact .inr (by simp [h])
            · simp at hx; subst hx
              exact .inr (by simp [hid]))
        refine ⟨N, fp'', k1, k2, k3, k4, fun id hid => k5 id ?_⟩
        rcases hid with h | h
        · exact .inl (by simp only [List.map_append, List.mem_append]; exact .inl h)
        · rcases List.mem_cons.1 h with rfl | h
          · exact .inl (by simp)
          · exact .inr (by simp [h])
      · exact h.elim

theorem toIn_spec : ∀ (M : List (Nat × Obj)) (k id : Nat), id ∈ M.map (·.1) → k ≤ toIn M k id ∧ toIn M k id < k + M.length ∧ (M[toIn M k id - k]?).map (·.1) = some id
  | [], k, id, h => by simp at h
  | x :: M, k, id, h => by
    unfold toIn
    split
    · rename_i hx; subst hx; simp
    · rename_i hx
      have h' : id ∈ M.map (·.1) := by
        rcases List.mem_cons.1 h with h | h
        · exact absurd h.symm hx
        · exact h
      obtain ⟨h1, h2, h3⟩ := toIn_spec M (k + 1) id h'
      refine ⟨by omega, by simp; omega, ?_⟩
      obtain ⟨j, hj⟩ : ∃ j, toIn M (k + 1) id - k = j + 1 := ⟨toIn M (k + 1) id - k - 1, by omega⟩
      rw [hj, List.getElem?_cons_succ, show j = toIn M (k + 1) id - (k + 1) by omega]
      exact h3
theorem toOut_spec : ∀ (M : List (Nat × Obj)) (k d i : Nat), k ≤ i → i < k + M.length → (M[i - k]?).map (·.1) = some (toOut M k d i)
  | [], k, d, i, h1, h2 => by simp at h2; omega
  | x :: M, k, d, i, h1, h2 => by
    unfold toOut
    split
    · rename_i h; subst h; simp
    · rename_i h
      obtain ⟨j, hj⟩ : ∃ j, i - k = j + 1 := ⟨i - k - 1, by omega⟩
      rw [hj, List.getElem?_cons_succ, show j = i - (k + 1) by omega]
      exact toOut_spec M (k + 1) d i (by omega) (by simp at h2; omega)
theorem toOut_new : ∀ (M : List (Nat × Obj)) (k d i : Nat), ¬ (k ≤ i ∧ i < k + M.length) → toOut M k d i = d
  | [], k, d, i, h => rfl
  | x :: M, k, d, i, h => by
    unfold toOut
    rw [if_neg (by simp at h; omega)]
    exact toOut_new M (k + 1) d i (by simp at h; omega)
theorem toOut_toIn {M : List (Nat × Obj)} {id d : Nat} (h : id ∈ M.map (·.1)) : toOut M 1000 d (toIn M 1000 id) = id := by
  obtain ⟨h1, h2, h3⟩ := toIn_spec M 1000 id h
  have := toOut_spec M 1000 d _ h1 h2
  rw [h3] at this
  exact (Option.some.inj this).symm
theorem nodup_pos {M : List (Nat × Obj)} (hn : (M.map (·.1)).Nodup) {i j id : Nat} (hi : (M[i]?).map (·.1) = some id) (hj : (M[j]?).map (·.1) = some id) : i = j := by
  rw [← List.getElem?_map] at hi hj
  obtain ⟨h1, h2⟩ := List.getElem?_eq_some_iff.1 hi
  obtain ⟨h3, h4⟩ := List.getElem?_eq_some_iff.1 hj
  exact (List.getElem_inj hn).1 (h2.trans h4.symm)
theorem toIn_toOut {M : List (Nat × Obj)} (hn : (M.map (·.1)).Nodup) {i d : Nat} (h1 : 1000 ≤ i) (h2 : i < 1000 + M.length) : toOut M 1000 d i ∈ M.map (·.1) ∧ toIn M 1000 (toOut M 1000 d i) = i := by
  have h := toOut_spec M 1000 d i h1 h2
  have hm : toOut M 1000 d i ∈ M.map (·.1) := by
    rw [← List.getElem?_map] at h
    exact List.mem_of_getElem? h
  refine ⟨hm, ?_⟩
  obtain ⟨k1, k2, k3⟩ := toIn_spec M 1000 _ hm
  have := nodup_pos hn k3 h
  omega

theorem mOf_lentIn (M : List (Nat × Obj)) (i : Nat) : ∀ (R : List (Nat × Obj)) (k : Nat), mOf (lentIn R k M) i = if k ≤ i ∧ i < k + R.length then (R[i - k]?).map (fun x => renO (toIn M 1000) x.2) else none
  | [], k => by simp [lentIn, mOf]
  | x :: R, k => by
    have ih := mOf_lentIn M i R (k + 1)
    unfold lentIn
    by_cases h : k = i
    · subst h
      rw [if_pos ⟨Nat.le_refl _, by simp⟩]
      simp [mOf]
    · have e : mOf ((k, renO (toIn M 1000) x.2) :: lentIn R (k + 1) M) i = mOf (lentIn R (k + 1) M) i := by
        simp [mOf, List.find?_cons, h]
      rw [e, ih]
      by_cases hc : k + 1 ≤ i ∧ i < k + 1 + R.length
      · rw [if_pos hc, if_pos ⟨by omega, by simp; omega⟩]
        obtain ⟨j, hj⟩ : ∃ j, i - k = j + 1 := ⟨i - k - 1, by omega⟩
        rw [hj, List.getElem?_cons_succ, show i - (k + 1) = j by omega]
      · rw [if_neg hc, if_neg (by simp; omega)]

theorem lent_get {σm : Nat → Option Obj} {M : List (Nat × Obj)} (hM : ∀ x ∈ M, σm x.1 = some x.2) {i : Nat} {o : Obj} (h : mOf (lentIn M 1000 M) i = some o) {d : Nat} :
    1000 ≤ i ∧ i < 1000 + M.length ∧ ∃ o', σm (toOut M 1000 d i) = some o' ∧ o = renO (toIn M 1000) o' ∧ (toOut M 1000 d i, o') ∈ M := by
  rw [mOf_lentIn] at h
  split at h
  · rename_i hi
    refine ⟨hi.1, hi.2, ?_⟩
    have hs := toOut_spec M 1000 d i hi.1 hi.2
    cases hx : M[i - 1000]? with
    | none => rw [hx] at h; cases h
    | some x =>
      rw [hx] at h hs
      simp only [Option.map_some, Option.some.injEq] at h hs
      have hmem := List.mem_of_getElem? hx
      exact ⟨x.2, by rw [← hs]; exact hM x hmem, h.symm, by rw [← hs]; exact hmem⟩
  · cases h
theorem lent_mk {M : List (Nat × Obj)} (hn : (M.map (·.1)).Nodup) {x : Nat × Obj} (hx : x ∈ M) : mOf (lentIn M 1000 M) (toIn M 1000 x.1) = some (renO (toIn M 1000) x.2) := by
  obtain ⟨h1, h2, h3⟩ := toIn_spec M 1000 x.1 (List.mem_map.2 ⟨x, hx, rfl⟩)
  rw [mOf_lentIn, if_pos ⟨h1, h2⟩]
  obtain ⟨k, hk⟩ := List.mem_iff_getElem?.1 hx
  have : k = toIn M 1000 x.1 - 1000 := nodup_pos hn (by rw [hk]; rfl) h3
  rw [← this, hk]; rfl

theorem foldl_rev {g : Nat → Nat} {h : Obj → Obj} : ∀ (M' : List (Nat × Obj)) (m : Nat → Option Obj) (i : Nat), (∀ x ∈ M', ∀ y ∈ M', g x.1 = g y.1 → x.1 = y.1) →
    ((M'.map fun x => (g x.1, h x.2)).reverse.foldl (fun m x => upd m x.1 (some x.2)) m) i = (match M'.find? (fun x => g x.1 == i) with | some x => some (h x.2) | none => m i)
  | [], m, i, _ => rfl
  | x :: M', m, i, hg => by
    simp only [List.map_cons, List.reverse_cons, List.foldl_append, List.foldl_cons, List.foldl_nil, List.find?_cons]
    simp only [upd]
    by_cases hi : i = g x.1
    · subst hi; simp
    · rw [if_neg hi]
      have : (g x.1 == i) = false := by simpa using fun h => hi h.symm
      rw [this]
      exact foldl_rev M' m i (fun y hy z hz => hg y (by simp [hy]) z (by simp [hz]))
end Go.AW
