/- Code: sequences, tests, blocks, loops; a function's contract out of its body. -/
import Derived.Test.YtocalihefpafgaaA12
set_option linter.unusedVariables false
set_option linter.unusedSimpArgs false
namespace Go.AW

inductive Ex where
  | normal | exit (id : Nat) | ret

/-- Code, with what is to hold behind it; a loop is left to L. -/
def cw (C : Con) (T : Tab) (L : Code → (Ex → St → Prop) → St → Prop) : Code → (Ex → St → Prop) → St → Prop
  | .skip, Q, σ => Q .normal σ
  | .seq a b, Q, σ => cw C T L a (fun e σ => match e with
      | .normal => cw C T L b Q σ
      | .exit j => Q (.exit j) σ
      | .ret => Q .ret σ) σ
  | .cond c x y, Q, σ => match c with
    | .tmp c => match σ.t c with
      | .one (.p (.bool b)) => splitB b fun b => if b = true then cw C T L x Q σ else cw C T L y Q σ
      | _ => False
    | .const (.bool b) => if b = true then cw C T L x Q σ else cw C T L y Q σ
    | _ => False
  | .block id b, Q, σ => cw C T L b (fun e σ => match e with
      | .normal => Q .normal σ
      | .exit j => if j = id then Q .normal σ else Q (.exit j) σ
      | .ret => Q .ret σ) σ
  | .exit id, Q, σ => Q (.exit id) σ
  | .ret, Q, σ => Q .ret σ
  | .region _ ops false, Q, σ => opsK C T ops ops.toList σ (Q .normal)
  | .region _ ops true, Q, σ => opsD C T ops ops.toList σ (fun D σ => drawOk ops D = true ∧ Q .normal σ)
  | .loop b, Q, σ => L (.loop b) Q σ
  | .label _, Q, σ => Q .normal σ
  | _, _, _ => False

def codeOk (N : Nat) : Code → Bool
  | .seq a b => codeOk N a && codeOk N b
  | .cond _ a b => codeOk N a && codeOk N b
  | .block _ b => codeOk N b
  | .loop b => codeOk N b
  | .region _ ops _ => dstOk N ops.toList
  | _ => true

section
variable {P : Program} {T : Tab} {E : Env} {N : Nat}

def post (T : Tab) (E : Env) (N : Nat) (Q : Ex → St → Prop) : Exit → Act → World → Prop
  | .normal, a, w => ∃ gv σ, RelG T E N gv σ a w ∧ Q .normal σ
  | .exit i, a, w => ∃ gv σ, RelG T E N gv σ a w ∧ Q (.exit i) σ
  | .ret, a, w => ∃ gv σ, RelG T E N gv σ a w ∧ Q .ret σ
  | _, _, _ => False

def AW (P : Program) (T : Tab) (E : Env) (N : Nat) (c : Code) (Q : Ex → St → Prop) (σ : St) : Prop :=
  ∀ gv a w, RelG T E N gv σ a w → c.wp P (post T E N Q) a w

theorem RelG.drew {gv : GV} {σ : St} {a : Act} {w : World} (hr : RelG T E N gv σ a w) : RelG T E N gv σ a w.drew := by
  have h := hr.toRelM.grow (w' := w.drew) rfl rfl rfl (Nat.le_refl _) (fun _ _ => rfl)
  exact ⟨h.1, hr.defers, hr.n, fun i => RepV.mono h.2 (Pers.refl _ _) (hr.t i)⟩

theorem cw_sound (hT : TabOk P T) (hm : P.follows .mixedOrders = true) : ∀ (c : Code), codeOk N c = true → ∀ (Q : Ex → St → Prop) (σ : St), cw (ConSem P T) T (AW P T E N) c Q σ → AW P T E N c Q σ := by
  intro c
  induction c with
  | skip => intro _ Q σ h gv a w hr; exact wp_skip ⟨gv, σ, hr, h⟩
  | region id ops draw =>
    intro hN Q σ h gv a w hr
    cases draw with
    | false =>
      refine wp_region ?_
      simp only [cw] at h
      have := wp_text (Q := post T E N Q) (K := Q .normal) hT hN (fun gv σ a w hr hK => ⟨gv, σ, hr, hK⟩) (ops.size - 0) 0 gv σ a w rfl (Nat.zero_le _) hr (by simpa using h)
      simpa using this
    | true =>
      obtain ⟨W, F, D, σ', h1, ⟨h2, h3⟩, h4⟩ := opsD_exec (C := ConSem P T) (T := T) (ops := ops) (ops.size - 0) 0 σ _ rfl (Nat.zero_le _) (by simpa [cw] using h)
      refine wp_region_any hm ?_
      have hall : ((List.range ops.size).filter fun i => !(Array.replicate ops.size false).getD i true) = List.range ops.size := by
        apply List.filter_eq_self.2
        intro i hi
        have := List.mem_range.1 hi
        simp [Array.getD_eq_getD_getElem?, this]
      refine wp_drawn (E := E) hT hN (W := W) (F := F) (D := D) (fun i o ho => by simpa using h4 i o (Nat.zero_le _) ho) h2 (σ' := σ') (fun gv a w hr => ⟨gv, σ', hr, h3⟩) ops.size (Array.replicate ops.size false) gv σ a w.drew (by simp) (by rw [hall]; simp) (fun i o ho hl => ?_) (by rw [hall]; simpa using h1) (hr.drew)
      have hi := (Array.getElem?_eq_some_iff.1 ho).1
      simp [Array.getD_eq_getD_getElem?, hi] at hl
  | seq x y ihx ihy =>
    intro hN Q σ h gv a w hr
    simp only [codeOk, Bool.and_eq_true] at hN
    refine wp_seq (wp_mono (ihx hN.1 _ σ h gv a w hr) ?_)
    intro e a' w' hq
    cases e with
    | normal => obtain ⟨gv', σ', hr', hq⟩ := hq; exact ihy hN.2 Q σ' hq gv' a' w' hr'
    | exit i => exact hq
    | ret => exact hq
    | goto l => exact hq
    | panic c => exact hq
    | outgrown => exact hq
  | cond c x y ihx ihy =>
    intro hN Q σ h gv a w hr
    simp only [codeOk, Bool.and_eq_true] at hN
    simp only [cw] at h
    split at h
    · rename_i c
      have ht := hr.t c
      split at h
      · rename_i b hv
        rw [hv] at ht
        have hb : a.eval (.tmp c) = .bool b := rp_bool ht
        have h := splitB_out h
        cases b with
        | true => exact wp_cond_true hb (ihx hN.1 Q σ (by simpa using h) gv a w hr)
        | false => exact wp_cond_false hb (ihy hN.2 Q σ (by simpa using h) gv a w hr)
      · exact h.elim
    · rename_i b
      cases b with
      | true => exact wp_cond_true rfl (ihx hN.1 Q σ (by simpa using h) gv a w hr)
      | false => exact wp_cond_false rfl (ihy hN.2 Q σ (by simpa using h) gv a w hr)
    · exact h.elim
  | block id b ih =>
    intro hN Q σ h gv a w hr
    refine wp_block (wp_mono (ih hN _ σ h gv a w hr) ?_)
    intro e a' w' hq
    cases e with
    | normal => exact hq
    | exit i =>
      obtain ⟨gv', σ', hr', hq⟩ := hq
      simp only [Exit.inBlock]
      simp only at hq
      split
      · rename_i hi; rw [if_pos hi] at hq; exact ⟨gv', σ', hr', hq⟩
      · rename_i hi; rw [if_neg hi] at hq; exact ⟨gv', σ', hr', hq⟩
    | ret => exact hq
    | goto l => exact hq
    | panic c => exact hq
    | outgrown => exact hq
  | loop b ih => exact fun _ Q σ h => h
  | rangeFunc f ps x y _ _ => intro _ Q σ h; exact h.elim
  | exit id => intro _ Q σ h gv a w hr; exact wp_exit ⟨gv, σ, hr, h⟩
  | scope b _ => intro _ Q σ h; exact h.elim
  | label l => intro _ Q σ h gv a w hr; exact wp_label ⟨gv, σ, hr, h⟩
  | goto l => intro _ Q σ h; exact h.elim
  | ret => intro _ Q σ h gv a w hr; exact wp_ret ⟨gv, σ, hr, h⟩
  | refuse s => intro _ Q σ h; exact h.elim

/-- One round of a loop, and then the loop. -/
theorem wp_loop_round {c : Code} {Q : Exit → Act → World → Prop} {a : Act} {w : World} (hQ : ∀ e a w, Q e a w → e = .normal ∨ (∃ i, e = .exit i) ∨ e = .ret)
    (h : c.wp P (Exit.then (fun a w => (Code.loop c).wp P Q a w) Q) a w) : (Code.loop c).wp P Q a w := by
  intro b k cs
  obtain ⟨e, a₁, w₁, hq, harr⟩ := h b (.inLoop c :: k) cs
  cases e with
  | normal =>
    obtain ⟨e₂, a₂, w₂, hq₂, harr₂⟩ := hq b k cs
    refine ⟨e₂, a₂, w₂, hq₂, .of_steps (.one step_loop) (.of_steps harr ?_)⟩
    -- from the loop's head and from behind a round the same step leads on
    have hstep : ∀ m, Steps P (lone (b.at a₁ (.code (.loop c) :: k)) cs w₁) m → m ≠ lone (b.at a₁ (.code (.loop c) :: k)) cs w₁ → Steps P (lone (b.at a₁ (.inLoop c :: k)) cs w₁) m := by
      rintro m ⟨n, hn⟩ hne
      cases n with
      | zero => simp [runN] at hn; exact absurd hn.symm hne
      | succ n =>
        refine ⟨n + 1, ?_⟩
        simp only [runN, step_loop] at hn
        simp only [runN, step_inLoop]
        exact hn
    have hlen : ∀ {a' : Act} {k' : List Item} {w' : World}, k'.length ≤ k.length → lone (b.at a' k') cs w' ≠ lone (b.at a₁ (.code (.loop c) :: k)) cs w₁ := by
      intro a' k' w' hl he
      have := congrArg (fun m => (m.gs[0]?).map fun g => g.frame.todo.length) he
      simp [lone, Frame.at] at this
      omega
    have hexit : ∀ (id : Nat) (k k' : List Item), exitTo id k = some k' → k'.length ≤ k.length := by
      intro id k
      induction k with
      | nil => intro k' h; simp [exitTo] at h
      | cons x k ih =>
        intro k' h
        cases x <;> simp only [exitTo] at h <;> first
          | (have := ih k' h; simp; omega)
          | (split at h
             · simp at h; subst h; simp
             · have := ih k' h; simp; omega)
    rcases hQ _ _ _ hq₂ with rfl | ⟨i, rfl⟩ | rfl
    · exact hstep _ harr₂ (hlen (Nat.le_refl _))
    · exact fun k' hk => hstep _ (harr₂ k' hk) (hlen (hexit i k k' hk))
    · obtain ⟨todo, hs⟩ := harr₂
      refine ⟨todo, hstep _ hs fun he => ?_⟩
      have := congrArg (fun m => (m.gs[0]?).map fun g => g.frame.mode) he
      simp [lone, Frame.at] at this
  | exit id => exact ⟨_, a₁, w₁, hq, .of_steps (.one step_loop) (.pass (x := .inLoop c) rfl (fun _ _ => .inl (by simp)) harr)⟩
  | goto l => exact ⟨_, a₁, w₁, hq, .of_steps (.one step_loop) (.pass (x := .inLoop c) rfl (fun _ _ => .inl (by simp)) harr)⟩
  | ret => exact ⟨_, a₁, w₁, hq, .of_steps (.one step_loop) (.pass (x := .inLoop c) rfl (fun _ _ => .inl (by simp)) harr)⟩
  | panic ch => exact ⟨_, a₁, w₁, hq, .of_steps (.one step_loop) (.pass (x := .inLoop c) rfl (fun _ _ => .inl (by simp)) harr)⟩
  | outgrown => exact ⟨_, a₁, w₁, hq, .of_steps (.one step_loop) (.pass (x := .inLoop c) rfl (fun _ _ => .inl (by simp)) harr)⟩

theorem post_ends (Q : Ex → St → Prop) : ∀ e a w, post T E N Q e a w → e = .normal ∨ (∃ i, e = .exit i) ∨ e = .ret := by
  intro e a w h
  cases e with
  | normal => exact .inl rfl
  | exit i => exact .inr (.inl ⟨i, rfl⟩)
  | ret => exact .inr (.inr rfl)
  | goto l => exact h.elim
  | panic c => exact h.elim
  | outgrown => exact h.elim

/-- A LOOP's HEAD: one round by the walk, and the loop again where the round ends. -/
theorem aw_loop (hT : TabOk P T) (hm : P.follows .mixedOrders = true) {b : Code} (hN : codeOk N b = true) {Q : Ex → St → Prop} {σ : St}
    (h : cw (ConSem P T) T (AW P T E N) b (fun e σ => match e with
      | .normal => AW P T E N (.loop b) Q σ
      | .exit j => Q (.exit j) σ
      | .ret => Q .ret σ) σ) : AW P T E N (.loop b) Q σ := by
  intro gv a w hr
  refine wp_loop_round (post_ends Q) (wp_mono (cw_sound hT hm b hN _ σ h gv a w hr) ?_)
  intro e a' w' hq
  cases e with
  | normal => obtain ⟨gv', σ', hr', hq⟩ := hq; exact hq gv' a' w' hr'
  | exit i => exact hq
  | ret => exact hq
  | goto l => exact hq
  | panic c => exact hq
  | outgrown => exact hq

/-! ### Forgetting -/

/-- σ' says no more than σ. -/
structure Weak (E : Env) (σ σ' : St) : Prop where
  t : ∀ i, σ'.t i = .undef ∨ σ'.t i = σ.t i
  m : ∀ id, σ'.m id = none ∨ σ'.m id = σ.m id
  rt : ∀ i, ∀ id ∈ refsV (σ'.t i), σ'.m id = σ.m id
  rm : ∀ id o, σ'.m id = some o → ∀ j ∈ refsO o, σ'.m j = σ.m j
  m0 : ∀ id o, E.m0 id = some o → σ'.m id = σ.m id

theorem repC_restrict {w : World} {I I' : Nat → Prop} {m m' : Nat → Option Obj} {gv : GV} {c : Ce} {v : Value} (hI : ∀ b, I b → I' b) (hm : ∀ j ∈ refsC c, m' j = m j) (h : RepC T w I m gv c v) : RepC T w I' m' gv c v := by
  cases c with
  | p x => exact RepP.mono (fun b hb => ⟨hI b hb, rfl⟩) h
  | ptr id off => obtain ⟨b, cs, h1, h2⟩ := h; exact ⟨b, cs, by rw [hm id (by simp [refsC])]; exact h1, h2⟩
  | osl id n => obtain ⟨h0, e, xs, h1, h2⟩ := h; exact ⟨h0, e, xs, by rw [hm id (by simp [refsC])]; exact h1, h2⟩
  | oel id n i off => obtain ⟨h0, e, xs, h1, h2⟩ := h; exact ⟨h0, e, xs, by rw [hm id (by simp [refsC])]; exact h1, h2⟩
  | ip cs =>
    obtain ⟨b, off, arr, e, fr, vs, h1, h2, h3, h4, h5, h6⟩ := h
    exact ⟨b, off, arr, e, fr, vs, h1, hI b h2, h3, h4, h5, fun k q u hq hu => RepP.mono (fun b hb => ⟨hI b hb, rfl⟩) (h6 k q u hq hu)⟩
  | bsl id n => obtain ⟨b, cs, h1, h2⟩ := h; exact ⟨b, cs, by rw [hm id (by simp [refsC])]; exact h1, h2⟩
theorem repL_restrict {w : World} {I I' : Nat → Prop} {m m' : Nat → Option Obj} {gv : GV} {c : List Ce} {v : List Value} (hI : ∀ b, I b → I' b) (hm : ∀ j ∈ c.flatMap refsC, m' j = m j) (h : RepL T w I m gv c v) : RepL T w I' m' gv c v :=
  ⟨h.1, fun k c' v' hc hv => repC_restrict hI (fun j hj => hm j (List.mem_flatMap.2 ⟨c', List.mem_of_getElem? hc, hj⟩)) (h.2 k c' v' hc hv)⟩
theorem repV_restrict {w : World} {I I' : Nat → Prop} {m m' : Nat → Option Obj} {gv : GV} {c : V} {v : Value} (hI : ∀ b, I b → I' b) (hm : ∀ j ∈ refsV c, m' j = m j) (h : RepV T w I m gv c v) : RepV T w I' m' gv c v := by
  cases c with
  | undef => trivial
  | one c => exact repC_restrict hI hm h
  | agg cs => obtain ⟨arr, h1, h2⟩ := h; exact ⟨arr, h1, repL_restrict hI hm h2⟩
  | tup xs =>
    obtain ⟨arr, h1, h2, h3⟩ := h
    refine ⟨arr, h1, h2, fun k x u hx hu => ?_⟩
    have := h3 k x u hx hu
    have hm' : ∀ j ∈ refsW x, m' j = m j := fun j hj => hm j (List.mem_flatMap.2 ⟨x, List.mem_of_getElem? hx, hj⟩)
    cases x with
    | one c => exact repC_restrict hI hm' this
    | agg cs => obtain ⟨arr, h1, h2⟩ := this; exact ⟨arr, h1, repL_restrict hI hm' h2⟩

theorem RelG.weak {gv : GV} {σ σ' : St} {a : Act} {w : World} (hr : RelG T E N gv σ a w) (hw : Weak E σ σ') : RelG T E N gv σ' a w := by
  have hsome : ∀ id o, σ'.m id = some o → σ.m id = some o := fun id o h => by
    rcases hw.m id with h1 | h1
    · rw [h1] at h; cases h
    · rw [← h1]; exact h
  have hI : ∀ b, Imm E σ.m gv w b → Imm E σ'.m gv w b := fun b hb => ⟨hb.1, hb.2.1, fun id o h => hb.2.2 id o (hsome id o h)⟩
  refine ⟨⟨hr.tape, hr.os, hr.output, hr.size, hr.keep, fun id o h => ?_, fun id o b h => hr.own id o b (hsome id o h), fun id id' o o' b h h' => hr.inj id id' o o' b (hsome id o h) (hsome id' o' h'), fun id o b h => hr.new id o b (hsome id o h), ?_⟩, hr.defers, hr.n, fun i => ?_⟩
  · have h1 := hr.rep id o (hsome id o h)
    cases o with
    | box cs => obtain ⟨b, arr, e, h2, h3, h4⟩ := h1; exact ⟨b, arr, e, h2, h3, repL_restrict hI (hw.rm id _ h) h4⟩
    | sl e xs => obtain ⟨h2, vs, h3, h4⟩ := h1; exact ⟨h2, vs, h3, fun k q v hq hv => RepP.mono (fun b hb => ⟨hI b hb, rfl⟩) (h4 k q v hq hv)⟩
  · refine ⟨fun id cs h => ?_, fun id e xs h => ?_⟩
    · obtain ⟨cs', h1, h2⟩ := hr.pers.box id cs h
      exact ⟨cs', by rw [hw.m0 id _ h]; exact h1, h2⟩
    · obtain ⟨xs', h1, h2⟩ := hr.pers.sl id e xs h
      exact ⟨xs', by rw [hw.m0 id _ h]; exact h1, h2⟩
  · rcases hw.t i with h | h
    · rw [h]; trivial
    · rw [h]; exact repV_restrict hI (fun j hj => hw.rt i j (by rw [h]; exact hj)) (hr.t i)

theorem aw_weak {c : Code} {Q : Ex → St → Prop} {σ σ' : St} (hw : Weak E σ σ') (h : AW P T E N c Q σ') : AW P T E N c Q σ :=
  fun gv a w hr => h gv a w (hr.weak hw)

/-! ### Reading as data what is the call's own -/

/-- A slice of the call's own (or a row of such slices) is read as data from now on; its memory is forgotten. -/
inductive ViewC (m m' : Nat → Option Obj) : Ce → Ce → Prop
  | osl (id n e : Nat) (xs : List (List PV)) (h1 : m id = some (.sl e xs)) (h2 : n = xs.length) (h3 : m' id = none) : ViewC m m' (.osl id n) (.p (.slice xs))
  | bsl (id n e : Nat) (cs : List Ce) (xs : List (List (List PV))) (h1 : m id = some (.box cs)) (h2 : n = xs.length) (h3 : m' id = none) (h4 : cs.length = xs.length)
      (h5 : ∀ (k : Nat) x, xs[k]? = some x → ∃ i, cs[k]? = some (.osl i x.length) ∧ m i = some (.sl e x) ∧ m' i = none) : ViewC m m' (.bsl id n) (.p (.slice (xs.map fun x => [.slice x])))

structure WeakF (E : Env) (σ σ' : St) : Prop where
  t : ∀ i, σ'.t i = .undef ∨ (σ'.t i = σ.t i ∧ ∀ id ∈ refsV (σ'.t i), σ'.m id = σ.m id) ∨ ∃ c c', σ.t i = .one c ∧ σ'.t i = .one c' ∧ ViewC σ.m σ'.m c c'
  m : ∀ id, σ'.m id = none ∨ σ'.m id = σ.m id
  rm : ∀ id o, σ'.m id = some o → ∀ j ∈ refsO o, σ'.m j = σ.m j
  m0 : ∀ id o, E.m0 id = some o → σ'.m id = σ.m id

theorem flatten_single {α β : Type} (f : α → β) : ∀ xs : List α, (xs.map fun x => [f x]).flatten = xs.map f
  | [] => rfl
  | x :: r => by simp [flatten_single f r]

theorem RelG.weakF {gv : GV} {σ σ' : St} {a : Act} {w : World} (hr : RelG T E N gv σ a w) (hw : WeakF E σ σ') : RelG T E N gv σ' a w := by
  have hsome : ∀ id o, σ'.m id = some o → σ.m id = some o := fun id o h => by
    rcases hw.m id with h1 | h1
    · rw [h1] at h; cases h
    · rw [← h1]; exact h
  have hI : ∀ b, Imm E σ.m gv w b → Imm E σ'.m gv w b := fun b hb => ⟨hb.1, hb.2.1, fun id o h => hb.2.2 id o (hsome id o h)⟩
  -- the blocks of what is forgotten may be read
  have hB : ∀ id o b, σ.m id = some o → σ'.m id = none → blk gv id = some b → Imm E σ'.m gv w b := by
    intro id o b h1 h2 h3
    refine ⟨?_, (hr.own id o b h1 h3).1, fun id' o' h4 h5 => ?_⟩
    · rcases hr.new id o b h1 h3 with h4 | ⟨⟨o0, h4⟩, _⟩
      · exact .inr h4
      · have := hw.m0 id o0 h4
        rw [h1, h2] at this; cases this
    · have := hr.inj id id' _ _ b h1 (hsome id' o' h4) h3 h5
      subst this
      rw [h2] at h4; cases h4
  have hsl : ∀ id n e xs v, σ.m id = some (.sl e xs) → n = xs.length → σ'.m id = none → RepC T w (Imm E σ.m gv w) σ.m gv (.osl id n) v → RepP w (Imm E σ'.m gv w) (.slice xs) v := by
    intro id n e xs v h1 hn h3 hc
    obtain ⟨h0, e', xs', h1', h2, h4⟩ := hc
    rw [h1] at h1'; cases h1'
    have hv := h4 hn
    obtain ⟨hz, vs, ⟨ho1, ho2⟩, hvs⟩ := hr.rep id _ h1
    rw [hv, hn]
    rcases ho2 with ⟨hnil, hn0⟩ | ⟨g, cap, cur, hv2, _, hh, hcap, _, hsz, htake⟩
    · have := List.length_eq_zero_iff.1 hn0
      subst this
      exact RepP.sl0 _ _ fun _ => by simp at hnil; simp [hnil]
    · simp at hv2
      obtain ⟨hg1, hg2⟩ := hv2
      rw [hg1]
      refine .sl xs g 0 _ (T e).size cur e (0, 0) vs (hB id _ g h1 h3 (by simp [blk, hg1])) hh hz (by rw [hg2]; exact hcap) (fun k u hk => ?_) (by rw [flatten_len _ _ hz]; exact ho1) (fun k q u hq hu => RepP.mono (fun b hb => ⟨hI b hb, rfl⟩) (hvs k q u hq hu))
      rw [← htake, List.getElem?_take] at hk
      split at hk
      · simpa using hk
      · cases hk
  refine ⟨⟨hr.tape, hr.os, hr.output, hr.size, hr.keep, fun id o h => ?_, fun id o b h => hr.own id o b (hsome id o h), fun id id' o o' b h h' => hr.inj id id' o o' b (hsome id o h) (hsome id' o' h'), fun id o b h => hr.new id o b (hsome id o h), ?_⟩, hr.defers, hr.n, fun i => ?_⟩
  · have h1 := hr.rep id o (hsome id o h)
    cases o with
    | box cs => obtain ⟨b, arr, e, h2, h3, h4⟩ := h1; exact ⟨b, arr, e, h2, h3, repL_restrict hI (hw.rm id _ h) h4⟩
    | sl e xs => obtain ⟨h2, vs, h3, h4⟩ := h1; exact ⟨h2, vs, h3, fun k q v hq hv => RepP.mono (fun b hb => ⟨hI b hb, rfl⟩) (h4 k q v hq hv)⟩
  · refine ⟨fun id cs h => ?_, fun id e xs h => ?_⟩
    · obtain ⟨cs', h1, h2⟩ := hr.pers.box id cs h
      exact ⟨cs', by rw [hw.m0 id _ h]; exact h1, h2⟩
    · obtain ⟨xs', h1, h2⟩ := hr.pers.sl id e xs h
      exact ⟨xs', by rw [hw.m0 id _ h]; exact h1, h2⟩
  · rcases hw.t i with h | ⟨h, hrt⟩ | ⟨c, c', h1, h2, hv⟩
    · rw [h]; trivial
    · rw [h]; exact repV_restrict hI (fun j hj => hrt j (by rw [h]; exact hj)) (hr.t i)
    · have hti := hr.t i
      rw [h1] at hti
      rw [h2]
      have hti : RepC T w (Imm E σ.m gv w) σ.m gv c (a.tmps.getD i undef) := hti
      show RepC T w (Imm E σ'.m gv w) σ'.m gv c' _
      generalize a.tmps.getD i undef = v at hti
      cases hv with
      | osl id n e xs h3 h4 h5 => exact hsl id n e xs v h3 h4 h5 hti
      | bsl id n e cs xs h3 h4 h5 h6 h7 =>
        obtain ⟨b, cs', k1, k2, k3⟩ := hti
        rw [h3] at k1; cases k1
        obtain ⟨b', arr, e0, k4, k5, k6⟩ := hr.rep id _ h3
        rw [k2] at k4; simp at k4; subst k4
        have hal : arr.size = xs.length := by have := k6.1; simp at this; omega
        subst k3
        show RepP w _ (.slice _) _
        have hgoal : RepP w (Imm E σ'.m gv w) (.slice (xs.map fun x => [.slice x])) (.slice (some ⟨b, 0, none⟩) (xs.map fun x => [PV.slice x]).length n) := by
          refine .sl _ b 0 n 1 arr e0 (0, 0) arr.toList (hB id _ b h3 h5 (by simp [blk, k2])) k5 (fun x hx => ?_) (by simp [h4]) (fun k u hk => by simpa using hk) (by rw [flatten_single]; simp [hal]) (fun k q u hq hu => ?_)
          · obtain ⟨y, _, rfl⟩ := List.mem_map.1 hx; rfl
          · rw [flatten_single, List.getElem?_map] at hq
            cases hx : xs[k]? with
            | none => rw [hx] at hq; simp at hq
            | some x =>
              rw [hx] at hq; simp at hq; subst hq
              obtain ⟨j, m1, m2, m3⟩ := h7 k x hx
              exact hsl j x.length e x u m2 rfl m3 (k6.2 k _ u m1 hu)
        rw [List.length_map, ← h4] at hgoal
        exact hgoal

theorem aw_weakF {c : Code} {Q : Ex → St → Prop} {σ σ' : St} (hw : WeakF E σ σ') (h : AW P T E N c Q σ') : AW P T E N c Q σ :=
  fun gv a w hr => h gv a w (hr.weakF hw)

/-- Where a piece of code ends, what is the call's own may be read as data. -/
theorem aw_endF {c : Code} {Q : Ex → St → Prop} {σ : St} (h : AW P T E N c (fun e σ => ∃ σ', WeakF E σ σ' ∧ Q e σ') σ) : AW P T E N c Q σ := by
  intro gv a w hr
  refine wp_mono (h gv a w hr) ?_
  intro e a' w' hq
  cases e with
  | normal => obtain ⟨gv', σ', hr', σ2, hf, hq⟩ := hq; exact ⟨gv', σ2, hr'.weakF hf, hq⟩
  | exit i => obtain ⟨gv', σ', hr', σ2, hf, hq⟩ := hq; exact ⟨gv', σ2, hr'.weakF hf, hq⟩
  | ret => obtain ⟨gv', σ', hr', σ2, hf, hq⟩ := hq; exact ⟨gv', σ2, hr'.weakF hf, hq⟩
  | goto l => exact hq
  | panic c => exact hq
  | outgrown => exact hq

/-! ### What a call hands back -/

/-- A result's cell, with what is the call's own read as data. -/
def finC (m : Nat → Option Obj) (c : Ce) (K : Ce → Prop) : Prop :=
  match c with
  | .p .nilsl => K (.p (.slice []))
  | .p x => K (.p x)
  | .osl id n => match m id with
    | some (.sl _ xs) => n = xs.length ∧ K (.p (.slice xs))
    | _ => False
  | _ => False
def finL (m : Nat → Option Obj) : List Ce → (List Ce → Prop) → Prop
  | [], K => K []
  | c :: r, K => finC m c fun c => finL m r fun r => K (c :: r)
def finV (m : Nat → Option Obj) (v : V) (K : W1 → Prop) : Prop :=
  match v with
  | .one c => finC m c fun c => K (.one c)
  | .agg cs => finL m cs fun cs => K (.agg cs)
  | _ => False
def finVs (m : Nat → Option Obj) : List V → (List W1 → Prop) → Prop
  | [], K => K []
  | v :: r, K => finV m v fun v => finVs m r fun r => K (v :: r)

def retK (C : Con) (T : Tab) : List ResultVar → St → (List V → Prop) → Prop
  | [], σ, K => K []
  | .tmp t :: r, σ, K => retK C T r σ fun vs => K (σ.t t :: vs)
  | .cell q ty :: r, σ, K => runK C (loadR T ty (σ.t q)) σ fun w _ => retK C T r σ fun vs => K (w.v :: vs)

def resOf : List W1 → V
  | [x] => x.v
  | xs => .tup xs

def RetQ (C : Con) (T : Tab) (rs : List ResultVar) (K : V → Prop) (e : Ex) (σ : St) : Prop :=
  match e with
  | .exit _ => False
  | _ => retK C T rs σ fun vs => finVs σ.m vs fun xs => K (resOf xs)

theorem finC_rep {gv : GV} {σ : St} {a : Act} {w : World} (hr : RelG T E N gv σ a w) {I' : Nat → Prop} (hI : ∀ b, Imm E σ.m gv w b → I' b) (hB : ∀ id o b, σ.m id = some o → blk gv id = some b → I' b)
    {m' : Nat → Option Obj} {gv' : GV} {c : Ce} {v : Value} {K : Ce → Prop} (hc : RepC T w (Imm E σ.m gv w) σ.m gv c v) (h : finC σ.m c K) : ∃ c', K c' ∧ RepC T w I' m' gv' c' v := by
  unfold finC at h
  split at h
  · have : v = .slice none 0 0 := rp_nilsl hc
    subst this
    exact ⟨_, h, RepP.sl0 none 0 fun _ => rfl⟩
  · exact ⟨_, h, RepP.mono (fun b hb => ⟨hI b hb, rfl⟩) hc⟩
  · rename_i id n
    obtain ⟨h0, e, xs, h1, h2, h3⟩ := hc
    simp only [h1] at h
    obtain ⟨hn, h⟩ := h
    refine ⟨_, h, ?_⟩
    have hv := h3 hn
    obtain ⟨hz, vs, ⟨ho1, ho2⟩, hvs⟩ := hr.rep id _ h1
    show RepP w I' (.slice xs) v
    rw [hv, hn]
    rcases ho2 with ⟨hnil, hn0⟩ | ⟨g, cap, cur, hv2, _, hh, hcap, _, hsz, htake⟩
    · have := List.length_eq_zero_iff.1 hn0
      subst this
      exact RepP.sl0 _ _ fun _ => by simp at hnil; simp [hnil]
    · simp at hv2
      obtain ⟨hg1, hg2⟩ := hv2
      rw [hg1]
      refine .sl xs g 0 _ (T e).size cur e (0, 0) vs (hB id _ g h1 (by simp [blk, hg1])) hh hz (by rw [hg2]; exact hcap) (fun k u hk => ?_) (by rw [flatten_len _ _ hz]; exact ho1) (fun k q u hq hu => RepP.mono (fun b hb => ⟨hI b hb, rfl⟩) (hvs k q u hq hu))
      rw [← htake, List.getElem?_take] at hk
      split at hk
      · simpa using hk
      · cases hk
  · exact h.elim

theorem finL_rep {gv : GV} {σ : St} {a : Act} {w : World} (hr : RelG T E N gv σ a w) {I' : Nat → Prop} (hI : ∀ b, Imm E σ.m gv w b → I' b) (hB : ∀ id o b, σ.m id = some o → blk gv id = some b → I' b)
    {m' : Nat → Option Obj} {gv' : GV} : ∀ {cs : List Ce} {vs : List Value} {K : List Ce → Prop}, RepL T w (Imm E σ.m gv w) σ.m gv cs vs → finL σ.m cs K → ∃ cs', K cs' ∧ RepL T w I' m' gv' cs' vs
  | [], vs, K, hc, h => by
    have : vs = [] := List.length_eq_zero_iff.1 hc.1
    subst this
    exact ⟨[], h, repL_nil⟩
  | c :: cs, [], K, hc, h => by simp [RepL] at hc
  | c :: cs, v :: vs, K, hc, h => by
    obtain ⟨c', h, hc1⟩ := finC_rep (m' := m') (gv' := gv') hr hI hB (hc.2 0 c v rfl rfl) h
    obtain ⟨cs', h, hc2⟩ := finL_rep (m' := m') (gv' := gv') hr hI hB (cs := cs) (vs := vs) ⟨by have := hc.1; simpa using this, fun k c v h1 h2 => hc.2 (k + 1) c v (by simpa using h1) (by simpa using h2)⟩ h
    exact ⟨_, h, repL_cons hc1 hc2⟩

theorem finV_rep {gv : GV} {σ : St} {a : Act} {w : World} (hr : RelG T E N gv σ a w) {I' : Nat → Prop} (hI : ∀ b, Imm E σ.m gv w b → I' b) (hB : ∀ id o b, σ.m id = some o → blk gv id = some b → I' b)
    {m' : Nat → Option Obj} {gv' : GV} {x : V} {v : Value} {K : W1 → Prop} (hc : RepV T w (Imm E σ.m gv w) σ.m gv x v) (h : finV σ.m x K) : ∃ x', K x' ∧ RepW T w I' m' gv' x' v := by
  unfold finV at h
  split at h
  · obtain ⟨c', h, hc⟩ := finC_rep (m' := m') (gv' := gv') hr hI hB hc h
    exact ⟨_, h, hc⟩
  · obtain ⟨arr, h1, h2⟩ := hc
    obtain ⟨c', h, hc⟩ := finL_rep (m' := m') (gv' := gv') hr hI hB h2 h
    exact ⟨_, h, arr, h1, hc⟩
  · exact h.elim

theorem finVs_rep {gv : GV} {σ : St} {a : Act} {w : World} (hr : RelG T E N gv σ a w) {I' : Nat → Prop} (hI : ∀ b, Imm E σ.m gv w b → I' b) (hB : ∀ id o b, σ.m id = some o → blk gv id = some b → I' b)
    {m' : Nat → Option Obj} {gv' : GV} : ∀ {xs : List V} {vs : List Value} {K : List W1 → Prop}, vs.length = xs.length → (∀ (k : Nat) x v, xs[k]? = some x → vs[k]? = some v → RepV T w (Imm E σ.m gv w) σ.m gv x v) → finVs σ.m xs K →
      ∃ xs', K xs' ∧ vs.length = xs'.length ∧ ∀ (k : Nat) x v, xs'[k]? = some x → vs[k]? = some v → RepW T w I' m' gv' x v
  | [], vs, K, hl, hc, h => ⟨[], h, hl, fun k x v h => by simp at h⟩
  | x :: xs, [], K, hl, hc, h => by simp at hl
  | x :: xs, v :: vs, K, hl, hc, h => by
    obtain ⟨x', h, hc1⟩ := finV_rep (m' := m') (gv' := gv') hr hI hB (hc 0 x v rfl rfl) h
    obtain ⟨xs', h, hl', hc2⟩ := finVs_rep (m' := m') (gv' := gv') hr hI hB (xs := xs) (vs := vs) (by simpa using hl) (fun k x v h1 h2 => hc (k + 1) x v (by simpa using h1) (by simpa using h2)) h
    refine ⟨_, h, by simp [hl'], fun k y u hy hu => ?_⟩
    cases k with
    | zero => simp at hy hu; subst hy; subst hu; exact hc1
    | succ k => exact hc2 k y u (by simpa using hy) (by simpa using hu)

theorem retK_run (hT : TabOk P T) {C : Con} {gv : GV} {σ : St} {a : Act} {w : World} (hr : RelG T E N gv σ a w) : ∀ (rs : List ResultVar) (K : List V → Prop), retK C T rs σ K →
    ∃ xs us, K xs ∧ (rs.mapM (m := Sem) fun | .tmp t => pure (a.tmps.getD t undef) | .cell q t => do loadVar t (← asAddr (a.tmps.getD q undef))).run P w = .ok us w ∧ us.length = xs.length ∧
      ∀ (k : Nat) x v, xs[k]? = some x → us[k]? = some v → RepV T w (Imm E σ.m gv w) σ.m gv x v
  | [], K, h => ⟨[], [], h, by simp, rfl, fun k x v h => by simp at h⟩
  | .tmp t :: rs, K, h => by
    obtain ⟨xs, us, h1, h2, h3, h4⟩ := retK_run hT hr rs _ h
    refine ⟨σ.t t :: xs, a.tmps.getD t undef :: us, h1, by simp only [List.mapM_cons, Sem.run_bind, Sem.run_pure, Result.andThen_ok, h2], by simp [h3], fun k x v hx hv => ?_⟩
    cases k with
    | zero => simp at hx; subst hx; have := hr.t t; simp at hv; subst hv; simpa using this
    | succ k => exact h4 k x v (by simpa using hx) (by simpa using hv)
  | .cell q ty :: rs, K, h => by
    obtain ⟨wr, fp, hrun, h⟩ := runK_run C _ _ _ h
    obtain ⟨xs, us, h1, h2, h3, h4⟩ := retK_run hT hr rs _ h
    obtain ⟨ad, u, hq, hl, hv, _⟩ := load_rep (P := P) hT hr (hr.t q) hrun
    have hl2 : (loadVar ty ad).run P w = .ok u w := by
      rw [hq] at hl
      simpa [Instr.loadAt, Instr.sureAddr] using hl
    have hq2 : (asAddr (a.tmps.getD q undef)).run P w = .ok ad w := by rw [hq]; rfl
    refine ⟨wr.v :: xs, u :: us, h1, by simp only [List.mapM_cons, Sem.run_bind, Sem.run_pure, Result.andThen_ok, hq2, hl2, h2], by simp [h3], fun k x v hx hv' => ?_⟩
    cases k with
    | zero => simp at hx hv'; subst hx; subst hv'; exact hv
    | succ k => exact h4 k x v (by simpa using hx) (by simpa using hv')

def st0 (args : List V) : St := { t := fun i => args.getD i .undef, m := fun _ => none }

/-- THE CONTRACT OF A FUNCTION THAT ONLY RECKONS: its body, walked from its arguments. -/
theorem con_pure (hT : TabOk P T) (hm : P.follows .mixedOrders = true) {f : FuncId} {fn : Func} {c : Code} (hf : P.funcs[f]? = some fn) (hb : fn.body = some c) (hname : (fn.name == "runtime.NumGoroutine") = false)
    (hN : codeOk fn.ntmps c = true) {args : List V} {r : V} (hlen : args.length ≤ fn.ntmps)
    (h : ∀ E : Env, (E.m0 = fun _ => none) → cw (ConSem P T) T (AW P T E fn.ntmps) c (RetQ (ConSem P T) T fn.results.toList (fun v => v = r)) (st0 args)) : ConSem P T f args [] r [] := by
  refine ⟨⟨fn, hf, by simp [hb], hname⟩, fun w gv J vs hJ hrel hsz hargs => ?_⟩
  refine calls_of_wp hf hb ?_
  have hm0 : ∀ id, mOf [] id = none := fun id => rfl
  generalize hE : (⟨w, mOf [], gv, J, fun b => ∃ id o, mOf [] id = some o ∧ blk gv id = some b, hJ⟩ : Env) = E at hrel ⊢
  have e1 : E.w0 = w := by rw [← hE]
  have e2 : E.m0 = fun _ => none := by rw [← hE]; rfl
  have e3 : E.J = J := by rw [← hE]
  have e4 : ∀ b, ¬ E.B b := by rw [← hE]; rintro b ⟨id, o, h, _⟩; simp [hm0] at h
  have hr0 : RelG T E fn.ntmps gv (st0 args) { tmps := vs ++ Array.replicate (fn.ntmps - vs.size) undef, defers := [] } w := by
    refine ⟨hrel, rfl, by simp; omega, fun i => ?_⟩
    show RepV T w _ _ gv (args.getD i .undef) _
    cases hi : args[i]? with
    | none => simp [List.getD, hi, RepV]
    | some x =>
      have hlt : i < vs.size := by rw [hsz]; exact (List.getElem?_eq_some_iff.1 hi).1
      have hv : vs[i]? = some vs[i] := by simp [hlt]
      have := hargs i x _ hi hv
      rw [Array.getD_eq_getD_getElem?, Array.getElem?_append_left hlt, hv]
      simp only [List.getD, hi, Option.getD_some]
      refine repV_restrict (fun b hb => ⟨.inl (by rw [e3]; exact hb), (hJ b hb).1, fun id o h => by cases h⟩) (fun _ _ => rfl) this
  refine wp_mono (cw_sound hT hm c hN _ _ (h E e2) gv _ w hr0) ?_
  -- the end
  have hend : ∀ (gv' : GV) (σ' : St) (a' : Act) (w' : World), RelG T E fn.ntmps gv' σ' a' w' → (retK (ConSem P T) T fn.results.toList σ' fun vs => finVs σ'.m vs fun xs => resOf xs = r) →
      a'.defers = [] ∧ ∃ v, (results fn a'.tmps).run P w' = .ok v w' ∧ ∃ v' gv', (Ending.returned v = .returned v' ∧ RelM T E gv' (mOf []) w' ∧ RepV T w' (Imm E (mOf []) gv' w') (mOf []) gv' r v') := by
    intro gv' σ' a' w' hr' hret
    obtain ⟨xs, us, hfin, hrun, hul, hrep⟩ := retK_run hT hr' _ _ hret
    have hI : ∀ b, Imm E σ'.m gv' w' b → Imm E (mOf []) gv' w' b := fun b hb => ⟨hb.1, hb.2.1, fun id o h => by simp [hm0] at h⟩
    have hB : ∀ id o b, σ'.m id = some o → blk gv' id = some b → Imm E (mOf []) gv' w' b := fun id o b h1 h2 =>
      ⟨.inr (((hr'.own id o b h1 h2).2).resolve_left (e4 b)), (hr'.own id o b h1 h2).1, fun id o h => by simp [hm0] at h⟩
    obtain ⟨ws, hws, hwl, hwr⟩ := finVs_rep (m' := mOf []) (gv' := gv') hr' hI hB hul hrep hfin
    have hres : (results fn a'.tmps).run P w' = .ok (if h : us.toArray.size = 1 then us.toArray[0] else .tuple us.toArray) w' := by
      unfold results
      rw [Array.mapM_eq_mapM_toList]
      simp only [Sem.run_bind, Sem.run_map, Sem.run_pure]
      exact congrArg (fun r : Result (List Value) => ((r.andThen fun a w' => .ok a.toArray w').andThen fun a w' => Result.ok (if h : a.size = 1 then a[0] else .tuple a) w')) hrun
    refine ⟨hr'.defers, _, hres, _, gv', rfl, ?_, ?_⟩
    · refine ⟨hr'.tape, hr'.os, hr'.output, hr'.size, hr'.keep, fun id o h => by simp [hm0] at h, fun id o b h => by simp [hm0] at h, fun id id' o o' b h => by simp [hm0] at h, fun id o b h => by simp [hm0] at h, ?_⟩
      rw [e2]
      exact ⟨fun id cs h => (by cases h), fun id e xs h => (by cases h)⟩
    · rw [← hws]
      match us, ws, hwl, hwr with
      | [], [], _, hwr => exact ⟨#[], rfl, rfl, fun k x u h => by simp at h⟩
      | [u], [x], _, hwr =>
        have := hwr 0 x u rfl rfl
        cases x with
        | one c => exact this
        | agg cs => exact this
      | u :: u' :: us, x :: x' :: ws, hwl, hwr =>
        simp only [resOf]
        rw [dif_neg (by simp)]
        exact ⟨_, rfl, by simpa using hwl, fun k y v hy hv => hwr k y v hy (by simpa using hv)⟩
      | [], _ :: _, h, _ => simp at h
      | _ :: _, [], h, _ => simp at h
      | [_], _ :: _ :: _, h, _ => simp at h
      | _ :: _ :: _, [_], h, _ => simp at h
  intro e a' w' hq
  cases e with
  | normal => obtain ⟨gv', σ', hr', hq⟩ := hq; exact hend gv' σ' a' w' hr' hq
  | exit i => obtain ⟨gv', σ', hr', hq⟩ := hq; exact hq.elim
  | ret => obtain ⟨gv', σ', hr', hq⟩ := hq; exact hend gv' σ' a' w' hr' hq
  | goto l => exact hq.elim
  | panic c => exact hq.elim
  | outgrown => exact hq.elim
end
end Go.AW
