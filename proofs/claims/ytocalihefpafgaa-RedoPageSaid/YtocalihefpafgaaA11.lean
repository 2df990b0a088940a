/- A call by its contract; all operations in one; regions. -/
import Derived.Test.YtocalihefpafgaaA11m
set_option linter.unusedVariables false
set_option linter.unusedSimpArgs false
namespace Go.AW

section
variable {P : Program} {T : Tab} {E : Env} {N : Nat} {gv : GV} {σ : St} {a : Act} {w : World} (hT : TabOk P T)

theorem run_call {f : Operand} {args : Array Operand} {ats : Array Nat} {o : Oper} {g : Nat} {fn : Func} (ho : o.op = .call { callee := .value f, args := args, argTypes := ats }) (hf : a.eval f = .func (.func g) #[] #[])
    (h1 : P.funcs[g]? = some fn) (h2 : fn.body.isSome = true) (h3 : (fn.name == "runtime.NumGoroutine") = false) : (execOp a.eval o).run P w = .ok (.enter g (args.map a.eval)) w := by
  have h2' : fn.body.isNone = false := by cases h : fn.body <;> simp_all
  simp only [execOp, ho, resolve, hf, Deferred.ofValue, Sem.run_bind, Sem.run_pure, Result.andThen_ok, invoke, callFunc, run_program, h1, h2', h3, Bool.false_eq_true, if_false]
  simp

theorem newIn_nil {n : Nat} {M' : List (Nat × Obj)} (h : newIn n M' = []) {x : Nat × Obj} (hx : x ∈ M') : 1000 ≤ x.1 ∧ x.1 < 1000 + n := by
  have := List.filter_eq_nil_iff.1 h x.1 (List.mem_map.2 ⟨x, hx, rfl⟩)
  simpa using this
theorem newIn_one {n k : Nat} {M' : List (Nat × Obj)} (h : newIn n M' = [k]) {x : Nat × Obj} (hx : x ∈ M') : (1000 ≤ x.1 ∧ x.1 < 1000 + n) ∨ x.1 = k := by
  by_cases hc : 1000 ≤ x.1 ∧ x.1 < 1000 + n
  · exact .inl hc
  · have hm : x.1 ∈ newIn n M' := List.mem_filter.2 ⟨List.mem_map.2 ⟨x, hx, rfl⟩, by simp only [Bool.not_eq_true', Bool.and_eq_false_iff, decide_eq_false_iff_not]; omega⟩
    rw [h] at hm
    exact .inr (by simpa using hm)

theorem mOf_mem {M : List (Nat × Obj)} {i : Nat} {o : Obj} (h : mOf M i = some o) : (i, o) ∈ M := by
  unfold mOf at h
  cases hf : M.find? (fun x => x.1 == i) with
  | none => rw [hf] at h; cases h
  | some x =>
    rw [hf] at h
    simp only [Option.map_some, Option.some.injEq] at h
    have h1 := List.find?_some hf
    have h2 := List.mem_of_find?_eq_some hf
    have : x.1 = i := by simpa using h1
    subst h this
    exact h2

/-- What comes back from a call, laid into the caller's state. -/
theorem call_back {M M' : List (Nat × Obj)} {d : Nat} {r : V} {dst : Option Nat} {w' : World} {gv1 : GV} {v : Value} (hr : RelG T E N gv σ a w) (hdst : ∀ i, dst = some i → i < N)
    (hM : ∀ x ∈ M, σ.m x.1 = some x.2) (hn : (M.map (·.1)).Nodup)
    (hJ : ∀ b, Imm E σ.m gv w b → b < w.heap.size ∧ ¬ ∃ id o, mOf (lentIn M 1000 M) id = some o ∧ blk (fun k => gv (toOut M 1000 d k)) id = some b)
    (hrel : RelM T ⟨w, mOf (lentIn M 1000 M), fun k => gv (toOut M 1000 d k), Imm E σ.m gv w, fun b => ∃ id o, mOf (lentIn M 1000 M) id = some o ∧ blk (fun k => gv (toOut M 1000 d k)) id = some b, hJ⟩ gv1 (mOf M') w')
    (hv : RepV T w' (Imm ⟨w, mOf (lentIn M 1000 M), fun k => gv (toOut M 1000 d k), Imm E σ.m gv w, fun b => ∃ id o, mOf (lentIn M 1000 M) id = some o ∧ blk (fun k => gv (toOut M 1000 d k)) id = some b, hJ⟩ (mOf M') gv1 w') (mOf M') gv1 r v)
    (hnew : ∀ x ∈ M', (1000 ≤ x.1 ∧ x.1 < 1000 + M.length) ∨ (σ.m d = none ∧ ∀ y ∈ M', ¬ (1000 ≤ y.1 ∧ y.1 < 1000 + M.length) → y.1 = x.1)) :
    ∃ gv', RelG T E N gv' (σ.app dst ⟨renV (toOut M 1000 d) r, (M'.map fun x => (toOut M 1000 d x.1, renO (toOut M 1000 d) x.2)).reverse⟩) (a.put dst v) w' := by
  -- names
  have hMd : ∀ x ∈ M, σ.m d = none → x.1 ≠ d := fun x hx h e => by rw [← e, hM x hx] at h; cases h
  have hsplit : ∀ k ∈ M'.map (·.1), (1000 ≤ k ∧ k < 1000 + M.length ∧ toOut M 1000 d k ∈ M.map (·.1) ∧ toIn M 1000 (toOut M 1000 d k) = k) ∨ (¬ (1000 ≤ k ∧ k < 1000 + M.length) ∧ toOut M 1000 d k = d ∧ σ.m d = none) := by
    intro k hk
    obtain ⟨x, hx, rfl⟩ := List.mem_map.1 hk
    by_cases hc : 1000 ≤ x.1 ∧ x.1 < 1000 + M.length
    · exact .inl ⟨hc.1, hc.2, toIn_toOut hn hc.1 hc.2⟩
    · exact .inr ⟨hc, toOut_new M 1000 d x.1 hc, ((hnew x hx).resolve_left hc).1⟩
  have hinj : ∀ x ∈ M', ∀ y ∈ M', toOut M 1000 d x.1 = toOut M 1000 d y.1 → x.1 = y.1 := by
    intro x hx y hy he
    rcases hsplit x.1 (List.mem_map.2 ⟨x, hx, rfl⟩) with ⟨a1, a2, a3, a4⟩ | ⟨a1, a2, a3⟩ <;> rcases hsplit y.1 (List.mem_map.2 ⟨y, hy, rfl⟩) with ⟨b1, b2, b3, b4⟩ | ⟨b1, b2, b3⟩
    · rw [← a4, ← b4, he]
    · rw [he, b2] at a3
      obtain ⟨z, hz, hzd⟩ := List.mem_map.1 a3
      exact absurd hzd (hMd z hz b3)
    · rw [← he, a2] at b3
      obtain ⟨z, hz, hzd⟩ := List.mem_map.1 b3
      exact absurd hzd (hMd z hz a3)
    · exact ((hnew y hy).resolve_left b1).2 x hx a1
  -- the new state
  let m1 : Nat → Option Obj := ((M'.map fun x => (toOut M 1000 d x.1, renO (toOut M 1000 d) x.2)).reverse.foldl (fun m x => upd m x.1 (some x.2)) σ.m)
  have hm1 : ∀ i, m1 i = (match M'.find? (fun x => toOut M 1000 d x.1 == i) with | some x => some (renO (toOut M 1000 d) x.2) | none => σ.m i) := fun i => foldl_rev M' σ.m i hinj
  let gv2 : GV := fun i => match M'.find? (fun x => toOut M 1000 d x.1 == i) with | some x => gv1 x.1 | none => gv i
  have hgv2 : ∀ i, gv2 i = (match M'.find? (fun x => toOut M 1000 d x.1 == i) with | some x => gv1 x.1 | none => gv i) := fun i => rfl
  have hin : ∀ k o, mOf M' k = some o → m1 (toOut M 1000 d k) = some (renO (toOut M 1000 d) o) ∧ gv2 (toOut M 1000 d k) = gv1 k := by
    intro k o hk
    have hmem := mOf_mem hk
    have : ∃ x, M'.find? (fun x => toOut M 1000 d x.1 == toOut M 1000 d k) = some x := by
      cases hf : M'.find? (fun x => toOut M 1000 d x.1 == toOut M 1000 d k) with
      | some x => exact ⟨x, rfl⟩
      | none => exact absurd (List.find?_eq_none.1 hf (k, o) hmem) (by simp)
    obtain ⟨x, hx⟩ := this
    have hxm := List.mem_of_find?_eq_some hx
    have hxe : toOut M 1000 d x.1 = toOut M 1000 d k := by simpa using List.find?_some hx
    have hxk : x.1 = k := hinj x hxm (k, o) hmem hxe
    -- the first with that name
    have hfirst : M'.find? (fun x => x.1 == k) = some x := by
      have : ∀ (L : List (Nat × Obj)), (∀ y ∈ L, y ∈ M') → L.find? (fun x => toOut M 1000 d x.1 == toOut M 1000 d k) = L.find? (fun x => x.1 == k) := by
        intro L
        induction L with
        | nil => intro _; rfl
        | cons y L ih =>
          intro hL
          simp only [List.find?_cons]
          have he : (toOut M 1000 d y.1 == toOut M 1000 d k) = (y.1 == k) := by
            by_cases hyk : y.1 = k
            · rw [hyk]; simp
            · have : toOut M 1000 d y.1 ≠ toOut M 1000 d k := fun h => hyk (hinj y (hL y (by simp)) (k, o) hmem h)
              rw [beq_eq_false_iff_ne.2 this, beq_eq_false_iff_ne.2 hyk]
          rw [he, ih (fun z hz => hL z (by simp [hz]))]
      rw [← this M' (fun _ h => h)]; exact hx
    have ho : o = x.2 := by
      unfold mOf at hk; rw [hfirst] at hk; simpa using hk.symm
    refine ⟨by rw [hm1, hx, ho], ?_⟩
    rw [hgv2, hx, ← hxk]
  have hcase : ∀ i o, m1 i = some o → (∃ k o', mOf M' k = some o' ∧ i = toOut M 1000 d k ∧ o = renO (toOut M 1000 d) o' ∧ gv2 i = gv1 k) ∨ (σ.m i = some o ∧ gv2 i = gv i ∧ i ∉ M.map (·.1) ∧ ∀ k o', mOf M' k = some o' → toOut M 1000 d k ≠ i) := by
    intro i o hi
    rw [hm1] at hi
    cases hf : M'.find? (fun x => toOut M 1000 d x.1 == i) with
    | some x =>
      left
      have hxm := List.mem_of_find?_eq_some hf
      have hxe : toOut M 1000 d x.1 = i := by simpa using List.find?_some hf
      have : ∃ o', mOf M' x.1 = some o' := by
        unfold mOf
        cases hg : M'.find? (fun y => y.1 == x.1) with
        | some y => exact ⟨y.2, rfl⟩
        | none => exact absurd (List.find?_eq_none.1 hg x hxm) (by simp)
      obtain ⟨o', ho'⟩ := this
      obtain ⟨h1, h2⟩ := hin x.1 o' ho'
      rw [hxe] at h1 h2
      refine ⟨x.1, o', ho', hxe.symm, ?_, h2⟩
      rw [hm1] at h1
      exact Option.some.inj (hi.symm.trans h1)
    | none =>
      right
      rw [hf] at hi
      have hno : ∀ k o', mOf M' k = some o' → toOut M 1000 d k ≠ i := fun k o' hk he => by
        have := List.find?_eq_none.1 hf (k, o') (mOf_mem hk)
        simp [he] at this
      refine ⟨hi, ?_, fun him => ?_, hno⟩
      · rw [hgv2, hf]
      · -- what was lent comes back
        obtain ⟨x, hx, rfl⟩ := List.mem_map.1 him
        have hl := lent_mk hn hx
        cases ho : x.2 with
        | box cs =>
          rw [ho] at hl
          obtain ⟨cs', h1, _⟩ := hrel.pers.box _ _ hl
          exact hno _ _ h1 (toOut_toIn him)
        | sl e xs =>
          rw [ho] at hl
          obtain ⟨xs', h1, _⟩ := hrel.pers.sl _ _ _ hl
          exact hno _ _ h1 (toOut_toIn him)
  -- blocks that the callee may write
  have hB : ∀ b, (∃ id o, mOf (lentIn M 1000 M) id = some o ∧ blk (fun k => gv (toOut M 1000 d k)) id = some b) → ∃ x ∈ M, blk gv x.1 = some b := by
    rintro b ⟨id, o, h1, h2⟩
    obtain ⟨_, _, o', h3, _, h4⟩ := lent_get hM h1 (d := d)
    exact ⟨_, h4, h2⟩
  have hkeep : ∀ b, b < w.heap.size → (∀ x ∈ M, blk gv x.1 ≠ some b) → w'.heap[b]? = w.heap[b]? := fun b hb hx => hrel.keep b hb fun hBb => by
    obtain ⟨x, hxm, hxb⟩ := hB b hBb
    exact hx x hxm hxb
  have himmheap : ∀ b, Imm E σ.m gv w b → w'.heap[b]? = w.heap[b]? := fun b hb => hkeep b hb.2.1 fun x hx => hb.2.2 x.1 x.2 (hM x hx)
  -- blocks of what came back
  have hown' : ∀ k o b, mOf M' k = some o → blk gv1 k = some b → b < w'.heap.size ∧ ((∃ x ∈ M, blk gv x.1 = some b) ∨ w.heap.size ≤ b) := by
    intro k o b h1 h2
    obtain ⟨h3, h4⟩ := hrel.own k o b h1 h2
    exact ⟨h3, h4.imp (hB b) id⟩
  have himm1 : ∀ b, Imm ⟨w, mOf (lentIn M 1000 M), fun k => gv (toOut M 1000 d k), Imm E σ.m gv w, fun b => ∃ id o, mOf (lentIn M 1000 M) id = some o ∧ blk (fun k => gv (toOut M 1000 d k)) id = some b, hJ⟩ (mOf M') gv1 w' b → Imm E m1 gv2 w' b := by
    rintro b ⟨h1, h2, h3⟩
    refine ⟨?_, h2, fun i o hi hb => ?_⟩
    · rcases h1 with h1 | h1
      · exact h1.1
      · exact .inr (Nat.le_trans hr.size h1)
    · rcases hcase i o hi with ⟨k, o', k1, k2, k3, k4⟩ | ⟨k1, k2, k3, k4⟩
      · refine h3 k o' k1 ?_
        simpa [blk, k4] using hb
      · have hb' : blk gv i = some b := by simpa [blk, k2] using hb
        rcases h1 with h1 | h1
        · exact h1.2.2 i o k1 hb'
        · have := (hr.own i o b k1 hb').1
          have h1 : w.heap.size ≤ b := h1
          omega
  have himm0 : ∀ b, Imm E σ.m gv w b → Imm E m1 gv2 w' b ∧ w'.heap[b]? = w.heap[b]? := by
    intro b hb
    refine ⟨⟨hb.1, Nat.lt_of_lt_of_le hb.2.1 hrel.size, fun i o hi hbk => ?_⟩, himmheap b hb⟩
    rcases hcase i o hi with ⟨k, o', k1, k2, k3, k4⟩ | ⟨k1, k2, k3, k4⟩
    · have hb' : blk gv1 k = some b := by simpa [blk, k4] using hbk
      rcases (hown' k o' b k1 hb').2 with ⟨x, hx, hxb⟩ | h
      · exact hb.2.2 x.1 x.2 (hM x hx) hxb
      · have := hb.2.1; omega
    · exact hb.2.2 i o k1 (by simpa [blk, k2] using hbk)
  have hpers : Pers σ.m gv m1 gv2 := by
    refine ⟨fun i cs hi => ?_, fun i e xs hi => ?_⟩
    · by_cases him : i ∈ M.map (·.1)
      · obtain ⟨x, hx, rfl⟩ := List.mem_map.1 him
        have hl := lent_mk hn hx
        have hxo : x.2 = .box cs := Option.some.inj ((hM x hx).symm.trans hi)
        rw [hxo] at hl
        obtain ⟨cs', h1, h2⟩ := hrel.pers.box _ _ hl
        obtain ⟨h3, h4⟩ := hin _ _ h1
        rw [toOut_toIn him] at h3 h4
        exact ⟨_, h3, by rw [h4, h2]; show (gv (toOut M 1000 d (toIn M 1000 x.1))).1 = _; rw [toOut_toIn him]⟩
      · have : m1 i = σ.m i ∧ gv2 i = gv i := by
          cases hf : M'.find? (fun x => toOut M 1000 d x.1 == i) with
          | none => exact ⟨by rw [hm1, hf], by rw [hgv2, hf]⟩
          | some x =>
            have hxm := List.mem_of_find?_eq_some hf
            have hxe : toOut M 1000 d x.1 = i := by simpa using List.find?_some hf
            rcases hsplit x.1 (List.mem_map.2 ⟨x, hxm, rfl⟩) with ⟨_, _, h, _⟩ | ⟨_, h, h'⟩
            · rw [hxe] at h; exact absurd h him
            · rw [hxe] at h; rw [h, h'] at hi; cases hi
        exact ⟨cs, by rw [this.1]; exact hi, by rw [this.2]⟩
    · by_cases him : i ∈ M.map (·.1)
      · obtain ⟨x, hx, rfl⟩ := List.mem_map.1 him
        have hl := lent_mk hn hx
        have hxo : x.2 = .sl e xs := Option.some.inj ((hM x hx).symm.trans hi)
        rw [hxo] at hl
        obtain ⟨xs', h1, h2, h3⟩ := hrel.pers.sl _ _ _ hl
        obtain ⟨h4, h5⟩ := hin _ _ h1
        rw [toOut_toIn him] at h4 h5
        exact ⟨_, h4, h2, fun he => by rw [h5, h3 he]; show gv (toOut M 1000 d (toIn M 1000 x.1)) = _; rw [toOut_toIn him]⟩
      · have : m1 i = σ.m i ∧ gv2 i = gv i := by
          cases hf : M'.find? (fun x => toOut M 1000 d x.1 == i) with
          | none => exact ⟨by rw [hm1, hf], by rw [hgv2, hf]⟩
          | some x =>
            have hxm := List.mem_of_find?_eq_some hf
            have hxe : toOut M 1000 d x.1 = i := by simpa using List.find?_some hf
            rcases hsplit x.1 (List.mem_map.2 ⟨x, hxm, rfl⟩) with ⟨_, _, h, _⟩ | ⟨_, h, h'⟩
            · rw [hxe] at h; exact absurd h him
            · rw [hxe] at h; rw [h, h'] at hi; cases hi
        exact ⟨xs, by rw [this.1]; exact hi, Nat.le_refl _, fun _ => by rw [this.2]⟩
  refine ⟨gv2, { tape := hrel.tape.trans hr.tape, os := hrel.os.trans hr.os, output := hrel.output.trans hr.output, size := Nat.le_trans hr.size hrel.size, keep := ?_, rep := ?_, own := ?_, inj := ?_, new := ?_, pers := hr.pers.trans hpers, defers := ?_, n := ?_, t := ?_ }⟩
  · intro b hb hBb
    rw [hkeep b (Nat.lt_of_lt_of_le hb hr.size) (fun x hx hxb => ?_), hr.keep b hb hBb]
    rcases (hr.own x.1 x.2 b (hM x hx) hxb).2 with h | h
    · exact hBb h
    · omega
  · intro i o hi
    rcases hcase i o hi with ⟨k, o', k1, rfl, rfl, k4⟩ | ⟨k1, k2, k3, k4⟩
    · exact repO_ren (f := toOut M 1000 d) himm1 k4 (fun id _ ob hob => hin id ob hob) (hrel.rep k o' k1)
    · exact RepO.mono himm0 hpers k2 (fun b hb => hkeep b (hr.own i o b k1 hb).1 fun x hx hxb => k3 (by
        have := hr.inj i x.1 o x.2 b k1 (hM x hx) hb hxb
        rw [this]; exact List.mem_map.2 ⟨x, hx, rfl⟩)) (hr.rep i o k1)
  · intro i o b hi hb
    rcases hcase i o hi with ⟨k, o', k1, k2, k3, k4⟩ | ⟨k1, k2, k3, k4⟩
    · obtain ⟨h1, h2⟩ := hown' k o' b k1 (by simpa [blk, k4] using hb)
      refine ⟨h1, ?_⟩
      rcases h2 with ⟨x, hx, hxb⟩ | h2
      · exact (hr.own x.1 x.2 b (hM x hx) hxb).2
      · exact .inr (Nat.le_trans hr.size h2)
    · obtain ⟨h1, h2⟩ := hr.own i o b k1 (by simpa [blk, k2] using hb)
      exact ⟨Nat.lt_of_lt_of_le h1 hrel.size, h2⟩
  · intro i i' o o' b hi hi' hb hb'
    have mixed : ∀ i i' o o', (∃ k o2, mOf M' k = some o2 ∧ i = toOut M 1000 d k ∧ o = renO (toOut M 1000 d) o2 ∧ gv2 i = gv1 k) → (σ.m i' = some o' ∧ gv2 i' = gv i' ∧ i' ∉ M.map (·.1) ∧ ∀ k o2, mOf M' k = some o2 → toOut M 1000 d k ≠ i') → blk gv2 i = some b → blk gv2 i' = some b → False := by
      rintro i i' o o' ⟨k, o2, k1, k2, k3, k4⟩ ⟨l1, l2, l3, l4⟩ hb hb'
      have hb2 : blk gv i' = some b := by simpa [blk, l2] using hb'
      rcases (hown' k o2 b k1 (by simpa [blk, k4] using hb)).2 with ⟨x, hx, hxb⟩ | h
      · have := hr.inj i' x.1 o' x.2 b l1 (hM x hx) hb2 hxb
        exact l3 (by rw [this]; exact List.mem_map.2 ⟨x, hx, rfl⟩)
      · have := (hr.own i' o' b l1 hb2).1; omega
    rcases hcase i o hi with hk | hk <;> rcases hcase i' o' hi' with hl | hl
    · obtain ⟨k, o2, k1, k2, k3, k4⟩ := hk
      obtain ⟨l, o3, l1, l2, l3, l4⟩ := hl
      have := hrel.inj k l o2 o3 b k1 l1 (by simpa [blk, k4] using hb) (by simpa [blk, l4] using hb')
      rw [k2, l2, this]
    · exact (mixed i i' o o' hk hl hb hb').elim
    · exact (mixed i' i o' o hl hk hb' hb).elim
    · exact hr.inj i i' o o' b hk.1 hl.1 (by simpa [blk, hk.2.1] using hb) (by simpa [blk, hl.2.1] using hb')
  · intro i o b hi hb
    rcases hcase i o hi with ⟨k, o', k1, k2, k3, k4⟩ | ⟨k1, k2, k3, k4⟩
    · rcases hrel.new k o' b k1 (by simpa [blk, k4] using hb) with h | ⟨⟨o0, h1⟩, h2⟩
      · exact .inl (Nat.le_trans hr.size h)
      · obtain ⟨_, _, o2, h3, _, _⟩ := lent_get hM h1 (d := d)
        rw [k2]
        exact hr.new _ o2 b h3 h2
    · exact hr.new i o b k1 (by simpa [blk, k2] using hb)
  · cases dst <;> exact hr.defers
  · cases dst <;> simp [Act.put, hr.n]
  · intro i
    rw [put_get hr.n hdst]
    have hold : RepV T w' (Imm E m1 gv2 w') m1 gv2 (σ.t i) (a.tmps.getD i undef) := RepV.mono himm0 hpers (hr.t i)
    have hres : RepV T w' (Imm E m1 gv2 w') m1 gv2 (renV (toOut M 1000 d) r) v := repV_ren (f := toOut M 1000 d) himm1 (fun id _ ob hob => hin id ob hob) hv
    cases dst with
    | none => simp only [reduceCtorEq, if_false]; exact hold
    | some k =>
      simp only [Option.some.injEq, St.app, upd, putT]
      by_cases h : k = i
      · subst h; simp only [if_true]; exact hres
      · rw [if_neg h, if_neg (fun e => h e.symm)]; exact hold

theorem sound_call {o : Oper} {f : Operand} {args : Array Operand} {ats : Array Nat} {wr : Wr} {fp : List Loc} (hr : RelG T E N gv σ a w) (hdst : ∀ i, o.dst = some i → i < N)
    (ho : o.op = .call { callee := .value f, args := args, argTypes := ats })
    (h : Run (ConSem P T) (callR o.dst (σ.ev f) (args.toList.map σ.ev)) σ wr fp) : Sound P T E N σ a w o wr := by
  have hf := ev_rep hr f
  unfold callR at h
  split at h
  · rename_i g hfv
    rw [hfv] at hf
    have hf' : a.eval f = .func (.func g) #[] #[] := rp_func hf
    obtain ⟨M, fp1, h, hM, hn, hcl, htodo⟩ := gather_run 64 _ [] _ h (by simp) (by simp) (by simp)
    obtain ⟨r, M', ⟨⟨fn, h1, h2, h3⟩, hcon⟩, h⟩ := h
    -- the state that the callee begins with, whatever the name for what is new
    have key : ∀ d, (∀ x ∈ M', (1000 ≤ x.1 ∧ x.1 < 1000 + M.length) ∨ (σ.m d = none ∧ ∀ y ∈ M', ¬ (1000 ≤ y.1 ∧ y.1 < 1000 + M.length) → y.1 = x.1)) →
        Sound P T E N σ a w o ⟨renV (toOut M 1000 d) r, (M'.map fun x => (toOut M 1000 d x.1, renO (toOut M 1000 d) x.2)).reverse⟩ := by
      intro d hnew
      have hget : ∀ id o, mOf (lentIn M 1000 M) id = some o → 1000 ≤ id ∧ id < 1000 + M.length ∧ ∃ o', σ.m (toOut M 1000 d id) = some o' ∧ o = renO (toIn M 1000) o' ∧ (toOut M 1000 d id, o') ∈ M := fun id o h => lent_get hM h
      have hJ : ∀ b, Imm E σ.m gv w b → b < w.heap.size ∧ ¬ ∃ id o, mOf (lentIn M 1000 M) id = some o ∧ blk (fun k => gv (toOut M 1000 d k)) id = some b := by
        refine fun b hb => ⟨hb.2.1, ?_⟩
        rintro ⟨id, o, h4, h5⟩
        obtain ⟨_, _, o', h6, _, _⟩ := hget id o h4
        exact hb.2.2 _ _ h6 h5
      have hin : ∀ id ∈ M.map (·.1), ∀ ob, σ.m id = some ob → mOf (lentIn M 1000 M) (toIn M 1000 id) = some (renO (toIn M 1000) ob) ∧ gv (toOut M 1000 d (toIn M 1000 id)) = gv id := by
        intro id hid ob hob
        obtain ⟨x, hx, rfl⟩ := List.mem_map.1 hid
        have : x.2 = ob := Option.some.inj ((hM x hx).symm.trans hob)
        exact ⟨by rw [← this]; exact lent_mk hn hx, by rw [toOut_toIn hid]⟩
      have hrel : RelM T ⟨w, mOf (lentIn M 1000 M), fun k => gv (toOut M 1000 d k), Imm E σ.m gv w, fun b => ∃ id o, mOf (lentIn M 1000 M) id = some o ∧ blk (fun k => gv (toOut M 1000 d k)) id = some b, hJ⟩ (fun k => gv (toOut M 1000 d k)) (mOf (lentIn M 1000 M)) w := by
        refine ⟨rfl, rfl, rfl, Nat.le_refl _, fun _ _ _ => rfl, fun id o h4 => ?_, fun id o b h4 h5 => ?_, fun id id' o o' b h4 h5 h6 h7 => ?_, fun id o b h4 h5 => ?_, Pers.refl _ _⟩
        · obtain ⟨h5, h6, o', h7, rfl, h8⟩ := hget id o h4
          have hid : toOut M 1000 d id ∈ M.map (·.1) := List.mem_map.2 ⟨_, h8, rfl⟩
          have e := (toIn_toOut hn h5 h6 (d := d)).2
          have := repO_ren (f := toIn M 1000) (m' := mOf (lentIn M 1000 M)) (gv' := fun k => gv (toOut M 1000 d k)) (I' := Imm ⟨w, mOf (lentIn M 1000 M), fun k => gv (toOut M 1000 d k), Imm E σ.m gv w, fun b => ∃ id o, mOf (lentIn M 1000 M) id = some o ∧ blk (fun k => gv (toOut M 1000 d k)) id = some b, hJ⟩ (mOf (lentIn M 1000 M)) (fun k => gv (toOut M 1000 d k)) w)
            (fun b hb => ⟨.inl hb, hb.2.1, fun i o hi hb' => (hJ b hb).2 ⟨i, o, hi, hb'⟩⟩) (by show gv _ = _; rw [e]) (fun i hi => hin i (hcl _ h8 i hi)) (hr.rep _ _ h7)
          rw [e] at this; exact this
        · obtain ⟨_, _, o', h7, _, _⟩ := hget id o h4
          exact ⟨(hr.own _ _ b h7 h5).1, .inl ⟨id, o, h4, h5⟩⟩
        · obtain ⟨a1, a2, o1, a3, _, _⟩ := hget id o h4
          obtain ⟨b1, b2, o2, b3, _, _⟩ := hget id' o' h5
          have := hr.inj _ _ _ _ b a3 b3 h6 h7
          rw [← (toIn_toOut hn a1 a2 (d := d)).2, ← (toIn_toOut hn b1 b2 (d := d)).2, this]
        · exact .inr ⟨⟨o, h4⟩, h5⟩
      have hc := hcon w (fun k => gv (toOut M 1000 d k)) (Imm E σ.m gv w) (args.map a.eval) hJ hrel (by simp) (fun k x v hx hv => by
        simp only [List.getElem?_map, Array.getElem?_toList] at hx
        simp only [Array.getElem?_map] at hv
        cases hk : args[k]? with
        | none => simp [hk] at hx
        | some z =>
          simp [hk] at hx hv
          subst hx; subst hv
          refine repV_ren (fun b hb => hb) (fun id hid => hin id (htodo id (.inr ?_))) (ev_rep hr z)
          exact List.mem_flatMap.2 ⟨_, List.mem_map.2 ⟨z, by simpa using Array.mem_of_getElem? hk, rfl⟩, hid⟩)
      intro next Q hnx
      unfold Oper.wp
      rw [run_call ho hf' h1 h2 h3]
      refine Calls.mono hc ?_
      rintro e w' ⟨v, gv1, rfl, hrel', hv⟩
      obtain ⟨gv2, hfin⟩ := call_back hr hdst hM hn hJ hrel' hv hnew
      exact hnx gv2 _ _ hfin
    unfold afterR at h
    split at h
    · rename_i hnew
      obtain ⟨rfl, _⟩ := h
      exact key 0 fun x hx => .inl (newIn_nil hnew hx)
    · rename_i k hnew
      split at h
      · exact h.elim
      · rename_i d hd
        obtain ⟨fp2, rfl, h⟩ := h
        dsimp only at h
        split at h
        · exact h.elim
        · rename_i hmd
          obtain ⟨rfl, _⟩ := h
          refine key d fun x hx => ?_
          rcases newIn_one hnew hx with h | h
          · exact .inl h
          · exact .inr ⟨hmd, fun y hy hny => ((newIn_one hnew hy).resolve_left hny).trans h.symm⟩
    · exact h.elim
  · exact h.elim

include hT
/-- ALL OPERATIONS. -/
theorem sound_op {o : Oper} {wr : Wr} {fp : List Loc} (hr : RelG T E N gv σ a w) (hdst : ∀ i, o.dst = some i → i < N) (h : Run (ConSem P T) (opR T o) σ wr fp) : Sound P T E N σ a w o wr := by
  unfold opR at h
  split at h
  · rename_i x ho; obtain ⟨_, rfl, _⟩ := run_evR h; exact sound_move hr hdst (.inl ho)
  · rename_i x ho; obtain ⟨_, rfl, _⟩ := run_evR h; exact sound_move hr hdst (.inr ho)
  · rename_i c x y ho
    obtain ⟨fp1, h⟩ := run_evR h
    split at h
    · rename_i q hq; exact sound_pick hr hdst ho hq h
    · exact h.elim
  · rename_i e ho; exact sound_alloc hT hr hdst ho h
  · rename_i e x ho; obtain ⟨fp1, h⟩ := run_evR h; exact sound_box hr hdst ho h
  · rename_i t parts ho; obtain ⟨fp1, h⟩ := run_evL h; exact sound_build hT hr hdst ho h
  · rename_i t n parts ho; obtain ⟨fp1, h⟩ := run_evL h; exact sound_buildSlice hT hr hdst ho h
  · rename_i t x ho; obtain ⟨fp1, h⟩ := run_evR h; exact sound_load hT hr hdst ho h
  · rename_i t x y ho; obtain ⟨fp1, h⟩ := run_evR h; obtain ⟨fp2, h⟩ := run_evR h; exact sound_store hT hr hdst ho h
  · rename_i x ho; obtain ⟨fp1, h⟩ := run_evR h; exact sound_nilCheck hr hdst ho h
  · rename_i op t x y u ho; obtain ⟨fp1, h⟩ := run_evR h; obtain ⟨fp2, h⟩ := run_evR h; exact sound_bin hT hr hdst ho h
  · rename_i t x ho; obtain ⟨fp1, h⟩ := run_evR h; exact sound_unOp_not hr hdst ho h
  · rename_i t x ho; obtain ⟨fp1, h⟩ := run_evR h; exact sound_unOp_neg hr hdst ho h
  · rename_i s d x ho; obtain ⟨fp1, h⟩ := run_evR h; exact sound_convert hT hr hdst ho h
  · rename_i t x y ho; obtain ⟨fp1, h⟩ := run_evR h; obtain ⟨fp2, h⟩ := run_evR h; exact sound_make hT hr hdst ho h
  · rename_i t x lo hi ho
    obtain ⟨fp1, h⟩ := run_evR h
    cases lo with
    | none =>
      cases hi with
      | none => exact sound_slice hT hr hdst ho h
      | some hi => obtain ⟨fp2, h⟩ := run_evR h; exact sound_slice hT hr hdst ho h
    | some lo =>
      cases hi with
      | none => obtain ⟨fp2, h⟩ := run_evR h; exact sound_slice hT hr hdst ho h
      | some hi => obtain ⟨fp2, h⟩ := run_evR h; obtain ⟨fp3, h⟩ := run_evR h; exact sound_slice hT hr hdst ho h
  · rename_i t x f ho; obtain ⟨fp1, h⟩ := run_evR h; exact sound_field hT hr hdst ho h
  · rename_i t x y ho; obtain ⟨fp1, h⟩ := run_evR h; obtain ⟨fp2, h⟩ := run_evR h; exact sound_idx hT hr hdst ho h
  · rename_i t x y ho; obtain ⟨fp1, h⟩ := run_evR h; obtain ⟨fp2, h⟩ := run_evR h; exact sound_index hT hr hdst ho h
  · rename_i t x f ho; obtain ⟨fp1, h⟩ := run_evR h; exact sound_fieldV hT hr hdst ho h
  · rename_i x i ho; obtain ⟨fp1, h⟩ := run_evR h; exact sound_extract hr hdst ho h
  · rename_i args ats ho
    split at h
    · rename_i x t hx ht
      obtain ⟨fp1, h⟩ := run_evR h
      have e1 : args = #[x] := by rw [← Array.toArray_toList (xs := args), hx]
      have e2 : ats = #[t] := by rw [← Array.toArray_toList (xs := ats), ht]
      subst e1; subst e2
      exact sound_len hT hr hdst ho h
    · exact h.elim
  · rename_i args ats ho
    split at h
    · rename_i x y t u hx ht
      obtain ⟨fp1, h⟩ := run_evR h; obtain ⟨fp2, h⟩ := run_evR h
      have e1 : args = #[x, y] := by rw [← Array.toArray_toList (xs := args), hx]
      have e2 : ats = #[t, u] := by rw [← Array.toArray_toList (xs := ats), ht]
      subst e1; subst e2
      split at h
      · rename_i hu; subst hu; exact sound_append hT hr hdst ho h
      · exact h.elim
    · exact h.elim
  · rename_i args ats ho
    split at h
    · rename_i x y hx
      obtain ⟨fp1, h⟩ := run_evR h; obtain ⟨fp2, h⟩ := run_evR h
      have e1 : args = #[x, y] := by rw [← Array.toArray_toList (xs := args), hx]
      subst e1
      exact sound_min hr hdst ho h
    · exact h.elim
  · rename_i args ats ho
    split at h
    · rename_i x y hx
      obtain ⟨fp1, h⟩ := run_evR h; obtain ⟨fp2, h⟩ := run_evR h
      have e1 : args = #[x, y] := by rw [← Array.toArray_toList (xs := args), hx]
      subst e1
      exact sound_max hr hdst ho h
    · exact h.elim
  · rename_i f args ats ho
    obtain ⟨fp1, h⟩ := run_evR h; obtain ⟨fp2, h⟩ := run_evL h
    exact sound_call hr hdst ho h
  · exact h.elim
end
end Go.AW
