/- The contract of a function that is lent memory, or hands memory back. -/
import Derived.Test.YtocalihefpafgaaA13
set_option linter.unusedVariables false
set_option linter.unusedSimpArgs false
namespace Go.AW

/-- A result's cell: what goes back as the call's own ('keep'), or is read as data ('fz': it may be). -/
def finMC (m : Nat → Option Obj) (keep : List Nat) (fz : Bool) (c : Ce) (K : Ce → Prop) : Prop :=
  match c with
  | .p .nilsl => K (.p .nilsl)
  | .p x => K (.p x)
  | .ptr id off => keep.contains id = true ∧ K (.ptr id off)
  | .osl id n => if keep.contains id then K (.osl id n) else fz = true ∧ match m id with
    | some (.sl _ xs) => n = xs.length ∧ K (.p (.slice xs))
    | _ => False
  | _ => False
def finML (m : Nat → Option Obj) (keep : List Nat) (fz : Bool) : List Ce → (List Ce → Prop) → Prop
  | [], K => K []
  | c :: r, K => finMC m keep fz c fun c => finML m keep fz r fun r => K (c :: r)
def finMV (m : Nat → Option Obj) (keep : List Nat) (fz : Bool) (v : V) (K : W1 → Prop) : Prop :=
  match v with
  | .one c => finMC m keep fz c fun c => K (.one c)
  | .agg cs => finML m keep fz cs fun cs => K (.agg cs)
  | _ => False
def finMVs (m : Nat → Option Obj) (keep : List Nat) (fz : Bool) : List V → (List W1 → Prop) → Prop
  | [], K => K []
  | v :: r, K => finMV m keep fz v fun v => finMVs m keep fz r fun r => K (v :: r)

def allIn (M' : List (Nat × Obj)) (m : Nat → Option Obj) : Prop :=
  match M' with
  | [] => True
  | x :: r => m x.1 = some x.2 ∧ allIn r m
theorem allIn_mem : ∀ {M' : List (Nat × Obj)} {m : Nat → Option Obj}, allIn M' m → ∀ x ∈ M', m x.1 = some x.2
  | [], _, _, x, hx => by simp at hx
  | y :: r, m, h, x, hx => by
    rcases List.mem_cons.1 hx with rfl | hx
    · exact h.1
    · exact allIn_mem h.2 x hx

def RetM (C : Con) (T : Tab) (rs : List ResultVar) (fz : Bool) (M' : List (Nat × Obj)) (K : V → Prop) (e : Ex) (σ : St) : Prop :=
  match e with
  | .exit _ => False
  | _ => retK C T rs σ fun vs => finMVs σ.m (M'.map (·.1)) fz vs fun xs => allIn M' σ.m ∧ K (resOf xs)

section
variable {P : Program} {T : Tab} {E : Env} {N : Nat} {gv : GV} {σ : St} {a : Act} {w : World} {keep : List Nat} {fz : Bool} {m' : Nat → Option Obj} {I' : Nat → Prop}

theorem finMC_rep (hr : RelG T E N gv σ a w) (hI : ∀ b, Imm E σ.m gv w b → I' b) (hk : ∀ id, keep.contains id = true → m' id = σ.m id) (hB : fz = true → ∀ id o b, σ.m id = some o → keep.contains id = false → blk gv id = some b → I' b)
    {c : Ce} {v : Value} {K : Ce → Prop} (hc : RepC T w (Imm E σ.m gv w) σ.m gv c v) (h : finMC σ.m keep fz c K) : ∃ c', K c' ∧ RepC T w I' m' gv c' v := by
  unfold finMC at h
  split at h
  · exact ⟨_, h, RepP.mono (fun b hb => ⟨hI b hb, rfl⟩) hc⟩
  · exact ⟨_, h, RepP.mono (fun b hb => ⟨hI b hb, rfl⟩) hc⟩
  · rename_i id off
    exact ⟨_, h.2, repC_restrict hI (fun j hj => by simp [refsC] at hj; subst hj; exact hk _ h.1) hc⟩
  · rename_i id n
    split at h
    · rename_i hkp
      exact ⟨_, h, repC_restrict hI (fun j hj => by simp [refsC] at hj; subst hj; exact hk _ hkp) hc⟩
    · rename_i hkp
      obtain ⟨hfz, h⟩ := h
      obtain ⟨h0, e, xs, h1, h2, h3⟩ := hc
      simp only [h1] at h
      obtain ⟨hn, h⟩ := h
      refine ⟨_, h, ?_⟩
      have hv := h3 hn
      obtain ⟨hz, vs, ⟨ho1, ho2⟩, hvs⟩ := hr.rep id _ h1
      show RepP w I' (.slice xs) v
      rw [hv, hn]
      rcases ho2 with ⟨hnil, hn0⟩ | ⟨g, cap, cur, hv2, _, hh, hcap, _, hsz, htake⟩
      · have := List.length_eq_zero_iff.1 hn0
        subst this
        exact RepP.sl0 _ _ fun _ => by simp at hnil; simp [hnil]
      · simp at hv2
        obtain ⟨hg1, hg2⟩ := hv2
        rw [hg1]
        refine .sl xs g 0 _ (T e).size cur e (0, 0) vs (hB hfz id _ g h1 (by simpa using hkp) (by simp [blk, hg1])) hh hz (by rw [hg2]; exact hcap) (fun k u hk => ?_) (by rw [flatten_len _ _ hz]; exact ho1) (fun k q u hq hu => RepP.mono (fun b hb => ⟨hI b hb, rfl⟩) (hvs k q u hq hu))
        rw [← htake, List.getElem?_take] at hk
        split at hk
        · simpa using hk
        · cases hk
  · exact h.elim

theorem finML_rep (hr : RelG T E N gv σ a w) (hI : ∀ b, Imm E σ.m gv w b → I' b) (hk : ∀ id, keep.contains id = true → m' id = σ.m id) (hB : fz = true → ∀ id o b, σ.m id = some o → keep.contains id = false → blk gv id = some b → I' b) :
    ∀ {cs : List Ce} {vs : List Value} {K : List Ce → Prop}, RepL T w (Imm E σ.m gv w) σ.m gv cs vs → finML σ.m keep fz cs K → ∃ cs', K cs' ∧ RepL T w I' m' gv cs' vs
  | [], vs, K, hc, h => by
    have : vs = [] := List.length_eq_zero_iff.1 hc.1
    subst this
    exact ⟨[], h, repL_nil⟩
  | c :: cs, [], K, hc, h => by simp [RepL] at hc
  | c :: cs, v :: vs, K, hc, h => by
    obtain ⟨c', h, hc1⟩ := finMC_rep (m' := m') hr hI hk hB (hc.2 0 c v rfl rfl) h
    obtain ⟨cs', h, hc2⟩ := finML_rep hr hI hk hB (cs := cs) (vs := vs) ⟨by have := hc.1; simpa using this, fun k c v h1 h2 => hc.2 (k + 1) c v (by simpa using h1) (by simpa using h2)⟩ h
    exact ⟨_, h, repL_cons hc1 hc2⟩

theorem finMV_rep (hr : RelG T E N gv σ a w) (hI : ∀ b, Imm E σ.m gv w b → I' b) (hk : ∀ id, keep.contains id = true → m' id = σ.m id) (hB : fz = true → ∀ id o b, σ.m id = some o → keep.contains id = false → blk gv id = some b → I' b)
    {x : V} {v : Value} {K : W1 → Prop} (hc : RepV T w (Imm E σ.m gv w) σ.m gv x v) (h : finMV σ.m keep fz x K) : ∃ x', K x' ∧ RepW T w I' m' gv x' v := by
  unfold finMV at h
  split at h
  · obtain ⟨c', h, hc⟩ := finMC_rep (m' := m') hr hI hk hB hc h
    exact ⟨_, h, hc⟩
  · obtain ⟨arr, h1, h2⟩ := hc
    obtain ⟨c', h, hc⟩ := finML_rep (m' := m') hr hI hk hB h2 h
    exact ⟨_, h, arr, h1, hc⟩
  · exact h.elim

theorem finMVs_rep (hr : RelG T E N gv σ a w) (hI : ∀ b, Imm E σ.m gv w b → I' b) (hk : ∀ id, keep.contains id = true → m' id = σ.m id) (hB : fz = true → ∀ id o b, σ.m id = some o → keep.contains id = false → blk gv id = some b → I' b) :
    ∀ {xs : List V} {vs : List Value} {K : List W1 → Prop}, vs.length = xs.length → (∀ (k : Nat) x v, xs[k]? = some x → vs[k]? = some v → RepV T w (Imm E σ.m gv w) σ.m gv x v) → finMVs σ.m keep fz xs K →
      ∃ xs', K xs' ∧ vs.length = xs'.length ∧ ∀ (k : Nat) x v, xs'[k]? = some x → vs[k]? = some v → RepW T w I' m' gv x v
  | [], vs, K, hl, hc, h => ⟨[], h, hl, fun k x v h => by simp at h⟩
  | x :: xs, [], K, hl, hc, h => by simp at hl
  | x :: xs, v :: vs, K, hl, hc, h => by
    obtain ⟨x', h, hc1⟩ := finMV_rep (m' := m') hr hI hk hB (hc 0 x v rfl rfl) h
    obtain ⟨xs', h, hl', hc2⟩ := finMVs_rep hr hI hk hB (xs := xs) (vs := vs) (by simpa using hl) (fun k x v h1 h2 => hc (k + 1) x v (by simpa using h1) (by simpa using h2)) h
    refine ⟨_, h, by simp [hl'], fun k y u hy hu => ?_⟩
    cases k with
    | zero => simp at hy hu; subst hy; subst hu; exact hc1
    | succ k => exact hc2 k y u (by simpa using hy) (by simpa using hu)

def stM (args : List V) (M : List (Nat × Obj)) : St := { t := fun i => args.getD i .undef, m := mOf M }

def isBox : Obj → Bool
  | .box _ => true
  | _ => false

/-- The lists of what goes in and what comes back fit. -/
def memOk (M M' : List (Nat × Obj)) (_fz : Bool) : Bool :=
  let ids := M'.map (·.1)
  M.all (fun x => ids.contains x.1) && M'.all (fun x => (refsO x.2).all ids.contains) && (ids.eraseDups.length == ids.length)

theorem mOf_allIn {M' : List (Nat × Obj)} {m : Nat → Option Obj} (h : allIn M' m) (id : Nat) : (mOf M' id = none ∧ (M'.map (·.1)).contains id = false) ∨ (mOf M' id = m id ∧ (M'.map (·.1)).contains id = true) := by
  cases hf : mOf M' id with
  | none =>
    left
    refine ⟨rfl, ?_⟩
    unfold mOf at hf
    have hn := List.find?_eq_none.1 (Option.map_eq_none_iff.1 hf)
    rw [← Bool.not_eq_true, List.contains_iff_mem]
    intro hm
    obtain ⟨x, hx, hxi⟩ := List.mem_map.1 hm
    exact hn x hx (by simpa using hxi)
  | some o =>
    right
    have hm := mOf_mem hf
    refine ⟨?_, List.contains_iff_mem.2 (List.mem_map.2 ⟨_, hm, rfl⟩)⟩
    exact (allIn_mem h _ hm).symm

/-- THE CONTRACT OF A FUNCTION WITH MEMORY: its body, walked from its arguments and what it is lent. -/
theorem con_mem (hT : TabOk P T) (hm : P.follows .mixedOrders = true) {f : FuncId} {fn : Func} {c : Code} (hf : P.funcs[f]? = some fn) (hb : fn.body = some c) (hname : (fn.name == "runtime.NumGoroutine") = false)
    (hN : codeOk fn.ntmps c = true) {args : List V} {r : V} {M M' : List (Nat × Obj)} (fz : Bool) (hlen : args.length ≤ fn.ntmps) (hok : memOk M M' fz = true)
    (h : ∀ E : Env, (E.m0 = mOf M) → cw (ConSem P T) T (AW P T E fn.ntmps) c (RetM (ConSem P T) T fn.results.toList fz M' (fun v => v = r)) (stM args M)) : ConSem P T f args M r M' := by
  refine ⟨⟨fn, hf, by simp [hb], hname⟩, fun w gv J vs hJ hrel hsz hargs => ?_⟩
  refine calls_of_wp hf hb ?_
  simp only [memOk, Bool.and_eq_true] at hok
  obtain ⟨⟨hok1, hok2⟩, _⟩ := hok
  generalize hE : (⟨w, mOf M, gv, J, fun b => ∃ id o, mOf M id = some o ∧ blk gv id = some b, hJ⟩ : Env) = E at hrel ⊢
  have e1 : E.w0 = w := by rw [← hE]
  have e2 : E.m0 = mOf M := by rw [← hE]
  have e3 : E.J = J := by rw [← hE]
  have e4 : ∀ b, E.B b → ∃ id o, mOf M id = some o ∧ blk gv id = some b := by rw [← hE]; exact fun b h => h
  have e5 : E.gv0 = gv := by rw [← hE]
  have hr0 : RelG T E fn.ntmps gv (stM args M) { tmps := vs ++ Array.replicate (fn.ntmps - vs.size) undef, defers := [] } w := by
    refine ⟨hrel, rfl, by simp; omega, fun i => ?_⟩
    show RepV T w _ _ gv (args.getD i .undef) _
    cases hi : args[i]? with
    | none => simp [List.getD, hi, RepV]
    | some x =>
      have hlt : i < vs.size := by rw [hsz]; exact (List.getElem?_eq_some_iff.1 hi).1
      have hv : vs[i]? = some vs[i] := by simp [hlt]
      have := hargs i x _ hi hv
      rw [Array.getD_eq_getD_getElem?, Array.getElem?_append_left hlt, hv]
      simp only [List.getD, hi, Option.getD_some]
      refine repV_restrict (fun b hb => ⟨.inl (by rw [e3]; exact hb), (hJ b hb).1, fun id o h hb' => (hJ b hb).2 ⟨id, o, h, hb'⟩⟩) (fun _ _ => rfl) this
  refine wp_mono (cw_sound hT hm c hN _ _ (h E e2) gv _ w hr0) ?_
  -- the end
  have hend : ∀ (gv' : GV) (σ' : St) (a' : Act) (w' : World), RelG T E fn.ntmps gv' σ' a' w' → (retK (ConSem P T) T fn.results.toList σ' fun vs => finMVs σ'.m (M'.map (·.1)) fz vs fun xs => allIn M' σ'.m ∧ resOf xs = r) →
      a'.defers = [] ∧ ∃ v, (results fn a'.tmps).run P w' = .ok v w' ∧ ∃ v' gv', (Ending.returned v = .returned v' ∧ RelM T E gv' (mOf M') w' ∧ RepV T w' (Imm E (mOf M') gv' w') (mOf M') gv' r v') := by
    intro gv' σ' a' w' hr' hret
    obtain ⟨xs, us, hfin, hrun, hul, hrep⟩ := retK_run hT hr' _ _ hret
    -- the end of the results tells that what is kept is there
    have hall : allIn M' σ'.m := by
      have aux : ∀ (vs : List V) (K : List W1 → Prop) (p : Prop), (∀ ws, K ws → p) → finMVs σ'.m (M'.map (·.1)) fz vs K → p := by
        have auxC : ∀ (c : Ce) (K : Ce → Prop) (p : Prop), (∀ ws, K ws → p) → finMC σ'.m (M'.map (·.1)) fz c K → p := by
          intro c K p hK h
          unfold finMC at h
          split at h
          · exact hK _ h
          · exact hK _ h
          · exact hK _ h.2
          · split at h
            · exact hK _ h
            · obtain ⟨_, h⟩ := h
              split at h
              · exact hK _ h.2
              · exact h.elim
          · exact h.elim
        have auxL : ∀ (cs : List Ce) (K : List Ce → Prop) (p : Prop), (∀ ws, K ws → p) → finML σ'.m (M'.map (·.1)) fz cs K → p := by
          intro cs
          induction cs with
          | nil => intro K p hK h; exact hK _ h
          | cons c r ih => intro K p hK h; exact auxC c _ p (fun c hc => ih _ p (fun ws h => hK _ h) hc) h
        intro vs
        induction vs with
        | nil => intro K p hK h; exact hK _ h
        | cons v r ih =>
          intro K p hK h
          simp only [finMVs, finMV] at h
          split at h
          · exact auxC _ _ p (fun c hc => ih _ p (fun ws h => hK _ h) hc) h
          · exact auxL _ _ p (fun c hc => ih _ p (fun ws h => hK _ h) hc) h
          · exact h.elim
      exact aux xs _ _ (fun ws h => h.1) hfin
    have hmo := mOf_allIn hall
    have hsome : ∀ id o, mOf M' id = some o → σ'.m id = some o := fun id o h => by
      rcases hmo id with ⟨h1, _⟩ | ⟨h1, _⟩
      · rw [h1] at h; cases h
      · rw [← h1]; exact h
    have hI : ∀ b, Imm E σ'.m gv' w' b → Imm E (mOf M') gv' w' b := fun b hb => ⟨hb.1, hb.2.1, fun id o h => hb.2.2 id o (hsome id o h)⟩
    have hmM : ∀ id o, mOf M id = some o → (M'.map (·.1)).contains id = true := fun id o h => List.all_eq_true.1 hok1 (id, o) (mOf_mem h)
    have hk : ∀ id, (M'.map (·.1)).contains id = true → mOf M' id = σ'.m id := fun id h => by
      rcases hmo id with ⟨_, h2⟩ | ⟨h1, _⟩
      · rw [h2] at h; cases h
      · exact h1
    have hB : fz = true → ∀ id o b, σ'.m id = some o → (M'.map (·.1)).contains id = false → blk gv' id = some b → Imm E (mOf M') gv' w' b := by
      intro hfz id o b h1 h2 h3
      refine ⟨?_, (hr'.own id o b h1 h3).1, fun id' o' h4 h5 => ?_⟩
      · rcases hr'.new id o b h1 h3 with h4 | ⟨⟨o0, h4⟩, _⟩
        · right; rw [e1]; rwa [e1] at h4
        · rw [e2] at h4
          rw [hmM id _ h4] at h2; cases h2
      · have := hr'.inj id id' _ _ b h1 (hsome id' o' h4) h3 h5
        subst this
        rw [List.contains_iff_mem.2 (List.mem_map.2 ⟨_, mOf_mem h4, rfl⟩)] at h2; cases h2
    obtain ⟨ws, ⟨_, hws⟩, hwl, hwr⟩ := finMVs_rep (m' := mOf M') hr' hI hk hB hul hrep hfin
    have hres : (results fn a'.tmps).run P w' = .ok (if h : us.toArray.size = 1 then us.toArray[0] else .tuple us.toArray) w' := by
      unfold results
      rw [Array.mapM_eq_mapM_toList]
      simp only [Sem.run_bind, Sem.run_map, Sem.run_pure]
      exact congrArg (fun r : Result (List Value) => ((r.andThen fun a w' => .ok a.toArray w').andThen fun a w' => Result.ok (if h : a.size = 1 then a[0] else .tuple a) w')) hrun
    refine ⟨hr'.defers, _, hres, _, gv', rfl, ?_, ?_⟩
    · have hw : Weak E σ' { t := fun _ => .undef, m := mOf M' } := by
        refine ⟨fun i => .inl rfl, fun id => ?_, fun i id hid => by simp [refsV] at hid, fun id o h j hj => ?_, fun id o h => ?_⟩
        · rcases hmo id with ⟨h1, _⟩ | ⟨h1, _⟩
          · exact .inl h1
          · exact .inr h1
        · exact hk j (List.all_eq_true.1 (List.all_eq_true.1 hok2 (id, o) (mOf_mem h)) j hj)
        · rw [e2] at h; exact hk id (hmM id o h)
      exact (hr'.weak hw).toRelM
    · rw [← hws]
      match us, ws, hwl, hwr with
      | [], [], _, hwr => exact ⟨#[], rfl, rfl, fun k x u h => by simp at h⟩
      | [u], [x], _, hwr =>
        have := hwr 0 x u rfl rfl
        cases x with
        | one c => exact this
        | agg cs => exact this
      | u :: u' :: us, x :: x' :: ws, hwl, hwr =>
        simp only [resOf]
        rw [dif_neg (by simp)]
        exact ⟨_, rfl, by simpa using hwl, fun k y v hy hv => hwr k y v hy (by simpa using hv)⟩
      | [], _ :: _, h, _ => simp at h
      | _ :: _, [], h, _ => simp at h
      | [_], _ :: _ :: _, h, _ => simp at h
      | _ :: _ :: _, [_], h, _ => simp at h
  intro e a' w' hq
  cases e with
  | normal => obtain ⟨gv', σ', hr', hq⟩ := hq; exact hend gv' σ' a' w' hr' hq
  | exit i => obtain ⟨gv', σ', hr', hq⟩ := hq; exact hq.elim
  | ret => obtain ⟨gv', σ', hr', hq⟩ := hq; exact hend gv' σ' a' w' hr' hq
  | goto l => exact hq.elim
  | panic c => exact hq.elim
  | outgrown => exact hq.elim
end
end Go.AW
