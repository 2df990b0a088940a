import Derived.Test.YtocalihefpafgaaA7
/- Regions (in the order of the text, or in whatever order their edges allow), code, functions. -/
set_option linter.unusedVariables false
set_option linter.unusedSimpArgs false
namespace Go.AW

section
variable {P : Program} {T : Tab} {E : Env} {N : Nat} {gv : GV} {σ : St} {a : Act} {w : World} {ops : Array Oper} {Q : Exit → Act → World → Prop}

theorem run_guard {C : Con} {o : Oper} {p : Rd Wr} {wr : Wr} {fp : List Loc} (hr : RelG T E N gv σ a w) (h : Run C (guardR ops o p) σ wr fp) :
    (Region.wanted o (yielded ops a.tmps) = true ∧ ∃ fp', Run C p σ wr fp') ∨ (Region.wanted o (yielded ops a.tmps) = false ∧ wr = skipW) := by
  unfold guardR at h
  unfold Region.wanted
  cases hg : o.guard with
  | none => simp only [hg] at h ⊢; exact .inl ⟨trivial, fp, h⟩
  | some gw =>
    obtain ⟨j, want⟩ := gw
    simp only [hg] at h ⊢
    cases hd : (ops[j]?).bind (·.dst) with
    | none => simp only [hd] at h; exact h.elim
    | some d =>
      simp only [hd] at h
      obtain ⟨fp', rfl, h⟩ := h
      have ht := hr.t d
      unfold yielded
      rw [hd]
      dsimp only at h
      split at h
      · rename_i hv
        rw [hv] at ht
        obtain ⟨rfl, _⟩ := h
        obtain ⟨arr, h1, h2, _⟩ := ht
        refine .inr ⟨?_, rfl⟩
        simp only [Option.bind_some]
        rw [Array.getD_eq_getD_getElem?] at h1
        cases hq : a.tmps[d]? with
        | none => simp
        | some v => simp [hq] at h1; subst h1; simp
      · rename_i b hv
        rw [hv] at ht
        have h1 : a.tmps.getD d undef = .bool b := rp_bool ht
        rw [Array.getD_eq_getD_getElem?] at h1
        have h2 : a.tmps[d]? = some (.bool b) := by
          cases hq : a.tmps[d]? with
          | none => simp [hq, undef] at h1
          | some v => simp [hq] at h1; subst h1; rfl
        simp only [Option.bind_some, h2]
        simp only [Run] at h
        split at h
        · rename_i hb; exact .inl ⟨by simp [hb], fp', h⟩
        · rename_i hb; obtain ⟨rfl, _⟩ := h; exact .inr ⟨by simpa using hb, rfl⟩
      · exact h.elim

theorem guard_wpOp (hT : TabOk P T) {i : Nat} {o : Oper} {wr : Wr} {fp : List Loc} {K : Act → World → Prop} (hr : RelG T E N gv σ a w) (hi : ops[i]? = some o) (hdst : ∀ d, o.dst = some d → d < N)
    (h : Run (ConSem P T) (guardR ops o (opR T o)) σ wr fp) (hK : ∀ gv' a' w', RelG T E N gv' (σ.app o.dst wr) a' w' → K a' w') : wpOp P ops Q i K a w := by
  unfold wpOp
  simp only [hi]
  rcases run_guard hr h with ⟨hw, fp', hrun⟩ | ⟨hw, rfl⟩
  · simp only [hw, if_true]
    exact .inl (sound_op hT hr hdst hrun K Q hK)
  · simp only [hw, Bool.false_eq_true, if_false]
    exact hK gv _ _ (hr.put hdst ⟨#[], rfl, rfl, fun k x u h => by simp at h⟩)

def dstOk (N : Nat) (ops : List Oper) : Bool := ops.all fun o => match o.dst with | some d => decide (d < N) | none => true

theorem dstOk_mem {ops : Array Oper} (h : dstOk N ops.toList = true) {i : Nat} {o : Oper} (hi : ops[i]? = some o) : ∀ d, o.dst = some d → d < N := by
  intro d hd
  have := List.all_eq_true.1 h o (by simpa using Array.mem_of_getElem? hi)
  rw [hd] at this
  simpa using this

/-- In the order of the text. -/
theorem wp_text (hT : TabOk P T) (hN : dstOk N ops.toList = true) {K : St → Prop} (hK : ∀ gv σ a w, RelG T E N gv σ a w → K σ → Q .normal a w) :
    ∀ (n k : Nat) (gv : GV) (σ : St) (a : Act) (w : World), ops.size - k = n → k ≤ ops.size → RelG T E N gv σ a w → opsK (ConSem P T) T ops (ops.toList.drop k) σ K → wpOps P ops Q ((List.range ops.size).drop k) a w
  | 0, k, gv, σ, a, w, hn, hk, hr, h => by
    have hke : k = ops.size := by omega
    subst hke
    rw [List.drop_of_length_le (by simp)] at h
    rw [List.drop_of_length_le (by simp)]
    exact hK gv σ a w hr h
  | n + 1, k, gv, σ, a, w, hn, hk, hr, h => by
    have hlt : k < ops.size := by omega
    have hi : ops[k]? = some ops[k] := by simp [hlt]
    have e1 : ops.toList.drop k = ops[k] :: ops.toList.drop (k + 1) := by
      rw [List.drop_eq_getElem_cons (by simpa using hlt)]; simp
    have e2 : (List.range ops.size).drop k = k :: (List.range ops.size).drop (k + 1) := by
      rw [List.drop_eq_getElem_cons (by simpa using hlt)]; simp
    rw [e1] at h
    rw [e2, wpOps_cons]
    obtain ⟨wr, fp, hrun, h⟩ := opsK_run _ _ _ _ _ _ h
    exact guard_wpOp hT hr hi (dstOk_mem hN hi) hrun fun gv' a' w' hr' => wp_text hT hN hK n (k + 1) gv' _ a' w' (by omega) (by omega) hr' h

/-! ### A region that draws its order -/

/-- The operations in the order of the text, and of each what it writes and what it looks at. -/
def opsD (C : Con) (T : Tab) (ops : Array Oper) : List Oper → St → (List (List Loc × List Loc) → St → Prop) → Prop
  | [], σ, K => K [] σ
  | o :: r, σ, K =>
    match o.guard with
    | none => runK C (opR T o) σ fun w fp => opsD C T ops r (σ.app o.dst w) fun D σ' => K ((o.dst.toList.map .t ++ w.ms.map (fun x => .m x.1), fp) :: D) σ'
    | some (j, want) => match (ops[j]?).bind (·.dst) with
      | none => False
      | some d => match σ.t d with
        | .tup [] => opsD C T ops r (σ.app o.dst skipW) fun D σ' => K ((o.dst.toList.map .t, [.t d]) :: D) σ'
        | .one (.p (.bool b)) => splitB b fun b =>
            if b = want then runK C (opR T o) { σ with t := upd σ.t d (.one (.p (.bool b))) } fun w fp => opsD C T ops r (St.app { σ with t := upd σ.t d (.one (.p (.bool b))) } o.dst w) fun D σ' =>
                K ((o.dst.toList.map .t ++ w.ms.map (fun x => .m x.1), .t d :: fp) :: D) σ'
            else opsD C T ops r (St.app { σ with t := upd σ.t d (.one (.p (.bool b))) } o.dst skipW) fun D σ' => K ((o.dst.toList.map .t, [.t d]) :: D) σ'
        | _ => False

def wlocs (d : Option Nat) (w : Wr) : List Loc := d.toList.map .t ++ w.ms.map (fun x => .m x.1)

theorem opsD_run (C : Con) (T : Tab) (ops : Array Oper) : ∀ (l : List Oper) (σ : St) (K : List (List Loc × List Loc) → St → Prop), opsD C T ops l σ K →
    match l with
    | [] => K [] σ
    | o :: r => ∃ w fp, Run C (guardR ops o (opR T o)) σ w fp ∧ opsD C T ops r (σ.app o.dst w) fun D σ' => K ((wlocs o.dst w, fp) :: D) σ'
  | [], σ, K, h => h
  | o :: r, σ, K, h => by
    show ∃ w fp, _
    unfold opsD at h
    unfold guardR
    cases hg : o.guard with
    | none =>
      simp only [hg] at h ⊢
      exact runK_run C _ _ _ h
    | some gw =>
      obtain ⟨j, want⟩ := gw
      simp only [hg] at h ⊢
      cases hd : (ops[j]?).bind (·.dst) with
      | none => simp [hd] at h
      | some d =>
        simp only [hd] at h ⊢
        cases hv : σ.t d with
        | undef => simp [hv] at h
        | agg cs => simp [hv] at h
        | tup xs =>
          cases xs with
          | nil => simp only [hv] at h; exact ⟨skipW, [.t d], ⟨[], rfl, by simp [hv, Run]⟩, by simpa [wlocs, skipW] using h⟩
          | cons x xs => simp [hv] at h
        | one c =>
          cases c with
          | p x =>
            cases x with
            | bool b =>
              simp only [hv] at h
              have h := splitB_out h
              have e : upd σ.t d (.one (.p (.bool b))) = σ.t := by rw [← hv]; exact upd_self _ _
              simp only [e] at h
              by_cases hb : b = want
              · simp only [hb, if_true] at h
                obtain ⟨w, fp, hr, hk⟩ := runK_run C _ _ _ h
                exact ⟨w, .t d :: fp, ⟨fp, rfl, by simp only [hv, Run, hb, if_true]; exact hr⟩, hk⟩
              · simp only [hb, if_false] at h
                exact ⟨skipW, [.t d], ⟨[], rfl, by simp [hv, Run, hb]⟩, by simpa [wlocs, skipW] using h⟩
            | _ => simp [hv] at h
          | _ => simp [hv] at h

/-- Operations one behind the other. -/
def Exec (C : Con) (T : Tab) (ops : Array Oper) (W : Nat → Wr) (F : Nat → List Loc) : List Nat → St → St → Prop
  | [], σ, σ' => σ' = σ
  | i :: r, σ, σ' => ∃ o, ops[i]? = some o ∧ Run C (guardR ops o (opR T o)) σ (W i) (F i) ∧ Exec C T ops W F r (σ.app o.dst (W i)) σ'

theorem Exec.congr {C : Con} {W W' : Nat → Wr} {F F' : Nat → List Loc} : ∀ {l : List Nat} {σ σ' : St}, (∀ i ∈ l, W i = W' i ∧ F i = F' i) → Exec C T ops W F l σ σ' → Exec C T ops W' F' l σ σ'
  | [], _, _, _, h => h
  | i :: r, σ, σ', hc, h => by
    obtain ⟨o, h1, h2, h3⟩ := h
    obtain ⟨e1, e2⟩ := hc i (by simp)
    exact ⟨o, h1, by rw [← e1, ← e2]; exact h2, by rw [← e1]; exact Exec.congr (fun j hj => hc j (by simp [hj])) h3⟩

theorem opsD_exec {C : Con} : ∀ (n k : Nat) (σ : St) (K : List (List Loc × List Loc) → St → Prop), ops.size - k = n → k ≤ ops.size → opsD C T ops (ops.toList.drop k) σ K →
    ∃ W F D σ', Exec C T ops W F ((List.range ops.size).drop k) σ σ' ∧ K D σ' ∧ ∀ (i : Nat) o, k ≤ i → ops[i]? = some o → D[i - k]? = some (wlocs o.dst (W i), F i)
  | 0, k, σ, K, hn, hk, h => by
    have hke : k = ops.size := by omega
    subst hke
    rw [List.drop_of_length_le (by simp)] at h
    rw [List.drop_of_length_le (by simp)]
    exact ⟨fun _ => skipW, fun _ => [], [], σ, rfl, h, fun i o hi ho => by have := (Array.getElem?_eq_some_iff.1 ho).1; omega⟩
  | n + 1, k, σ, K, hn, hk, h => by
    have hlt : k < ops.size := by omega
    have hi : ops[k]? = some ops[k] := by simp [hlt]
    have e1 : ops.toList.drop k = ops[k] :: ops.toList.drop (k + 1) := by
      rw [List.drop_eq_getElem_cons (by simpa using hlt)]; simp
    have e2 : (List.range ops.size).drop k = k :: (List.range ops.size).drop (k + 1) := by
      rw [List.drop_eq_getElem_cons (by simpa using hlt)]; simp
    rw [e1] at h
    rw [e2]
    obtain ⟨wr, fp, hrun, h⟩ := opsD_run _ _ _ _ _ _ h
    obtain ⟨W, F, D, σ', h1, h2, h3⟩ := opsD_exec n (k + 1) _ _ (by omega) (by omega) h
    have hne : ∀ j ∈ (List.range ops.size).drop (k + 1), j ≠ k := by
      intro j hj
      rw [List.mem_iff_getElem?] at hj
      obtain ⟨m, hm⟩ := hj
      rw [List.getElem?_drop] at hm
      have := List.getElem?_eq_some_iff.1 hm
      obtain ⟨hl, hv⟩ := this
      simp at hv; omega
    refine ⟨fun j => if j = k then wr else W j, fun j => if j = k then fp else F j, _, σ', ⟨ops[k], hi, by simp only [if_true]; exact hrun, ?_⟩, h2, fun i o hik hio => ?_⟩
    · simp only [if_true]
      exact Exec.congr (fun j hj => by simp [hne j hj]) h1
    · by_cases hik2 : i = k
      · subst hik2
        rw [hi] at hio; simp at hio; subst hio
        simp
      · rw [show i - k = (i - (k + 1)) + 1 by omega, List.getElem?_cons_succ, h3 i o (by omega) hio]
        simp [hik2]

/-- Nothing that the one writes is written or looked at by the other. -/
def apartL (x y : List Loc × List Loc) : Bool := x.1.all (fun l => !(y.1.contains l) && !(y.2.contains l)) && y.1.all (fun l => !(x.2.contains l))

theorem foldl_upd_other (ms : List (Nat × Obj)) : ∀ (m : Nat → Option Obj) (i : Nat), (∀ x ∈ ms, x.1 ≠ i) → (ms.foldl (fun m x => upd m x.1 (some x.2)) m) i = m i := by
  induction ms with
  | nil => intro m i _; rfl
  | cons x r ih =>
    intro m i h
    simp only [List.foldl_cons]
    rw [ih _ _ (fun y hy => h y (by simp [hy]))]
    simp [upd, Ne.symm (h x (by simp))]

theorem foldl_upd_same (ms : List (Nat × Obj)) : ∀ (m m' : Nat → Option Obj) (i : Nat), (∃ x ∈ ms, x.1 = i) → (ms.foldl (fun m x => upd m x.1 (some x.2)) m) i = (ms.foldl (fun m x => upd m x.1 (some x.2)) m') i := by
  induction ms with
  | nil => intro m m' i h; obtain ⟨x, hx, _⟩ := h; cases hx
  | cons x r ih =>
    intro m m' i h
    simp only [List.foldl_cons]
    by_cases hr : ∃ y ∈ r, y.1 = i
    · exact ih _ _ i hr
    · have hr' : ∀ y ∈ r, y.1 ≠ i := fun y hy he => hr ⟨y, hy, he⟩
      rw [foldl_upd_other _ _ _ hr', foldl_upd_other _ _ _ hr']
      obtain ⟨y, hy, he⟩ := h
      rcases List.mem_cons.1 hy with rfl | hy
      · simp [upd, he]
      · exact absurd he (hr' y hy)

theorem app_agree (σ : St) (d : Option Nat) (w : Wr) (fp : List Loc) (h : ∀ l ∈ wlocs d w, l ∉ fp) : σ.agree (σ.app d w) fp := by
  intro l hl
  cases l with
  | t n =>
    show putT σ.t d w.v n = σ.t n
    cases d with
    | none => rfl
    | some d =>
      have : n ≠ d := fun e => h (.t d) (by simp [wlocs]) (e ▸ hl)
      simp [putT, upd, this]
  | m i =>
    show (w.ms.foldl (fun m x => upd m x.1 (some x.2)) σ.m) i = σ.m i
    exact foldl_upd_other _ _ _ fun x hx e => h (.m x.1) (by simp [wlocs]; exact ⟨x.2, hx⟩) (e ▸ hl)

theorem app_comm (σ : St) (d d' : Option Nat) (w w' : Wr) (h : ∀ l ∈ wlocs d w, l ∉ wlocs d' w') : (σ.app d w).app d' w' = (σ.app d' w').app d w := by
  have e1 : ((σ.app d w).app d' w').t = ((σ.app d' w').app d w).t := by
    funext n
    show putT (putT σ.t d w.v) d' w'.v n = putT (putT σ.t d' w'.v) d w.v n
    cases d with
    | none => rfl
    | some d =>
      cases d' with
      | none => rfl
      | some d' =>
        have : d ≠ d' := fun e => h (.t d) (by simp [wlocs]) (by simp [wlocs, e])
        simp only [putT, upd]
        by_cases h1 : n = d'
        · simp [h1, Ne.symm this]
        · simp [h1]
  have e2 : ((σ.app d w).app d' w').m = ((σ.app d' w').app d w).m := by
    funext i
    show (w'.ms.foldl (fun m x => upd m x.1 (some x.2)) (w.ms.foldl (fun m x => upd m x.1 (some x.2)) σ.m)) i = (w.ms.foldl (fun m x => upd m x.1 (some x.2)) (w'.ms.foldl (fun m x => upd m x.1 (some x.2)) σ.m)) i
    by_cases h1 : ∃ x ∈ w'.ms, x.1 = i
    · have h2 : ∀ x ∈ w.ms, x.1 ≠ i := by
        intro x hx e
        obtain ⟨y, hy, he⟩ := h1
        exact h (.m x.1) (by simp [wlocs]; exact ⟨x.2, hx⟩) (by simp [wlocs, e]; exact ⟨y.2, by rw [← he]; exact hy⟩)
      rw [foldl_upd_other w.ms _ _ h2]
      exact foldl_upd_same _ _ _ _ h1
    · have h1' : ∀ x ∈ w'.ms, x.1 ≠ i := fun x hx e => h1 ⟨x, hx, e⟩
      rw [foldl_upd_other w'.ms _ _ h1']
      by_cases h2 : ∃ x ∈ w.ms, x.1 = i
      · exact foldl_upd_same _ _ _ _ h2
      · have h2' : ∀ x ∈ w.ms, x.1 ≠ i := fun x hx e => h2 ⟨x, hx, e⟩
        rw [foldl_upd_other w.ms _ _ h2', foldl_upd_other w.ms _ _ h2', foldl_upd_other w'.ms _ _ h1']
  cases h3 : (σ.app d w).app d' w'
  cases h4 : (σ.app d' w').app d w
  rw [h3, h4] at e1 e2
  simp at e1 e2
  rw [e1, e2]

theorem apartL_spec {x y : List Loc × List Loc} (h : apartL x y = true) : (∀ l ∈ x.1, l ∉ y.1) ∧ (∀ l ∈ x.1, l ∉ y.2) ∧ ∀ l ∈ y.1, l ∉ x.2 := by
  simp only [apartL, Bool.and_eq_true, List.all_eq_true, Bool.not_eq_true', List.contains_eq_mem, decide_eq_false_iff_not] at h
  exact ⟨fun l hl => (h.1 l hl).1, fun l hl => (h.1 l hl).2, fun l hl => h.2 l hl⟩

theorem Exec.front {C : Con} {W : Nat → Wr} {F : Nat → List Loc} {j : Nat} {oj : Oper} (hj : ops[j]? = some oj) : ∀ {A B : List Nat} {σ σ' : St},
    (∀ i ∈ A, ∀ o, ops[i]? = some o → apartL (wlocs o.dst (W i), F i) (wlocs oj.dst (W j), F j) = true) → Exec C T ops W F (A ++ j :: B) σ σ' → Exec C T ops W F (j :: (A ++ B)) σ σ'
  | [], B, σ, σ', _, h => h
  | i :: A, B, σ, σ', ha, h => by
    obtain ⟨o, h1, h2, h3⟩ := h
    have h3 := Exec.front hj (fun k hk => ha k (by simp [hk])) h3
    obtain ⟨o', h4, h5, h6⟩ := h3
    rw [hj] at h4; simp at h4; subst h4
    obtain ⟨a1, a2, a3⟩ := apartL_spec (ha i (by simp) o h1)
    refine ⟨oj, hj, ?_, o, h1, ?_, ?_⟩
    · refine Run.local C h5 ?_
      have := app_agree σ o.dst (W i) (F j) a2
      intro l hl
      have := this l hl
      cases l <;> exact this.symm
    · exact Run.local C h2 (app_agree σ oj.dst (W j) (F i) a3)
    · rw [← app_comm σ o.dst oj.dst (W i) (W j) a1]; exact h6

/-- Which operations come ahead, by the edges that bind in every order. -/
def preds (o : Oper) : List Nat := o.after.toList.filterMap fun e => if Region.binds .any e then some e.on else none
/-- Of each operation: which ones come ahead of it, near or far, as bits. -/
def maskOf (o : Oper) (acc : List Nat) : Nat := (preds o).foldl (fun s q => s ||| 2 ^ q ||| acc.getD q 0) 0
def masks : List Oper → List Nat → List Nat
  | [], acc => acc
  | o :: r, acc => masks r (acc ++ [maskOf o acc])

def drawOk (ops : Array Oper) (D : List (List Loc × List Loc)) : Bool :=
  let mk := masks ops.toList []
  (List.range ops.size).all (fun i => match ops[i]? with | some o => (preds o).all (fun q => decide (q < i)) | none => true) &&
  (List.range ops.size).all fun i => (List.range i).all fun j => apartL (D.getD j ([], [])) (D.getD i ([], [])) || (mk.getD i 0).testBit j

theorem testBit_fold (acc : List Nat) (j : Nat) : ∀ (l : List Nat) (s : Nat), (l.foldl (fun s q => s ||| 2 ^ q ||| acc.getD q 0) s).testBit j = true → s.testBit j = true ∨ ∃ q ∈ l, q = j ∨ (acc.getD q 0).testBit j = true
  | [], s, h => .inl h
  | q :: l, s, h => by
    simp only [List.foldl_cons] at h
    rcases testBit_fold acc j l _ h with h | ⟨r, hr, h⟩
    · simp only [Nat.testBit_or, Bool.or_eq_true, Nat.testBit_two_pow, decide_eq_true_eq] at h
      rcases h with (h | h) | h
      · exact .inl h
      · exact .inr ⟨q, by simp, .inl h⟩
      · exact .inr ⟨q, by simp, .inr h⟩
    · exact .inr ⟨r, by simp [hr], h⟩

theorem masks_get : ∀ (l : List Oper) (acc : List Nat) (i : Nat), (i < acc.length → (masks l acc)[i]? = acc[i]?) ∧
    (∀ o, l[i]? = some o → (∀ q ∈ preds o, q < acc.length + i) → ∀ j, ((masks l acc).getD (acc.length + i) 0).testBit j = true → ∃ q ∈ preds o, q = j ∨ ((masks l acc).getD q 0).testBit j = true)
  | [], acc, i => ⟨fun h => rfl, fun o h => by simp at h⟩
  | o :: r, acc, i => by
    have keep : ∀ k, k < acc.length → (masks (o :: r) acc)[k]? = acc[k]? := by
      intro k hk
      simp only [masks]
      rw [(masks_get r (acc ++ [maskOf o acc]) k).1 (by simp; omega), List.getElem?_append_left hk]
    refine ⟨keep i, fun o' ho hq j hj => ?_⟩
    cases i with
    | zero =>
      simp at ho; subst ho
      have h0 : (masks (o :: r) acc).getD acc.length 0 = maskOf o acc := by
        simp only [masks, List.getD_eq_getElem?_getD]
        rw [(masks_get r (acc ++ [maskOf o acc]) acc.length).1 (by simp)]
        simp
      rw [Nat.add_zero, h0] at hj
      rcases testBit_fold acc j _ _ hj with h | ⟨q, h1, h2⟩
      · simp at h
      · refine ⟨q, h1, h2.imp id fun h => ?_⟩
        rw [List.getD_eq_getElem?_getD, keep q (by simpa using hq q h1), ← List.getD_eq_getElem?_getD]; exact h
    | succ i =>
      have := (masks_get r (acc ++ [maskOf o acc]) i).2 o' (by simpa using ho) (fun q h => by have := hq q h; simp; omega) j (by
        simp only [masks] at hj
        simpa [Nat.add_assoc, Nat.add_comm 1 i] using hj)
      simpa [masks] using this

theorem mem_preds {o : Oper} {q : Nat} : q ∈ preds o ↔ ∃ e ∈ o.after, Region.binds .any e = true ∧ e.on = q := by
  simp [preds]

theorem wp_drawn (hT : TabOk P T) (hN : dstOk N ops.toList = true) {W : Nat → Wr} {F : Nat → List Loc} {D : List (List Loc × List Loc)} (hD : ∀ (i : Nat) o, ops[i]? = some o → D[i]? = some (wlocs o.dst (W i), F i))
    (hok : drawOk ops D = true) {σ' : St} (hQ : ∀ gv a w, RelG T E N gv σ' a w → Q .normal a w) :
    ∀ (n : Nat) (listed : Array Bool) (gv : GV) (σ : St) (a : Act) (w : World), listed.size = ops.size → ((List.range ops.size).filter fun i => !listed.getD i true).length = n →
      (∀ (i : Nat) o, ops[i]? = some o → listed.getD i true = true → ∀ q ∈ preds o, listed.getD q false = true) →
      Exec (ConSem P T) T ops W F ((List.range ops.size).filter fun i => !listed.getD i true) σ σ' → RelG T E N gv σ a w → wpAny P .any ops Q n listed a w := by
  simp only [drawOk, Bool.and_eq_true, List.all_eq_true, List.mem_range] at hok
  obtain ⟨hback, hap⟩ := hok
  have hback : ∀ (i : Nat) o, ops[i]? = some o → ∀ q ∈ preds o, q < i := fun i o ho q hq => by
    have := hback i (Array.getElem?_eq_some_iff.1 ho).1
    rw [ho] at this
    simpa using List.all_eq_true.1 this q hq
  -- what comes ahead of what may go next, has gone
  have hanc : ∀ (listed : Array Bool), (∀ (i : Nat) o, ops[i]? = some o → listed.getD i true = true → ∀ q ∈ preds o, listed.getD q false = true) →
      ∀ (i : Nat) o, ops[i]? = some o → (∀ q ∈ preds o, listed.getD q false = true) → ∀ j, ((masks ops.toList []).getD i 0).testBit j = true → listed.getD j false = true := by
    intro listed hcl i
    induction i using Nat.strongRecOn with
    | _ i ih =>
      intro o ho hp j hj
      obtain ⟨q, h1, h2⟩ := (masks_get ops.toList [] i).2 o (by simpa using ho) (fun q hq => by simpa using hback i o ho q hq) j (by simpa using hj)
      rcases h2 with rfl | h2
      · exact hp _ h1
      · have hqi := hback i o ho q h1
        have hqn : q < ops.size := Nat.lt_trans hqi (Array.getElem?_eq_some_iff.1 ho).1
        have hql := hp q h1
        refine ih q hqi ops[q] (by simp [hqn]) (hcl q ops[q] (by simp [hqn]) ?_) j h2
        rw [Array.getD_eq_getD_getElem?] at hql ⊢
        cases hz : listed[q]? with
        | none => simp [hz] at hql
        | some b => simp [hz] at hql ⊢; exact hql
  have hready : ∀ (listed : Array Bool) (i : Nat), i ∈ Region.ready .any ops listed ↔ i < ops.size ∧ listed.getD i true = false ∧ ∀ o, ops[i]? = some o → ∀ q ∈ preds o, listed.getD q false = true := by
    intro listed i
    simp only [Region.ready, List.mem_filter, List.mem_range, Bool.and_eq_true, Bool.not_eq_true']
    refine and_congr_right fun hi => and_congr_right fun _ => ?_
    have hio : ops[i]? = some ops[i] := by simp [hi]
    simp only [hio, Option.map_some, Option.getD_some, Option.some.injEq, forall_eq']
    rw [Array.all_eq_true_iff_forall_mem]
    constructor
    · intro h q hq
      obtain ⟨e, he, hb, rfl⟩ := mem_preds.1 hq
      simpa [hb] using h e he
    · intro h e he
      cases hb : Region.binds .any e with
      | false => simp
      | true => simpa using h e.on (mem_preds.2 ⟨e, he, hb, rfl⟩)
  intro n
  induction n with
  | zero =>
    intro listed gv σ a w hls hlen hcl hex hr
    have hnil := List.length_eq_zero_iff.1 hlen
    rw [hnil] at hex
    have hs : σ' = σ := hex
    subst hs
    refine ⟨?_, hQ gv a w hr⟩
    rw [List.eq_nil_iff_forall_not_mem]
    intro i hi
    obtain ⟨h1, h2, _⟩ := (hready listed i).1 hi
    have : i ∈ ((List.range ops.size).filter fun i => !listed.getD i true) := by simp only [List.mem_filter, List.mem_range, h2]; exact ⟨h1, rfl⟩
    rw [hnil] at this
    cases this
  | succ n ih =>
    intro listed gv σ a w hls hlen hcl hex hr
    have hunl : ∀ q, q < ops.size → listed.getD q true = true → listed.getD q false = true := by
      intro q hq h
      rw [Array.getD_eq_getD_getElem?] at h ⊢
      have : listed[q]? = some listed[q] := by simp [hls, hq]
      simpa [this] using h
    refine ⟨fun hnr => ?_, fun i hi => ?_⟩
    · -- the least one that has not gone may go
      exfalso
      have hne : ((List.range ops.size).filter fun i => !listed.getD i true) ≠ [] := by intro e; rw [e] at hlen; simp at hlen
      have hex2 : ∃ i, i < ops.size ∧ listed.getD i true = false := by
        obtain ⟨i, hi⟩ := List.exists_mem_of_ne_nil _ hne
        simp only [List.mem_filter, List.mem_range, Bool.not_eq_true'] at hi
        exact ⟨i, hi⟩
      have key : ∀ k, (∃ i, i < k ∧ i < ops.size ∧ listed.getD i true = false) → ∃ i, i ∈ Region.ready .any ops listed := by
        intro k
        induction k with
        | zero => rintro ⟨i, h, _⟩; omega
        | succ k ihk =>
          rintro ⟨i, h1, h2, h3⟩
          by_cases hs : ∃ i, i < k ∧ i < ops.size ∧ listed.getD i true = false
          · exact ihk hs
          · have hik : i = k := by
              by_cases h : i = k
              · exact h
              · exact absurd ⟨i, by omega, h2, h3⟩ hs
            subst hik
            refine ⟨i, (hready listed i).2 ⟨h2, h3, fun o ho q hq => ?_⟩⟩
            have hqi := hback i o ho q hq
            refine hunl q (by omega) ?_
            cases hb : listed.getD q true with
            | true => rfl
            | false => exact absurd ⟨q, hqi, by omega, hb⟩ hs
      obtain ⟨i, h1, h2⟩ := hex2
      obtain ⟨j, hj⟩ := key (i + 1) ⟨i, by omega, h1, h2⟩
      rw [hnr] at hj
      cases hj
    · obtain ⟨h1, h2, h3⟩ := (hready listed i).1 hi
      have hio : ops[i]? = some ops[i] := by simp [h1]
      have hmem : i ∈ ((List.range ops.size).filter fun i => !listed.getD i true) := by simp only [List.mem_filter, List.mem_range, h2]; exact ⟨h1, rfl⟩
      have hpw : ((List.range ops.size).filter fun i => !listed.getD i true).Pairwise (· < ·) := List.Pairwise.filter _ List.pairwise_lt_range
      obtain ⟨A, B, hAB⟩ := List.append_of_mem hmem
      have hmemAB : ∀ k, k ∈ A ∨ k ∈ B → k < ops.size ∧ listed.getD k true = false := by
        intro k hk
        have : k ∈ ((List.range ops.size).filter fun i => !listed.getD i true) := by rw [hAB]; rcases hk with h | h <;> simp [h]
        simpa only [List.mem_filter, List.mem_range, Bool.not_eq_true'] using this
      rw [hAB] at hex hpw hlen
      have hAi : ∀ k ∈ A, k < i := fun k hk => (List.pairwise_append.1 hpw).2.2 k hk i (by simp)
      have hBi : ∀ k ∈ B, i < k := fun k hk => (List.pairwise_cons.1 (List.pairwise_append.1 hpw).2.1).1 k hk
      have hfront := Exec.front hio (A := A) (B := B) (fun k hk o ho => by
        have hki := hAi k hk
        have hnb : ¬ ((masks ops.toList []).getD i 0).testBit k = true := by
          intro hb
          have := hanc listed hcl i ops[i] hio (h3 ops[i] hio) k hb
          have hk2 := (hmemAB k (.inl hk)).2
          rw [Array.getD_eq_getD_getElem?] at this hk2
          cases hz : listed[k]? with
          | none => simp [hz] at this
          | some b => simp [hz] at this hk2; rw [this] at hk2; cases hk2
        have := hap i h1 k hki
        simp only [Bool.or_eq_true] at this
        rcases this with h | h
        · rw [List.getD_eq_getElem?_getD, List.getD_eq_getElem?_getD, hD k o ho, hD i ops[i] hio] at h
          exact h
        · exact absurd h hnb) hex
      obtain ⟨o', h4, h5, h6⟩ := hfront
      rw [hio] at h4; simp at h4; subst h4
      refine guard_wpOp hT hr hio (dstOk_mem hN hio) h5 fun gv' a' w' hr' => ?_
      have hget : ∀ k, (listed.setIfInBounds i true).getD k true = if k = i then true else listed.getD k true := by
        intro k
        simp only [Array.getD_eq_getD_getElem?, Array.getElem?_setIfInBounds]
        by_cases hk : i = k
        · subst hk; simp [hls, h1]
        · rw [if_neg hk, if_neg (fun e => hk e.symm)]
      have hget2 : ∀ k, (listed.setIfInBounds i true).getD k false = if k = i then true else listed.getD k false := by
        intro k
        simp only [Array.getD_eq_getD_getElem?, Array.getElem?_setIfInBounds]
        by_cases hk : i = k
        · subst hk; simp [hls, h1]
        · rw [if_neg hk, if_neg (fun e => hk e.symm)]
      have hfil : ((List.range ops.size).filter fun k => !(listed.setIfInBounds i true).getD k true) = A ++ B := by
        have e1 : ((List.range ops.size).filter fun k => !(listed.setIfInBounds i true).getD k true) = (((List.range ops.size).filter fun i => !listed.getD i true).filter fun k => k ≠ i) := by
          rw [List.filter_filter]
          apply List.filter_congr
          intro k _
          rw [hget]
          by_cases hk : k = i <;> simp [hk]
        rw [e1, hAB, List.filter_append, List.filter_cons]
        simp only [ne_eq, not_true_eq_false, decide_false, Bool.false_eq_true, if_false]
        rw [List.filter_eq_self.2 (fun k hk => by have := hAi k hk; simp; omega), List.filter_eq_self.2 (fun k hk => by have := hBi k hk; simp; omega)]
      refine ih _ gv' _ a' w' (by simp [hls]) (by rw [hfil]; simp at hlen ⊢; omega) (fun k o ho hk q hq => ?_) (by rw [hfil]; exact h6) hr'
      rw [hget2]
      rw [hget] at hk
      by_cases hqi : q = i
      · simp [hqi]
      · rw [if_neg hqi]
        by_cases hki : k = i
        · subst hki; exact h3 o ho q hq
        · rw [if_neg hki] at hk; exact hcl k o ho hk q hq
end
end Go.AW

/- Code: sequences, tests, blocks, loops; a function's contract out of its body. -/
set_option linter.unusedVariables false
set_option linter.unusedSimpArgs false
namespace Go.AW

inductive Ex where
  | normal | exit (id : Nat) | ret

/-- Code, with what is to hold behind it; a loop is left to L. -/
def cw (C : Con) (T : Tab) (L : Code → (Ex → St → Prop) → St → Prop) : Code → (Ex → St → Prop) → St → Prop
  | .skip, Q, σ => Q .normal σ
  | .seq a b, Q, σ => cw C T L a (fun e σ => match e with
      | .normal => cw C T L b Q σ
      | .exit j => Q (.exit j) σ
      | .ret => Q .ret σ) σ
  | .cond c x y, Q, σ => match c with
    | .tmp c => match σ.t c with
      | .one (.p (.bool b)) => splitB b fun b => if b = true then cw C T L x Q σ else cw C T L y Q σ
      | _ => False
    | .const (.bool b) => if b = true then cw C T L x Q σ else cw C T L y Q σ
    | _ => False
  | .block id b, Q, σ => cw C T L b (fun e σ => match e with
      | .normal => Q .normal σ
      | .exit j => if j = id then Q .normal σ else Q (.exit j) σ
      | .ret => Q .ret σ) σ
  | .exit id, Q, σ => Q (.exit id) σ
  | .ret, Q, σ => Q .ret σ
  | .region _ ops false, Q, σ => opsK C T ops ops.toList σ (Q .normal)
  | .region _ ops true, Q, σ => opsD C T ops ops.toList σ (fun D σ => drawOk ops D = true ∧ Q .normal σ)
  | .loop b, Q, σ => L (.loop b) Q σ
  | .label _, Q, σ => Q .normal σ
  | _, _, _ => False

def codeOk (N : Nat) : Code → Bool
  | .seq a b => codeOk N a && codeOk N b
  | .cond _ a b => codeOk N a && codeOk N b
  | .block _ b => codeOk N b
  | .loop b => codeOk N b
  | .region _ ops _ => dstOk N ops.toList
  | _ => true

section
variable {P : Program} {T : Tab} {E : Env} {N : Nat}

def post (T : Tab) (E : Env) (N : Nat) (Q : Ex → St → Prop) : Exit → Act → World → Prop
  | .normal, a, w => ∃ gv σ, RelG T E N gv σ a w ∧ Q .normal σ
  | .exit i, a, w => ∃ gv σ, RelG T E N gv σ a w ∧ Q (.exit i) σ
  | .ret, a, w => ∃ gv σ, RelG T E N gv σ a w ∧ Q .ret σ
  | _, _, _ => False

def AW (P : Program) (T : Tab) (E : Env) (N : Nat) (c : Code) (Q : Ex → St → Prop) (σ : St) : Prop :=
  ∀ gv a w, RelG T E N gv σ a w → c.wp P (post T E N Q) a w

theorem RelG.drew {gv : GV} {σ : St} {a : Act} {w : World} (hr : RelG T E N gv σ a w) : RelG T E N gv σ a w.drew := by
  have h := hr.toRelM.grow (w' := w.drew) rfl rfl rfl (Nat.le_refl _) (fun _ _ => rfl)
  exact ⟨h.1, hr.defers, hr.n, fun i => RepV.mono h.2 (Pers.refl _ _) (hr.t i)⟩

theorem cw_sound (hT : TabOk P T) (hm : P.follows .mixedOrders = true) : ∀ (c : Code), codeOk N c = true → ∀ (Q : Ex → St → Prop) (σ : St), cw (ConSem P T) T (AW P T E N) c Q σ → AW P T E N c Q σ := by
  intro c
  induction c with
  | skip => intro _ Q σ h gv a w hr; exact wp_skip ⟨gv, σ, hr, h⟩
  | region id ops draw =>
    intro hN Q σ h gv a w hr
    cases draw with
    | false =>
      refine wp_region ?_
      simp only [cw] at h
      have := wp_text (Q := post T E N Q) (K := Q .normal) hT hN (fun gv σ a w hr hK => ⟨gv, σ, hr, hK⟩) (ops.size - 0) 0 gv σ a w rfl (Nat.zero_le _) hr (by simpa using h)
      simpa using this
    | true =>
      obtain ⟨W, F, D, σ', h1, ⟨h2, h3⟩, h4⟩ := opsD_exec (C := ConSem P T) (T := T) (ops := ops) (ops.size - 0) 0 σ _ rfl (Nat.zero_le _) (by simpa [cw] using h)
      refine wp_region_any hm ?_
      have hall : ((List.range ops.size).filter fun i => !(Array.replicate ops.size false).getD i true) = List.range ops.size := by
        apply List.filter_eq_self.2
        intro i hi
        have := List.mem_range.1 hi
        simp [Array.getD_eq_getD_getElem?, this]
      refine wp_drawn (E := E) hT hN (W := W) (F := F) (D := D) (fun i o ho => by simpa using h4 i o (Nat.zero_le _) ho) h2 (σ' := σ') (fun gv a w hr => ⟨gv, σ', hr, h3⟩) ops.size (Array.replicate ops.size false) gv σ a w.drew (by simp) (by rw [hall]; simp) (fun i o ho hl => ?_) (by rw [hall]; simpa using h1) (hr.drew)
      have hi := (Array.getElem?_eq_some_iff.1 ho).1
      simp [Array.getD_eq_getD_getElem?, hi] at hl
  | seq x y ihx ihy =>
    intro hN Q σ h gv a w hr
    simp only [codeOk, Bool.and_eq_true] at hN
    refine wp_seq (wp_mono (ihx hN.1 _ σ h gv a w hr) ?_)
    intro e a' w' hq
    cases e with
    | normal => obtain ⟨gv', σ', hr', hq⟩ := hq; exact ihy hN.2 Q σ' hq gv' a' w' hr'
    | exit i => exact hq
    | ret => exact hq
    | goto l => exact hq
    | panic c => exact hq
    | outgrown => exact hq
  | cond c x y ihx ihy =>
    intro hN Q σ h gv a w hr
    simp only [codeOk, Bool.and_eq_true] at hN
    simp only [cw] at h
    split at h
    · rename_i c
      have ht := hr.t c
      split at h
      · rename_i b hv
        rw [hv] at ht
        have hb : a.eval (.tmp c) = .bool b := rp_bool ht
        have h := splitB_out h
        cases b with
        | true => exact wp_cond_true hb (ihx hN.1 Q σ (by simpa using h) gv a w hr)
        | false => exact wp_cond_false hb (ihy hN.2 Q σ (by simpa using h) gv a w hr)
      · exact h.elim
    · rename_i b
      cases b with
      | true => exact wp_cond_true rfl (ihx hN.1 Q σ (by simpa using h) gv a w hr)
      | false => exact wp_cond_false rfl (ihy hN.2 Q σ (by simpa using h) gv a w hr)
    · exact h.elim
  | block id b ih =>
    intro hN Q σ h gv a w hr
    refine wp_block (wp_mono (ih hN _ σ h gv a w hr) ?_)
    intro e a' w' hq
    cases e with
    | normal => exact hq
    | exit i =>
      obtain ⟨gv', σ', hr', hq⟩ := hq
      simp only [Exit.inBlock]
      simp only at hq
      split
      · rename_i hi; rw [if_pos hi] at hq; exact ⟨gv', σ', hr', hq⟩
      · rename_i hi; rw [if_neg hi] at hq; exact ⟨gv', σ', hr', hq⟩
    | ret => exact hq
    | goto l => exact hq
    | panic c => exact hq
    | outgrown => exact hq
  | loop b ih => exact fun _ Q σ h => h
  | rangeFunc f ps x y _ _ => intro _ Q σ h; exact h.elim
  | exit id => intro _ Q σ h gv a w hr; exact wp_exit ⟨gv, σ, hr, h⟩
  | scope b _ => intro _ Q σ h; exact h.elim
  | label l => intro _ Q σ h gv a w hr; exact wp_label ⟨gv, σ, hr, h⟩
  | goto l => intro _ Q σ h; exact h.elim
  | ret => intro _ Q σ h gv a w hr; exact wp_ret ⟨gv, σ, hr, h⟩
  | refuse s => intro _ Q σ h; exact h.elim

/-- One round of a loop, and then the loop. -/
theorem wp_loop_round {c : Code} {Q : Exit → Act → World → Prop} {a : Act} {w : World} (hQ : ∀ e a w, Q e a w → e = .normal ∨ (∃ i, e = .exit i) ∨ e = .ret)
    (h : c.wp P (Exit.then (fun a w => (Code.loop c).wp P Q a w) Q) a w) : (Code.loop c).wp P Q a w := by
  intro b k cs
  obtain ⟨e, a₁, w₁, hq, harr⟩ := h b (.inLoop c :: k) cs
  cases e with
  | normal =>
    obtain ⟨e₂, a₂, w₂, hq₂, harr₂⟩ := hq b k cs
    refine ⟨e₂, a₂, w₂, hq₂, .of_steps (.one step_loop) (.of_steps harr ?_)⟩
    -- from the loop's head and from behind a round the same step leads on
    have hstep : ∀ m, Steps P (lone (b.at a₁ (.code (.loop c) :: k)) cs w₁) m → m ≠ lone (b.at a₁ (.code (.loop c) :: k)) cs w₁ → Steps P (lone (b.at a₁ (.inLoop c :: k)) cs w₁) m := by
      rintro m ⟨n, hn⟩ hne
      cases n with
      | zero => simp [runN] at hn; exact absurd hn.symm hne
      | succ n =>
        refine ⟨n + 1, ?_⟩
        simp only [runN, step_loop] at hn
        simp only [runN, step_inLoop]
        exact hn
    have hlen : ∀ {a' : Act} {k' : List Item} {w' : World}, k'.length ≤ k.length → lone (b.at a' k') cs w' ≠ lone (b.at a₁ (.code (.loop c) :: k)) cs w₁ := by
      intro a' k' w' hl he
      have := congrArg (fun m => (m.gs[0]?).map fun g => g.frame.todo.length) he
      simp [lone, Frame.at] at this
      omega
    have hexit : ∀ (id : Nat) (k k' : List Item), exitTo id k = some k' → k'.length ≤ k.length := by
      intro id k
      induction k with
      | nil => intro k' h; simp [exitTo] at h
      | cons x k ih =>
        intro k' h
        cases x <;> simp only [exitTo] at h <;> first
          | (have := ih k' h; simp; omega)
          | (split at h
             · simp at h; subst h; simp
             · have := ih k' h; simp; omega)
    rcases hQ _ _ _ hq₂ with rfl | ⟨i, rfl⟩ | rfl
    · exact hstep _ harr₂ (hlen (Nat.le_refl _))
    · exact fun k' hk => hstep _ (harr₂ k' hk) (hlen (hexit i k k' hk))
    · obtain ⟨todo, hs⟩ := harr₂
      refine ⟨todo, hstep _ hs fun he => ?_⟩
      have := congrArg (fun m => (m.gs[0]?).map fun g => g.frame.mode) he
      simp [lone, Frame.at] at this
  | exit id => exact ⟨_, a₁, w₁, hq, .of_steps (.one step_loop) (.pass (x := .inLoop c) rfl (fun _ _ => .inl (by simp)) harr)⟩
  | goto l => exact ⟨_, a₁, w₁, hq, .of_steps (.one step_loop) (.pass (x := .inLoop c) rfl (fun _ _ => .inl (by simp)) harr)⟩
  | ret => exact ⟨_, a₁, w₁, hq, .of_steps (.one step_loop) (.pass (x := .inLoop c) rfl (fun _ _ => .inl (by simp)) harr)⟩
  | panic ch => exact ⟨_, a₁, w₁, hq, .of_steps (.one step_loop) (.pass (x := .inLoop c) rfl (fun _ _ => .inl (by simp)) harr)⟩
  | outgrown => exact ⟨_, a₁, w₁, hq, .of_steps (.one step_loop) (.pass (x := .inLoop c) rfl (fun _ _ => .inl (by simp)) harr)⟩

theorem post_ends (Q : Ex → St → Prop) : ∀ e a w, post T E N Q e a w → e = .normal ∨ (∃ i, e = .exit i) ∨ e = .ret := by
  intro e a w h
  cases e with
  | normal => exact .inl rfl
  | exit i => exact .inr (.inl ⟨i, rfl⟩)
  | ret => exact .inr (.inr rfl)
  | goto l => exact h.elim
  | panic c => exact h.elim
  | outgrown => exact h.elim

/-- A LOOP's HEAD: one round by the walk, and the loop again where the round ends. -/
theorem aw_loop (hT : TabOk P T) (hm : P.follows .mixedOrders = true) {b : Code} (hN : codeOk N b = true) {Q : Ex → St → Prop} {σ : St}
    (h : cw (ConSem P T) T (AW P T E N) b (fun e σ => match e with
      | .normal => AW P T E N (.loop b) Q σ
      | .exit j => Q (.exit j) σ
      | .ret => Q .ret σ) σ) : AW P T E N (.loop b) Q σ := by
  intro gv a w hr
  refine wp_loop_round (post_ends Q) (wp_mono (cw_sound hT hm b hN _ σ h gv a w hr) ?_)
  intro e a' w' hq
  cases e with
  | normal => obtain ⟨gv', σ', hr', hq⟩ := hq; exact hq gv' a' w' hr'
  | exit i => exact hq
  | ret => exact hq
  | goto l => exact hq
  | panic c => exact hq
  | outgrown => exact hq

/-! ### Forgetting -/

/-- σ' says no more than σ. -/
structure Weak (E : Env) (σ σ' : St) : Prop where
  t : ∀ i, σ'.t i = .undef ∨ σ'.t i = σ.t i
  m : ∀ id, σ'.m id = none ∨ σ'.m id = σ.m id
  rt : ∀ i, ∀ id ∈ refsV (σ'.t i), σ'.m id = σ.m id
  rm : ∀ id o, σ'.m id = some o → ∀ j ∈ refsO o, σ'.m j = σ.m j
  m0 : ∀ id o, E.m0 id = some o → σ'.m id = σ.m id

theorem repC_restrict {w : World} {I I' : Nat → Prop} {m m' : Nat → Option Obj} {gv : GV} {c : Ce} {v : Value} (hI : ∀ b, I b → I' b) (hm : ∀ j ∈ refsC c, m' j = m j) (h : RepC T w I m gv c v) : RepC T w I' m' gv c v := by
  cases c with
  | p x => exact RepP.mono (fun b hb => ⟨hI b hb, rfl⟩) h
  | ptr id off => obtain ⟨b, cs, h1, h2⟩ := h; exact ⟨b, cs, by rw [hm id (by simp [refsC])]; exact h1, h2⟩
  | osl id n => obtain ⟨h0, e, xs, h1, h2⟩ := h; exact ⟨h0, e, xs, by rw [hm id (by simp [refsC])]; exact h1, h2⟩
  | oel id n i off => obtain ⟨h0, e, xs, h1, h2⟩ := h; exact ⟨h0, e, xs, by rw [hm id (by simp [refsC])]; exact h1, h2⟩
  | ip cs =>
    obtain ⟨b, off, arr, e, fr, vs, h1, h2, h3, h4, h5, h6⟩ := h
    exact ⟨b, off, arr, e, fr, vs, h1, hI b h2, h3, h4, h5, fun k q u hq hu => RepP.mono (fun b hb => ⟨hI b hb, rfl⟩) (h6 k q u hq hu)⟩
  | bsl id n => obtain ⟨b, cs, h1, h2⟩ := h; exact ⟨b, cs, by rw [hm id (by simp [refsC])]; exact h1, h2⟩
theorem repL_restrict {w : World} {I I' : Nat → Prop} {m m' : Nat → Option Obj} {gv : GV} {c : List Ce} {v : List Value} (hI : ∀ b, I b → I' b) (hm : ∀ j ∈ c.flatMap refsC, m' j = m j) (h : RepL T w I m gv c v) : RepL T w I' m' gv c v :=
  ⟨h.1, fun k c' v' hc hv => repC_restrict hI (fun j hj => hm j (List.mem_flatMap.2 ⟨c', List.mem_of_getElem? hc, hj⟩)) (h.2 k c' v' hc hv)⟩
theorem repV_restrict {w : World} {I I' : Nat → Prop} {m m' : Nat → Option Obj} {gv : GV} {c : V} {v : Value} (hI : ∀ b, I b → I' b) (hm : ∀ j ∈ refsV c, m' j = m j) (h : RepV T w I m gv c v) : RepV T w I' m' gv c v := by
  cases c with
  | undef => trivial
  | one c => exact repC_restrict hI hm h
  | agg cs => obtain ⟨arr, h1, h2⟩ := h; exact ⟨arr, h1, repL_restrict hI hm h2⟩
  | tup xs =>
    obtain ⟨arr, h1, h2, h3⟩ := h
    refine ⟨arr, h1, h2, fun k x u hx hu => ?_⟩
    have := h3 k x u hx hu
    have hm' : ∀ j ∈ refsW x, m' j = m j := fun j hj => hm j (List.mem_flatMap.2 ⟨x, List.mem_of_getElem? hx, hj⟩)
    cases x with
    | one c => exact repC_restrict hI hm' this
    | agg cs => obtain ⟨arr, h1, h2⟩ := this; exact ⟨arr, h1, repL_restrict hI hm' h2⟩

theorem RelG.weak {gv : GV} {σ σ' : St} {a : Act} {w : World} (hr : RelG T E N gv σ a w) (hw : Weak E σ σ') : RelG T E N gv σ' a w := by
  have hsome : ∀ id o, σ'.m id = some o → σ.m id = some o := fun id o h => by
    rcases hw.m id with h1 | h1
    · rw [h1] at h; cases h
    · rw [← h1]; exact h
  have hI : ∀ b, Imm E σ.m gv w b → Imm E σ'.m gv w b := fun b hb => ⟨hb.1, hb.2.1, fun id o h => hb.2.2 id o (hsome id o h)⟩
  refine ⟨⟨hr.tape, hr.os, hr.output, hr.size, hr.keep, fun id o h => ?_, fun id o b h => hr.own id o b (hsome id o h), fun id id' o o' b h h' => hr.inj id id' o o' b (hsome id o h) (hsome id' o' h'), fun id o b h => hr.new id o b (hsome id o h), ?_⟩, hr.defers, hr.n, fun i => ?_⟩
  · have h1 := hr.rep id o (hsome id o h)
    cases o with
    | box cs => obtain ⟨b, arr, e, h2, h3, h4⟩ := h1; exact ⟨b, arr, e, h2, h3, repL_restrict hI (hw.rm id _ h) h4⟩
    | sl e xs => obtain ⟨h2, vs, h3, h4⟩ := h1; exact ⟨h2, vs, h3, fun k q v hq hv => RepP.mono (fun b hb => ⟨hI b hb, rfl⟩) (h4 k q v hq hv)⟩
  · refine ⟨fun id cs h => ?_, fun id e xs h => ?_⟩
    · obtain ⟨cs', h1, h2⟩ := hr.pers.box id cs h
      exact ⟨cs', by rw [hw.m0 id _ h]; exact h1, h2⟩
    · obtain ⟨xs', h1, h2⟩ := hr.pers.sl id e xs h
      exact ⟨xs', by rw [hw.m0 id _ h]; exact h1, h2⟩
  · rcases hw.t i with h | h
    · rw [h]; trivial
    · rw [h]; exact repV_restrict hI (fun j hj => hw.rt i j (by rw [h]; exact hj)) (hr.t i)

theorem aw_weak {c : Code} {Q : Ex → St → Prop} {σ σ' : St} (hw : Weak E σ σ') (h : AW P T E N c Q σ') : AW P T E N c Q σ :=
  fun gv a w hr => h gv a w (hr.weak hw)

/-! ### Reading as data what is the call's own -/

/-- A slice of the call's own (or a row of such slices) is read as data from now on; its memory is forgotten. -/
inductive ViewC (m m' : Nat → Option Obj) : Ce → Ce → Prop
  | osl (id n e : Nat) (xs : List (List PV)) (h1 : m id = some (.sl e xs)) (h2 : n = xs.length) (h3 : m' id = none) : ViewC m m' (.osl id n) (.p (.slice xs))
  | bsl (id n e : Nat) (cs : List Ce) (xs : List (List (List PV))) (h1 : m id = some (.box cs)) (h2 : n = xs.length) (h3 : m' id = none) (h4 : cs.length = xs.length)
      (h5 : ∀ (k : Nat) x, xs[k]? = some x → ∃ i, cs[k]? = some (.osl i x.length) ∧ m i = some (.sl e x) ∧ m' i = none) : ViewC m m' (.bsl id n) (.p (.slice (xs.map fun x => [.slice x])))

structure WeakF (E : Env) (σ σ' : St) : Prop where
  t : ∀ i, σ'.t i = .undef ∨ (σ'.t i = σ.t i ∧ ∀ id ∈ refsV (σ'.t i), σ'.m id = σ.m id) ∨ ∃ c c', σ.t i = .one c ∧ σ'.t i = .one c' ∧ ViewC σ.m σ'.m c c'
  m : ∀ id, σ'.m id = none ∨ σ'.m id = σ.m id
  rm : ∀ id o, σ'.m id = some o → ∀ j ∈ refsO o, σ'.m j = σ.m j
  m0 : ∀ id o, E.m0 id = some o → σ'.m id = σ.m id

theorem flatten_single {α β : Type} (f : α → β) : ∀ xs : List α, (xs.map fun x => [f x]).flatten = xs.map f
  | [] => rfl
  | x :: r => by simp [flatten_single f r]

theorem RelG.weakF {gv : GV} {σ σ' : St} {a : Act} {w : World} (hr : RelG T E N gv σ a w) (hw : WeakF E σ σ') : RelG T E N gv σ' a w := by
  have hsome : ∀ id o, σ'.m id = some o → σ.m id = some o := fun id o h => by
    rcases hw.m id with h1 | h1
    · rw [h1] at h; cases h
    · rw [← h1]; exact h
  have hI : ∀ b, Imm E σ.m gv w b → Imm E σ'.m gv w b := fun b hb => ⟨hb.1, hb.2.1, fun id o h => hb.2.2 id o (hsome id o h)⟩
  -- the blocks of what is forgotten may be read
  have hB : ∀ id o b, σ.m id = some o → σ'.m id = none → blk gv id = some b → Imm E σ'.m gv w b := by
    intro id o b h1 h2 h3
    refine ⟨?_, (hr.own id o b h1 h3).1, fun id' o' h4 h5 => ?_⟩
    · rcases hr.new id o b h1 h3 with h4 | ⟨⟨o0, h4⟩, _⟩
      · exact .inr h4
      · have := hw.m0 id o0 h4
        rw [h1, h2] at this; cases this
    · have := hr.inj id id' _ _ b h1 (hsome id' o' h4) h3 h5
      subst this
      rw [h2] at h4; cases h4
  have hsl : ∀ id n e xs v, σ.m id = some (.sl e xs) → n = xs.length → σ'.m id = none → RepC T w (Imm E σ.m gv w) σ.m gv (.osl id n) v → RepP w (Imm E σ'.m gv w) (.slice xs) v := by
    intro id n e xs v h1 hn h3 hc
    obtain ⟨h0, e', xs', h1', h2, h4⟩ := hc
    rw [h1] at h1'; cases h1'
    have hv := h4 hn
    obtain ⟨hz, vs, ⟨ho1, ho2⟩, hvs⟩ := hr.rep id _ h1
    rw [hv, hn]
    rcases ho2 with ⟨hnil, hn0⟩ | ⟨g, cap, cur, hv2, _, hh, hcap, _, hsz, htake⟩
    · have := List.length_eq_zero_iff.1 hn0
      subst this
      exact RepP.sl0 _ _ fun _ => by simp at hnil; simp [hnil]
    · simp at hv2
      obtain ⟨hg1, hg2⟩ := hv2
      rw [hg1]
      refine .sl xs g 0 _ (T e).size cur e (0, 0) vs (hB id _ g h1 h3 (by simp [blk, hg1])) hh hz (by rw [hg2]; exact hcap) (fun k u hk => ?_) (by rw [flatten_len _ _ hz]; exact ho1) (fun k q u hq hu => RepP.mono (fun b hb => ⟨hI b hb, rfl⟩) (hvs k q u hq hu))
      rw [← htake, List.getElem?_take] at hk
      split at hk
      · simpa using hk
      · cases hk
  refine ⟨⟨hr.tape, hr.os, hr.output, hr.size, hr.keep, fun id o h => ?_, fun id o b h => hr.own id o b (hsome id o h), fun id id' o o' b h h' => hr.inj id id' o o' b (hsome id o h) (hsome id' o' h'), fun id o b h => hr.new id o b (hsome id o h), ?_⟩, hr.defers, hr.n, fun i => ?_⟩
  · have h1 := hr.rep id o (hsome id o h)
    cases o with
    | box cs => obtain ⟨b, arr, e, h2, h3, h4⟩ := h1; exact ⟨b, arr, e, h2, h3, repL_restrict hI (hw.rm id _ h) h4⟩
    | sl e xs => obtain ⟨h2, vs, h3, h4⟩ := h1; exact ⟨h2, vs, h3, fun k q v hq hv => RepP.mono (fun b hb => ⟨hI b hb, rfl⟩) (h4 k q v hq hv)⟩
  · refine ⟨fun id cs h => ?_, fun id e xs h => ?_⟩
    · obtain ⟨cs', h1, h2⟩ := hr.pers.box id cs h
      exact ⟨cs', by rw [hw.m0 id _ h]; exact h1, h2⟩
    · obtain ⟨xs', h1, h2⟩ := hr.pers.sl id e xs h
      exact ⟨xs', by rw [hw.m0 id _ h]; exact h1, h2⟩
  · rcases hw.t i with h | ⟨h, hrt⟩ | ⟨c, c', h1, h2, hv⟩
    · rw [h]; trivial
    · rw [h]; exact repV_restrict hI (fun j hj => hrt j (by rw [h]; exact hj)) (hr.t i)
    · have hti := hr.t i
      rw [h1] at hti
      rw [h2]
      have hti : RepC T w (Imm E σ.m gv w) σ.m gv c (a.tmps.getD i undef) := hti
      show RepC T w (Imm E σ'.m gv w) σ'.m gv c' _
      generalize a.tmps.getD i undef = v at hti
      cases hv with
      | osl id n e xs h3 h4 h5 => exact hsl id n e xs v h3 h4 h5 hti
      | bsl id n e cs xs h3 h4 h5 h6 h7 =>
        obtain ⟨b, cs', k1, k2, k3⟩ := hti
        rw [h3] at k1; cases k1
        obtain ⟨b', arr, e0, k4, k5, k6⟩ := hr.rep id _ h3
        rw [k2] at k4; simp at k4; subst k4
        have hal : arr.size = xs.length := by have := k6.1; simp at this; omega
        subst k3
        show RepP w _ (.slice _) _
        have hgoal : RepP w (Imm E σ'.m gv w) (.slice (xs.map fun x => [.slice x])) (.slice (some ⟨b, 0, none⟩) (xs.map fun x => [PV.slice x]).length n) := by
          refine .sl _ b 0 n 1 arr e0 (0, 0) arr.toList (hB id _ b h3 h5 (by simp [blk, k2])) k5 (fun x hx => ?_) (by simp [h4]) (fun k u hk => by simpa using hk) (by rw [flatten_single]; simp [hal]) (fun k q u hq hu => ?_)
          · obtain ⟨y, _, rfl⟩ := List.mem_map.1 hx; rfl
          · rw [flatten_single, List.getElem?_map] at hq
            cases hx : xs[k]? with
            | none => rw [hx] at hq; simp at hq
            | some x =>
              rw [hx] at hq; simp at hq; subst hq
              obtain ⟨j, m1, m2, m3⟩ := h7 k x hx
              exact hsl j x.length e x u m2 rfl m3 (k6.2 k _ u m1 hu)
        rw [List.length_map, ← h4] at hgoal
        exact hgoal

theorem aw_weakF {c : Code} {Q : Ex → St → Prop} {σ σ' : St} (hw : WeakF E σ σ') (h : AW P T E N c Q σ') : AW P T E N c Q σ :=
  fun gv a w hr => h gv a w (hr.weakF hw)

/-- Where a piece of code ends, what is the call's own may be read as data. -/
theorem aw_endF {c : Code} {Q : Ex → St → Prop} {σ : St} (h : AW P T E N c (fun e σ => ∃ σ', WeakF E σ σ' ∧ Q e σ') σ) : AW P T E N c Q σ := by
  intro gv a w hr
  refine wp_mono (h gv a w hr) ?_
  intro e a' w' hq
  cases e with
  | normal => obtain ⟨gv', σ', hr', σ2, hf, hq⟩ := hq; exact ⟨gv', σ2, hr'.weakF hf, hq⟩
  | exit i => obtain ⟨gv', σ', hr', σ2, hf, hq⟩ := hq; exact ⟨gv', σ2, hr'.weakF hf, hq⟩
  | ret => obtain ⟨gv', σ', hr', σ2, hf, hq⟩ := hq; exact ⟨gv', σ2, hr'.weakF hf, hq⟩
  | goto l => exact hq
  | panic c => exact hq
  | outgrown => exact hq

/-! ### What a call hands back -/

/-- A result's cell, with what is the call's own read as data. -/
def finC (m : Nat → Option Obj) (c : Ce) (K : Ce → Prop) : Prop :=
  match c with
  | .p .nilsl => K (.p (.slice []))
  | .p x => K (.p x)
  | .osl id n => match m id with
    | some (.sl _ xs) => n = xs.length ∧ K (.p (.slice xs))
    | _ => False
  | _ => False
def finL (m : Nat → Option Obj) : List Ce → (List Ce → Prop) → Prop
  | [], K => K []
  | c :: r, K => finC m c fun c => finL m r fun r => K (c :: r)
def finV (m : Nat → Option Obj) (v : V) (K : W1 → Prop) : Prop :=
  match v with
  | .one c => finC m c fun c => K (.one c)
  | .agg cs => finL m cs fun cs => K (.agg cs)
  | _ => False
def finVs (m : Nat → Option Obj) : List V → (List W1 → Prop) → Prop
  | [], K => K []
  | v :: r, K => finV m v fun v => finVs m r fun r => K (v :: r)

def retK (C : Con) (T : Tab) : List ResultVar → St → (List V → Prop) → Prop
  | [], σ, K => K []
  | .tmp t :: r, σ, K => retK C T r σ fun vs => K (σ.t t :: vs)
  | .cell q ty :: r, σ, K => runK C (loadR T ty (σ.t q)) σ fun w _ => retK C T r σ fun vs => K (w.v :: vs)

def resOf : List W1 → V
  | [x] => x.v
  | xs => .tup xs

def RetQ (C : Con) (T : Tab) (rs : List ResultVar) (K : V → Prop) (e : Ex) (σ : St) : Prop :=
  match e with
  | .exit _ => False
  | _ => retK C T rs σ fun vs => finVs σ.m vs fun xs => K (resOf xs)

theorem finC_rep {gv : GV} {σ : St} {a : Act} {w : World} (hr : RelG T E N gv σ a w) {I' : Nat → Prop} (hI : ∀ b, Imm E σ.m gv w b → I' b) (hB : ∀ id o b, σ.m id = some o → blk gv id = some b → I' b)
    {m' : Nat → Option Obj} {gv' : GV} {c : Ce} {v : Value} {K : Ce → Prop} (hc : RepC T w (Imm E σ.m gv w) σ.m gv c v) (h : finC σ.m c K) : ∃ c', K c' ∧ RepC T w I' m' gv' c' v := by
  unfold finC at h
  split at h
  · have : v = .slice none 0 0 := rp_nilsl hc
    subst this
    exact ⟨_, h, RepP.sl0 none 0 fun _ => rfl⟩
  · exact ⟨_, h, RepP.mono (fun b hb => ⟨hI b hb, rfl⟩) hc⟩
  · rename_i id n
    obtain ⟨h0, e, xs, h1, h2, h3⟩ := hc
    simp only [h1] at h
    obtain ⟨hn, h⟩ := h
    refine ⟨_, h, ?_⟩
    have hv := h3 hn
    obtain ⟨hz, vs, ⟨ho1, ho2⟩, hvs⟩ := hr.rep id _ h1
    show RepP w I' (.slice xs) v
    rw [hv, hn]
    rcases ho2 with ⟨hnil, hn0⟩ | ⟨g, cap, cur, hv2, _, hh, hcap, _, hsz, htake⟩
    · have := List.length_eq_zero_iff.1 hn0
      subst this
      exact RepP.sl0 _ _ fun _ => by simp at hnil; simp [hnil]
    · simp at hv2
      obtain ⟨hg1, hg2⟩ := hv2
      rw [hg1]
      refine .sl xs g 0 _ (T e).size cur e (0, 0) vs (hB id _ g h1 (by simp [blk, hg1])) hh hz (by rw [hg2]; exact hcap) (fun k u hk => ?_) (by rw [flatten_len _ _ hz]; exact ho1) (fun k q u hq hu => RepP.mono (fun b hb => ⟨hI b hb, rfl⟩) (hvs k q u hq hu))
      rw [← htake, List.getElem?_take] at hk
      split at hk
      · simpa using hk
      · cases hk
  · exact h.elim

theorem finL_rep {gv : GV} {σ : St} {a : Act} {w : World} (hr : RelG T E N gv σ a w) {I' : Nat → Prop} (hI : ∀ b, Imm E σ.m gv w b → I' b) (hB : ∀ id o b, σ.m id = some o → blk gv id = some b → I' b)
    {m' : Nat → Option Obj} {gv' : GV} : ∀ {cs : List Ce} {vs : List Value} {K : List Ce → Prop}, RepL T w (Imm E σ.m gv w) σ.m gv cs vs → finL σ.m cs K → ∃ cs', K cs' ∧ RepL T w I' m' gv' cs' vs
  | [], vs, K, hc, h => by
    have : vs = [] := List.length_eq_zero_iff.1 hc.1
    subst this
    exact ⟨[], h, repL_nil⟩
  | c :: cs, [], K, hc, h => by simp [RepL] at hc
  | c :: cs, v :: vs, K, hc, h => by
    obtain ⟨c', h, hc1⟩ := finC_rep (m' := m') (gv' := gv') hr hI hB (hc.2 0 c v rfl rfl) h
    obtain ⟨cs', h, hc2⟩ := finL_rep (m' := m') (gv' := gv') hr hI hB (cs := cs) (vs := vs) ⟨by have := hc.1; simpa using this, fun k c v h1 h2 => hc.2 (k + 1) c v (by simpa using h1) (by simpa using h2)⟩ h
    exact ⟨_, h, repL_cons hc1 hc2⟩

theorem finV_rep {gv : GV} {σ : St} {a : Act} {w : World} (hr : RelG T E N gv σ a w) {I' : Nat → Prop} (hI : ∀ b, Imm E σ.m gv w b → I' b) (hB : ∀ id o b, σ.m id = some o → blk gv id = some b → I' b)
    {m' : Nat → Option Obj} {gv' : GV} {x : V} {v : Value} {K : W1 → Prop} (hc : RepV T w (Imm E σ.m gv w) σ.m gv x v) (h : finV σ.m x K) : ∃ x', K x' ∧ RepW T w I' m' gv' x' v := by
  unfold finV at h
  split at h
  · obtain ⟨c', h, hc⟩ := finC_rep (m' := m') (gv' := gv') hr hI hB hc h
    exact ⟨_, h, hc⟩
  · obtain ⟨arr, h1, h2⟩ := hc
    obtain ⟨c', h, hc⟩ := finL_rep (m' := m') (gv' := gv') hr hI hB h2 h
    exact ⟨_, h, arr, h1, hc⟩
  · exact h.elim

theorem finVs_rep {gv : GV} {σ : St} {a : Act} {w : World} (hr : RelG T E N gv σ a w) {I' : Nat → Prop} (hI : ∀ b, Imm E σ.m gv w b → I' b) (hB : ∀ id o b, σ.m id = some o → blk gv id = some b → I' b)
    {m' : Nat → Option Obj} {gv' : GV} : ∀ {xs : List V} {vs : List Value} {K : List W1 → Prop}, vs.length = xs.length → (∀ (k : Nat) x v, xs[k]? = some x → vs[k]? = some v → RepV T w (Imm E σ.m gv w) σ.m gv x v) → finVs σ.m xs K →
      ∃ xs', K xs' ∧ vs.length = xs'.length ∧ ∀ (k : Nat) x v, xs'[k]? = some x → vs[k]? = some v → RepW T w I' m' gv' x v
  | [], vs, K, hl, hc, h => ⟨[], h, hl, fun k x v h => by simp at h⟩
  | x :: xs, [], K, hl, hc, h => by simp at hl
  | x :: xs, v :: vs, K, hl, hc, h => by
    obtain ⟨x', h, hc1⟩ := finV_rep (m' := m') (gv' := gv') hr hI hB (hc 0 x v rfl rfl) h
    obtain ⟨xs', h, hl', hc2⟩ := finVs_rep (m' := m') (gv' := gv') hr hI hB (xs := xs) (vs := vs) (by simpa using hl) (fun k x v h1 h2 => hc (k + 1) x v (by simpa using h1) (by simpa using h2)) h
    refine ⟨_, h, by simp [hl'], fun k y u hy hu => ?_⟩
    cases k with
    | zero => simp at hy hu; subst hy; subst hu; exact hc1
    | succ k => exact hc2 k y u (by simpa using hy) (by simpa using hu)

theorem retK_run (hT : TabOk P T) {C : Con} {gv : GV} {σ : St} {a : Act} {w : World} (hr : RelG T E N gv σ a w) : ∀ (rs : List ResultVar) (K : List V → Prop), retK C T rs σ K →
    ∃ xs us, K xs ∧ (rs.mapM (m := Sem) fun | .tmp t => pure (a.tmps.getD t undef) | .cell q t => do loadVar t (← asAddr (a.tmps.getD q undef))).run P w = .ok us w ∧ us.length = xs.length ∧
      ∀ (k : Nat) x v, xs[k]? = some x → us[k]? = some v → RepV T w (Imm E σ.m gv w) σ.m gv x v
  | [], K, h => ⟨[], [], h, by simp, rfl, fun k x v h => by simp at h⟩
  | .tmp t :: rs, K, h => by
    obtain ⟨xs, us, h1, h2, h3, h4⟩ := retK_run hT hr rs _ h
    refine ⟨σ.t t :: xs, a.tmps.getD t undef :: us, h1, by simp only [List.mapM_cons, Sem.run_bind, Sem.run_pure, Result.andThen_ok, h2], by simp [h3], fun k x v hx hv => ?_⟩
    cases k with
    | zero => simp at hx; subst hx; have := hr.t t; simp at hv; subst hv; simpa using this
    | succ k => exact h4 k x v (by simpa using hx) (by simpa using hv)
  | .cell q ty :: rs, K, h => by
    obtain ⟨wr, fp, hrun, h⟩ := runK_run C _ _ _ h
    obtain ⟨xs, us, h1, h2, h3, h4⟩ := retK_run hT hr rs _ h
    obtain ⟨ad, u, hq, hl, hv, _⟩ := load_rep (P := P) hT hr (hr.t q) hrun
    have hl2 : (loadVar ty ad).run P w = .ok u w := by
      rw [hq] at hl
      simpa [Instr.loadAt, Instr.sureAddr] using hl
    have hq2 : (asAddr (a.tmps.getD q undef)).run P w = .ok ad w := by rw [hq]; rfl
    refine ⟨wr.v :: xs, u :: us, h1, by simp only [List.mapM_cons, Sem.run_bind, Sem.run_pure, Result.andThen_ok, hq2, hl2, h2], by simp [h3], fun k x v hx hv' => ?_⟩
    cases k with
    | zero => simp at hx hv'; subst hx; subst hv'; exact hv
    | succ k => exact h4 k x v (by simpa using hx) (by simpa using hv')

def st0 (args : List V) : St := { t := fun i => args.getD i .undef, m := fun _ => none }

/-- THE CONTRACT OF A FUNCTION THAT ONLY RECKONS: its body, walked from its arguments. -/
theorem con_pure (hT : TabOk P T) (hm : P.follows .mixedOrders = true) {f : FuncId} {fn : Func} {c : Code} (hf : P.funcs[f]? = some fn) (hb : fn.body = some c) (hname : (fn.name == "runtime.NumGoroutine") = false)
    (hN : codeOk fn.ntmps c = true) {args : List V} {r : V} (hlen : args.length ≤ fn.ntmps)
    (h : ∀ E : Env, (E.m0 = fun _ => none) → cw (ConSem P T) T (AW P T E fn.ntmps) c (RetQ (ConSem P T) T fn.results.toList (fun v => v = r)) (st0 args)) : ConSem P T f args [] r [] := by
  refine ⟨⟨fn, hf, by simp [hb], hname⟩, fun w gv J vs hJ hrel hsz hargs => ?_⟩
  refine calls_of_wp hf hb ?_
  have hm0 : ∀ id, mOf [] id = none := fun id => rfl
  generalize hE : (⟨w, mOf [], gv, J, fun b => ∃ id o, mOf [] id = some o ∧ blk gv id = some b, hJ⟩ : Env) = E at hrel ⊢
  have e1 : E.w0 = w := by rw [← hE]
  have e2 : E.m0 = fun _ => none := by rw [← hE]; rfl
  have e3 : E.J = J := by rw [← hE]
  have e4 : ∀ b, ¬ E.B b := by rw [← hE]; rintro b ⟨id, o, h, _⟩; simp [hm0] at h
  have hr0 : RelG T E fn.ntmps gv (st0 args) { tmps := vs ++ Array.replicate (fn.ntmps - vs.size) undef, defers := [] } w := by
    refine ⟨hrel, rfl, by simp; omega, fun i => ?_⟩
    show RepV T w _ _ gv (args.getD i .undef) _
    cases hi : args[i]? with
    | none => simp [List.getD, hi, RepV]
    | some x =>
      have hlt : i < vs.size := by rw [hsz]; exact (List.getElem?_eq_some_iff.1 hi).1
      have hv : vs[i]? = some vs[i] := by simp [hlt]
      have := hargs i x _ hi hv
      rw [Array.getD_eq_getD_getElem?, Array.getElem?_append_left hlt, hv]
      simp only [List.getD, hi, Option.getD_some]
      refine repV_restrict (fun b hb => ⟨.inl (by rw [e3]; exact hb), (hJ b hb).1, fun id o h => by cases h⟩) (fun _ _ => rfl) this
  refine wp_mono (cw_sound hT hm c hN _ _ (h E e2) gv _ w hr0) ?_
  -- the end
  have hend : ∀ (gv' : GV) (σ' : St) (a' : Act) (w' : World), RelG T E fn.ntmps gv' σ' a' w' → (retK (ConSem P T) T fn.results.toList σ' fun vs => finVs σ'.m vs fun xs => resOf xs = r) →
      a'.defers = [] ∧ ∃ v, (results fn a'.tmps).run P w' = .ok v w' ∧ ∃ v' gv', (Ending.returned v = .returned v' ∧ RelM T E gv' (mOf []) w' ∧ RepV T w' (Imm E (mOf []) gv' w') (mOf []) gv' r v') := by
    intro gv' σ' a' w' hr' hret
    obtain ⟨xs, us, hfin, hrun, hul, hrep⟩ := retK_run hT hr' _ _ hret
    have hI : ∀ b, Imm E σ'.m gv' w' b → Imm E (mOf []) gv' w' b := fun b hb => ⟨hb.1, hb.2.1, fun id o h => by simp [hm0] at h⟩
    have hB : ∀ id o b, σ'.m id = some o → blk gv' id = some b → Imm E (mOf []) gv' w' b := fun id o b h1 h2 =>
      ⟨.inr (((hr'.own id o b h1 h2).2).resolve_left (e4 b)), (hr'.own id o b h1 h2).1, fun id o h => by simp [hm0] at h⟩
    obtain ⟨ws, hws, hwl, hwr⟩ := finVs_rep (m' := mOf []) (gv' := gv') hr' hI hB hul hrep hfin
    have hres : (results fn a'.tmps).run P w' = .ok (if h : us.toArray.size = 1 then us.toArray[0] else .tuple us.toArray) w' := by
      unfold results
      rw [Array.mapM_eq_mapM_toList]
      simp only [Sem.run_bind, Sem.run_map, Sem.run_pure]
      exact congrArg (fun r : Result (List Value) => ((r.andThen fun a w' => .ok a.toArray w').andThen fun a w' => Result.ok (if h : a.size = 1 then a[0] else .tuple a) w')) hrun
    refine ⟨hr'.defers, _, hres, _, gv', rfl, ?_, ?_⟩
    · refine ⟨hr'.tape, hr'.os, hr'.output, hr'.size, hr'.keep, fun id o h => by simp [hm0] at h, fun id o b h => by simp [hm0] at h, fun id id' o o' b h => by simp [hm0] at h, fun id o b h => by simp [hm0] at h, ?_⟩
      rw [e2]
      exact ⟨fun id cs h => (by cases h), fun id e xs h => (by cases h)⟩
    · rw [← hws]
      match us, ws, hwl, hwr with
      | [], [], _, hwr => exact ⟨#[], rfl, rfl, fun k x u h => by simp at h⟩
      | [u], [x], _, hwr =>
        have := hwr 0 x u rfl rfl
        cases x with
        | one c => exact this
        | agg cs => exact this
      | u :: u' :: us, x :: x' :: ws, hwl, hwr =>
        simp only [resOf]
        rw [dif_neg (by simp)]
        exact ⟨_, rfl, by simpa using hwl, fun k y v hy hv => hwr k y v hy (by simpa using hv)⟩
      | [], _ :: _, h, _ => simp at h
      | _ :: _, [], h, _ => simp at h
      | [_], _ :: _ :: _, h, _ => simp at h
      | _ :: _ :: _, [_], h, _ => simp at h
  intro e a' w' hq
  cases e with
  | normal => obtain ⟨gv', σ', hr', hq⟩ := hq; exact hend gv' σ' a' w' hr' hq
  | exit i => obtain ⟨gv', σ', hr', hq⟩ := hq; exact hq.elim
  | ret => obtain ⟨gv', σ', hr', hq⟩ := hq; exact hend gv' σ' a' w' hr' hq
  | goto l => exact hq.elim
  | panic c => exact hq.elim
  | outgrown => exact hq.elim
end
end Go.AW

/- The contract of a function that is lent memory, or hands memory back. -/
set_option linter.unusedVariables false
set_option linter.unusedSimpArgs false
namespace Go.AW

/-- A result's cell: what goes back as the call's own ('keep'), or is read as data ('fz': it may be). -/
def finMC (m : Nat → Option Obj) (keep : List Nat) (fz : Bool) (c : Ce) (K : Ce → Prop) : Prop :=
  match c with
  | .p .nilsl => K (.p .nilsl)
  | .p x => K (.p x)
  | .ptr id off => keep.contains id = true ∧ K (.ptr id off)
  | .osl id n => if keep.contains id then K (.osl id n) else fz = true ∧ match m id with
    | some (.sl _ xs) => n = xs.length ∧ K (.p (.slice xs))
    | _ => False
  | _ => False
def finML (m : Nat → Option Obj) (keep : List Nat) (fz : Bool) : List Ce → (List Ce → Prop) → Prop
  | [], K => K []
  | c :: r, K => finMC m keep fz c fun c => finML m keep fz r fun r => K (c :: r)
def finMV (m : Nat → Option Obj) (keep : List Nat) (fz : Bool) (v : V) (K : W1 → Prop) : Prop :=
  match v with
  | .one c => finMC m keep fz c fun c => K (.one c)
  | .agg cs => finML m keep fz cs fun cs => K (.agg cs)
  | _ => False
def finMVs (m : Nat → Option Obj) (keep : List Nat) (fz : Bool) : List V → (List W1 → Prop) → Prop
  | [], K => K []
  | v :: r, K => finMV m keep fz v fun v => finMVs m keep fz r fun r => K (v :: r)

def allIn (M' : List (Nat × Obj)) (m : Nat → Option Obj) : Prop :=
  match M' with
  | [] => True
  | x :: r => m x.1 = some x.2 ∧ allIn r m
theorem allIn_mem : ∀ {M' : List (Nat × Obj)} {m : Nat → Option Obj}, allIn M' m → ∀ x ∈ M', m x.1 = some x.2
  | [], _, _, x, hx => by simp at hx
  | y :: r, m, h, x, hx => by
    rcases List.mem_cons.1 hx with rfl | hx
    · exact h.1
    · exact allIn_mem h.2 x hx

def RetM (C : Con) (T : Tab) (rs : List ResultVar) (fz : Bool) (M' : List (Nat × Obj)) (K : V → Prop) (e : Ex) (σ : St) : Prop :=
  match e with
  | .exit _ => False
  | _ => retK C T rs σ fun vs => finMVs σ.m (M'.map (·.1)) fz vs fun xs => allIn M' σ.m ∧ K (resOf xs)

section
variable {P : Program} {T : Tab} {E : Env} {N : Nat} {gv : GV} {σ : St} {a : Act} {w : World} {keep : List Nat} {fz : Bool} {m' : Nat → Option Obj} {I' : Nat → Prop}

theorem finMC_rep (hr : RelG T E N gv σ a w) (hI : ∀ b, Imm E σ.m gv w b → I' b) (hk : ∀ id, keep.contains id = true → m' id = σ.m id) (hB : fz = true → ∀ id o b, σ.m id = some o → keep.contains id = false → blk gv id = some b → I' b)
    {c : Ce} {v : Value} {K : Ce → Prop} (hc : RepC T w (Imm E σ.m gv w) σ.m gv c v) (h : finMC σ.m keep fz c K) : ∃ c', K c' ∧ RepC T w I' m' gv c' v := by
  unfold finMC at h
  split at h
  · exact ⟨_, h, RepP.mono (fun b hb => ⟨hI b hb, rfl⟩) hc⟩
  · exact ⟨_, h, RepP.mono (fun b hb => ⟨hI b hb, rfl⟩) hc⟩
  · rename_i id off
    exact ⟨_, h.2, repC_restrict hI (fun j hj => by simp [refsC] at hj; subst hj; exact hk _ h.1) hc⟩
  · rename_i id n
    split at h
    · rename_i hkp
      exact ⟨_, h, repC_restrict hI (fun j hj => by simp [refsC] at hj; subst hj; exact hk _ hkp) hc⟩
    · rename_i hkp
      obtain ⟨hfz, h⟩ := h
      obtain ⟨h0, e, xs, h1, h2, h3⟩ := hc
      simp only [h1] at h
      obtain ⟨hn, h⟩ := h
      refine ⟨_, h, ?_⟩
      have hv := h3 hn
      obtain ⟨hz, vs, ⟨ho1, ho2⟩, hvs⟩ := hr.rep id _ h1
      show RepP w I' (.slice xs) v
      rw [hv, hn]
      rcases ho2 with ⟨hnil, hn0⟩ | ⟨g, cap, cur, hv2, _, hh, hcap, _, hsz, htake⟩
      · have := List.length_eq_zero_iff.1 hn0
        subst this
        exact RepP.sl0 _ _ fun _ => by simp at hnil; simp [hnil]
      · simp at hv2
        obtain ⟨hg1, hg2⟩ := hv2
        rw [hg1]
        refine .sl xs g 0 _ (T e).size cur e (0, 0) vs (hB hfz id _ g h1 (by simpa using hkp) (by simp [blk, hg1])) hh hz (by rw [hg2]; exact hcap) (fun k u hk => ?_) (by rw [flatten_len _ _ hz]; exact ho1) (fun k q u hq hu => RepP.mono (fun b hb => ⟨hI b hb, rfl⟩) (hvs k q u hq hu))
        rw [← htake, List.getElem?_take] at hk
        split at hk
        · simpa using hk
        · cases hk
  · exact h.elim

theorem finML_rep (hr : RelG T E N gv σ a w) (hI : ∀ b, Imm E σ.m gv w b → I' b) (hk : ∀ id, keep.contains id = true → m' id = σ.m id) (hB : fz = true → ∀ id o b, σ.m id = some o → keep.contains id = false → blk gv id = some b → I' b) :
    ∀ {cs : List Ce} {vs : List Value} {K : List Ce → Prop}, RepL T w (Imm E σ.m gv w) σ.m gv cs vs → finML σ.m keep fz cs K → ∃ cs', K cs' ∧ RepL T w I' m' gv cs' vs
  | [], vs, K, hc, h => by
    have : vs = [] := List.length_eq_zero_iff.1 hc.1
    subst this
    exact ⟨[], h, repL_nil⟩
  | c :: cs, [], K, hc, h => by simp [RepL] at hc
  | c :: cs, v :: vs, K, hc, h => by
    obtain ⟨c', h, hc1⟩ := finMC_rep (m' := m') hr hI hk hB (hc.2 0 c v rfl rfl) h
    obtain ⟨cs', h, hc2⟩ := finML_rep hr hI hk hB (cs := cs) (vs := vs) ⟨by have := hc.1; simpa using this, fun k c v h1 h2 => hc.2 (k + 1) c v (by simpa using h1) (by simpa using h2)⟩ h
    exact ⟨_, h, repL_cons hc1 hc2⟩

theorem finMV_rep (hr : RelG T E N gv σ a w) (hI : ∀ b, Imm E σ.m gv w b → I' b) (hk : ∀ id, keep.contains id = true → m' id = σ.m id) (hB : fz = true → ∀ id o b, σ.m id = some o → keep.contains id = false → blk gv id = some b → I' b)
    {x : V} {v : Value} {K : W1 → Prop} (hc : RepV T w (Imm E σ.m gv w) σ.m gv x v) (h : finMV σ.m keep fz x K) : ∃ x', K x' ∧ RepW T w I' m' gv x' v := by
  unfold finMV at h
  split at h
  · obtain ⟨c', h, hc⟩ := finMC_rep (m' := m') hr hI hk hB hc h
    exact ⟨_, h, hc⟩
  · obtain ⟨arr, h1, h2⟩ := hc
    obtain ⟨c', h, hc⟩ := finML_rep (m' := m') hr hI hk hB h2 h
    exact ⟨_, h, arr, h1, hc⟩
  · exact h.elim

theorem finMVs_rep (hr : RelG T E N gv σ a w) (hI : ∀ b, Imm E σ.m gv w b → I' b) (hk : ∀ id, keep.contains id = true → m' id = σ.m id) (hB : fz = true → ∀ id o b, σ.m id = some o → keep.contains id = false → blk gv id = some b → I' b) :
    ∀ {xs : List V} {vs : List Value} {K : List W1 → Prop}, vs.length = xs.length → (∀ (k : Nat) x v, xs[k]? = some x → vs[k]? = some v → RepV T w (Imm E σ.m gv w) σ.m gv x v) → finMVs σ.m keep fz xs K →
      ∃ xs', K xs' ∧ vs.length = xs'.length ∧ ∀ (k : Nat) x v, xs'[k]? = some x → vs[k]? = some v → RepW T w I' m' gv x v
  | [], vs, K, hl, hc, h => ⟨[], h, hl, fun k x v h => by simp at h⟩
  | x :: xs, [], K, hl, hc, h => by simp at hl
  | x :: xs, v :: vs, K, hl, hc, h => by
    obtain ⟨x', h, hc1⟩ := finMV_rep (m' := m') hr hI hk hB (hc 0 x v rfl rfl) h
    obtain ⟨xs', h, hl', hc2⟩ := finMVs_rep hr hI hk hB (xs := xs) (vs := vs) (by simpa using hl) (fun k x v h1 h2 => hc (k + 1) x v (by simpa using h1) (by simpa using h2)) h
    refine ⟨_, h, by simp [hl'], fun k y u hy hu => ?_⟩
    cases k with
    | zero => simp at hy hu; subst hy; subst hu; exact hc1
    | succ k => exact hc2 k y u (by simpa using hy) (by simpa using hu)

def stM (args : List V) (M : List (Nat × Obj)) : St := { t := fun i => args.getD i .undef, m := mOf M }

def isBox : Obj → Bool
  | .box _ => true
  | _ => false

/-- The lists of what goes in and what comes back fit. -/
def memOk (M M' : List (Nat × Obj)) (_fz : Bool) : Bool :=
  let ids := M'.map (·.1)
  M.all (fun x => ids.contains x.1) && M'.all (fun x => (refsO x.2).all ids.contains) && (ids.eraseDups.length == ids.length)

theorem mOf_allIn {M' : List (Nat × Obj)} {m : Nat → Option Obj} (h : allIn M' m) (id : Nat) : (mOf M' id = none ∧ (M'.map (·.1)).contains id = false) ∨ (mOf M' id = m id ∧ (M'.map (·.1)).contains id = true) := by
  cases hf : mOf M' id with
  | none =>
    left
    refine ⟨rfl, ?_⟩
    unfold mOf at hf
    have hn := List.find?_eq_none.1 (Option.map_eq_none_iff.1 hf)
    rw [← Bool.not_eq_true, List.contains_iff_mem]
    intro hm
    obtain ⟨x, hx, hxi⟩ := List.mem_map.1 hm
    exact hn x hx (by simpa using hxi)
  | some o =>
    right
    have hm := mOf_mem hf
    refine ⟨?_, List.contains_iff_mem.2 (List.mem_map.2 ⟨_, hm, rfl⟩)⟩
    exact (allIn_mem h _ hm).symm

/-- THE CONTRACT OF A FUNCTION WITH MEMORY: its body, walked from its arguments and what it is lent. -/
theorem con_mem (hT : TabOk P T) (hm : P.follows .mixedOrders = true) {f : FuncId} {fn : Func} {c : Code} (hf : P.funcs[f]? = some fn) (hb : fn.body = some c) (hname : (fn.name == "runtime.NumGoroutine") = false)
    (hN : codeOk fn.ntmps c = true) {args : List V} {r : V} {M M' : List (Nat × Obj)} (fz : Bool) (hlen : args.length ≤ fn.ntmps) (hok : memOk M M' fz = true)
    (h : ∀ E : Env, (E.m0 = mOf M) → cw (ConSem P T) T (AW P T E fn.ntmps) c (RetM (ConSem P T) T fn.results.toList fz M' (fun v => v = r)) (stM args M)) : ConSem P T f args M r M' := by
  refine ⟨⟨fn, hf, by simp [hb], hname⟩, fun w gv J vs hJ hrel hsz hargs => ?_⟩
  refine calls_of_wp hf hb ?_
  simp only [memOk, Bool.and_eq_true] at hok
  obtain ⟨⟨hok1, hok2⟩, _⟩ := hok
  generalize hE : (⟨w, mOf M, gv, J, fun b => ∃ id o, mOf M id = some o ∧ blk gv id = some b, hJ⟩ : Env) = E at hrel ⊢
  have e1 : E.w0 = w := by rw [← hE]
  have e2 : E.m0 = mOf M := by rw [← hE]
  have e3 : E.J = J := by rw [← hE]
  have e4 : ∀ b, E.B b → ∃ id o, mOf M id = some o ∧ blk gv id = some b := by rw [← hE]; exact fun b h => h
  have e5 : E.gv0 = gv := by rw [← hE]
  have hr0 : RelG T E fn.ntmps gv (stM args M) { tmps := vs ++ Array.replicate (fn.ntmps - vs.size) undef, defers := [] } w := by
    refine ⟨hrel, rfl, by simp; omega, fun i => ?_⟩
    show RepV T w _ _ gv (args.getD i .undef) _
    cases hi : args[i]? with
    | none => simp [List.getD, hi, RepV]
    | some x =>
      have hlt : i < vs.size := by rw [hsz]; exact (List.getElem?_eq_some_iff.1 hi).1
      have hv : vs[i]? = some vs[i] := by simp [hlt]
      have := hargs i x _ hi hv
      rw [Array.getD_eq_getD_getElem?, Array.getElem?_append_left hlt, hv]
      simp only [List.getD, hi, Option.getD_some]
      refine repV_restrict (fun b hb => ⟨.inl (by rw [e3]; exact hb), (hJ b hb).1, fun id o h hb' => (hJ b hb).2 ⟨id, o, h, hb'⟩⟩) (fun _ _ => rfl) this
  refine wp_mono (cw_sound hT hm c hN _ _ (h E e2) gv _ w hr0) ?_
  -- the end
  have hend : ∀ (gv' : GV) (σ' : St) (a' : Act) (w' : World), RelG T E fn.ntmps gv' σ' a' w' → (retK (ConSem P T) T fn.results.toList σ' fun vs => finMVs σ'.m (M'.map (·.1)) fz vs fun xs => allIn M' σ'.m ∧ resOf xs = r) →
      a'.defers = [] ∧ ∃ v, (results fn a'.tmps).run P w' = .ok v w' ∧ ∃ v' gv', (Ending.returned v = .returned v' ∧ RelM T E gv' (mOf M') w' ∧ RepV T w' (Imm E (mOf M') gv' w') (mOf M') gv' r v') := by
    intro gv' σ' a' w' hr' hret
    obtain ⟨xs, us, hfin, hrun, hul, hrep⟩ := retK_run hT hr' _ _ hret
    -- the end of the results tells that what is kept is there
    have hall : allIn M' σ'.m := by
      have aux : ∀ (vs : List V) (K : List W1 → Prop) (p : Prop), (∀ ws, K ws → p) → finMVs σ'.m (M'.map (·.1)) fz vs K → p := by
        have auxC : ∀ (c : Ce) (K : Ce → Prop) (p : Prop), (∀ ws, K ws → p) → finMC σ'.m (M'.map (·.1)) fz c K → p := by
          intro c K p hK h
          unfold finMC at h
          split at h
          · exact hK _ h
          · exact hK _ h
          · exact hK _ h.2
          · split at h
            · exact hK _ h
            · obtain ⟨_, h⟩ := h
              split at h
              · exact hK _ h.2
              · exact h.elim
          · exact h.elim
        have auxL : ∀ (cs : List Ce) (K : List Ce → Prop) (p : Prop), (∀ ws, K ws → p) → finML σ'.m (M'.map (·.1)) fz cs K → p := by
          intro cs
          induction cs with
          | nil => intro K p hK h; exact hK _ h
          | cons c r ih => intro K p hK h; exact auxC c _ p (fun c hc => ih _ p (fun ws h => hK _ h) hc) h
        intro vs
        induction vs with
        | nil => intro K p hK h; exact hK _ h
        | cons v r ih =>
          intro K p hK h
          simp only [finMVs, finMV] at h
          split at h
          · exact auxC _ _ p (fun c hc => ih _ p (fun ws h => hK _ h) hc) h
          · exact auxL _ _ p (fun c hc => ih _ p (fun ws h => hK _ h) hc) h
          · exact h.elim
      exact aux xs _ _ (fun ws h => h.1) hfin
    have hmo := mOf_allIn hall
    have hsome : ∀ id o, mOf M' id = some o → σ'.m id = some o := fun id o h => by
      rcases hmo id with ⟨h1, _⟩ | ⟨h1, _⟩
      · rw [h1] at h; cases h
      · rw [← h1]; exact h
    have hI : ∀ b, Imm E σ'.m gv' w' b → Imm E (mOf M') gv' w' b := fun b hb => ⟨hb.1, hb.2.1, fun id o h => hb.2.2 id o (hsome id o h)⟩
    have hmM : ∀ id o, mOf M id = some o → (M'.map (·.1)).contains id = true := fun id o h => List.all_eq_true.1 hok1 (id, o) (mOf_mem h)
    have hk : ∀ id, (M'.map (·.1)).contains id = true → mOf M' id = σ'.m id := fun id h => by
      rcases hmo id with ⟨_, h2⟩ | ⟨h1, _⟩
      · rw [h2] at h; cases h
      · exact h1
    have hB : fz = true → ∀ id o b, σ'.m id = some o → (M'.map (·.1)).contains id = false → blk gv' id = some b → Imm E (mOf M') gv' w' b := by
      intro hfz id o b h1 h2 h3
      refine ⟨?_, (hr'.own id o b h1 h3).1, fun id' o' h4 h5 => ?_⟩
      · rcases hr'.new id o b h1 h3 with h4 | ⟨⟨o0, h4⟩, _⟩
        · right; rw [e1]; rwa [e1] at h4
        · rw [e2] at h4
          rw [hmM id _ h4] at h2; cases h2
      · have := hr'.inj id id' _ _ b h1 (hsome id' o' h4) h3 h5
        subst this
        rw [List.contains_iff_mem.2 (List.mem_map.2 ⟨_, mOf_mem h4, rfl⟩)] at h2; cases h2
    obtain ⟨ws, ⟨_, hws⟩, hwl, hwr⟩ := finMVs_rep (m' := mOf M') hr' hI hk hB hul hrep hfin
    have hres : (results fn a'.tmps).run P w' = .ok (if h : us.toArray.size = 1 then us.toArray[0] else .tuple us.toArray) w' := by
      unfold results
      rw [Array.mapM_eq_mapM_toList]
      simp only [Sem.run_bind, Sem.run_map, Sem.run_pure]
      exact congrArg (fun r : Result (List Value) => ((r.andThen fun a w' => .ok a.toArray w').andThen fun a w' => Result.ok (if h : a.size = 1 then a[0] else .tuple a) w')) hrun
    refine ⟨hr'.defers, _, hres, _, gv', rfl, ?_, ?_⟩
    · have hw : Weak E σ' { t := fun _ => .undef, m := mOf M' } := by
        refine ⟨fun i => .inl rfl, fun id => ?_, fun i id hid => by simp [refsV] at hid, fun id o h j hj => ?_, fun id o h => ?_⟩
        · rcases hmo id with ⟨h1, _⟩ | ⟨h1, _⟩
          · exact .inl h1
          · exact .inr h1
        · exact hk j (List.all_eq_true.1 (List.all_eq_true.1 hok2 (id, o) (mOf_mem h)) j hj)
        · rw [e2] at h; exact hk id (hmM id o h)
      exact (hr'.weak hw).toRelM
    · rw [← hws]
      match us, ws, hwl, hwr with
      | [], [], _, hwr => exact ⟨#[], rfl, rfl, fun k x u h => by simp at h⟩
      | [u], [x], _, hwr =>
        have := hwr 0 x u rfl rfl
        cases x with
        | one c => exact this
        | agg cs => exact this
      | u :: u' :: us, x :: x' :: ws, hwl, hwr =>
        simp only [resOf]
        rw [dif_neg (by simp)]
        exact ⟨_, rfl, by simpa using hwl, fun k y v hy hv => hwr k y v hy (by simpa using hv)⟩
      | [], _ :: _, h, _ => simp at h
      | _ :: _, [], h, _ => simp at h
      | [_], _ :: _ :: _, h, _ => simp at h
      | _ :: _ :: _, [_], h, _ => simp at h
  intro e a' w' hq
  cases e with
  | normal => obtain ⟨gv', σ', hr', hq⟩ := hq; exact hend gv' σ' a' w' hr' hq
  | exit i => obtain ⟨gv', σ', hr', hq⟩ := hq; exact hq.elim
  | ret => obtain ⟨gv', σ', hr', hq⟩ := hq; exact hend gv' σ' a' w' hr' hq
  | goto l => exact hq.elim
  | panic c => exact hq.elim
  | outgrown => exact hq.elim
end
end Go.AW

/- A function that only reckons may be handed slices of the caller's own; an empty slice is nil or not. -/
set_option linter.unusedVariables false
set_option linter.unusedSimpArgs false
namespace Go.AW

section
variable {P : Program} {T : Tab}

inductive LendL (m : Nat → Option Obj) : List V → List V → Prop
  | nil : LendL m [] []
  | same (a : V) {r r' : List V} (h : refsV a = []) (h' : LendL m r r') : LendL m (a :: r) (a :: r')
  | sl (id n e : Nat) (xs : List (List PV)) {r r' : List V} (h1 : m id = some (.sl e xs)) (h2 : n = xs.length) (h' : LendL m r r') : LendL m (.one (.osl id n) :: r) (.one (.p (.slice xs)) :: r')

theorem LendL.length {m : Nat → Option Obj} {a b : List V} (h : LendL m a b) : a.length = b.length := by
  induction h with
  | nil => rfl
  | same _ _ _ ih => simp [ih]
  | sl _ _ _ _ _ _ _ ih => simp [ih]

/-- Values that lead to no memory. -/
def flatC : Ce → Bool
  | .p (.slice []) => true
  | .p (.slice _) => false
  | .p .nesl => false
  | .p _ => true
  | _ => false
def flatV : V → Bool
  | .undef => true
  | .one c => flatC c
  | .agg cs => cs.all flatC
  | .tup xs => xs.all fun x => match x with | .one c => flatC c | .agg cs => cs.all flatC

section
variable {w w' : World} {I I' : Nat → Prop} {m m' : Nat → Option Obj} {gv gv' : GV}
theorem repC_flat {c : Ce} {v : Value} (hf : flatC c = true) (h : RepC T w I m gv c v) : RepC T w' I' m' gv' c v := by
  cases c with
  | p x =>
    have h : RepP w I x v := h
    show RepP w' I' x v
    cases h with
    | bool b => exact .bool b
    | int k n => exact .int k n
    | str s => exact .str s
    | nilp => exact .nilp
    | nilsl => exact .nilsl
    | nilf => exact .nilf
    | func f => exact .func f
    | nesl a cap => simp [flatC] at hf
    | sl0 a cap h0 => exact .sl0 a cap h0
    | sl xs b off cap sz arr e fr vs hI hh hz hc hv hl hr =>
      cases xs with
      | nil => exact .sl0 _ _ fun h => by cases h
      | cons x xs => simp [flatC] at hf
  | _ => simp [flatC] at hf
theorem repL_flat {cs : List Ce} {vs : List Value} (hf : cs.all flatC = true) (h : RepL T w I m gv cs vs) : RepL T w' I' m' gv' cs vs :=
  ⟨h.1, fun k c v hc hv => repC_flat (List.all_eq_true.1 hf c (List.mem_of_getElem? hc)) (h.2 k c v hc hv)⟩
theorem repV_flat {x : V} {v : Value} (hf : flatV x = true) (h : RepV T w I m gv x v) : RepV T w' I' m' gv' x v := by
  cases x with
  | undef => trivial
  | one c => exact repC_flat hf h
  | agg cs => obtain ⟨arr, h1, h2⟩ := h; exact ⟨arr, h1, repL_flat hf h2⟩
  | tup xs =>
    obtain ⟨arr, h1, h2, h3⟩ := h
    refine ⟨arr, h1, h2, fun k x u hx hu => ?_⟩
    have h4 := h3 k x u hx hu
    have h5 := List.all_eq_true.1 hf x (List.mem_of_getElem? hx)
    cases x with
    | one c => exact repC_flat h5 h4
    | agg cs => obtain ⟨arr, h1, h2⟩ := h4; exact ⟨arr, h1, repL_flat h5 h2⟩
end

theorem con_lend {f : Nat} {args args' : List V} {M : List (Nat × Obj)} {r : V} (h : ConSem P T f args' [] r []) (ha : LendL (mOf M) args args') (hf : flatV r = true) : ConSem P T f args M r M := by
  refine ⟨h.1, fun w gv J vs hJ hrel hsz hargs => ?_⟩
  have hm0 : ∀ id, mOf [] id = none := fun id => rfl
  have hJ' : ∀ b, (J b ∨ ∃ id o, mOf M id = some o ∧ blk gv id = some b) → b < w.heap.size ∧ ¬ ∃ id o, mOf [] id = some o ∧ blk gv id = some b := by
    rintro b hb
    refine ⟨?_, by rintro ⟨id, o, h, _⟩; simp [hm0] at h⟩
    rcases hb with hb | ⟨id, o, h1, h2⟩
    · exact (hJ b hb).1
    · exact (hrel.own id o b h1 h2).1
  have hrep : ∀ id e xs n v, mOf M id = some (.sl e xs) → n = xs.length → RepC T w J (mOf M) gv (.osl id n) v → RepP w (fun b => J b ∨ ∃ id o, mOf M id = some o ∧ blk gv id = some b) (.slice xs) v := by
    intro id e xs n v h1 hn hc
    obtain ⟨h0, e', xs', h1', h2, h4⟩ := hc
    rw [h1] at h1'; cases h1'
    have hv := h4 hn
    obtain ⟨hz, vs, ⟨ho1, ho2⟩, hvs⟩ := hrel.rep id _ h1
    rw [hv, hn]
    rcases ho2 with ⟨hnil, hn0⟩ | ⟨g, cap, cur, hv2, _, hh, hcap, _, hsz, htake⟩
    · have := List.length_eq_zero_iff.1 hn0
      subst this
      exact RepP.sl0 _ _ fun _ => by simp at hnil; simp [hnil]
    · simp at hv2
      obtain ⟨hg1, hg2⟩ := hv2
      rw [hg1]
      refine .sl xs g 0 _ (T e).size cur e (0, 0) vs (.inr ⟨id, _, h1, by simp [blk, hg1]⟩) hh hz (by rw [hg2]; exact hcap) (fun k u hk => ?_) (by rw [flatten_len _ _ hz]; exact ho1) (fun k q u hq hu => RepP.mono (fun b hb => ⟨?_, rfl⟩) (hvs k q u hq hu))
      · rw [← htake, List.getElem?_take] at hk
        split at hk
        · simpa using hk
        · cases hk
      · rcases hb.1 with hb1 | hb1
        · exact .inl hb1
        · have := hb.2.1
          exact absurd (show w.heap.size ≤ b from hb1) (by omega)
  have hrel0 : RelM T ⟨w, mOf [], gv, fun b => J b ∨ ∃ id o, mOf M id = some o ∧ blk gv id = some b, fun b => ∃ id o, mOf [] id = some o ∧ blk gv id = some b, hJ'⟩ gv (mOf []) w :=
    ⟨rfl, rfl, rfl, Nat.le_refl _, fun _ _ _ => rfl, fun id o h => by simp [hm0] at h, fun id o b h => by simp [hm0] at h, fun id id' o o' b h => by simp [hm0] at h, fun id o b h => by simp [hm0] at h, Pers.refl _ _⟩
  have hall : ∀ (a a' : List V), LendL (mOf M) a a' → ∀ (us : List Value), (∀ (k : Nat) x v, a[k]? = some x → us[k]? = some v → RepV T w J (mOf M) gv x v) →
      ∀ (k : Nat) x v, a'[k]? = some x → us[k]? = some v → RepV T w (fun b => J b ∨ ∃ id o, mOf M id = some o ∧ blk gv id = some b) (mOf []) gv x v := by
    intro a a' hl
    induction hl with
    | nil => intro us _ k x v hx; simp at hx
    | same a hra hl ih =>
      intro us hus k x v hx hv
      cases k with
      | zero =>
        simp at hx; subst hx
        exact repV_restrict (fun b hb => .inl hb) (fun j hj => by rw [hra] at hj; cases hj) (hus 0 _ v rfl hv)
      | succ k =>
        cases us with
        | nil => simp at hv
        | cons u us => exact ih us (fun k x v hx hv => hus (k + 1) x v (by simpa using hx) (by simpa using hv)) k x v (by simpa using hx) (by simpa using hv)
    | sl id n e xs h1 h2 hl ih =>
      intro us hus k x v hx hv
      cases k with
      | zero =>
        simp at hx; subst hx
        exact hrep id e xs n v h1 h2 (hus 0 _ v rfl hv)
      | succ k =>
        cases us with
        | nil => simp at hv
        | cons u us => exact ih us (fun k x v hx hv => hus (k + 1) x v (by simpa using hx) (by simpa using hv)) k x v (by simpa using hx) (by simpa using hv)
  have hc := h.2 w gv (fun b => J b ∨ ∃ id o, mOf M id = some o ∧ blk gv id = some b) vs hJ' hrel0 (by rw [hsz, ha.length]) (fun k x v hx hv => hall _ _ ha vs.toList (fun k x v hx hv => hargs k x v hx (by simpa using hv)) k x v hx (by simpa using hv))
  refine Calls.mono hc ?_
  rintro e w' ⟨v, gv', rfl, hrel', hv⟩
  have hkeep : ∀ b, b < w.heap.size → w'.heap[b]? = w.heap[b]? := fun b hb => hrel'.keep b hb (by rintro ⟨id, o, h, _⟩; simp [hm0] at h)
  have hs : w.heap.size ≤ w'.heap.size := hrel'.size
  have himm : ∀ b, Imm ⟨w, mOf M, gv, J, fun b => ∃ id o, mOf M id = some o ∧ blk gv id = some b, hJ⟩ (mOf M) gv w b → Imm ⟨w, mOf M, gv, J, fun b => ∃ id o, mOf M id = some o ∧ blk gv id = some b, hJ⟩ (mOf M) gv w' b ∧ w'.heap[b]? = w.heap[b]? :=
    fun b hb => ⟨⟨hb.1, Nat.lt_of_lt_of_le hb.2.1 hs, hb.2.2⟩, hkeep b hb.2.1⟩
  refine ⟨v, gv, rfl, ⟨hrel'.tape, hrel'.os, hrel'.output, hs, fun b hb _ => hkeep b hb, fun id o h => ?_, fun id o b h hb => ?_, hrel.inj, hrel.new, Pers.refl _ _⟩, repV_flat hf hv⟩
  · exact RepO.mono himm (Pers.refl _ _) rfl (fun b hb => hkeep b (hrel.own id o b h hb).1) (hrel.rep id o h)
  · obtain ⟨h1, h2⟩ := hrel.own id o b h hb
    exact ⟨Nat.lt_of_lt_of_le h1 hs, h2⟩

/-- An empty slice is nil, or isn't. -/
theorem con_split {f : Nat} {M M' : List (Nat × Obj)} {r : V} (h1 : ConSem P T f [.one (.p .nilsl)] M r M') (h2 : ConSem P T f [.one (.p .nesl)] M r M') : ConSem P T f [.one (.p (.slice []))] M r M' := by
  refine ⟨h1.1, fun w gv J vs hJ hrel hsz hargs => ?_⟩
  have hlt : 0 < vs.size := by rw [hsz]; simp
  have h0 : RepP w J (.slice []) vs[0] := hargs 0 _ vs[0] rfl (by simp [hlt])
  have key : (∃ q : PV, (q = .nilsl ∨ q = .nesl) ∧ RepP w J q vs[0]) := by
    generalize vs[0] = v at h0
    cases h0 with
    | sl0 a cap hc =>
      cases a with
      | none => rw [hc rfl]; exact ⟨_, .inl rfl, .nilsl⟩
      | some a => exact ⟨_, .inr rfl, .nesl a cap⟩
    | sl xs b off cap sz arr e fr vs hI hh hz hc hv hl hr => exact ⟨_, .inr rfl, .nesl _ cap⟩
  obtain ⟨q, hq, hr⟩ := key
  have hargs' : ∀ (k : Nat) a v, [V.one (.p q)][k]? = some a → vs[k]? = some v → RepV T w J (mOf M) gv a v := by
    intro k a v ha hv
    cases k with
    | zero =>
      simp at ha; subst ha
      have : v = vs[0] := by rw [Array.getElem?_eq_getElem hlt] at hv; exact (Option.some.inj hv).symm
      rw [this]; exact hr
    | succ k => simp at ha
  rcases hq with rfl | rfl
  · exact h1.2 w gv J vs hJ hrel hsz hargs'
  · exact h2.2 w gv J vs hJ hrel hsz hargs'
end
end Go.AW

/- A nil slice may be read as an empty one, wherever it stands. -/
set_option linter.unusedVariables false
set_option linter.unusedSimpArgs false
namespace Go.AW

mutual
def nz : PV → PV
  | .nilsl => .slice []
  | .slice xs => .slice (nzLL xs)
  | q => q
def nzL : List PV → List PV
  | [] => []
  | q :: r => nz q :: nzL r
def nzLL : List (List PV) → List (List PV)
  | [] => []
  | x :: r => nzL x :: nzLL r
end
def nzC : Ce → Ce
  | .p x => .p (nz x)
  | c => c
def nzV : V → V
  | .one c => .one (nzC c)
  | .agg cs => .agg (cs.map nzC)
  | v => v

theorem nzL_map : ∀ xs : List PV, nzL xs = xs.map nz
  | [] => rfl
  | x :: r => by simp [nzL, nzL_map r]
theorem nzLL_map : ∀ xs : List (List PV), nzLL xs = xs.map nzL
  | [] => rfl
  | x :: r => by simp [nzLL, nzLL_map r]
theorem nzLL_flatten : ∀ xs : List (List PV), (nzLL xs).flatten = nzL xs.flatten
  | [] => rfl
  | x :: r => by simp [nzLL, nzLL_flatten r, nzL_map]

theorem repP_nz {w : World} {I : Nat → Prop} {q : PV} {v : Value} (h : RepP w I q v) : RepP w I (nz q) v := by
  induction h with
  | bool b => exact .bool b
  | int k n => exact .int k n
  | str s => exact .str s
  | nilp => exact .nilp
  | nilsl => exact .sl0 none 0 fun _ => rfl
  | nilf => exact .nilf
  | func f => exact .func f
  | nesl a cap => exact .nesl a cap
  | sl0 a cap h => exact .sl0 a cap h
  | sl xs b off cap sz arr e fr vs hI hh hz hc hv hl hr ih =>
    have hlen : (nzLL xs).length = xs.length := by simp [nzLL_map]
    have := RepP.sl (w := w) (I := I) (nzLL xs) b off cap sz arr e fr vs hI hh (fun x hx => by
      rw [nzLL_map] at hx
      obtain ⟨y, hy, rfl⟩ := List.mem_map.1 hx
      rw [nzL_map, List.length_map]; exact hz y hy) (by omega) hv (by rw [nzLL_flatten, nzL_map, List.length_map]; exact hl) (fun k q v hq hk => by
      rw [nzLL_flatten, nzL_map, List.getElem?_map] at hq
      cases hx : xs.flatten[k]? with
      | none => rw [hx] at hq; simp at hq
      | some q0 =>
        rw [hx] at hq; simp at hq; subst hq
        exact ih k q0 v hx hk)
    rw [hlen] at this
    simpa only [nz] using this

section
variable {P : Program} {T : Tab} {w : World} {I : Nat → Prop} {m : Nat → Option Obj} {gv : GV}
theorem repC_nz {c : Ce} {v : Value} (h : RepC T w I m gv c v) : RepC T w I m gv (nzC c) v := by
  cases c with
  | p x => exact repP_nz h
  | _ => exact h
theorem repV_nz {x : V} {v : Value} (h : RepV T w I m gv x v) : RepV T w I m gv (nzV x) v := by
  cases x with
  | one c => exact repC_nz h
  | agg cs =>
    obtain ⟨arr, h1, h2, h3⟩ := h
    refine ⟨arr, h1, by simpa using h2, fun k c v hc hv => ?_⟩
    rw [List.getElem?_map] at hc
    cases hx : cs[k]? with
    | none => rw [hx] at hc; simp at hc
    | some c0 => rw [hx] at hc; simp at hc; subst hc; exact repC_nz (h3 k c0 v hx hv)
  | _ => exact h

theorem con_nz {f : Nat} {args : List V} {M M' : List (Nat × Obj)} {r : V} (h : ConSem P T f (args.map nzV) M r M') : ConSem P T f args M r M' := by
  refine ⟨h.1, fun w gv J vs hJ hrel hsz hargs => h.2 w gv J vs hJ hrel (by simpa using hsz) (fun k a v ha hv => ?_)⟩
  rw [List.getElem?_map] at ha
  cases hx : args[k]? with
  | none => rw [hx] at ha; simp at ha
  | some a0 => rw [hx] at ha; simp at ha; subst ha; exact repV_nz (hargs k a0 v hx hv)
end
end Go.AW
