/- Regions (in the order of the text, or in whatever order their edges allow), code, functions. -/
import Derived.Test.YtocalihefpafgaaA11
set_option linter.unusedVariables false
set_option linter.unusedSimpArgs false
namespace Go.AW

section
variable {P : Program} {T : Tab} {E : Env} {N : Nat} {gv : GV} {σ : St} {a : Act} {w : World} {ops : Array Oper} {Q : Exit → Act → World → Prop}

theorem run_guard {C : Con} {o : Oper} {p : Rd Wr} {wr : Wr} {fp : List Loc} (hr : RelG T E N gv σ a w) (h : Run C (guardR ops o p) σ wr fp) :
    (Region.wanted o (yielded ops a.tmps) = true ∧ ∃ fp', Run C p σ wr fp') ∨ (Region.wanted o (yielded ops a.tmps) = false ∧ wr = skipW) := by
  unfold guardR at h
  unfold Region.wanted
  cases hg : o.guard with
  | none => simp only [hg] at h ⊢; exact .inl ⟨trivial, fp, h⟩
  | some gw =>
    obtain ⟨j, want⟩ := gw
    simp only [hg] at h ⊢
    cases hd : (ops[j]?).bind (·.dst) with
    | none => simp only [hd] at h; exact h.elim
    | some d =>
      simp only [hd] at h
      obtain ⟨fp', rfl, h⟩ := h
      have ht := hr.t d
      unfold yielded
      rw [hd]
      dsimp only at h
      split at h
      · rename_i hv
        rw [hv] at ht
        obtain ⟨rfl, _⟩ := h
        obtain ⟨arr, h1, h2, _⟩ := ht
        refine .inr ⟨?_, rfl⟩
        simp only [Option.bind_some]
        rw [Array.getD_eq_getD_getElem?] at h1
        cases hq : a.tmps[d]? with
        | none => simp
        | some v => simp [hq] at h1; subst h1; simp
      · rename_i b hv
        rw [hv] at ht
        have h1 : a.tmps.getD d undef = .bool b := rp_bool ht
        rw [Array.getD_eq_getD_getElem?] at h1
        have h2 : a.tmps[d]? = some (.bool b) := by
          cases hq : a.tmps[d]? with
          | none => simp [hq, undef] at h1
          | some v => simp [hq] at h1; subst h1; rfl
        simp only [Option.bind_some, h2]
        simp only [Run] at h
        split at h
        · rename_i hb; exact .inl ⟨by simp [hb], fp', h⟩
        · rename_i hb; obtain ⟨rfl, _⟩ := h; exact .inr ⟨by simpa using hb, rfl⟩
      · exact h.elim

theorem guard_wpOp (hT : TabOk P T) {i : Nat} {o : Oper} {wr : Wr} {fp : List Loc} {K : Act → World → Prop} (hr : RelG T E N gv σ a w) (hi : ops[i]? = some o) (hdst : ∀ d, o.dst = some d → d < N)
    (h : Run (ConSem P T) (guardR ops o (opR T o)) σ wr fp) (hK : ∀ gv' a' w', RelG T E N gv' (σ.app o.dst wr) a' w' → K a' w') : wpOp P ops Q i K a w := by
  unfold wpOp
  simp only [hi]
  rcases run_guard hr h with ⟨hw, fp', hrun⟩ | ⟨hw, rfl⟩
  · simp only [hw, if_true]
    exact .inl (sound_op hT hr hdst hrun K Q hK)
  · simp only [hw, Bool.false_eq_true, if_false]
    exact hK gv _ _ (hr.put hdst ⟨#[], rfl, rfl, fun k x u h => by simp at h⟩)

def dstOk (N : Nat) (ops : List Oper) : Bool := ops.all fun o => match o.dst with | some d => decide (d < N) | none => true

theorem dstOk_mem {ops : Array Oper} (h : dstOk N ops.toList = true) {i : Nat} {o : Oper} (hi : ops[i]? = some o) : ∀ d, o.dst = some d → d < N := by
  intro d hd
  have := List.all_eq_true.1 h o (by simpa using Array.mem_of_getElem? hi)
  rw [hd] at this
  simpa using this

/-- In the order of the text. -/
theorem wp_text (hT : TabOk P T) (hN : dstOk N ops.toList = true) {K : St → Prop} (hK : ∀ gv σ a w, RelG T E N gv σ a w → K σ → Q .normal a w) :
    ∀ (n k : Nat) (gv : GV) (σ : St) (a : Act) (w : World), ops.size - k = n → k ≤ ops.size → RelG T E N gv σ a w → opsK (ConSem P T) T ops (ops.toList.drop k) σ K → wpOps P ops Q ((List.range ops.size).drop k) a w
  | 0, k, gv, σ, a, w, hn, hk, hr, h => by
    have hke : k = ops.size := by omega
    subst hke
    rw [List.drop_of_length_le (by simp)] at h
    rw [List.drop_of_length_le (by simp)]
    exact hK gv σ a w hr h
  | n + 1, k, gv, σ, a, w, hn, hk, hr, h => by
    have hlt : k < ops.size := by omega
    have hi : ops[k]? = some ops[k] := by simp [hlt]
    have e1 : ops.toList.drop k = ops[k] :: ops.toList.drop (k + 1) := by
      rw [List.drop_eq_getElem_cons (by simpa using hlt)]; simp
    have e2 : (List.range ops.size).drop k = k :: (List.range ops.size).drop (k + 1) := by
      rw [List.drop_eq_getElem_cons (by simpa using hlt)]; simp
    rw [e1] at h
    rw [e2, wpOps_cons]
    obtain ⟨wr, fp, hrun, h⟩ := opsK_run _ _ _ _ _ _ h
    exact guard_wpOp hT hr hi (dstOk_mem hN hi) hrun fun gv' a' w' hr' => wp_text hT hN hK n (k + 1) gv' _ a' w' (by omega) (by omega) hr' h

/-! ### A region that draws its order -/

/-- The operations in the order of the text, and of each what it writes and what it looks at. -/
def opsD (C : Con) (T : Tab) (ops : Array Oper) : List Oper → St → (List (List Loc × List Loc) → St → Prop) → Prop
  | [], σ, K => K [] σ
  | o :: r, σ, K =>
    match o.guard with
    | none => runK C (opR T o) σ fun w fp => opsD C T ops r (σ.app o.dst w) fun D σ' => K ((o.dst.toList.map .t ++ w.ms.map (fun x => .m x.1), fp) :: D) σ'
    | some (j, want) => match (ops[j]?).bind (·.dst) with
      | none => False
      | some d => match σ.t d with
        | .tup [] => opsD C T ops r (σ.app o.dst skipW) fun D σ' => K ((o.dst.toList.map .t, [.t d]) :: D) σ'
        | .one (.p (.bool b)) => splitB b fun b =>
            if b = want then runK C (opR T o) { σ with t := upd σ.t d (.one (.p (.bool b))) } fun w fp => opsD C T ops r (St.app { σ with t := upd σ.t d (.one (.p (.bool b))) } o.dst w) fun D σ' =>
                K ((o.dst.toList.map .t ++ w.ms.map (fun x => .m x.1), .t d :: fp) :: D) σ'
            else opsD C T ops r (St.app { σ with t := upd σ.t d (.one (.p (.bool b))) } o.dst skipW) fun D σ' => K ((o.dst.toList.map .t, [.t d]) :: D) σ'
        | _ => False

def wlocs (d : Option Nat) (w : Wr) : List Loc := d.toList.map .t ++ w.ms.map (fun x => .m x.1)

theorem opsD_run (C : Con) (T : Tab) (ops : Array Oper) : ∀ (l : List Oper) (σ : St) (K : List (List Loc × List Loc) → St → Prop), opsD C T ops l σ K →
    match l with
    | [] => K [] σ
    | o :: r => ∃ w fp, Run C (guardR ops o (opR T o)) σ w fp ∧ opsD C T ops r (σ.app o.dst w) fun D σ' => K ((wlocs o.dst w, fp) :: D) σ'
  | [], σ, K, h => h
  | o :: r, σ, K, h => by
    show ∃ w fp, _
    unfold opsD at h
    unfold guardR
    cases hg : o.guard with
    | none =>
      simp only [hg] at h ⊢
      exact runK_run C _ _ _ h
    | some gw =>
      obtain ⟨j, want⟩ := gw
      simp only [hg] at h ⊢
      cases hd : (ops[j]?).bind (·.dst) with
      | none => simp [hd] at h
      | some d =>
        simp only [hd] at h ⊢
        cases hv : σ.t d with
        | undef => simp [hv] at h
        | agg cs => simp [hv] at h
        | tup xs =>
          cases xs with
          | nil => simp only [hv] at h; exact ⟨skipW, [.t d], ⟨[], rfl, by simp [hv, Run]⟩, by simpa [wlocs, skipW] using h⟩
          | cons x xs => simp [hv] at h
        | one c =>
          cases c with
          | p x =>
            cases x with
            | bool b =>
              simp only [hv] at h
              have h := splitB_out h
              have e : upd σ.t d (.one (.p (.bool b))) = σ.t := by rw [← hv]; exact upd_self _ _
              simp only [e] at h
              by_cases hb : b = want
              · simp only [hb, if_true] at h
                obtain ⟨w, fp, hr, hk⟩ := runK_run C _ _ _ h
                exact ⟨w, .t d :: fp, ⟨fp, rfl, by simp only [hv, Run, hb, if_true]; exact hr⟩, hk⟩
              · simp only [hb, if_false] at h
                exact ⟨skipW, [.t d], ⟨[], rfl, by simp [hv, Run, hb]⟩, by simpa [wlocs, skipW] using h⟩
            | _ => simp [hv] at h
          | _ => simp [hv] at h

/-- Operations one behind the other. -/
def Exec (C : Con) (T : Tab) (ops : Array Oper) (W : Nat → Wr) (F : Nat → List Loc) : List Nat → St → St → Prop
  | [], σ, σ' => σ' = σ
  | i :: r, σ, σ' => ∃ o, ops[i]? = some o ∧ Run C (guardR ops o (opR T o)) σ (W i) (F i) ∧ Exec C T ops W F r (σ.app o.dst (W i)) σ'

theorem Exec.congr {C : Con} {W W' : Nat → Wr} {F F' : Nat → List Loc} : ∀ {l : List Nat} {σ σ' : St}, (∀ i ∈ l, W i = W' i ∧ F i = F' i) → Exec C T ops W F l σ σ' → Exec C T ops W' F' l σ σ'
  | [], _, _, _, h => h
  | i :: r, σ, σ', hc, h => by
    obtain ⟨o, h1, h2, h3⟩ := h
    obtain ⟨e1, e2⟩ := hc i (by simp)
    exact ⟨o, h1, by rw [← e1, ← e2]; exact h2, by rw [← e1]; exact Exec.congr (fun j hj => hc j (by simp [hj])) h3⟩

theorem opsD_exec {C : Con} : ∀ (n k : Nat) (σ : St) (K : List (List Loc × List Loc) → St → Prop), ops.size - k = n → k ≤ ops.size → opsD C T ops (ops.toList.drop k) σ K →
    ∃ W F D σ', Exec C T ops W F ((List.range ops.size).drop k) σ σ' ∧ K D σ' ∧ ∀ (i : Nat) o, k ≤ i → ops[i]? = some o → D[i - k]? = some (wlocs o.dst (W i), F i)
  | 0, k, σ, K, hn, hk, h => by
    have hke : k = ops.size := by omega
    subst hke
    rw [List.drop_of_length_le (by simp)] at h
    rw [List.drop_of_length_le (by simp)]
    exact ⟨fun _ => skipW, fun _ => [], [], σ, rfl, h, fun i o hi ho => by have := (Array.getElem?_eq_some_iff.1 ho).1; omega⟩
  | n + 1, k, σ, K, hn, hk, h => by
    have hlt : k < ops.size := by omega
    have hi : ops[k]? = some ops[k] := by simp [hlt]
    have e1 : ops.toList.drop k = ops[k] :: ops.toList.drop (k + 1) := by
      rw [List.drop_eq_getElem_cons (by simpa using hlt)]; simp
    have e2 : (List.range ops.size).drop k = k :: (List.range ops.size).drop (k + 1) := by
      rw [List.drop_eq_getElem_cons (by simpa using hlt)]; simp
    rw [e1] at h
    rw [e2]
    obtain ⟨wr, fp, hrun, h⟩ := opsD_run _ _ _ _ _ _ h
    obtain ⟨W, F, D, σ', h1, h2, h3⟩ := opsD_exec n (k + 1) _ _ (by omega) (by omega) h
    have hne : ∀ j ∈ (List.range ops.size).drop (k + 1), j ≠ k := by
      intro j hj
      rw [List.mem_iff_getElem?] at hj
      obtain ⟨m, hm⟩ := hj
      rw [List.getElem?_drop] at hm
      have := List.getElem?_eq_some_iff.1 hm
      obtain ⟨hl, hv⟩ := this
      simp at hv; omega
    refine ⟨fun j => if j = k then wr else W j, fun j => if j = k then fp else F j, _, σ', ⟨ops[k], hi, by simp only [if_true]; exact hrun, ?_⟩, h2, fun i o hik hio => ?_⟩
    · simp only [if_true]
      exact Exec.congr (fun j hj => by simp [hne j hj]) h1
    · by_cases hik2 : i = k
      · subst hik2
        rw [hi] at hio; simp at hio; subst hio
        simp
      · rw [show i - k = (i - (k + 1)) + 1 by omega, List.getElem?_cons_succ, h3 i o (by omega) hio]
        simp [hik2]

/-- Nothing that the one writes is written or looked at by the other. -/
def apartL (x y : List Loc × List Loc) : Bool := x.1.all (fun l => !(y.1.contains l) && !(y.2.contains l)) && y.1.all (fun l => !(x.2.contains l))

theorem foldl_upd_other (ms : List (Nat × Obj)) : ∀ (m : Nat → Option Obj) (i : Nat), (∀ x ∈ ms, x.1 ≠ i) → (ms.foldl (fun m x => upd m x.1 (some x.2)) m) i = m i := by
  induction ms with
  | nil => intro m i _; rfl
  | cons x r ih =>
    intro m i h
    simp only [List.foldl_cons]
    rw [ih _ _ (fun y hy => h y (by simp [hy]))]
    simp [upd, Ne.symm (h x (by simp))]

theorem foldl_upd_same (ms : List (Nat × Obj)) : ∀ (m m' : Nat → Option Obj) (i : Nat), (∃ x ∈ ms, x.1 = i) → (ms.foldl (fun m x => upd m x.1 (some x.2)) m) i = (ms.foldl (fun m x => upd m x.1 (some x.2)) m') i := by
  induction ms with
  | nil => intro m m' i h; obtain ⟨x, hx, _⟩ := h; cases hx
  | cons x r ih =>
    intro m m' i h
    simp only [List.foldl_cons]
    by_cases hr : ∃ y ∈ r, y.1 = i
    · exact ih _ _ i hr
    · have hr' : ∀ y ∈ r, y.1 ≠ i := fun y hy he => hr ⟨y, hy, he⟩
      rw [foldl_upd_other _ _ _ hr', foldl_upd_other _ _ _ hr']
      obtain ⟨y, hy, he⟩ := h
      rcases List.mem_cons.1 hy with rfl | hy
      · simp [upd, he]
      · exact absurd he (hr' y hy)

theorem app_agree (σ : St) (d : Option Nat) (w : Wr) (fp : List Loc) (h : ∀ l ∈ wlocs d w, l ∉ fp) : σ.agree (σ.app d w) fp := by
  intro l hl
  cases l with
  | t n =>
    show putT σ.t d w.v n = σ.t n
    cases d with
    | none => rfl
    | some d =>
      have : n ≠ d := fun e => h (.t d) (by simp [wlocs]) (e ▸ hl)
      simp [putT, upd, this]
  | m i =>
    show (w.ms.foldl (fun m x => upd m x.1 (some x.2)) σ.m) i = σ.m i
    exact foldl_upd_other _ _ _ fun x hx e => h (.m x.1) (by simp [wlocs]; exact ⟨x.2, hx⟩) (e ▸ hl)

theorem app_comm (σ : St) (d d' : Option Nat) (w w' : Wr) (h : ∀ l ∈ wlocs d w, l ∉ wlocs d' w') : (σ.app d w).app d' w' = (σ.app d' w').app d w := by
  have e1 : ((σ.app d w).app d' w').t = ((σ.app d' w').app d w).t := by
    funext n
    show putT (putT σ.t d w.v) d' w'.v n = putT (putT σ.t d' w'.v) d w.v n
    cases d with
    | none => rfl
    | some d =>
      cases d' with
      | none => rfl
      | some d' =>
        have : d ≠ d' := fun e => h (.t d) (by simp [wlocs]) (by simp [wlocs, e])
        simp only [putT, upd]
        by_cases h1 : n = d'
        · simp [h1, Ne.symm this]
        · simp [h1]
  have e2 : ((σ.app d w).app d' w').m = ((σ.app d' w').app d w).m := by
    funext i
    show (w'.ms.foldl (fun m x => upd m x.1 (some x.2)) (w.ms.foldl (fun m x => upd m x.1 (some x.2)) σ.m)) i = (w.ms.foldl (fun m x => upd m x.1 (some x.2)) (w'.ms.foldl (fun m x => upd m x.1 (some x.2)) σ.m)) i
    by_cases h1 : ∃ x ∈ w'.ms, x.1 = i
    · have h2 : ∀ x ∈ w.ms, x.1 ≠ i := by
        intro x hx e
        obtain ⟨y, hy, he⟩ := h1
        exact h (.m x.1) (by simp [wlocs]; exact ⟨x.2, hx⟩) (by simp [wlocs, e]; exact ⟨y.2, by rw [← he]; exact hy⟩)
      rw [foldl_upd_other w.ms _ _ h2]
      exact foldl_upd_same _ _ _ _ h1
    · have h1' : ∀ x ∈ w'.ms, x.1 ≠ i := fun x hx e => h1 ⟨x, hx, e⟩
      rw [foldl_upd_other w'.ms _ _ h1']
      by_cases h2 : ∃ x ∈ w.ms, x.1 = i
      · exact foldl_upd_same _ _ _ _ h2
      · have h2' : ∀ x ∈ w.ms, x.1 ≠ i := fun x hx e => h2 ⟨x, hx, e⟩
        rw [foldl_upd_other w.ms _ _ h2', foldl_upd_other w.ms _ _ h2', foldl_upd_other w'.ms _ _ h1']
  cases h3 : (σ.app d w).app d' w'
  cases h4 : (σ.app d' w').app d w
  rw [h3, h4] at e1 e2
  simp at e1 e2
  rw [e1, e2]

theorem apartL_spec {x y : List Loc × List Loc} (h : apartL x y = true) : (∀ l ∈ x.1, l ∉ y.1) ∧ (∀ l ∈ x.1, l ∉ y.2) ∧ ∀ l ∈ y.1, l ∉ x.2 := by
  simp only [apartL, Bool.and_eq_true, List.all_eq_true, Bool.not_eq_true', List.contains_eq_mem, decide_eq_false_iff_not] at h
  exact ⟨fun l hl => (h.1 l hl).1, fun l hl => (h.1 l hl).2, fun l hl => h.2 l hl⟩

theorem Exec.front {C : Con} {W : Nat → Wr} {F : Nat → List Loc} {j : Nat} {oj : Oper} (hj : ops[j]? = some oj) : ∀ {A B : List Nat} {σ σ' : St},
    (∀ i ∈ A, ∀ o, ops[i]? = some o → apartL (wlocs o.dst (W i), F i) (wlocs oj.dst (W j), F j) = true) → Exec C T ops W F (A ++ j :: B) σ σ' → Exec C T ops W F (j :: (A ++ B)) σ σ'
  | [], B, σ, σ', _, h => h
  | i :: A, B, σ, σ', ha, h => by
    obtain ⟨o, h1, h2, h3⟩ := h
    have h3 := Exec.front hj (fun k hk => ha k (by simp [hk])) h3
    obtain ⟨o', h4, h5, h6⟩ := h3
    rw [hj] at h4; simp at h4; subst h4
    obtain ⟨a1, a2, a3⟩ := apartL_spec (ha i (by simp) o h1)
    refine ⟨oj, hj, ?_, o, h1, ?_, ?_⟩
    · refine Run.local C h5 ?_
      have := app_agree σ o.dst (W i) (F j) a2
      intro l hl
      have := this l hl
      cases l <;> exact this.symm
    · exact Run.local C h2 (app_agree σ oj.dst (W j) (F i) a3)
    · rw [← app_comm σ o.dst oj.dst (W i) (W j) a1]; exact h6

/-- Which operations come ahead, by the edges that bind in every order. -/
def preds (o : Oper) : List Nat := o.after.toList.filterMap fun e => if Region.binds .any e then some e.on else none
/-- Of each operation: which ones come ahead of it, near or far, as bits. -/
def maskOf (o : Oper) (acc : List Nat) : Nat := (preds o).foldl (fun s q => s ||| 2 ^ q ||| acc.getD q 0) 0
def masks : List Oper → List Nat → List Nat
  | [], acc => acc
  | o :: r, acc => masks r (acc ++ [maskOf o acc])

def drawOk (ops : Array Oper) (D : List (List Loc × List Loc)) : Bool :=
  let mk := masks ops.toList []
  (List.range ops.size).all (fun i => match ops[i]? with | some o => (preds o).all (fun q => decide (q < i)) | none => true) &&
  (List.range ops.size).all fun i => (List.range i).all fun j => apartL (D.getD j ([], [])) (D.getD i ([], [])) || (mk.getD i 0).testBit j

theorem testBit_fold (acc : List Nat) (j : Nat) : ∀ (l : List Nat) (s : Nat), (l.foldl (fun s q => s ||| 2 ^ q ||| acc.getD q 0) s).testBit j = true → s.testBit j = true ∨ ∃ q ∈ l, q = j ∨ (acc.getD q 0).testBit j = true
  | [], s, h => .inl h
  | q :: l, s, h => by
    simp only [List.foldl_cons] at h
    rcases testBit_fold acc j l _ h with h | ⟨r, hr, h⟩
    · simp only [Nat.testBit_or, Bool.or_eq_true, Nat.testBit_two_pow, decide_eq_true_eq] at h
      rcases h with (h | h) | h
      · exact .inl h
      · exact .inr ⟨q, by simp, .inl h⟩
      · exact .inr ⟨q, by simp, .inr h⟩
    · exact .inr ⟨r, by simp [hr], h⟩

theorem masks_get : ∀ (l : List Oper) (acc : List Nat) (i : Nat), (i < acc.length → (masks l acc)[i]? = acc[i]?) ∧
    (∀ o, l[i]? = some o → (∀ q ∈ preds o, q < acc.length + i) → ∀ j, ((masks l acc).getD (acc.length + i) 0).testBit j = true → ∃ q ∈ preds o, q = j ∨ ((masks l acc).getD q 0).testBit j = true)
  | [], acc, i => ⟨fun h => rfl, fun o h => by simp at h⟩
  | o :: r, acc, i => by
    have keep : ∀ k, k < acc.length → (masks (o :: r) acc)[k]? = acc[k]? := by
      intro k hk
      simp only [masks]
      rw [(masks_get r (acc ++ [maskOf o acc]) k).1 (by simp; omega), List.getElem?_append_left hk]
    refine ⟨keep i, fun o' ho hq j hj => ?_⟩
    cases i with
    | zero =>
      simp at ho; subst ho
      have h0 : (masks (o :: r) acc).getD acc.length 0 = maskOf o acc := by
        simp only [masks, List.getD_eq_getElem?_getD]
        rw [(masks_get r (acc ++ [maskOf o acc]) acc.length).1 (by simp)]
        simp
      rw [Nat.add_zero, h0] at hj
      rcases testBit_fold acc j _ _ hj with h | ⟨q, h1, h2⟩
      · simp at h
      · refine ⟨q, h1, h2.imp id fun h => ?_⟩
        rw [List.getD_eq_getElem?_getD, keep q (by simpa using hq q h1), ← List.getD_eq_getElem?_getD]; exact h
    | succ i =>
      have := (masks_get r (acc ++ [maskOf o acc]) i).2 o' (by simpa using ho) (fun q h => by have := hq q h; simp; omega) j (by
        simp only [masks] at hj
        simpa [Nat.add_assoc, Nat.add_comm 1 i] using hj)
      simpa [masks] using this

theorem mem_preds {o : Oper} {q : Nat} : q ∈ preds o ↔ ∃ e ∈ o.after, Region.binds .any e = true ∧ e.on = q := by
  simp [preds]

theorem wp_drawn (hT : TabOk P T) (hN : dstOk N ops.toList = true) {W : Nat → Wr} {F : Nat → List Loc} {D : List (List Loc × List Loc)} (hD : ∀ (i : Nat) o, ops[i]? = some o → D[i]? = some (wlocs o.dst (W i), F i))
    (hok : drawOk ops D = true) {σ' : St} (hQ : ∀ gv a w, RelG T E N gv σ' a w → Q .normal a w) :
    ∀ (n : Nat) (listed : Array Bool) (gv : GV) (σ : St) (a : Act) (w : World), listed.size = ops.size → ((List.range ops.size).filter fun i => !listed.getD i true).length = n →
      (∀ (i : Nat) o, ops[i]? = some o → listed.getD i true = true → ∀ q ∈ preds o, listed.getD q false = true) →
      Exec (ConSem P T) T ops W F ((List.range ops.size).filter fun i => !listed.getD i true) σ σ' → RelG T E N gv σ a w → wpAny P .any ops Q n listed a w := by
  simp only [drawOk, Bool.and_eq_true, List.all_eq_true, List.mem_range] at hok
  obtain ⟨hback, hap⟩ := hok
  have hback : ∀ (i : Nat) o, ops[i]? = some o → ∀ q ∈ preds o, q < i := fun i o ho q hq => by
    have := hback i (Array.getElem?_eq_some_iff.1 ho).1
    rw [ho] at this
    simpa using List.all_eq_true.1 this q hq
  -- what comes ahead of what may go next, has gone
  have hanc : ∀ (listed : Array Bool), (∀ (i : Nat) o, ops[i]? = some o → listed.getD i true = true → ∀ q ∈ preds o, listed.getD q false = true) →
      ∀ (i : Nat) o, ops[i]? = some o → (∀ q ∈ preds o, listed.getD q false = true) → ∀ j, ((masks ops.toList []).getD i 0).testBit j = true → listed.getD j false = true := by
    intro listed hcl i
    induction i using Nat.strongRecOn with
    | _ i ih =>
      intro o ho hp j hj
      obtain ⟨q, h1, h2⟩ := (masks_get ops.toList [] i).2 o (by simpa using ho) (fun q hq => by simpa using hback i o ho q hq) j (by simpa using hj)
      rcases h2 with rfl | h2
      · exact hp _ h1
      · have hqi := hback i o ho q h1
        have hqn : q < ops.size := Nat.lt_trans hqi (Array.getElem?_eq_some_iff.1 ho).1
        have hql := hp q h1
        refine ih q hqi ops[q] (by simp [hqn]) (hcl q ops[q] (by simp [hqn]) ?_) j h2
        rw [Array.getD_eq_getD_getElem?] at hql ⊢
        cases hz : listed[q]? with
        | none => simp [hz] at hql
        | some b => simp [hz] at hql ⊢; exact hql
  have hready : ∀ (listed : Array Bool) (i : Nat), i ∈ Region.ready .any ops listed ↔ i < ops.size ∧ listed.getD i true = false ∧ ∀ o, ops[i]? = some o → ∀ q ∈ preds o, listed.getD q false = true := by
    intro listed i
    simp only [Region.ready, List.mem_filter, List.mem_range, Bool.and_eq_true, Bool.not_eq_true']
    refine and_congr_right fun hi => and_congr_right fun _ => ?_
    have hio : ops[i]? = some ops[i] := by simp [hi]
    simp only [hio, Option.map_some, Option.getD_some, Option.some.injEq, forall_eq']
    rw [Array.all_eq_true_iff_forall_mem]
    constructor
    · intro h q hq
      obtain ⟨e, he, hb, rfl⟩ := mem_preds.1 hq
      simpa [hb] using h e he
    · intro h e he
      cases hb : Region.binds .any e with
      | false => simp
      | true => simpa using h e.on (mem_preds.2 ⟨e, he, hb, rfl⟩)
  intro n
  induction n with
  | zero =>
    intro listed gv σ a w hls hlen hcl hex hr
    have hnil := List.length_eq_zero_iff.1 hlen
    rw [hnil] at hex
    have hs : σ' = σ := hex
    subst hs
    refine ⟨?_, hQ gv a w hr⟩
    rw [List.eq_nil_iff_forall_not_mem]
    intro i hi
    obtain ⟨h1, h2, _⟩ := (hready listed i).1 hi
    have : i ∈ ((List.range ops.size).filter fun i => !listed.getD i true) := by simp only [List.mem_filter, List.mem_range, h2]; exact ⟨h1, rfl⟩
    rw [hnil] at this
    cases this
  | succ n ih =>
    intro listed gv σ a w hls hlen hcl hex hr
    have hunl : ∀ q, q < ops.size → listed.getD q true = true → listed.getD q false = true := by
      intro q hq h
      rw [Array.getD_eq_getD_getElem?] at h ⊢
      have : listed[q]? = some listed[q] := by simp [hls, hq]
      simpa [this] using h
    refine ⟨fun hnr => ?_, fun i hi => ?_⟩
    · -- the least one that has not gone may go
      exfalso
      have hne : ((List.range ops.size).filter fun i => !listed.getD i true) ≠ [] := by intro e; rw [e] at hlen; simp at hlen
      have hex2 : ∃ i, i < ops.size ∧ listed.getD i true = false := by
        obtain ⟨i, hi⟩ := List.exists_mem_of_ne_nil _ hne
        simp only [List.mem_filter, List.mem_range, Bool.not_eq_true'] at hi
        exact ⟨i, hi⟩
      have key : ∀ k, (∃ i, i < k ∧ i < ops.size ∧ listed.getD i true = false) → ∃ i, i ∈ Region.ready .any ops listed := by
        intro k
        induction k with
        | zero => rintro ⟨i, h, _⟩; omega
        | succ k ihk =>
          rintro ⟨i, h1, h2, h3⟩
          by_cases hs : ∃ i, i < k ∧ i < ops.size ∧ listed.getD i true = false
          · exact ihk hs
          · have hik : i = k := by
              by_cases h : i = k
              · exact h
              · exact absurd ⟨i, by omega, h2, h3⟩ hs
            subst hik
            refine ⟨i, (hready listed i).2 ⟨h2, h3, fun o ho q hq => ?_⟩⟩
            have hqi := hback i o ho q hq
            refine hunl q (by omega) ?_
            cases hb : listed.getD q true with
            | true => rfl
            | false => exact absurd ⟨q, hqi, by omega, hb⟩ hs
      obtain ⟨i, h1, h2⟩ := hex2
      obtain ⟨j, hj⟩ := key (i + 1) ⟨i, by omega, h1, h2⟩
      rw [hnr] at hj
      cases hj
    · obtain ⟨h1, h2, h3⟩ := (hready listed i).1 hi
      have hio : ops[i]? = some ops[i] := by simp [h1]
      have hmem : i ∈ ((List.range ops.size).filter fun i => !listed.getD i true) := by simp only [List.mem_filter, List.mem_range, h2]; exact ⟨h1, rfl⟩
      have hpw : ((List.range ops.size).filter fun i => !listed.getD i true).Pairwise (· < ·) := List.Pairwise.filter _ List.pairwise_lt_range
      obtain ⟨A, B, hAB⟩ := List.append_of_mem hmem
      have hmemAB : ∀ k, k ∈ A ∨ k ∈ B → k < ops.size ∧ listed.getD k true = false := by
        intro k hk
        have : k ∈ ((List.range ops.size).filter fun i => !listed.getD i true) := by rw [hAB]; rcases hk with h | h <;> simp [h]
        simpa only [List.mem_filter, List.mem_range, Bool.not_eq_true'] using this
      rw [hAB] at hex hpw hlen
      have hAi : ∀ k ∈ A, k < i := fun k hk => (List.pairwise_append.1 hpw).2.2 k hk i (by simp)
      have hBi : ∀ k ∈ B, i < k := fun k hk => (List.pairwise_cons.1 (List.pairwise_append.1 hpw).2.1).1 k hk
      have hfront := Exec.front hio (A := A) (B := B) (fun k hk o ho => by
        have hki := hAi k hk
        have hnb : ¬ ((masks ops.toList []).getD i 0).testBit k = true := by
          intro hb
          have := hanc listed hcl i ops[i] hio (h3 ops[i] hio) k hb
          have hk2 := (hmemAB k (.inl hk)).2
          rw [Array.getD_eq_getD_getElem?] at this hk2
          cases hz : listed[k]? with
          | none => simp [hz] at this
          | some b => simp [hz] at this hk2; rw [this] at hk2; cases hk2
        have := hap i h1 k hki
        simp only [Bool.or_eq_true] at this
        rcases this with h | h
        · rw [List.getD_eq_getElem?_getD, List.getD_eq_getElem?_getD, hD k o ho, hD i ops[i] hio] at h
          exact h
        · exact absurd h hnb) hex
      obtain ⟨o', h4, h5, h6⟩ := hfront
      rw [hio] at h4; simp at h4; subst h4
      refine guard_wpOp hT hr hio (dstOk_mem hN hio) h5 fun gv' a' w' hr' => ?_
      have hget : ∀ k, (listed.setIfInBounds i true).getD k true = if k = i then true else listed.getD k true := by
        intro k
        simp only [Array.getD_eq_getD_getElem?, Array.getElem?_setIfInBounds]
        by_cases hk : i = k
        · subst hk; simp [hls, h1]
        · rw [if_neg hk, if_neg (fun e => hk e.symm)]
      have hget2 : ∀ k, (listed.setIfInBounds i true).getD k false = if k = i then true else listed.getD k false := by
        intro k
        simp only [Array.getD_eq_getD_getElem?, Array.getElem?_setIfInBounds]
        by_cases hk : i = k
        · subst hk; simp [hls, h1]
        · rw [if_neg hk, if_neg (fun e => hk e.symm)]
      have hfil : ((List.range ops.size).filter fun k => !(listed.setIfInBounds i true).getD k true) = A ++ B := by
        have e1 : ((List.range ops.size).filter fun k => !(listed.setIfInBounds i true).getD k true) = (((List.range ops.size).filter fun i => !listed.getD i true).filter fun k => k ≠ i) := by
          rw [List.filter_filter]
          apply List.filter_congr
          intro k _
          rw [hget]
          by_cases hk : k = i <;> simp [hk]
        rw [e1, hAB, List.filter_append, List.filter_cons]
        simp only [ne_eq, not_true_eq_false, decide_false, Bool.false_eq_true, if_false]
        rw [List.filter_eq_self.2 (fun k hk => by have := hAi k hk; simp; omega), List.filter_eq_self.2 (fun k hk => by have := hBi k hk; simp; omega)]
      refine ih _ gv' _ a' w' (by simp [hls]) (by rw [hfil]; simp at hlen ⊢; omega) (fun k o ho hk q hq => ?_) (by rw [hfil]; exact h6) hr'
      rw [hget2]
      rw [hget] at hk
      by_cases hqi : q = i
      · simp [hqi]
      · rw [if_neg hqi]
        by_cases hki : k = i
        · subst hki; exact h3 o ho q hq
        · rw [if_neg hki] at hk; exact hcl k o ho hk q hq
end
end Go.AW
