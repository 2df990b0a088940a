/- From contracts to the rows: for every input the law returns true, and each argument reads as it did. -/
import Derived.Test.YtocalihefpafgaaA15
import Derived.Test.YtocalihefpafgaaTab
import Derived.WalkKit
import Derived.ProofKit
import Derived.ChangeOld
import Derived.JoinedCond
set_option linter.unusedVariables false
set_option linter.unusedSimpArgs false
namespace Go.AW
open Go.ChangeShapes Go.WideShapes Go.ChangeAt Go.RowKit Go.Proofs Go.Proofs.Ytocalihefpafgaa
open Go.Proofs.Ytocalihefpafgaa.Rows (uptoBulk uptoBulkAll uptoSmall)

def argV (T : Tab) (t : Nat) (qs : List PV) : V := if (T t).d.isAgg then .agg (qs.map .p) else match qs with | [q] => .one (.p q) | _ => .undef
def argVs (T : Tab) : List Nat → List (List PV) → List V
  | t :: ts, q :: qs => argV T t q :: argVs T ts qs
  | _, _ => []
def WfArgs (T : Tab) : List Nat → List (List PV) → Prop
  | [], [] => True
  | t :: ts, q :: qs => Wf T 8 t q ∧ WfArgs T ts qs
  | _, _ => False

section
variable {H : Type} {enc : TypeId × Value → H} {P : Program} {T : Tab} {w : World}

theorem okTy_size {n t : Nat} (h : okTy T n t = true) (ha : (T t).d.isAgg = false) : (T t).size = 1 := by
  cases n with
  | zero => simp [okTy] at h
  | succ n =>
    simp only [okTy] at h
    generalize (T t).d = d at h ha
    cases d <;> simp_all [TD.isAgg]

theorem argV_rep (hT : TabOk P T) {n t : Nat} {v : Value} {qs : List PV} {base : Nat} {gv : GV} (ho : okTy T n t = true) (hw : Wf T n t qs) (hv : Value.okWide P w .any base t v) (hr : RepAll w qs v.cells.toList) :
    RepV T w (fun b => b < w.heap.size) (fun _ => none) gv (argV T t qs) v := by
  obtain ⟨ds, hds, hd⟩ := (hT t (okTy_other ho)).desc
  unfold Value.okWide at hv
  rw [hds] at hv
  have hlen := Wf_len ho hw
  unfold argV
  cases ha : (T t).d.isAgg with
  | true =>
    rw [if_pos rfl]
    have : ∃ cs, v = .agg cs := by
      generalize (T t).d = d at hd ha
      cases d <;> simp [TD.isAgg] at ha <;> cases ds <;> simp [descOk] at hd
      · obtain ⟨cs, h, _⟩ := hv; exact ⟨cs, h⟩
      · obtain ⟨cs, h, _⟩ := hv; exact ⟨cs, h⟩
    obtain ⟨cs, rfl⟩ := this
    refine ⟨cs, rfl, by have := hr.1; simpa [Value.cells] using this.symm, fun k c u hc hu => ?_⟩
    rw [List.getElem?_map] at hc
    cases hq : qs[k]? with
    | none => rw [hq] at hc; cases hc
    | some q =>
      rw [hq] at hc
      simp only [Option.map_some, Option.some.injEq] at hc
      subst hc
      exact hr.2 k q u hq (by simpa [Value.cells] using hu)
  | false =>
    rw [if_neg (by decide)]
    have hs := okTy_size ho ha
    match qs, hlen with
    | [q], _ =>
      have hne : ∀ cs, v ≠ .agg cs := by
        rintro cs rfl
        cases n with
        | zero => simp [okTy] at ho
        | succ n =>
          simp only [okTy] at ho
          generalize (T t).d = d at hd ha ho
          cases d <;> simp [TD.isAgg] at ha ho <;> cases ds <;> simp [descOk] at hd <;> simp [Cell.okWide, Cell.ok, hds] at hv
      have hc : v.cells = #[v] := by
        cases v <;> first | rfl | exact absurd rfl (hne _)
      rw [hc] at hr
      exact hr.2 0 q v rfl rfl
    | [], h => simp at h; omega
    | _ :: _ :: _, h => simp at h; omega

theorem open_all (hT : TabOk P T) {base : Nat} {gv : GV} : ∀ (ts : List Nat) (vs : List Value) (ds : List (DataW H)) (ps : List MemPlace), ts.all (okTy T 8) = true → DataW.TrodAll enc P w 0 (fun _ => true) true ts vs ds ps →
    (∀ (j : Nat) t v, ts[j]? = some t → vs[j]? = some v → Value.okWide P w .any base t v) → (∀ m ∈ DataW.weightsEach P ts ds, m ≤ reachBytes) →
    ∃ qss, WfArgs T ts qss ∧ pbLL qss ≤ uptoBulkAll ds ∧ vs.length = ts.length ∧ ds.length = ts.length ∧ (argVs T ts qss).length = ts.length ∧
      ∀ (k : Nat) a v, (argVs T ts qss)[k]? = some a → vs[k]? = some v → RepV T w (fun b => b < w.heap.size) (fun _ => none) gv a v
  | [], [], [], ps, _, _, _, _ => ⟨[], trivial, by simp [pbLL], rfl, rfl, rfl, fun k a v h => by simp [argVs] at h⟩
  | t :: ts, v :: vs, d :: ds, ps, ho, hr, hv, hw => by
    obtain ⟨p, q, ⟨fuel, h1⟩, h2, rfl⟩ := hr
    simp only [List.all_cons, Bool.and_eq_true] at ho
    simp only [DataW.weightsEach, List.mem_append] at hw
    obtain ⟨qs, k1, k2, k3⟩ := open_trod hT 8 t ho.1 fuel _ _ h1 (fun m hm => hw m (Or.inl hm))
    obtain ⟨qss, l1, l2, l3, l4, l5, l6⟩ := open_all hT (gv := gv) ts vs ds q ho.2 h2 (fun j t' v' hj hj' => hv (j + 1) t' v' (by simpa using hj) (by simpa using hj')) (fun m hm => hw m (Or.inr hm))
    have k3 : pbL qs ≤ uptoBulk d := k3
    refine ⟨qs :: qss, ⟨k2, l1⟩, by simp only [pbLL, uptoBulkAll]; omega, by simp [l3], by simp [l4], by simp [argVs, l5], fun k a u ha hu => ?_⟩
    cases k with
    | zero =>
      simp [argVs] at ha hu
      subst ha hu
      exact argV_rep hT ho.1 k2 (hv 0 t v rfl rfl) k1
    | succ k => exact l6 k a u (by simpa [argVs] using ha) (by simpa using hu)
  | [], _ :: _, _, _, _, h, _, _ => by simp [DataW.TrodAll] at h
  | [], [], _ :: _, _, _, h, _, _ => by simp [DataW.TrodAll] at h
  | _ :: _, [], _, _, _, h, _, _ => by simp [DataW.TrodAll] at h
  | _ :: _, _ :: _, [], _, _, h, _, _ => by simp [DataW.TrodAll] at h

theorem shut_all {W W' : World} (hl : laidOutB P = true) (hb : Below W.heap.size W W') : ∀ (ts : List Nat) (vs : List Value) (ds : List (DataW H)) (ps : List MemPlace), ts.all (fun t => P.readableRec t && decide (t < P.types.size)) = true →
    DataW.TrodAll enc P W 0 (fun _ => true) true ts vs ds ps → DataW.TrodAll enc P W' 0 (fun b => decide (b < W.heap.size)) true ts vs ds ps
  | [], [], [], ps, _, h => h
  | t :: ts, v :: vs, d :: ds, ps, ho, hr => by
    obtain ⟨p, q, h1, h2, rfl⟩ := hr
    simp only [List.all_cons, Bool.and_eq_true, decide_eq_true_eq] at ho
    have hlt : ∀ x ∈ p, x.block < W.heap.size := by obtain ⟨m, hm⟩ := h1; exact DataW.trod_lt m _ _ _ hm
    exact ⟨p, q, Below.trod hl ho.1.1 ho.1.2 h1 hb hlt, shut_all hl hb ts vs ds q ho.2 h2, rfl⟩
  | [], _ :: _, _, _, _, h => by simp [DataW.TrodAll] at h
  | [], [], _ :: _, _, _, h => by simp [DataW.TrodAll] at h
  | _ :: _, [], _, _, _, h => by simp [DataW.TrodAll] at h
  | _ :: _, _ :: _, [], _, _, h => by simp [DataW.TrodAll] at h
end

theorem wf_int {T : Tab} {n t : Nat} {k : IntKind} {q : List PV} (h : Wf T (n + 1) t q) (hd : (T t).d = .int k) : ∃ m, q = [.int k m] ∧ (Lit.int k m).wf = true := by
  simpa only [Wf, hd] using h
theorem wf_bool {T : Tab} {n t : Nat} {q : List PV} (h : Wf T (n + 1) t q) (hd : (T t).d = .bool) : ∃ b, q = [.bool b] := by
  simpa only [Wf, hd] using h
theorem wf_str {T : Tab} {n t : Nat} {q : List PV} (h : Wf T (n + 1) t q) (hd : (T t).d = .str) : ∃ s : ByteArray, q = [.str s] ∧ s.size ≤ reachBytes := by
  simpa only [Wf, hd] using h
theorem wf_sl {T : Tab} {n t e : Nat} {q : List PV} (h : Wf T (n + 1) t q) (hd : (T t).d = .sl e) : ∃ xs, q = [.slice xs] ∧ xs.length * (T e).bytes ≤ reachBytes ∧ xs.length ≤ maxLen ∧ ∀ x ∈ xs, Wf T n e x := by
  simpa only [Wf, hd] using h
theorem wf_arr {T : Tab} {n t m e : Nat} {q : List PV} (h : Wf T (n + 1) t q) (hd : (T t).d = .arr m e) : ∃ xs : List (List PV), xs.length = m ∧ q = xs.flatten ∧ ∀ x ∈ xs, Wf T n e x := by
  simpa only [Wf, hd] using h
theorem wf_struct {T : Tab} {n t : Nat} {fs : List (Nat × Nat)} {q : List PV} (h : Wf T (n + 1) t q) (hd : (T t).d = .struct fs) : WfFields (Wf T n) fs q := by
  simpa only [Wf, hd] using h
theorem wf_field {W : Nat → List PV → Prop} {o t : Nat} {fs : List (Nat × Nat)} {q : List PV} (h : WfFields W ((o, t) :: fs) q) : ∃ a b, q = a ++ b ∧ W t a ∧ WfFields W fs b := h
theorem wf_end {W : Nat → List PV → Prop} {q : List PV} (h : WfFields W [] q) : q = [] := h
theorem wfArgs_cons {T : Tab} {t : Nat} {ts : List Nat} {qss : List (List PV)} (h : WfArgs T (t :: ts) qss) : ∃ q r, qss = q :: r ∧ Wf T 8 t q ∧ WfArgs T ts r := by
  cases qss with
  | nil => exact h.elim
  | cons q r => exact ⟨q, r, rfl, h⟩
theorem wfArgs_nil {T : Tab} {qss : List (List PV)} (h : WfArgs T [] qss) : qss = [] := by
  cases qss with
  | nil => rfl
  | cons q r => exact h.elim

theorem own : ownKnob Try.prog.godebug = none := by kernel_rfl
theorem laidOut : laidOutB Try.prog = true := by kernel_rfl

section
variable {H : Type} {enc : TypeId × Value → H} {n : Nat} {fn : Func} {s : ChangeSpec} {ts : List Nat} {os : Os}

set_option maxRecDepth 100000 in
/-- The one step that both forms share. -/
theorem law_step (hp : fn.params.toList = ts) (hr : fn.resultTypes = #[4]) (hs : s.vars = []) (hspec : ∀ (H : Type) (ds : List (DataW H)), ds.length = ts.length → s.fn H ds = { results := [.lit (.bool true)], args := ds })
    (hok : ts.all (okTy tab 8) = true) (hread : ts.all (fun t => Try.prog.readableRec t && decide (t < Try.prog.types.size)) = true) {W : World} {base : Nat} {args : Array Value} {ds gs : List (DataW H)} {before : List MemPlace}
    (hval : ∀ (j : Nat) t v, fn.params[j]? = some t → args[j]? = some v → Value.okWide Try.prog W .any base t v) (hW : DataW.Whole enc Try.prog fn.params.toList s.vars false W args.toList ds gs before)
    (hsz : (DataW.weightsEach Try.prog (fn.params.toList ++ s.plain.varTypes Try.prog) (ds ++ gs)).all (· ≤ reachBytes) = true)
    (h : ∀ qss, WfArgs tab ts qss → pbLL qss ≤ uptoBulkAll (ds ++ gs) → ConSem Try.prog tab n (argVs tab ts qss) [] (.one (.p (.bool true))) []) :
    Calls Try.prog n args W fun e W' => ∃ v, e = .returned v ∧ s.post enc Try.prog fn false true false false W args v W' := by
  have hW' := hW
  obtain ⟨p, q, hA, hV, rfl, hfz, hnd⟩ := hW
  rw [hs] at hV
  obtain ⟨rfl, rfl⟩ := trodVars_none hV
  have hvt : s.plain.varTypes Try.prog = [] := by
    have : s.plain.vars = s.vars := rfl
    simp [DataSpec.varTypes, this, hs]
  rw [hvt] at hsz
  rw [hp] at hA hsz
  simp only [List.append_nil] at hsz h hW'
  have hw : ∀ m ∈ DataW.weightsEach Try.prog ts ds, m ≤ reachBytes := fun m hm => by
    have := List.all_eq_true.1 hsz m hm; simpa using this
  obtain ⟨qss, h1, h2, h3, h4, h5, h6⟩ := open_all (gv := fun _ => (none, 0)) tabOk ts args.toList ds p hok hA (fun j t v hj hj' => hval j t v (by rw [← hp] at hj; simpa using hj) (by simpa using hj')) hw
  have hc := (h qss h1 h2).2 W (fun _ => (none, 0)) (fun b => b < W.heap.size) args (fun b hb => ⟨hb, by rintro ⟨id, o, ho, _⟩; simp [mOf] at ho⟩)
    ⟨rfl, rfl, rfl, Nat.le_refl _, fun _ _ _ => rfl, fun id o ho => by simp [mOf] at ho, fun id o b ho => by simp [mOf] at ho, fun id id' o o' b ho => by simp [mOf] at ho, fun id o b ho => by simp [mOf] at ho, Pers.refl _ _⟩ (by rw [h5, ← h3]; simp) (fun k a v ha hv => by
      have := h6 k a v ha (by simpa using hv)
      have hm : mOf [] = fun _ => none := by funext id; rfl
      rw [hm]; exact this)
  refine hc.mono fun e W' ⟨v, gv', he, hrel, hrv⟩ => ?_
  have hv : v = .bool true := rp_bool hrv
  subst hv
  have bel : Below W.heap.size W W' := ⟨hrel.os, hrel.tape, hrel.output, hrel.size, fun k hk => hrel.keep k hk (by rintro ⟨id, o, ho, _⟩; simp [mOf] at ho)⟩
  refine ⟨_, he, ds, [], p, [], p, [], hW', ?_, ?_, ?_, bel.frame _, fun h => by cases h⟩
  · rw [List.append_nil, hspec H ds h4, hr]
    exact trodAll_mk1 (shut_bool Try.underlying4 _)
  · rw [List.append_nil, hspec H ds h4, hp]
    exact shut_all laidOut bel ts args.toList ds p hread hA
  · rw [List.append_nil, hspec H ds h4, hs]
    rfl

set_option maxRecDepth 100000 in
/-- For every input. -/
theorem law_said (started : os.Started) (noInit : Try.checked.prog.inits.idxOf? n = none) (hfn : Try.checked.prog.funcs[n]? = some fn) (hp : fn.params.toList = ts) (hr : fn.resultTypes = #[4]) (hs : s.vars = [])
    (hspec : ∀ (H : Type) (ds : List (DataW H)), ds.length = ts.length → s.fn H ds = { results := [.lit (.bool true)], args := ds })
    (hok : ts.all (okTy tab 8) = true) (hread : ts.all (fun t => Try.prog.readableRec t && decide (t < Try.prog.types.size)) = true)
    (witness : ∃ (w : World) (tape : Tape) (i : Input), w.os = os ∧ (w.forCall tape i).Shaped Try.checked.prog ∧ i.vars = [] ∧ Input.okWide Try.checked.prog (w.forCall tape i) .any w.heap.size n i ∧
      s.pre6 enc Try.checked.prog fn [] false (w.forCall tape i).memory i.args ∧ ({} : Assume).holds Try.checked.prog (lone (Frame.enter Try.checked.prog n i.args .normal) [] (w.forCall tape i)))
    (h : ∀ qss, WfArgs tab ts qss → ConSem Try.prog tab n (argVs tab ts qss) [] (.one (.p (.bool true))) []) :
    ReturnsInHanded {} Try.checked os n .any (s.pre6 enc Try.checked.prog fn [] false) (s.post enc Try.checked.prog fn false true false false) :=
  returnsInHanded_of_change_sized (C := Try.checked) own started noInit hfn witness fun W base args ds gs before hval hW hc hsz _ =>
    law_step hp hr hs hspec hok hread hval hW hsz (fun qss hq _ => h qss hq)

set_option maxRecDepth 100000 in
/-- Where what it reads is of bulk at most 1048576. -/
theorem law_upto {F : Stop.Interp} (started : os.Started) (noInit : Try.checked.prog.inits.idxOf? n = none) (hfn : Try.checked.prog.funcs[n]? = some fn) (hp : fn.params.toList = ts) (hr : fn.resultTypes = #[4]) (hs : s.vars = [])
    (hspec : ∀ (H : Type) (ds : List (DataW H)), ds.length = ts.length → s.fn H ds = { results := [.lit (.bool true)], args := ds })
    (hok : ts.all (okTy tab 8) = true) (hread : ts.all (fun t => Try.prog.readableRec t && decide (t < Try.prog.types.size)) = true)
    (witness : ∃ (w : World) (tape : Tape) (i : Input), w.os = os ∧ (w.forCall tape i).Shaped Try.checked.prog ∧ i.vars = [] ∧ Input.okWide Try.checked.prog (w.forCall tape i) .any w.heap.size n i ∧
      (Rows.OpenSpec.upto s).pre6 enc Try.checked.prog fn [] false (w.forCall tape i).memory i.args ∧ ({} : Assume).holds Try.checked.prog (lone (Frame.enter Try.checked.prog n i.args .normal) [] (w.forCall tape i)))
    (h : ∀ qss, WfArgs tab ts qss → pbLL qss ≤ 1048576 → ConSem Try.prog tab n (argVs tab ts qss) [] (.one (.p (.bool true))) []) :
    ReturnsInHanded {} Try.checked os n .any ((Rows.OpenSpec.upto s).pre6 enc Try.checked.prog fn [] false) (((Rows.OpenSpec.upto s).at F).post enc Try.checked.prog fn false true false false) := by
  refine returnsInHanded_of_calls own started noInit witness ?_
  intro w tape i _ _ _ hok' hpre hholds
  obtain ⟨_, _, _, fn', hfn', _, _, _, _, hval⟩ := hok'
  have e : fn' = fn := Option.some.inj (hfn'.symm.trans hfn)
  subst e
  obtain ⟨ds, gs, before, hw, hc, hkk⟩ := (OpenSpec.pre_some (k := uptoSmall) rfl [] false _ _).1 hpre.1
  have hw' := DataW.Whole.of_heap (w' := w.forCall tape i) (by rfl) hw
  have hk : uptoBulkAll (ds ++ gs) ≤ 1048576 := of_decide_eq_true hkk
  refine (law_step (s := s) hp hr hs hspec hok hread hval hw' (hpre.2.weights hw) (fun qss hq hb => h qss hq (Nat.le_trans hb hk))).mono fun e W' ⟨v, he, hp⟩ => ?_
  subst he
  exact ChangeSpec.post_blind (s := s) hp
end
end Go.AW
