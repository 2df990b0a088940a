/- The soundness of the abstract operations, one by one. -/
import Derived.Test.YtocalihefpafgaaA3
set_option linter.unusedVariables false
set_option linter.unusedSimpArgs false
namespace Go.AW

def mOf (M : List (Nat × Obj)) (id : Nat) : Option Obj := (M.find? (fun x => x.1 == id)).map (·.2)

/-- What a contract means. -/
def ConSem (P : Program) (T : Tab) : Con := fun f args M r M' =>
  (∃ fn, P.funcs[f]? = some fn ∧ fn.body.isSome = true ∧ (fn.name == "runtime.NumGoroutine") = false) ∧ ∀ (w : World) (gv : GV) (J : Nat → Prop) (vs : Array Value) (hJ : ∀ b, J b → b < w.heap.size ∧ ¬ ∃ id o, mOf M id = some o ∧ blk gv id = some b),
    RelM T ⟨w, mOf M, gv, J, fun b => ∃ id o, mOf M id = some o ∧ blk gv id = some b, hJ⟩ gv (mOf M) w →
    vs.size = args.length → (∀ (k : Nat) a v, args[k]? = some a → vs[k]? = some v → RepV T w J (mOf M) gv a v) →
    Calls P f vs w (fun e w' => ∃ v gv', e = .returned v ∧
      RelM T ⟨w, mOf M, gv, J, fun b => ∃ id o, mOf M id = some o ∧ blk gv id = some b, hJ⟩ gv' (mOf M') w' ∧
      RepV T w' (Imm ⟨w, mOf M, gv, J, fun b => ∃ id o, mOf M id = some o ∧ blk gv id = some b, hJ⟩ (mOf M') gv' w') (mOf M') gv' r v)

section
variable {P : Program} {T : Tab} {E : Env} {N : Nat} {gv : GV} {σ : St} {a : Act} {w : World}

theorem ofConst_rep {I : Nat → Prop} {m : Nat → Option Obj} (v : Value) : RepV T w I m gv (ofConst v) v := by
  unfold ofConst
  split
  · exact RepP.bool _
  · exact RepP.int _ _
  · exact RepP.str _
  · exact RepP.nilp
  · exact RepP.nilsl
  · exact RepP.nilf
  · split
    · rename_i cs h
      refine ⟨cs, rfl, by simp, fun k c v hc hv => ?_⟩
      rw [List.getElem?_map, hv] at hc
      simp at hc; subst hc
      have : okCell v = true := List.all_eq_true.1 h v (List.mem_of_getElem? hv)
      unfold ofCell
      split
      · exact RepP.bool _
      · exact RepP.int _ _
      · exact RepP.str _
      · exact RepP.nilp
      · exact RepP.nilsl
      · rename_i h1 h2 h3 h4 h5
        unfold okCell at this
        split at this <;> simp_all
        exact RepP.nilf
    · trivial
  · trivial

/-- An operand's value, abstractly. -/
def St.ev (σ : St) : Operand → V
  | .tmp t => σ.t t
  | .const v => ofConst v
  | .func f => .one (.p (.func f))
  | .global _ => .undef

theorem ev_rep (hr : RelG T E N gv σ a w) (o : Operand) : RepV T w (Imm E σ.m gv w) σ.m gv (σ.ev o) (a.eval o) := by
  cases o with
  | tmp t => exact hr.t t
  | const v => exact ofConst_rep v
  | func f => exact RepP.func f
  | global g => trivial

theorem run_evR {C : Con} {α : Type} {o : Operand} {k : V → Rd α} {x : α} {fp : List Loc} (h : Run C (evR o k) σ x fp) : ∃ fp', Run C (k (σ.ev o)) σ x fp' := by
  cases o with
  | tmp t => obtain ⟨fp', _, h⟩ := h; exact ⟨fp', h⟩
  | const v => exact ⟨fp, h⟩
  | func f => exact ⟨fp, h⟩
  | global g => exact ⟨fp, h⟩

theorem run_evL {C : Con} {α : Type} : ∀ {l : List Operand} {k : List V → Rd α} {x : α} {fp : List Loc}, Run C (evL l k) σ x fp → ∃ fp', Run C (k (l.map σ.ev)) σ x fp'
  | [], k, x, fp, h => ⟨fp, h⟩
  | o :: r, k, x, fp, h => by
    obtain ⟨fp1, h1⟩ := run_evR h
    obtain ⟨fp2, h2⟩ := run_evL h1
    exact ⟨fp2, h2⟩

theorem run_partR {C : Con} {α : Type} {t : Nat} {cs : List Ce} {off : Nat} {k : V → Rd α} {x : α} {fp : List Loc} (h : Run C (partR T t cs off k) σ x fp) :
    (T t).d ≠ .other ∧ (((T t).d.isAgg = true ∧ off + (T t).size ≤ cs.length ∧ Run C (k (.agg ((cs.drop off).take (T t).size))) σ x fp) ∨
      ((T t).d.isAgg = false ∧ ∃ c, cs[off]? = some c ∧ Run C (k (.one c)) σ x fp)) := by
  unfold partR at h
  split at h
  · exact h.elim
  · rename_i hd; rw [hd]; exact ⟨by simp, .inl ⟨rfl, h.1, h.2⟩⟩
  · rename_i hd; rw [hd]; exact ⟨by simp, .inl ⟨rfl, h.1, h.2⟩⟩
  · rename_i h1 h2 h3
    refine ⟨h1, .inr ⟨?_, h⟩⟩
    generalize (T t).d = d at *
    cases d <;> simp_all [TD.isAgg]

/-! The ends: what follows an operation. -/
theorem wp_value {o : Oper} {Q : Exit → Act → World → Prop} {next : Act → World → Prop} {v : Value} {w' : World} (h : (execOp a.eval o).run P w = .ok (.value v) w') (hn : next (a.put o.dst v) w') : o.wp P a w next Q := by
  unfold Oper.wp; rw [h]; exact hn
theorem wp_skip' {o : Oper} {Q : Exit → Act → World → Prop} {next : Act → World → Prop} {w' : World} (h : (execOp a.eval o).run P w = .ok .skip w') (hn : next (a.put o.dst undef) w') : o.wp P a w next Q := by
  unfold Oper.wp; rw [h]; exact hn

theorem put_get {dst : Option Nat} {v : Value} (hn : a.tmps.size = N) (hd : ∀ d, dst = some d → d < N) (i : Nat) :
    (a.put dst v).tmps.getD i undef = if dst = some i then v else a.tmps.getD i undef := by
  cases dst with
  | none => simp [Act.put]
  | some d =>
    have := hd d rfl
    simp only [Act.put, Option.some.injEq]
    by_cases h : d = i
    · subst h; simp [Array.getD, hn, this]
    · simp only [Array.getD_eq_getD_getElem?, Array.getElem?_setIfInBounds, h, if_false]

theorem RelG.put_turn {gv' : GV} {m' : Nat → Option Obj} {w' : World} {d : Nat} (hr : RelG T E N gv σ a w) (ht : Turn σ.m gv w d m' gv' w')
    (hd : ∀ o, m' d = some o → RepO T w' (Imm E m' gv' w') m' gv' d o) {dst : Option Nat} (hdst : ∀ i, dst = some i → i < N) {v : V} {u : Value} (hv : RepV T w' (Imm E m' gv' w') m' gv' v u) :
    RelG T E N gv' { t := putT σ.t dst v, m := m' } (a.put dst u) w' where
  toRelM := hr.toRelM.turn ht hd
  defers := by cases dst <;> exact hr.defers
  n := by cases dst <;> simp [Act.put, hr.n]
  t := fun i => by
    rw [put_get hr.n hdst]
    cases dst with
    | none => simp only [reduceCtorEq, if_false, putT]; exact RepV.mono (fun b hb => ht.imm b hb) ht.pers (hr.t i)
    | some k =>
      simp only [Option.some.injEq, upd, putT]
      by_cases h : k = i
      · subst h; simp only [if_true]; exact hv
      · rw [if_neg h, if_neg (fun e => h e.symm)]; exact RepV.mono (fun b hb => ht.imm b hb) ht.pers (hr.t i)

theorem RelG.put_grow {w' : World} (hr : RelG T E N gv σ a w) (h1 : w'.tape = w.tape) (h2 : w'.os = w.os) (h3 : w'.output = w.output) (h4 : w.heap.size ≤ w'.heap.size)
    (h5 : ∀ b, b < w.heap.size → w'.heap[b]? = w.heap[b]?) {dst : Option Nat} (hdst : ∀ i, dst = some i → i < N) {v : V} {u : Value} (hv : RepV T w' (Imm E σ.m gv w') σ.m gv v u) :
    RelG T E N gv (σ.app dst ⟨v, []⟩) (a.put dst u) w' := by
  have ht := hr.toRelM.grow_turn h1 h2 h3 h4 h5
  exact hr.put_turn ht (fun o hm => RepO.mono (fun b hb => ht.imm b hb) ht.pers rfl (fun b hb => h5 b (hr.own 0 o b hm hb).1) (hr.rep 0 o hm)) hdst hv

theorem RelG.put (hr : RelG T E N gv σ a w) {dst : Option Nat} (hdst : ∀ i, dst = some i → i < N) {v : V} {u : Value} (hv : RepV T w (Imm E σ.m gv w) σ.m gv v u) :
    RelG T E N gv (σ.app dst ⟨v, []⟩) (a.put dst u) w := hr.put_grow rfl rfl rfl (Nat.le_refl _) (fun _ _ => rfl) hdst hv

/-- What is to be shown of an operation. -/
def Sound (P : Program) (T : Tab) (E : Env) (N : Nat) (σ : St) (a : Act) (w : World) (o : Oper) (wr : Wr) : Prop :=
  ∀ (next : Act → World → Prop) (Q : Exit → Act → World → Prop), (∀ gv' a' w', RelG T E N gv' (σ.app o.dst wr) a' w' → next a' w') → o.wp P a w next Q

theorem sound_value {o : Oper} {v : V} {u : Value} (hr : RelG T E N gv σ a w) (hdst : ∀ i, o.dst = some i → i < N) (h : (execOp a.eval o).run P w = .ok (.value u) w)
    (hv : RepV T w (Imm E σ.m gv w) σ.m gv v u) : Sound P T E N σ a w o ⟨v, []⟩ :=
  fun next Q hn => wp_value h (hn _ _ _ (hr.put hdst hv))

theorem sound_move {o : Oper} {x : Operand} (hr : RelG T E N gv σ a w) (hdst : ∀ i, o.dst = some i → i < N) (ho : o.op = .move x ∨ o.op = .assign x) : Sound P T E N σ a w o ⟨σ.ev x, []⟩ :=
  sound_value hr hdst (by rcases ho with h | h <;> simp [execOp, h] <;> rfl) (ev_rep hr x)

variable (hT : TabOk P T)
include hT

theorem load_rep {t : Nat} {x : V} {u : Value} {wr : Wr} {fp : List Loc} {C : Con} (hr : RelG T E N gv σ a w) (he : RepV T w (Imm E σ.m gv w) σ.m gv x u)
    (h : Run C (loadR T t x) σ wr fp) : ∃ ad r, u = .pointer (some ad) ∧ (Instr.loadAt t u).run P w = .ok r w ∧ RepV T w (Imm E σ.m gv w) σ.m gv wr.v r ∧ wr.ms = [] := by
  -- the cells behind a pointer, and what they stand for
  have key : ∀ (b off : Nat) (arr : Array Value) (e : TypeId) (fr : Nat × Nat) (cs : List Ce) (k : Nat) (vs : List Value) (fp' : List Loc), u = .pointer (some ⟨b, off + k, none⟩) → w.heap[b]? = some (.cells arr e fr) →
      RepL T w (Imm E σ.m gv w) σ.m gv cs vs → (∀ (j : Nat) u, vs[j]? = some u → arr[off + j]? = some u) → Run C (partR T t cs k fun v => .ret ⟨v, []⟩) σ wr fp' →
      ∃ ad r, u = .pointer (some ad) ∧ (Instr.loadAt t u).run P w = .ok r w ∧ RepV T w (Imm E σ.m gv w) σ.m gv wr.v r ∧ wr.ms = [] := by
    intro b off arr e fr cs k vs fp' hx hh hl hc hp
    subst hx
    obtain ⟨hd, hp⟩ := run_partR hp
    rcases hp with ⟨hagg, hlen, hrun⟩ | ⟨hagg, c, hcs, hrun⟩
    · obtain ⟨rfl, rfl⟩ := hrun
      have hl2 := repL_take (repL_drop hl k) (T t).size
      have := run_load_agg hT hd hagg hh (off := off + k) ((vs.drop k).take (T t).size) (by have := hl.1; simp; omega) (fun j u hj => by
        rw [List.getElem?_take] at hj
        split at hj
        · rw [List.getElem?_drop] at hj
          have := hc (k + j) u hj
          rwa [← Nat.add_assoc] at this
        · cases hj)
      exact ⟨_, .agg ((vs.drop k).take (T t).size).toArray, rfl, this, ⟨_, rfl, by simpa using hl2⟩, rfl⟩
    · obtain ⟨rfl, rfl⟩ := hrun
      have hlt : k < vs.length := by
        rw [hl.1]
        exact (List.getElem?_eq_some_iff.1 hcs).1
      have hv : vs[k]? = some vs[k] := by simp [hlt]
      have := run_load_one hT hd hagg hh (off := off + k) vs[k] (hc k _ hv)
      exact ⟨_, vs[k], rfl, this, hl.2 k c _ hcs hv, rfl⟩
  unfold loadR at h
  split at h
  · rename_i id off
    obtain ⟨fp', rfl, h⟩ := h
    obtain ⟨b, cs, h1, h2, h3⟩ := he
    simp only [h1] at h
    obtain ⟨b', arr, e, h4, h5, h6⟩ := hr.rep id _ h1
    have : b' = b := by rw [h2] at h4; simp at h4; exact h4.symm
    subst this
    exact key b' 0 arr e (0, 0) cs off arr.toList fp' (by simpa using h3) h5 h6 (fun j u hj => by simpa using hj) h
  · rename_i cs
    obtain ⟨b, off, arr, e, fr, vs, h1, h2, h3, h4, h5, h6⟩ := he
    exact key b off arr e fr (cs.map .p) 0 vs fp (by simpa using h1) h3 (repL_p h5 h6) h4 h
  · rename_i id n i off
    obtain ⟨fp', rfl, h⟩ := h
    obtain ⟨h0, e, xs, h1, h2, h3⟩ := he
    simp only [h1] at h
    obtain ⟨hn, r, hxi, h⟩ := h
    obtain ⟨b, h4, h5⟩ := h3 hn
    obtain ⟨hz, vs, ⟨ho1, ho2⟩, hvs⟩ := hr.rep id _ h1
    rcases ho2 with ⟨hnil, _⟩ | ⟨g, cap, cur, hv, _, hh, hcap, _, hsz, htake⟩
    · rw [h4] at hnil; simp at hnil
    · rw [h4] at hv; simp at hv
      obtain ⟨rfl, rfl⟩ := hv
      have hi : i < xs.length := (List.getElem?_eq_some_iff.1 hxi).1
      have hrl : r.length = (T e).size := hz r (List.mem_of_getElem? hxi)
      refine key b (i * (T e).size) cur e (0, 0) (r.map .p) off ((vs.drop (i * (T e).size)).take (T e).size) fp' h5 hh ?_ ?_ h
      · have hvl : vs.length = xs.length * (T e).size := ho1
        have hle : i * (T e).size + (T e).size ≤ xs.length * (T e).size := by
          have := Nat.mul_le_mul_right (T e).size (show i + 1 ≤ xs.length from hi)
          rwa [Nat.succ_mul] at this
        refine repL_p (by simp; omega) (fun k q v hq hv => ?_)
        rw [List.getElem?_take] at hv
        split at hv
        · rename_i hk
          rw [List.getElem?_drop] at hv
          exact hvs (i * (T e).size + k) q v (by rw [flatten_get xs (T e).size hz i k r hxi hk]; exact hq) hv
        · cases hv
      · intro j u hj
        rw [List.getElem?_take] at hj
        split at hj
        · rw [List.getElem?_drop, ← htake, List.getElem?_take] at hj
          split at hj
          · simpa using hj
          · cases hj
        · cases hj
  · exact h.elim

theorem sound_load {o : Oper} {t : Nat} {x : Operand} {wr : Wr} {fp : List Loc} {C : Con} (hr : RelG T E N gv σ a w) (hdst : ∀ i, o.dst = some i → i < N) (ho : o.op = .load t x)
    (h : Run C (loadR T t (σ.ev x)) σ wr fp) : Sound P T E N σ a w o wr := by
  obtain ⟨ad, r, h1, h2, h3, h4⟩ := load_rep (P := P) hT hr (ev_rep hr x) h
  obtain ⟨v, ms⟩ := wr
  simp only at h4
  subst h4
  exact sound_value hr hdst (u := r) (by simp [execOp, ho, h2]) h3
end
end Go.AW
