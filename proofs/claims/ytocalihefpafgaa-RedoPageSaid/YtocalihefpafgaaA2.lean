/- What an abstract value says of a concrete one; and that it stays so while memory that it does not speak of is turned. -/
import Derived.Test.YtocalihefpafgaaA1
set_option linter.unusedVariables false
namespace Go.AW

/-- A pure cell and what it stands for: the memory that it leads to lies in blocks of which I holds. -/
inductive RepP (w : World) (I : Nat → Prop) : PV → Value → Prop where
  | bool (b : Bool) : RepP w I (.bool b) (.bool b)
  | int (k : IntKind) (n : Int) : RepP w I (.int k n) (.int k n)
  | str (s : ByteArray) : RepP w I (.str s) (.string s)
  | nilp : RepP w I .nilp (.pointer none)
  | nilsl : RepP w I .nilsl (.slice none 0 0)
  | nilf : RepP w I .nilf .nilFunc
  | func (f : Nat) : RepP w I (.func f) (.func (.func f) #[] #[])
  | nesl (a : Addr) (cap : Nat) : RepP w I .nesl (.slice (some a) 0 cap)
  | sl0 (a : Option Addr) (cap : Nat) (h : a = none → cap = 0) : RepP w I (.slice []) (.slice a 0 cap)
  | sl (xs : List (List PV)) (b off cap sz : Nat) (arr : Array Value) (e : TypeId) (fr : Nat × Nat) (vs : List Value)
      (hI : I b) (hh : w.heap[b]? = some (.cells arr e fr)) (hz : ∀ x ∈ xs, x.length = sz) (hc : xs.length ≤ cap)
      (hv : ∀ (k : Nat) v, vs[k]? = some v → arr[off + k]? = some v) (hl : vs.length = xs.flatten.length)
      (hr : ∀ (k : Nat) q v, xs.flatten[k]? = some q → vs[k]? = some v → RepP w I q v) : RepP w I (.slice xs) (.slice (some ⟨b, off, none⟩) xs.length cap)

theorem RepP.mono {w w' : World} {I I' : Nat → Prop} (h : ∀ b, I b → I' b ∧ w'.heap[b]? = w.heap[b]?) {q : PV} {v : Value} (hr : RepP w I q v) : RepP w' I' q v := by
  induction hr with
  | bool b => exact .bool b
  | int k n => exact .int k n
  | str s => exact .str s
  | nilp => exact .nilp
  | nilsl => exact .nilsl
  | nilf => exact .nilf
  | func f => exact .func f
  | nesl a cap => exact .nesl a cap
  | sl0 a cap h0 => exact .sl0 a cap h0
  | sl xs b off cap sz arr e fr vs hI hh hz hc hv hl _ ih => exact .sl xs b off cap sz arr e fr vs (h b hI).1 ((h b hI).2.trans hh) hz hc hv hl ih

theorem RepP.one {w : World} {I : Nat → Prop} {q : PV} {v : Value} (hr : RepP w I q v) : v.oneCell' = true := by cases hr <;> rfl

theorem rp_bool {w : World} {I : Nat → Prop} {b : Bool} {v : Value} (h : RepP w I (.bool b) v) : v = .bool b := by cases h; rfl
theorem rp_int {w : World} {I : Nat → Prop} {k : IntKind} {n : Int} {v : Value} (h : RepP w I (.int k n) v) : v = .int k n := by cases h; rfl
theorem rp_str {w : World} {I : Nat → Prop} {s : ByteArray} {v : Value} (h : RepP w I (.str s) v) : v = .string s := by cases h; rfl
theorem rp_nilp {w : World} {I : Nat → Prop} {v : Value} (h : RepP w I .nilp v) : v = .pointer none := by cases h; rfl
theorem rp_nilsl {w : World} {I : Nat → Prop} {v : Value} (h : RepP w I .nilsl v) : v = .slice none 0 0 := by cases h; rfl
theorem rp_nesl {w : World} {I : Nat → Prop} {v : Value} (h : RepP w I .nesl v) : ∃ a cap, v = .slice (some a) 0 cap := by cases h; exact ⟨_, _, rfl⟩
theorem rp_nilf {w : World} {I : Nat → Prop} {v : Value} (h : RepP w I .nilf v) : v = .nilFunc := by cases h; rfl
theorem rp_func {w : World} {I : Nat → Prop} {f : Nat} {v : Value} (h : RepP w I (.func f) v) : v = .func (.func f) #[] #[] := by cases h; rfl

abbrev GV := Nat → Option Addr × Nat
def blk (gv : GV) (id : Nat) : Option Nat := (gv id).1.map (·.block)

def RepC (T : Tab) (w : World) (I : Nat → Prop) (m : Nat → Option Obj) (gv : GV) : Ce → Value → Prop
  | .p x, v => RepP w I x v
  | .ptr id off, v => ∃ b cs, m id = some (.box cs) ∧ (gv id).1 = some ⟨b, 0, none⟩ ∧ v = .pointer (some ⟨b, off, none⟩)
  | .osl id n, v => v.oneCell' = true ∧ ∃ e xs, m id = some (.sl e xs) ∧ n ≤ xs.length ∧ (n = xs.length → v = .slice (gv id).1 n (gv id).2)
  | .oel id n i off, v => v.oneCell' = true ∧ ∃ e xs, m id = some (.sl e xs) ∧ n ≤ xs.length ∧
      (n = xs.length → ∃ b, (gv id).1 = some ⟨b, 0, none⟩ ∧ v = .pointer (some ⟨b, i * (T e).size + off, none⟩))
  | .ip cs, v => ∃ (b off : Nat) (arr : Array Value) (e : TypeId) (fr : Nat × Nat) (vs : List Value), v = .pointer (some ⟨b, off, none⟩) ∧ I b ∧ w.heap[b]? = some (.cells arr e fr) ∧
      (∀ (k : Nat) u, vs[k]? = some u → arr[off + k]? = some u) ∧ vs.length = cs.length ∧ ∀ (k : Nat) q u, cs[k]? = some q → vs[k]? = some u → RepP w I q u
  | .bsl id n, v => ∃ b cs, m id = some (.box cs) ∧ (gv id).1 = some ⟨b, 0, none⟩ ∧ v = .slice (some ⟨b, 0, none⟩) n n

/-- Rows of cells, one by one. -/
def RepL (T : Tab) (w : World) (I : Nat → Prop) (m : Nat → Option Obj) (gv : GV) (cs : List Ce) (vs : List Value) : Prop :=
  vs.length = cs.length ∧ ∀ (k : Nat) c v, cs[k]? = some c → vs[k]? = some v → RepC T w I m gv c v

def RepW (T : Tab) (w : World) (I : Nat → Prop) (m : Nat → Option Obj) (gv : GV) : W1 → Value → Prop
  | .one c, v => RepC T w I m gv c v
  | .agg cs, v => ∃ arr, v = .agg arr ∧ RepL T w I m gv cs arr.toList

def RepV (T : Tab) (w : World) (I : Nat → Prop) (m : Nat → Option Obj) (gv : GV) : V → Value → Prop
  | .undef, _ => True
  | .one c, v => RepC T w I m gv c v
  | .agg cs, v => ∃ arr, v = .agg arr ∧ RepL T w I m gv cs arr.toList
  | .tup xs, v => ∃ arr : Array Value, v = .tuple arr ∧ arr.size = xs.length ∧ ∀ (k : Nat) x u, xs[k]? = some x → arr[k]? = some u → RepW T w I m gv x u

def RepO (T : Tab) (w : World) (I : Nat → Prop) (m : Nat → Option Obj) (gv : GV) (id : Nat) : Obj → Prop
  | .box cs => ∃ b arr e, (gv id).1 = some ⟨b, 0, none⟩ ∧ w.heap[b]? = some (.cells arr e (0, 0)) ∧ RepL T w I m gv cs arr.toList
  | .sl e xs => (∀ x ∈ xs, x.length = (T e).size) ∧ ∃ vs : List Value, w.ownsRow 0 e (T e).size (.slice (gv id).1 xs.length (gv id).2) xs.length vs ∧
      ∀ (k : Nat) q v, xs.flatten[k]? = some q → vs[k]? = some v → RepP w I q v

/-- What holds of memory goes on holding of what is named. -/
structure Pers (m : Nat → Option Obj) (gv : GV) (m' : Nat → Option Obj) (gv' : GV) : Prop where
  box : ∀ id cs, m id = some (.box cs) → ∃ cs', m' id = some (.box cs') ∧ (gv' id).1 = (gv id).1
  sl : ∀ id e xs, m id = some (.sl e xs) → ∃ xs', m' id = some (.sl e xs') ∧ xs.length ≤ xs'.length ∧ (xs'.length = xs.length → gv' id = gv id)

theorem Pers.refl (m : Nat → Option Obj) (gv : GV) : Pers m gv m gv := ⟨fun id cs h => ⟨cs, h, rfl⟩, fun id e xs h => ⟨xs, h, Nat.le_refl _, fun _ => rfl⟩⟩

theorem Pers.trans {m m' m'' : Nat → Option Obj} {gv gv' gv'' : GV} (h : Pers m gv m' gv') (k : Pers m' gv' m'' gv'') : Pers m gv m'' gv'' := by
  refine ⟨fun id cs hm => ?_, fun id e xs hm => ?_⟩
  · obtain ⟨cs', h1, h2⟩ := h.box id cs hm
    obtain ⟨cs'', h3, h4⟩ := k.box id cs' h1
    exact ⟨cs'', h3, h4.trans h2⟩
  · obtain ⟨xs', h1, h2, h3⟩ := h.sl id e xs hm
    obtain ⟨xs'', h4, h5, h6⟩ := k.sl id e xs' h1
    exact ⟨xs'', h4, by omega, fun hl => (h6 (by omega)).trans (h3 (by omega))⟩

/-- What a call begins with: the world, the blocks that may be read as they are (J), the blocks that are its own to write (B). -/
structure Env where
  w0 : World
  m0 : Nat → Option Obj
  gv0 : GV
  J : Nat → Prop
  B : Nat → Prop
  jb : ∀ b, J b → b < w0.heap.size ∧ ¬ B b

def Imm (E : Env) (m : Nat → Option Obj) (gv : GV) (w : World) (b : Nat) : Prop :=
  (E.J b ∨ E.w0.heap.size ≤ b) ∧ b < w.heap.size ∧ ∀ id o, m id = some o → blk gv id ≠ some b

structure RelM (T : Tab) (E : Env) (gv : GV) (m : Nat → Option Obj) (w : World) : Prop where
  tape : w.tape = E.w0.tape
  os : w.os = E.w0.os
  output : w.output = E.w0.output
  size : E.w0.heap.size ≤ w.heap.size
  keep : ∀ b, b < E.w0.heap.size → ¬ E.B b → w.heap[b]? = E.w0.heap[b]?
  rep : ∀ id o, m id = some o → RepO T w (Imm E m gv w) m gv id o
  own : ∀ id o b, m id = some o → blk gv id = some b → b < w.heap.size ∧ (E.B b ∨ E.w0.heap.size ≤ b)
  inj : ∀ id id' o o' b, m id = some o → m id' = some o' → blk gv id = some b → blk gv id' = some b → id = id'
  new : ∀ id o b, m id = some o → blk gv id = some b → E.w0.heap.size ≤ b ∨ ((∃ o0, E.m0 id = some o0) ∧ blk E.gv0 id = some b)
  pers : Pers E.m0 E.gv0 m gv

structure RelG (T : Tab) (E : Env) (N : Nat) (gv : GV) (σ : St) (a : Act) (w : World) : Prop extends RelM T E gv σ.m w where
  defers : a.defers = []
  n : a.tmps.size = N
  t : ∀ i, RepV T w (Imm E σ.m gv w) σ.m gv (σ.t i) (a.tmps.getD i undef)

section
variable {T : Tab} {w w' : World} {I I' : Nat → Prop} {m m' : Nat → Option Obj} {gv gv' : GV}

theorem RepC.mono (h : ∀ b, I b → I' b ∧ w'.heap[b]? = w.heap[b]?) (hp : Pers m gv m' gv') {c : Ce} {v : Value} (hr : RepC T w I m gv c v) : RepC T w' I' m' gv' c v := by
  cases c with
  | p x => exact RepP.mono h hr
  | ptr id off =>
    obtain ⟨b, cs, h1, h2, h3⟩ := hr
    obtain ⟨cs', h4, h5⟩ := hp.box id cs h1
    exact ⟨b, cs', h4, h5.trans h2, h3⟩
  | osl id n =>
    obtain ⟨h0, e, xs, h1, h2, h3⟩ := hr
    obtain ⟨xs', h4, h5, h6⟩ := hp.sl id e xs h1
    refine ⟨h0, e, xs', h4, by omega, fun hn => ?_⟩
    rw [h6 (by omega)]; exact h3 (by omega)
  | oel id n i off =>
    obtain ⟨h0, e, xs, h1, h2, h3⟩ := hr
    obtain ⟨xs', h4, h5, h6⟩ := hp.sl id e xs h1
    refine ⟨h0, e, xs', h4, by omega, fun hn => ?_⟩
    rw [h6 (by omega)]; exact h3 (by omega)
  | ip cs =>
    obtain ⟨b, off, arr, e, fr, vs, h1, h2, h3, h4, h5, h6⟩ := hr
    exact ⟨b, off, arr, e, fr, vs, h1, (h b h2).1, (h b h2).2.trans h3, h4, h5, fun k q u hq hu => RepP.mono h (h6 k q u hq hu)⟩
  | bsl id n =>
    obtain ⟨b, cs, h1, h2, h3⟩ := hr
    obtain ⟨cs', h4, h5⟩ := hp.box id cs h1
    exact ⟨b, cs', h4, h5.trans h2, h3⟩

theorem RepL.mono (h : ∀ b, I b → I' b ∧ w'.heap[b]? = w.heap[b]?) (hp : Pers m gv m' gv') {c : List Ce} {v : List Value} (hr : RepL T w I m gv c v) : RepL T w' I' m' gv' c v :=
  ⟨hr.1, fun k c v hc hv => RepC.mono h hp (hr.2 k c v hc hv)⟩

theorem RepW.mono (h : ∀ b, I b → I' b ∧ w'.heap[b]? = w.heap[b]?) (hp : Pers m gv m' gv') {c : W1} {v : Value} (hr : RepW T w I m gv c v) : RepW T w' I' m' gv' c v := by
  cases c with
  | one c => exact RepC.mono h hp hr
  | agg cs => obtain ⟨arr, h1, h2⟩ := hr; exact ⟨arr, h1, h2.mono h hp⟩

theorem RepV.mono (h : ∀ b, I b → I' b ∧ w'.heap[b]? = w.heap[b]?) (hp : Pers m gv m' gv') {c : V} {v : Value} (hr : RepV T w I m gv c v) : RepV T w' I' m' gv' c v := by
  cases c with
  | undef => trivial
  | one c => exact RepC.mono h hp hr
  | agg cs => obtain ⟨arr, h1, h2⟩ := hr; exact ⟨arr, h1, h2.mono h hp⟩
  | tup xs => obtain ⟨arr, h1, h2, h3⟩ := hr; exact ⟨arr, h1, h2, fun k x u hx hu => RepW.mono h hp (h3 k x u hx hu)⟩

theorem RepC.one {c : Ce} {v : Value} (hr : RepC T w I m gv c v) : v.oneCell' = true := by
  cases c with
  | p x => exact RepP.one hr
  | ptr id off => obtain ⟨b, cs, _, _, rfl⟩ := hr; rfl
  | osl id n => exact hr.1
  | oel id n i off => exact hr.1
  | ip cs => obtain ⟨b, off, arr, e, fr, vs, rfl, _⟩ := hr; rfl
  | bsl id n => obtain ⟨b, cs, _, _, rfl⟩ := hr; rfl

/-- An object stays as it is where its block does. -/
theorem RepO.mono (h : ∀ b, I b → I' b ∧ w'.heap[b]? = w.heap[b]?) (hp : Pers m gv m' gv') {id : Nat} (hg : gv' id = gv id) (hb : ∀ b, blk gv id = some b → w'.heap[b]? = w.heap[b]?)
    {o : Obj} (hr : RepO T w I m gv id o) : RepO T w' I' m' gv' id o := by
  cases o with
  | box cs =>
    obtain ⟨b, arr, e, h1, h2, h3⟩ := hr
    exact ⟨b, arr, e, by rw [hg]; exact h1, (hb b (by simp [blk, h1])).trans h2, h3.mono h hp⟩
  | sl e xs =>
    obtain ⟨h0, vs, h1, h2⟩ := hr
    refine ⟨h0, vs, ?_, fun k q v hq hv => RepP.mono h (h2 k q v hq hv)⟩
    rw [hg]
    obtain ⟨ho1, ho2⟩ := h1
    refine ⟨ho1, ?_⟩
    rcases ho2 with ho2 | ⟨g, cap, cur, hv, hg0, hh, r⟩
    · exact .inl ho2
    · refine .inr ⟨g, cap, cur, hv, hg0, ?_, r⟩
      rw [hb g (by simp at hv; simp [blk, hv.1])]; exact hh
end

/-- One object (or none) is turned, or comes anew; all else stays. -/
structure Turn (m : Nat → Option Obj) (gv : GV) (w : World) (d : Nat) (m' : Nat → Option Obj) (gv' : GV) (w' : World) : Prop where
  tape : w'.tape = w.tape
  os : w'.os = w.os
  output : w'.output = w.output
  size : w.heap.size ≤ w'.heap.size
  m_ne : ∀ id, id ≠ d → m' id = m id
  gv_ne : ∀ id, id ≠ d → gv' id = gv id
  heap : ∀ b, b < w.heap.size → (∀ o, m d = some o → blk gv d ≠ some b) → w'.heap[b]? = w.heap[b]?
  place : ∀ o' b, m' d = some o' → Go.AW.blk gv' d = some b → b < w'.heap.size ∧ ((∃ o, m d = some o ∧ Go.AW.blk gv d = some b) ∨ w.heap.size ≤ b)
  box : ∀ cs, m d = some (.box cs) → ∃ cs', m' d = some (.box cs') ∧ (gv' d).1 = (gv d).1
  sl : ∀ e xs, m d = some (.sl e xs) → ∃ xs', m' d = some (.sl e xs') ∧ xs.length ≤ xs'.length ∧ (xs'.length = xs.length → gv' d = gv d)

section
variable {T : Tab} {E : Env} {gv gv' : GV} {m m' : Nat → Option Obj} {w w' : World} {d : Nat}

theorem Turn.pers (ht : Turn m gv w d m' gv' w') : Pers m gv m' gv' := by
  refine ⟨fun id cs h => ?_, fun id e xs h => ?_⟩
  · by_cases hd : id = d
    · subst hd; exact ht.box cs h
    · exact ⟨cs, by rw [ht.m_ne id hd]; exact h, by rw [ht.gv_ne id hd]⟩
  · by_cases hd : id = d
    · subst hd; exact ht.sl e xs h
    · exact ⟨xs, by rw [ht.m_ne id hd]; exact h, Nat.le_refl _, fun _ => by rw [ht.gv_ne id hd]⟩

theorem Turn.imm (ht : Turn m gv w d m' gv' w') (b : Nat) (h : Imm E m gv w b) : Imm E m' gv' w' b ∧ w'.heap[b]? = w.heap[b]? := by
  obtain ⟨h1, h2, h3⟩ := h
  refine ⟨⟨h1, Nat.lt_of_lt_of_le h2 ht.size, fun id o hm hb => ?_⟩, ht.heap b h2 fun o hm => h3 d o hm⟩
  by_cases hd : id = d
  · subst hd
    rcases (ht.place o b hm hb).2 with ⟨o', hm', hb'⟩ | hlt
    · exact h3 id o' hm' hb'
    · omega
  · rw [ht.m_ne id hd] at hm
    have : blk gv id = some b := by unfold blk at hb ⊢; rw [ht.gv_ne id hd] at hb; exact hb
    exact h3 id o hm this

theorem RelM.turn (hr : RelM T E gv m w) (ht : Turn m gv w d m' gv' w') (hd : ∀ o, m' d = some o → RepO T w' (Imm E m' gv' w') m' gv' d o) : RelM T E gv' m' w' where
  tape := ht.tape.trans hr.tape
  os := ht.os.trans hr.os
  output := ht.output.trans hr.output
  size := Nat.le_trans hr.size ht.size
  keep := fun b hb hB => by
    rw [ht.heap b (Nat.lt_of_lt_of_le hb hr.size) (fun o hm hbk => ?_), hr.keep b hb hB]
    rcases (hr.own d o b hm hbk).2 with h | h
    · exact hB h
    · omega
  rep := fun id o hm => by
    by_cases hid : id = d
    · subst hid; exact hd o hm
    · rw [ht.m_ne id hid] at hm
      refine RepO.mono (fun b hb => ht.imm b hb) ht.pers (ht.gv_ne id hid) (fun b hb => ?_) (hr.rep id o hm)
      refine ht.heap b (hr.own id o b hm hb).1 (fun o' hm' hb' => hid (hr.inj id d o o' b hm hm' hb hb'))
  own := fun id o b hm hb => by
    by_cases hid : id = d
    · subst hid
      obtain ⟨h1, h2⟩ := ht.place o b hm hb
      refine ⟨h1, ?_⟩
      rcases h2 with ⟨o', hm', hb'⟩ | h2
      · exact (hr.own id o' b hm' hb').2
      · exact .inr (Nat.le_trans hr.size h2)
    · rw [ht.m_ne id hid] at hm
      have hb : blk gv id = some b := by unfold blk at hb ⊢; rw [ht.gv_ne id hid] at hb; exact hb
      obtain ⟨h1, h2⟩ := hr.own id o b hm hb
      exact ⟨Nat.lt_of_lt_of_le h1 ht.size, h2⟩
  inj := fun id id' o o' b hm hm' hb hb' => by
    have key : ∀ i p, i ≠ d → m' i = some p → blk gv' i = some b → blk gv' d = some b → (∃ o, m' d = some o) → False := by
      rintro i p hi hmi hbi hbd ⟨od, hod⟩
      rw [ht.m_ne i hi] at hmi
      have hbi : blk gv i = some b := by unfold blk at hbi ⊢; rw [ht.gv_ne i hi] at hbi; exact hbi
      rcases (ht.place od b hod hbd).2 with ⟨q, hq, hbq⟩ | hlt
      · exact hi (hr.inj i d p q b hmi hq hbi hbq)
      · have := (hr.own i p b hmi hbi).1; omega
    by_cases h1 : id = d
    · by_cases h2 : id' = d
      · rw [h1, h2]
      · subst h1; exact (key id' o' h2 hm' hb' hb ⟨o, hm⟩).elim
    · by_cases h2 : id' = d
      · subst h2; exact (key id o h1 hm hb hb' ⟨o', hm'⟩).elim
      · rw [ht.m_ne id h1] at hm
        rw [ht.m_ne id' h2] at hm'
        have hb : blk gv id = some b := by unfold blk at hb ⊢; rw [ht.gv_ne id h1] at hb; exact hb
        have hb' : blk gv id' = some b := by unfold blk at hb' ⊢; rw [ht.gv_ne id' h2] at hb'; exact hb'
        exact hr.inj id id' o o' b hm hm' hb hb'
  new := fun id o b hm hb => by
    by_cases hid : id = d
    · subst hid
      rcases (ht.place o b hm hb).2 with ⟨o', hm', hb'⟩ | h2
      · exact hr.new id o' b hm' hb'
      · exact .inl (Nat.le_trans hr.size h2)
    · rw [ht.m_ne id hid] at hm
      have hb : blk gv id = some b := by unfold blk at hb ⊢; rw [ht.gv_ne id hid] at hb; exact hb
      exact hr.new id o b hm hb
  pers := hr.pers.trans ht.pers

/-- The world has more blocks; nothing else. -/
theorem RelM.grow_turn (hr : RelM T E gv m w) (h1 : w'.tape = w.tape) (h2 : w'.os = w.os) (h3 : w'.output = w.output) (h4 : w.heap.size ≤ w'.heap.size)
    (h5 : ∀ b, b < w.heap.size → w'.heap[b]? = w.heap[b]?) : Turn m gv w 0 m gv w' :=
  ⟨h1, h2, h3, h4, fun _ _ => rfl, fun _ _ => rfl, fun b hb _ => h5 b hb, fun o b hm hb => ⟨Nat.lt_of_lt_of_le (hr.own 0 o b hm hb).1 h4, .inl ⟨o, hm, hb⟩⟩,
    fun cs h => ⟨cs, h, rfl⟩, fun e xs h => ⟨xs, h, Nat.le_refl _, fun _ => rfl⟩⟩
theorem RelM.grow (hr : RelM T E gv m w) (h1 : w'.tape = w.tape) (h2 : w'.os = w.os) (h3 : w'.output = w.output) (h4 : w.heap.size ≤ w'.heap.size)
    (h5 : ∀ b, b < w.heap.size → w'.heap[b]? = w.heap[b]?) : RelM T E gv m w' ∧ ∀ b, Imm E m gv w b → Imm E m gv w' b ∧ w'.heap[b]? = w.heap[b]? := by
  have ht := hr.grow_turn h1 h2 h3 h4 h5
  exact ⟨hr.turn ht fun o hm => RepO.mono (fun b hb => ht.imm b hb) ht.pers rfl (fun b hb => h5 b (hr.own 0 o b hm hb).1) (hr.rep 0 o hm), fun b hb => ht.imm b hb⟩
end
end Go.AW
