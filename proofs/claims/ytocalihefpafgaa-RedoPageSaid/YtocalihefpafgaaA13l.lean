/- A function that only reckons may be handed slices of the caller's own; an empty slice is nil or not. -/
import Derived.Test.YtocalihefpafgaaA13m
set_option linter.unusedVariables false
set_option linter.unusedSimpArgs false
namespace Go.AW

section
variable {P : Program} {T : Tab}

inductive LendL (m : Nat → Option Obj) : List V → List V → Prop
  | nil : LendL m [] []
  | same (a : V) {r r' : List V} (h : refsV a = []) (h' : LendL m r r') : LendL m (a :: r) (a :: r')
  | sl (id n e : Nat) (xs : List (List PV)) {r r' : List V} (h1 : m id = some (.sl e xs)) (h2 : n = xs.length) (h' : LendL m r r') : LendL m (.one (.osl id n) :: r) (.one (.p (.slice xs)) :: r')

theorem LendL.length {m : Nat → Option Obj} {a b : List V} (h : LendL m a b) : a.length = b.length := by
  induction h with
  | nil => rfl
  | same _ _ _ ih => simp [ih]
  | sl _ _ _ _ _ _ _ ih => simp [ih]

/-- Values that lead to no memory. -/
def flatC : Ce → Bool
  | .p (.slice []) => true
  | .p (.slice _) => false
  | .p .nesl => false
  | .p _ => true
  | _ => false
def flatV : V → Bool
  | .undef => true
  | .one c => flatC c
  | .agg cs => cs.all flatC
  | .tup xs => xs.all fun x => match x with | .one c => flatC c | .agg cs => cs.all flatC

section
variable {w w' : World} {I I' : Nat → Prop} {m m' : Nat → Option Obj} {gv gv' : GV}
theorem repC_flat {c : Ce} {v : Value} (hf : flatC c = true) (h : RepC T w I m gv c v) : RepC T w' I' m' gv' c v := by
  cases c with
  | p x =>
    have h : RepP w I x v := h
    show RepP w' I' x v
    cases h with
    | bool b => exact .bool b
    | int k n => exact .int k n
    | str s => exact .str s
    | nilp => exact .nilp
    | nilsl => exact .nilsl
    | nilf => exact .nilf
    | func f => exact .func f
    | nesl a cap => simp [flatC] at hf
    | sl0 a cap h0 => exact .sl0 a cap h0
    | sl xs b off cap sz arr e fr vs hI hh hz hc hv hl hr =>
      cases xs with
      | nil => exact .sl0 _ _ fun h => by cases h
      | cons x xs => simp [flatC] at hf
  | _ => simp [flatC] at hf
theorem repL_flat {cs : List Ce} {vs : List Value} (hf : cs.all flatC = true) (h : RepL T w I m gv cs vs) : RepL T w' I' m' gv' cs vs :=
  ⟨h.1, fun k c v hc hv => repC_flat (List.all_eq_true.1 hf c (List.mem_of_getElem? hc)) (h.2 k c v hc hv)⟩
theorem repV_flat {x : V} {v : Value} (hf : flatV x = true) (h : RepV T w I m gv x v) : RepV T w' I' m' gv' x v := by
  cases x with
  | undef => trivial
  | one c => exact repC_flat hf h
  | agg cs => obtain ⟨arr, h1, h2⟩ := h; exact ⟨arr, h1, repL_flat hf h2⟩
  | tup xs =>
    obtain ⟨arr, h1, h2, h3⟩ := h
    refine ⟨arr, h1, h2, fun k x u hx hu => ?_⟩
    have h4 := h3 k x u hx hu
    have h5 := List.all_eq_true.1 hf x (List.mem_of_getElem? hx)
    cases x with
    | one c => exact repC_flat h5 h4
    | agg cs => obtain ⟨arr, h1, h2⟩ := h4; exact ⟨arr, h1, repL_flat h5 h2⟩
end

theorem con_lend {f : Nat} {args args' : List V} {M : List (Nat × Obj)} {r : V} (h : ConSem P T f args' [] r []) (ha : LendL (mOf M) args args') (hf : flatV r = true) : ConSem P T f args M r M := by
  refine ⟨h.1, fun w gv J vs hJ hrel hsz hargs => ?_⟩
  have hm0 : ∀ id, mOf [] id = none := fun id => rfl
  have hJ' : ∀ b, (J b ∨ ∃ id o, mOf M id = some o ∧ blk gv id = some b) → b < w.heap.size ∧ ¬ ∃ id o, mOf [] id = some o ∧ blk gv id = some b := by
    rintro b hb
    refine ⟨?_, by rintro ⟨id, o, h, _⟩; simp [hm0] at h⟩
    rcases hb with hb | ⟨id, o, h1, h2⟩
    · exact (hJ b hb).1
    · exact (hrel.own id o b h1 h2).1
  have hrep : ∀ id e xs n v, mOf M id = some (.sl e xs) → n = xs.length → RepC T w J (mOf M) gv (.osl id n) v → RepP w (fun b => J b ∨ ∃ id o, mOf M id = some o ∧ blk gv id = some b) (.slice xs) v := by
    intro id e xs n v h1 hn hc
    obtain ⟨h0, e', xs', h1', h2, h4⟩ := hc
    rw [h1] at h1'; cases h1'
    have hv := h4 hn
    obtain ⟨hz, vs, ⟨ho1, ho2⟩, hvs⟩ := hrel.rep id _ h1
    rw [hv, hn]
    rcases ho2 with ⟨hnil, hn0⟩ | ⟨g, cap, cur, hv2, _, hh, hcap, _, hsz, htake⟩
    · have := List.length_eq_zero_iff.1 hn0
      subst this
      exact RepP.sl0 _ _ fun _ => by simp at hnil; simp [hnil]
    · simp at hv2
      obtain ⟨hg1, hg2⟩ := hv2
      rw [hg1]
      refine .sl xs g 0 _ (T e).size cur e (0, 0) vs (.inr ⟨id, _, h1, by simp [blk, hg1]⟩) hh hz (by rw [hg2]; exact hcap) (fun k u hk => ?_) (by rw [flatten_len _ _ hz]; exact ho1) (fun k q u hq hu => RepP.mono (fun b hb => ⟨?_, rfl⟩) (hvs k q u hq hu))
      · rw [← htake, List.getElem?_take] at hk
        split at hk
        · simpa using hk
        · cases hk
      · rcases hb.1 with hb1 | hb1
        · exact .inl hb1
        · have := hb.2.1
          exact absurd (show w.heap.size ≤ b from hb1) (by omega)
  have hrel0 : RelM T ⟨w, mOf [], gv, fun b => J b ∨ ∃ id o, mOf M id = some o ∧ blk gv id = some b, fun b => ∃ id o, mOf [] id = some o ∧ blk gv id = some b, hJ'⟩ gv (mOf []) w :=
    ⟨rfl, rfl, rfl, Nat.le_refl _, fun _ _ _ => rfl, fun id o h => by simp [hm0] at h, fun id o b h => by simp [hm0] at h, fun id id' o o' b h => by simp [hm0] at h, fun id o b h => by simp [hm0] at h, Pers.refl _ _⟩
  have hall : ∀ (a a' : List V), LendL (mOf M) a a' → ∀ (us : List Value), (∀ (k : Nat) x v, a[k]? = some x → us[k]? = some v → RepV T w J (mOf M) gv x v) →
      ∀ (k : Nat) x v, a'[k]? = some x → us[k]? = some v → RepV T w (fun b => J b ∨ ∃ id o, mOf M id = some o ∧ blk gv id = some b) (mOf []) gv x v := by
    intro a a' hl
    induction hl with
    | nil => intro us _ k x v hx; simp at hx
    | same a hra hl ih =>
      intro us hus k x v hx hv
      cases k with
      | zero =>
        simp at hx; subst hx
        exact repV_restrict (fun b hb => .inl hb) (fun j hj => by rw [hra] at hj; cases hj) (hus 0 _ v rfl hv)
      | succ k =>
        cases us with
        | nil => simp at hv
        | cons u us => exact ih us (fun k x v hx hv => hus (k + 1) x v (by simpa using hx) (by simpa using hv)) k x v (by simpa using hx) (by simpa using hv)
    | sl id n e xs h1 h2 hl ih =>
      intro us hus k x v hx hv
      cases k with
      | zero =>
        simp at hx; subst hx
        exact hrep id e xs n v h1 h2 (hus 0 _ v rfl hv)
      | succ k =>
        cases us with
        | nil => simp at hv
        | cons u us => exact ih us (fun k x v hx hv => hus (k + 1) x v (by simpa using hx) (by simpa using hv)) k x v (by simpa using hx) (by simpa using hv)
  have hc := h.2 w gv (fun b => J b ∨ ∃ id o, mOf M id = some o ∧ blk gv id = some b) vs hJ' hrel0 (by rw [hsz, ha.length]) (fun k x v hx hv => hall _ _ ha vs.toList (fun k x v hx hv => hargs k x v hx (by simpa using hv)) k x v hx (by simpa using hv))
  refine Calls.mono hc ?_
  rintro e w' ⟨v, gv', rfl, hrel', hv⟩
  have hkeep : ∀ b, b < w.heap.size → w'.heap[b]? = w.heap[b]? := fun b hb => hrel'.keep b hb (by rintro ⟨id, o, h, _⟩; simp [hm0] at h)
  have hs : w.heap.size ≤ w'.heap.size := hrel'.size
  have himm : ∀ b, Imm ⟨w, mOf M, gv, J, fun b => ∃ id o, mOf M id = some o ∧ blk gv id = some b, hJ⟩ (mOf M) gv w b → Imm ⟨w, mOf M, gv, J, fun b => ∃ id o, mOf M id = some o ∧ blk gv id = some b, hJ⟩ (mOf M) gv w' b ∧ w'.heap[b]? = w.heap[b]? :=
    fun b hb => ⟨⟨hb.1, Nat.lt_of_lt_of_le hb.2.1 hs, hb.2.2⟩, hkeep b hb.2.1⟩
  refine ⟨v, gv, rfl, ⟨hrel'.tape, hrel'.os, hrel'.output, hs, fun b hb _ => hkeep b hb, fun id o h => ?_, fun id o b h hb => ?_, hrel.inj, hrel.new, Pers.refl _ _⟩, repV_flat hf hv⟩
  · exact RepO.mono himm (Pers.refl _ _) rfl (fun b hb => hkeep b (hrel.own id o b h hb).1) (hrel.rep id o h)
  · obtain ⟨h1, h2⟩ := hrel.own id o b h hb
    exact ⟨Nat.lt_of_lt_of_le h1 hs, h2⟩

/-- An empty slice is nil, or isn't. -/
theorem con_split {f : Nat} {M M' : List (Nat × Obj)} {r : V} (h1 : ConSem P T f [.one (.p .nilsl)] M r M') (h2 : ConSem P T f [.one (.p .nesl)] M r M') : ConSem P T f [.one (.p (.slice []))] M r M' := by
  refine ⟨h1.1, fun w gv J vs hJ hrel hsz hargs => ?_⟩
  have hlt : 0 < vs.size := by rw [hsz]; simp
  have h0 : RepP w J (.slice []) vs[0] := hargs 0 _ vs[0] rfl (by simp [hlt])
  have key : (∃ q : PV, (q = .nilsl ∨ q = .nesl) ∧ RepP w J q vs[0]) := by
    generalize vs[0] = v at h0
    cases h0 with
    | sl0 a cap hc =>
      cases a with
      | none => rw [hc rfl]; exact ⟨_, .inl rfl, .nilsl⟩
      | some a => exact ⟨_, .inr rfl, .nesl a cap⟩
    | sl xs b off cap sz arr e fr vs hI hh hz hc hv hl hr => exact ⟨_, .inr rfl, .nesl _ cap⟩
  obtain ⟨q, hq, hr⟩ := key
  have hargs' : ∀ (k : Nat) a v, [V.one (.p q)][k]? = some a → vs[k]? = some v → RepV T w J (mOf M) gv a v := by
    intro k a v ha hv
    cases k with
    | zero =>
      simp at ha; subst ha
      have : v = vs[0] := by rw [Array.getElem?_eq_getElem hlt] at hv; exact (Option.some.inj hv).symm
      rw [this]; exact hr
    | succ k => simp at ha
  rcases hq with rfl | rfl
  · exact h1.2 w gv J vs hJ hrel hsz hargs'
  · exact h2.2 w gv J vs hJ hrel hsz hargs'
end
end Go.AW
