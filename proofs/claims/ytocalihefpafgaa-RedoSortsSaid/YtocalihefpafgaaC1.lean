import Derived.Test.YtocalihefpafgaaAW
import Derived.Test.YtocalihefpafgaaB5
import Derived.Test.YtocalihefpafgaaA14
import Derived.Test.YtocalihefpafgaaD1
/- Pages and changes as data; what a change makes of a page. No program in sight. -/
set_option maxRecDepth 100000
set_option linter.unusedSimpArgs false
set_option linter.unusedVariables false
namespace Go.AW

abbrev Cel := Bool × ByteArray
def celP (c : Cel) : List PV := [.bool c.1, .str c.2]
def celsP : List Cel → List PV
  | [] => []
  | c :: r => .bool c.1 :: .str c.2 :: celsP r
def pgP (l : Int) (cs : List Cel) : List PV := .int .u64 l :: celsP cs
def pgC (l : Int) (cs : List Cel) : List Ce := (pgP l cs).map .p
def celsC (cs : List Cel) : List Ce := (celsP cs).map .p
abbrev noS : ByteArray := ByteArray.empty
def noCel : Cel := (false, noS)
def noCels : List Cel := List.replicate 8 noCel

theorem celsP_length : ∀ cs : List Cel, (celsP cs).length = 2 * cs.length
  | [] => rfl
  | c :: r => by simp [celsP, celsP_length r]; omega
theorem pgP_length (l : Int) (cs : List Cel) : (pgP l cs).length = 1 + 2 * cs.length := by simp [pgP, celsP_length]; omega
theorem pgC_length (l : Int) (cs : List Cel) : (pgC l cs).length = 1 + 2 * cs.length := by simp [pgC, pgP_length]
theorem celsC_length (cs : List Cel) : (celsC cs).length = 2 * cs.length := by simp [celsC, celsP_length]
theorem celsP_used : ∀ (cs : List Cel) (i : Nat) (h : i < cs.length), (celsP cs)[2 * i]? = some (.bool cs[i].1)
  | c :: r, 0, h => rfl
  | c :: r, i + 1, h => by
    have : 2 * (i + 1) = 2 * i + 1 + 1 := by omega
    rw [this]; simp only [celsP, List.getElem?_cons_succ, List.getElem_cons_succ]
    exact celsP_used r i (by simpa using h)
theorem celsP_value : ∀ (cs : List Cel) (i : Nat) (h : i < cs.length), (celsP cs)[2 * i + 1]? = some (.str cs[i].2)
  | c :: r, 0, h => rfl
  | c :: r, i + 1, h => by
    have : 2 * (i + 1) + 1 = 2 * i + 1 + 1 + 1 := by omega
    rw [this]; simp only [celsP, List.getElem?_cons_succ, List.getElem_cons_succ]
    exact celsP_value r i (by simpa using h)
theorem celsP_drop : ∀ (cs : List Cel) (i : Nat) (h : i < cs.length), ((celsP cs).drop (2 * i)).take 2 = [.bool cs[i].1, .str cs[i].2]
  | c :: r, 0, h => rfl
  | c :: r, i + 1, h => by
    have : 2 * (i + 1) = 2 * i + 1 + 1 := by omega
    rw [this]; simp only [celsP, List.drop_succ_cons, List.getElem_cons_succ]
    exact celsP_drop r i (by simpa using h)
theorem splice_succ {α : Type} (a : α) (cs us : List α) (k : Nat) : splice (a :: cs) (k + 1) us = a :: splice cs k us := by
  unfold splice
  rw [List.take_succ_cons, show k + 1 + us.length = (k + us.length) + 1 by omega, List.drop_succ_cons]; rfl
theorem celsP_splice : ∀ (cs : List Cel) (i : Nat) (h : i < cs.length) (c : Cel), splice (celsP cs) (2 * i) [.bool c.1, .str c.2] = celsP (cs.set i c)
  | c :: r, 0, h, d => rfl
  | c :: r, i + 1, h, d => by
    rw [show 2 * (i + 1) = 2 * i + 1 + 1 by omega]
    simp only [celsP, List.set_cons_succ]
    rw [splice_succ, splice_succ, celsP_splice r i (by simpa using h) d]

theorem celsC_used {cs : List Cel} {i : Nat} (h : i < cs.length) : (celsC cs)[2 * i]? = some (.p (.bool cs[i].1)) := by simp [celsC, celsP_used cs i h]
theorem celsC_value {cs : List Cel} {i : Nat} (h : i < cs.length) : (celsC cs)[2 * i + 1]? = some (.p (.str cs[i].2)) := by simp [celsC, celsP_value cs i h]
theorem celsC_drop {cs : List Cel} {i : Nat} (h : i < cs.length) : ((celsC cs).drop (2 * i)).take 2 = [.p (.bool cs[i].1), .p (.str cs[i].2)] := by
  rw [celsC, ← List.map_drop, ← List.map_take, celsP_drop cs i h]; rfl
theorem pgC_cons (l : Int) (cs : List Cel) : pgC l cs = .p (.int .u64 l) :: celsC cs := rfl
theorem pgC_used {l : Int} {cs : List Cel} {i : Nat} (h : i < cs.length) : (pgC l cs)[1 + 2 * i]? = some (.p (.bool cs[i].1)) := by
  rw [pgC_cons, Nat.add_comm, List.getElem?_cons_succ, celsC_used h]
theorem pgC_value {l : Int} {cs : List Cel} {i : Nat} (h : i < cs.length) : (pgC l cs)[1 + 2 * i + 1]? = some (.p (.str cs[i].2)) := by
  rw [pgC_cons, List.getElem?_cons_succ, Nat.add_comm, celsC_value h]
theorem pgC_drop {l : Int} {cs : List Cel} {i : Nat} (h : i < cs.length) : ((pgC l cs).drop (1 + 2 * i)).take 2 = [.p (.bool cs[i].1), .p (.str cs[i].2)] := by
  rw [pgC_cons, Nat.add_comm, List.drop_succ_cons, celsC_drop h]
theorem splice_map {α β : Type} (f : α → β) (cs us : List α) (k : Nat) : splice (cs.map f) k (us.map f) = (splice cs k us).map f := by simp [splice]
theorem pgC_splice {l : Int} {cs : List Cel} {i : Nat} (h : i < cs.length) (b : Bool) (s : ByteArray) : splice (pgC l cs) (1 + 2 * i) [.p (.bool b), .p (.str s)] = pgC l (cs.set i (b, s)) := by
  rw [Nat.add_comm, pgC_cons, splice_succ]
  have := splice_map Ce.p (celsP cs) [.bool b, .str s] (2 * i)
  simp only [List.map_cons, List.map_nil] at this
  rw [celsC, this, celsP_splice cs i h (b, s)]; rfl
theorem pgC_lsn {l n : Int} {cs : List Cel} : splice (pgC l cs) 0 [.p (.int .u64 n)] = pgC n cs := by simp [pgC, pgP, splice]

theorem pureL_p : ∀ xs : List PV, pureL (xs.map .p) = some xs
  | [] => rfl
  | x :: r => by simp [pureL, pureL_p r]
theorem pureL_pg (l : Int) (cs : List Cel) : pureL (pgC l cs) = some (pgP l cs) := pureL_p _
theorem pureL_cels (cs : List Cel) : pureL (celsC cs) = some (celsP cs) := pureL_p _

theorem eqLP_cels : ∀ (a b : List Cel), a.length = b.length → eqLP (celsP a) (celsP b) = decide (a = b)
  | [], [], _ => by simp [celsP, eqLP]
  | x :: a, y :: b, h => by
    obtain ⟨x1, x2⟩ := x; obtain ⟨y1, y2⟩ := y
    simp only [celsP, eqLP, eqLP_cels a b (by simpa using h)]
    rw [show (x1 == y1) = decide (x1 = y1) from by cases x1 <;> cases y1 <;> rfl, ← Bool.decide_and, ← Bool.decide_and]
    congr 1
    simp only [List.cons.injEq, Prod.mk.injEq, and_assoc]
theorem eqLP_pg {l m : Int} {a b : List Cel} (h : a.length = b.length) : eqLP (pgP l a) (pgP m b) = decide (l = m ∧ a = b) := by
  simp only [pgP, eqLP, eqLP_cels a b h, ← Bool.decide_and]
theorem likeL_cels : ∀ (a b : List Cel), a.length = b.length → likeL (celsP a) (celsP b) = true
  | [], [], _ => rfl
  | x :: a, y :: b, h => by simp only [celsP, likeL, likeP, likeL_cels a b (by simpa using h), Bool.and_self]
theorem likeL_pg {l m : Int} {a b : List Cel} (h : a.length = b.length) : likeL (pgP l a) (pgP m b) = true := by
  simp only [pgP, likeL, likeP, likeL_cels a b h, decide_true, Bool.and_self]

/-- Cells of a page that is well formed. -/
theorem cels_of : ∀ (xs : List (List PV)), (∀ x ∈ xs, ∃ b s, x = [.bool b, .str s]) → ∃ cs : List Cel, cs.length = xs.length ∧ xs.flatten = celsP cs
  | [], _ => ⟨[], rfl, rfl⟩
  | x :: r, h => by
    obtain ⟨b, s, rfl⟩ := h x (by simp)
    obtain ⟨cs, h1, h2⟩ := cels_of r fun y hy => h y (by simp [hy])
    exact ⟨(b, s) :: cs, by simp [h1], by simp [celsP, h2]⟩

/-! ### What a change makes -/

structure Chg where
  k : Int
  p : Int
  s : Int
  o : ByteArray
  n : ByteArray
  deriving DecidableEq
def chP (c : Chg) : List PV := [.int .i64 c.k, .int .i64 c.p, .int .i64 c.s, .str c.o, .str c.n]
def chC (c : Chg) : List Ce := [.p (.int .i64 c.k), .p (.int .i64 c.p), .p (.int .i64 c.s), .p (.str c.o), .p (.str c.n)]
def noChg : Chg := ⟨0, 0, 0, noS, noS⟩

def celOk (c : Cel) : Bool := decide (c.2.size ≤ 20) && (c.1 || decide (c.2 = noS))
def pgOk (l : Int) (cs : List Cel) : Bool := cs.all celOk && decide (l ≤ maxL)
def chOk (c : Chg) : Bool :=
  decide (0 ≤ c.p ∧ c.p < 32 ∧ 0 ≤ c.s ∧ c.s < 8 ∧ c.o.size ≤ 20 ∧ c.n.size ≤ 20) && (decide (c.k = 1 ∧ c.o = noS) || decide (c.k = 2) || decide (c.k = 3 ∧ c.n = noS))

/-- A page behind a change: its number, its cells, the error's number. -/
def apF (l : Int) (cs : List Cel) (c : Chg) (n : Int) : Int × List Cel × Int :=
  if (!pgOk l cs || !chOk c || decide (maxL < n)) = true then (0, noCels, 1)
  else if n ≤ l then (0, noCels, 13)
  else
    let is := cs.getD c.s.toNat noCel
    if c.k = 1 ∧ is.1 = true then (0, noCels, 6)
    else if c.k ≠ 1 ∧ is.1 = false then (0, noCels, 5)
    else if is.2 ≠ c.o then (0, noCels, 2)
    else (n, cs.set c.s.toNat (decide (c.k ≠ 3), c.n), 0)

def invF (c : Chg) : Chg × Int := if chOk c = true then (⟨4 - c.k, c.p, c.s, c.n, c.o⟩, 0) else (noChg, 1)

theorem noS_mk : ({ data := #[] } : ByteArray) = noS := rfl
theorem noS_size : noS.size = 0 := rfl
theorem size_noS {s : ByteArray} (h : s.size = 0) : s = noS := by
  cases s with
  | mk d =>
    have : d = #[] := Array.eq_empty_of_size_eq_zero h
    subst this; rfl

theorem noS_iff {s : ByteArray} : s = noS ↔ s.size = 0 := ⟨fun h => by rw [h]; rfl, size_noS⟩

/-- What is known where a change is made. -/
structure Fits (l : Int) (cs : List Cel) (c : Chg) (n : Int) : Prop where
  pg : pgOk l cs = true
  ch : chOk c = true
  le : n ≤ maxL
  lt : l < n
  used : (cs.getD c.s.toNat noCel).1 = decide (c.k ≠ 1)
  value : (cs.getD c.s.toNat noCel).2 = c.o

theorem apF_fits {l : Int} {cs : List Cel} {c : Chg} {n : Int} (h : Fits l cs c n) : apF l cs c n = (n, cs.set c.s.toNat (decide (c.k ≠ 3), c.n), 0) := by
  have h1 := h.pg; have h2 := h.ch; have h3 := h.le; have h4 := h.lt; have h5 := h.used; have h6 := h.value
  unfold apF
  rw [h1, h2]
  simp only [Bool.not_true, Bool.false_or, decide_eq_true_eq]
  rw [if_neg (by omega), if_neg (by omega)]
  by_cases hk : c.k = 1
  · simp only [hk, ne_eq, not_true_eq_false, decide_false] at h5
    simp only [h5, hk, h6]
    simp
  · simp only [hk, ne_eq, not_false_eq_true, decide_true] at h5
    simp only [h5, hk, h6]
    simp

theorem apF_cases (l : Int) (cs : List Cel) (c : Chg) (n : Int) : Fits l cs c n ∨ ((apF l cs c n).1 = 0 ∧ (apF l cs c n).2.1 = noCels ∧ (apF l cs c n).2.2 ≠ 0) := by
  by_cases h : Fits l cs c n
  · exact .inl h
  · right
    unfold apF
    by_cases h1 : (!pgOk l cs || !chOk c || decide (maxL < n)) = true
    · rw [if_pos h1]; simp
    · rw [if_neg h1]
      simp only [Bool.or_eq_true, Bool.not_eq_true', decide_eq_true_eq, not_or, Bool.not_eq_false] at h1
      by_cases h2 : n ≤ l
      · rw [if_pos h2]; simp
      · rw [if_neg h2]
        by_cases h3 : c.k = 1 ∧ (cs.getD c.s.toNat noCel).1 = true
        · simp only [if_pos h3]; simp
        · by_cases h4 : c.k ≠ 1 ∧ (cs.getD c.s.toNat noCel).1 = false
          · simp only [if_neg h3, if_pos h4]; simp
          · by_cases h5 : (cs.getD c.s.toNat noCel).2 ≠ c.o
            · simp only [if_neg h3, if_neg h4, if_pos h5]; simp
            · exfalso
              refine h ⟨h1.1.1, h1.1.2, by omega, by omega, ?_, by simpa using h5⟩
              cases hu : (cs.getD c.s.toNat noCel).1
              · have : c.k = 1 := by
                  by_cases hk : c.k = 1
                  · exact hk
                  · exact absurd ⟨hk, hu⟩ h4
                simp [this]
              · have : c.k ≠ 1 := fun hk => h3 ⟨hk, hu⟩
                simp [this]

theorem chOk_iff (c : Chg) : chOk c = true ↔ (0 ≤ c.p ∧ c.p < 32 ∧ 0 ≤ c.s ∧ c.s < 8 ∧ c.o.size ≤ 20 ∧ c.n.size ≤ 20) ∧ ((c.k = 1 ∧ c.o = noS) ∨ c.k = 2 ∨ (c.k = 3 ∧ c.n = noS)) := by
  simp only [chOk, Bool.and_eq_true, Bool.or_eq_true, decide_eq_true_eq, or_assoc]

/-- The change that takes a change back. -/
def invC (c : Chg) : Chg := ⟨4 - c.k, c.p, c.s, c.n, c.o⟩
theorem invC_ok {c : Chg} (h : chOk c = true) : chOk (invC c) = true := by
  rw [chOk_iff] at h ⊢
  obtain ⟨⟨h1, h2, h3, h4, h5, h6⟩, h7⟩ := h
  refine ⟨⟨h1, h2, h3, h4, h6, h5⟩, ?_⟩
  simp only [invC]
  rcases h7 with ⟨h, h'⟩ | h | ⟨h, h'⟩
  · right; right; exact ⟨by omega, h'⟩
  · right; left; omega
  · left; exact ⟨by omega, h'⟩
theorem invC_invC (c : Chg) : invC (invC c) = c := by
  cases c; simp only [invC, Chg.mk.injEq, and_true, true_and]; omega

theorem cel_ok_new {c : Chg} (h : chOk c = true) : celOk (decide (c.k ≠ 3), c.n) = true := by
  rw [chOk_iff] at h
  obtain ⟨⟨h1, h2, h3, h4, h5, h6⟩, h7⟩ := h
  simp only [celOk, Bool.and_eq_true, Bool.or_eq_true, decide_eq_true_eq]
  refine ⟨h6, ?_⟩
  rcases h7 with ⟨h, h'⟩ | h | ⟨h, h'⟩
  · left; omega
  · left; omega
  · right; exact h'
theorem pgOk_set {l n : Int} {cs : List Cel} {i : Nat} {x : Cel} (h : pgOk l cs = true) (hx : celOk x = true) (hn : n ≤ maxL) : pgOk n (cs.set i x) = true := by
  simp only [pgOk, Bool.and_eq_true, List.all_eq_true, decide_eq_true_eq] at h ⊢
  refine ⟨fun y hy => ?_, hn⟩
  rcases List.mem_or_eq_of_mem_set hy with h1 | rfl
  · exact h.1 y h1
  · exact hx

theorem getD_set_eq {cs : List Cel} {i : Nat} (h : i < cs.length) (x d : Cel) : (cs.set i x).getD i d = x := by
  simp [List.getD, h]
theorem getD_set_ne {cs : List Cel} {i j : Nat} (h : i ≠ j) (x d : Cel) : (cs.set i x).getD j d = cs.getD j d := by
  simp [List.getD, List.getElem?_set_ne h]
theorem set_getD {cs : List Cel} {i : Nat} (h : i < cs.length) (d : Cel) : cs.set i (cs.getD i d) = cs := by
  simp [List.getD, h]

/-- What a change made its inverse takes back. -/
theorem Fits.back {l n m : Int} {cs : List Cel} {c : Chg} (h : Fits l cs c n) (hl : cs.length = 8) (h1 : n < m) (h2 : m ≤ maxL) :
    Fits n (cs.set c.s.toNat (decide (c.k ≠ 3), c.n)) (invC c) m ∧ (cs.set c.s.toNat (decide (c.k ≠ 3), c.n)).set (invC c).s.toNat (decide ((invC c).k ≠ 3), (invC c).n) = cs := by
  have hc := (chOk_iff c).1 h.ch
  have hs : c.s.toNat < cs.length := by omega
  refine ⟨⟨pgOk_set h.pg (cel_ok_new h.ch) h.le, invC_ok h.ch, h2, h1, ?_, ?_⟩, ?_⟩
  · show ((cs.set c.s.toNat _).getD c.s.toNat noCel).1 = _
    rw [getD_set_eq hs]
    simp only [invC]
    congr 1
    apply propext; constructor <;> intro _ <;> omega
  · show ((cs.set c.s.toNat _).getD c.s.toNat noCel).2 = _
    rw [getD_set_eq hs]; rfl
  · show (cs.set c.s.toNat _).set c.s.toNat (decide (4 - c.k ≠ 3), c.o) = cs
    rw [List.set_set]
    have : (decide (4 - c.k ≠ 3), c.o) = cs.getD c.s.toNat noCel := by
      rw [← h.value]
      refine Prod.ext ?_ rfl
      show decide (4 - c.k ≠ 3) = _
      rw [h.used]
      congr 1
      apply propext; constructor <;> intro _ <;> omega
    rw [this, set_getD hs]
/-! ### As they stand in a walk -/

theorem refs_p : ∀ xs : List PV, (xs.map Ce.p).flatMap refsC = []
  | [] => rfl
  | x :: r => by simp [refsC]
theorem refs_cels (cs : List Cel) : refsV (.agg (celsC cs)) = [] := refs_p _
theorem refs_pg (l : Int) (cs : List Cel) : refsV (.agg (pgC l cs)) = [] := refs_p _
theorem refs_pgO (l : Int) (cs : List Cel) : refsO (.box (pgC l cs)) = [] := refs_p _

theorem celsC_len8 {cs : List Cel} (h : cs.length = 8) : (celsC cs).length = 16 := by rw [celsC_length, h]
theorem pgC_len8 {l : Int} {cs : List Cel} (h : cs.length = 8) : (pgC l cs).length = 17 := by rw [pgC_length, h]
theorem pgC_cels {l : Int} {cs : List Cel} (h : cs.length = 8) : List.take 16 (List.drop 1 (pgC l cs)) = celsC cs := by
  rw [pgC_cons, List.drop_succ_cons, List.drop_zero, List.take_of_length_le (by rw [celsC_len8 h]; omega)]
theorem pgC_all {l : Int} {cs : List Cel} (h : cs.length = 8) : List.take 17 (pgC l cs) = pgC l cs := List.take_of_length_le (by rw [pgC_len8 h]; omega)
theorem celsC_cel {cs : List Cel} {i : Nat} (h : i < cs.length) : List.take 2 (List.drop (i * 2) (celsC cs)) = [.p (.bool cs[i].1), .p (.str cs[i].2)] := by rw [Nat.mul_comm, celsC_drop h]
theorem pgC_cel {l : Int} {cs : List Cel} {i : Nat} (h : i < cs.length) : List.take 2 (List.drop (1 + i * 2) (pgC l cs)) = [.p (.bool cs[i].1), .p (.str cs[i].2)] := by rw [Nat.mul_comm, pgC_drop h]
theorem pgC_get0 {l : Int} {cs : List Cel} : (pgC l cs)[0]? = some (.p (.int .u64 l)) := rfl
theorem pgC_get_used {l : Int} {cs : List Cel} {i : Nat} (h : i < cs.length) : (pgC l cs)[1 + i * 2]? = some (.p (.bool cs[i].1)) := by rw [Nat.mul_comm, pgC_used h]
theorem pgC_get_value {l : Int} {cs : List Cel} {i : Nat} (h : i < cs.length) : (pgC l cs)[1 + i * 2 + 1]? = some (.p (.str cs[i].2)) := by rw [Nat.mul_comm, pgC_value h]
theorem pgC_put {l : Int} {cs : List Cel} {i : Nat} (h : i < cs.length) (b : Bool) (s : ByteArray) : splice (pgC l cs) (1 + i * 2) [.p (.bool b), .p (.str s)] = pgC l (cs.set i (b, s)) := by rw [Nat.mul_comm, pgC_splice h]

theorem refs_pgF (l : Int) (cs : List Cel) : List.flatMap refsC (pgC l cs) = [] := refs_p _
theorem refs_celsF (cs : List Cel) : List.flatMap refsC (celsC cs) = [] := refs_p _
theorem ren_p (f : Nat → Nat) : ∀ xs : List PV, (xs.map Ce.p).map (renC f) = xs.map Ce.p
  | [] => rfl
  | x :: r => by simp only [List.map_cons, renC, ren_p f r]
theorem ren_pg (f : Nat → Nat) (l : Int) (cs : List Cel) : List.map (renC f) (pgC l cs) = pgC l cs := ren_p f _
theorem ren_cels (f : Nat → Nat) (cs : List Cel) : List.map (renC f) (celsC cs) = celsC cs := ren_p f _
theorem prim_cels : ∀ cs : List Cel, ∀ q ∈ celsP cs, primP q = true
  | [], q, h => by simp [celsP] at h
  | c :: r, q, h => by
    simp only [celsP, List.mem_cons] at h
    rcases h with rfl | rfl | h
    · rfl
    · rfl
    · exact prim_cels r q h
theorem prim_pg (l : Int) (cs : List Cel) : ∀ q ∈ pgP l cs, primP q = true := by
  intro q h
  simp only [pgP, List.mem_cons] at h
  rcases h with rfl | h
  · rfl
  · exact prim_cels cs q h
theorem fin_p {m : Nat → Option Obj} : ∀ (xs : List PV) (h : ∀ q ∈ xs, primP q = true) (K : List Ce → Prop), finL m (xs.map .p) K = K (xs.map .p)
  | [], _, K => rfl
  | x :: r, h, K => by
    have hx := h x (by simp)
    have ih := fin_p (m := m) r (fun q hq => h q (by simp [hq])) fun r => K (.p x :: r)
    simp only [List.map_cons, finL]
    cases x <;> simp only [primP, Bool.false_eq_true] at hx <;> exact ih
theorem finM_p {m : Nat → Option Obj} {keep : List Nat} {fz : Bool} : ∀ (xs : List PV) (h : ∀ q ∈ xs, primP q = true) (K : List Ce → Prop), finML m keep fz (xs.map .p) K = K (xs.map .p)
  | [], _, K => rfl
  | x :: r, h, K => by
    have hx := h x (by simp)
    have ih := finM_p (m := m) (keep := keep) (fz := fz) r (fun q hq => h q (by simp [hq])) fun r => K (.p x :: r)
    simp only [List.map_cons, finML]
    cases x <;> simp only [primP, Bool.false_eq_true] at hx <;> exact ih
theorem fin_pg {m : Nat → Option Obj} {l : Int} {cs : List Cel} {K : List Ce → Prop} : finL m (pgC l cs) K = K (pgC l cs) := fin_p _ (prim_pg l cs) K
theorem finM_pg {m : Nat → Option Obj} {keep : List Nat} {fz : Bool} {l : Int} {cs : List Cel} {K : List Ce → Prop} : finML m keep fz (pgC l cs) K = K (pgC l cs) := finM_p _ (prim_pg l cs) K
theorem pgC_put2 {l : Int} {cs : List Cel} {i : Nat} (h : i < cs.length) (b : Bool) (s : ByteArray) : List.take (1 + i * 2) (pgC l cs) ++ [Ce.p (.bool b), Ce.p (.str s)] ++ List.drop (1 + i * 2 + 2) (pgC l cs) = pgC l (cs.set i (b, s)) := pgC_put h b s
theorem pgC_lsn2 {l n : Int} {cs : List Cel} : Ce.p (.int .u64 n) :: List.drop 1 (pgC l cs) = pgC n cs := pgC_lsn
theorem noCels_len : noCels.length = 8 := rfl
theorem pgC_fold {n : Int} {cs : List Cel} : Ce.p (.int .u64 n) :: celsC cs = pgC n cs := rfl
theorem pgC_drop1 {l : Int} {cs : List Cel} : List.drop 1 (pgC l cs) = celsC cs := rfl
theorem celsC_all {cs : List Cel} (h : cs.length = 8) : List.take 16 (celsC cs) = celsC cs := List.take_of_length_le (by rw [celsC_len8 h]; omega)
theorem fin_cels {m : Nat → Option Obj} {cs : List Cel} {K : List Ce → Prop} : finL m (celsC cs) K = K (celsC cs) := fin_p _ (prim_cels cs) K
theorem finM_cels {m : Nat → Option Obj} {keep : List Nat} {fz : Bool} {cs : List Cel} {K : List Ce → Prop} : finML m keep fz (celsC cs) K = K (celsC cs) := finM_p _ (prim_cels cs) K
theorem pgC_drop17 {l : Int} {cs : List Cel} (h : cs.length = 8) : List.drop 17 (pgC l cs) = [] := List.drop_of_length_le (by rw [pgC_len8 h]; omega)
end Go.AW

/- The right page, the right change; in the program and in the document's answer. -/
set_option maxRecDepth 100000
set_option linter.unusedSimpArgs false
set_option linter.unusedVariables false
namespace Go.AW
open Go.Proofs

theorem goR_pg0 {C : Con} {T : Tab} {L : Code → (Ex → St → Prop) → St → Prop} {Q : Ex → St → Prop} {k : List It} {σ : St} {ops : Array Oper} {r : List Oper} {dst : Option Nat} {l : Int} {cs : List Cel} {g : Ce → Rd Wr} {acc : Option (List (List Loc × List Loc) × List Loc)} :
    elemCS C T L Q (pgC l cs) 0 g dst ops r acc k σ = GoR C T L Q (g (.p (.int .u64 l))) dst ops r acc k σ := by
  simp [elemCS, pgC_get0]

theorem pgOk_no {l : Int} {cs : List Cel} {i : Nat} (h : i < cs.length) (hc : celOk cs[i] = false) : pgOk l cs = false := by
  simp only [pgOk, Bool.and_eq_false_iff]
  left
  rw [List.all_eq_false]
  exact ⟨_, List.getElem_mem h, by simp [hc]⟩
theorem pgOk_yes {l : Int} {cs : List Cel} (h : ∀ (j : Nat) (hj : j < cs.length), celOk cs[j] = true) : pgOk l cs = decide (l ≤ maxL) := by
  have : cs.all celOk = true := by
    rw [List.all_eq_true]; intro x hx
    obtain ⟨j, hj, rfl⟩ := List.getElem_of_mem hx
    exact h j hj
  simp [pgOk, this]

theorem c97 (l : Int) (cs : List Cel) (hl : cs.length = 8) : ConSem Try.prog tab 97 [.agg (pgC l cs)] [] (vb (pgOk l cs)) [] := by
  refine con_pure tabOk mixedOk Try.func97 rfl (by decide) (by kernel_rfl) (by show (1:Nat) ≤ _; decide) fun E hE => go_start ?_
  simp only [Try.f97, wk, upd, binR, ↓reduceIte, Nat.reduceEqDiff, reduceCtorEq, ofConst, ofCell, okCell, arI, cmpI, RetQ, RetM, finV, finC, finMV, finMC, resOf, V.w1, cellsV, refsC, refsO, callR, Nat.reduceAdd, Nat.reduceMul, Nat.reduceSub, Nat.reduceLeDiff, Nat.reduceLT, Nat.reduceBEq, boxR, idxR, loadR, storeR, readSl, lenR, sliceR, boundR, makeR, pureC, pureL, TD.isAgg, pgC_len8 hl, celsC_len8 hl, pgC_drop1, pgC_drop17 hl, celsC_all hl, pgC_fold, pgC_all hl, goR_pg0, noS_mk, refs_pgF, refs_celsF, ren_pg, ren_cels, fin_pg, finM_pg, fin_cels, finM_cels, pureL_pg, pureL_cels]
  refine aw_ind (fun i : Nat => ⟨tOf [(1, vp 1 0), (6, .agg (celsC cs)), (7, vi .i64 i)], mOf [(1, .box (pgC l cs))]⟩) (fun i => i ≤ 8 ∧ ∀ (j : Nat) (h : j < cs.length), j < i → celOk cs[j] = true) (fun i => 8 - i) 0 rfl
      (weak_mem (M := []) ⟨rfl, rfl, rfl, trivial⟩ ⟨rfl, trivial⟩ (by simp only [refsT, refs_cels]; rfl) (by simp only [List.all_cons, refs_pgO]; rfl) (by rw [hE]; rfl) rfl) ⟨by omega, fun j h h2 => by omega⟩ ?_
  rintro i ⟨hi, hinv⟩ ih
  by_cases h : (i : Int) < 8
  · have h' : i < cs.length := by omega
    have hw : IntKind.i64.wrap ((i : Int) + 1) = ((i + 1 : Nat) : Int) := by rw [w64 (by omega) (by omega)]; omega
    have hc := celsC_cel h'
    have hlt : i * 2 + 2 ≤ 16 := by omega
    have hin : inR (↑i) 8 := ⟨by omega, h⟩
    have hok : celOk cs[i] = (decide (cs[i].2.size ≤ 20) && (cs[i].1 || decide (cs[i].2 = noS))) := rfl
    have hnx : celOk cs[i] = true → ∀ (j : Nat) (h : j < cs.length), j < i + 1 → celOk cs[j] = true := fun hk j hj hji => by
      by_cases hjx : j = i
      · subst hjx; exact hk
      · exact hinv j hj (by omega)
    have hno := fun hk => vbeq (pgOk_no (l := l) h' hk).symm
    generalize cs[i] = x at hc hok hnx hno
    obtain ⟨u, v⟩ := x
    simp only [clk, wk, upd, binR, ↓reduceIte, Nat.reduceEqDiff, reduceCtorEq, ofConst, ofCell, okCell, arI, cmpI, RetQ, RetM, finV, finC, finMV, finMC, resOf, V.w1, cellsV, refsC, refsO, callR, Nat.reduceAdd, Nat.reduceMul, Nat.reduceSub, Nat.reduceLeDiff, Nat.reduceLT, Nat.reduceBEq, boxR, idxR, loadR, storeR, readSl, lenR, sliceR, boundR, makeR, pureC, pureL, TD.isAgg, Int.reduceEq, Int.reduceNe, Int.reduceLT, Int.reduceLE, Int.reduceGT, Int.reduceGE, Int.reduceToNat, Int.reduceSub, Int.reduceAdd, Int.reduceMul, likeL, likeP, eqLP, pgC_len8 hl, celsC_len8 hl, pgC_drop1, pgC_drop17 hl, celsC_all hl, pgC_fold, pgC_all hl, goR_pg0, noS_mk, refs_pgF, refs_celsF, ren_pg, ren_cels, fin_pg, finM_pg, fin_cels, finM_cels, pureL_pg, pureL_cels, hc, h, hlt, hin]
    cases u
    · simp only [clk, wk, upd, binR, ↓reduceIte, Nat.reduceEqDiff, reduceCtorEq, ofConst, ofCell, okCell, arI, cmpI, RetQ, RetM, finV, finC, finMV, finMC, resOf, V.w1, cellsV, refsC, refsO, callR, Nat.reduceAdd, Nat.reduceMul, Nat.reduceSub, Nat.reduceLeDiff, Nat.reduceLT, Nat.reduceBEq, boxR, idxR, loadR, storeR, readSl, lenR, sliceR, boundR, makeR, pureC, pureL, TD.isAgg, Int.reduceEq, Int.reduceNe, Int.reduceLT, Int.reduceLE, Int.reduceGT, Int.reduceGE, Int.reduceToNat, Int.reduceSub, Int.reduceAdd, Int.reduceMul, likeL, likeP, eqLP, noS_mk]
      refine ⟨fun h1 => hno (by rw [hok]; simp; omega), fun h1 => ⟨fun h2 => hno (by rw [hok]; simp [h2]), fun h2 => ?_⟩⟩
      exact ih (i + 1) _ ⟨by omega, hnx (by rw [hok]; simp at h2; simp [h2] <;> omega)⟩ (by omega) (weak_mem (M := []) ⟨rfl, rfl, by simp only [wk, upd, binR, ↓reduceIte, Nat.reduceEqDiff, reduceCtorEq, ofConst, ofCell, okCell, arI, cmpI, RetQ, RetM, finV, finC, finMV, finMC, resOf, V.w1, cellsV, refsC, refsO, callR, Nat.reduceAdd, Nat.reduceMul, Nat.reduceSub, Nat.reduceLeDiff, Nat.reduceLT, Nat.reduceBEq, boxR, idxR, loadR, storeR, readSl, lenR, sliceR, boundR, makeR, pureC, pureL, TD.isAgg, hw], trivial⟩ ⟨rfl, trivial⟩ (by simp only [refsT, refs_cels]; rfl) (by simp only [List.all_cons, refs_pgO]; rfl) (by rw [hE]; rfl) rfl)
    · simp only [clk, wk, upd, binR, ↓reduceIte, Nat.reduceEqDiff, reduceCtorEq, ofConst, ofCell, okCell, arI, cmpI, RetQ, RetM, finV, finC, finMV, finMC, resOf, V.w1, cellsV, refsC, refsO, callR, Nat.reduceAdd, Nat.reduceMul, Nat.reduceSub, Nat.reduceLeDiff, Nat.reduceLT, Nat.reduceBEq, boxR, idxR, loadR, storeR, readSl, lenR, sliceR, boundR, makeR, pureC, pureL, TD.isAgg, Int.reduceEq, Int.reduceNe, Int.reduceLT, Int.reduceLE, Int.reduceGT, Int.reduceGE, Int.reduceToNat, Int.reduceSub, Int.reduceAdd, Int.reduceMul, likeL, likeP, eqLP, noS_mk]
      refine ⟨fun h1 => hno (by rw [hok]; simp; omega), fun h1 => ?_⟩
      exact ih (i + 1) _ ⟨by omega, hnx (by rw [hok]; simp; omega)⟩ (by omega) (weak_mem (M := []) ⟨rfl, rfl, by simp only [wk, upd, binR, ↓reduceIte, Nat.reduceEqDiff, reduceCtorEq, ofConst, ofCell, okCell, arI, cmpI, RetQ, RetM, finV, finC, finMV, finMC, resOf, V.w1, cellsV, refsC, refsO, callR, Nat.reduceAdd, Nat.reduceMul, Nat.reduceSub, Nat.reduceLeDiff, Nat.reduceLT, Nat.reduceBEq, boxR, idxR, loadR, storeR, readSl, lenR, sliceR, boundR, makeR, pureC, pureL, TD.isAgg, hw], trivial⟩ ⟨rfl, trivial⟩ (by simp only [refsT, refs_cels]; rfl) (by simp only [List.all_cons, refs_pgO]; rfl) (by rw [hE]; rfl) rfl)
  · simp only [clk, wk, upd, binR, ↓reduceIte, Nat.reduceEqDiff, reduceCtorEq, ofConst, ofCell, okCell, arI, cmpI, RetQ, RetM, finV, finC, finMV, finMC, resOf, V.w1, cellsV, refsC, refsO, callR, Nat.reduceAdd, Nat.reduceMul, Nat.reduceSub, Nat.reduceLeDiff, Nat.reduceLT, Nat.reduceBEq, boxR, idxR, loadR, storeR, readSl, lenR, sliceR, boundR, makeR, pureC, pureL, TD.isAgg, Int.reduceEq, Int.reduceNe, Int.reduceLT, Int.reduceLE, Int.reduceGT, Int.reduceGE, Int.reduceToNat, Int.reduceSub, Int.reduceAdd, Int.reduceMul, likeL, likeP, eqLP, pgC_len8 hl, celsC_len8 hl, pgC_drop1, pgC_drop17 hl, celsC_all hl, pgC_fold, pgC_all hl, goR_pg0, noS_mk, refs_pgF, refs_celsF, ren_pg, ren_cels, fin_pg, finM_pg, fin_cels, finM_cels, pureL_pg, pureL_cels, h]
    exact vbeq (pgOk_yes fun j hj => hinv j hj (by omega)).symm
theorem c98 (l : Int) (cs : List Cel) (hl : cs.length = 8) : ConSem Try.prog tab 98 [.agg (pgC l cs)] [] (vb (pgOk l cs)) [] := by
  refine con_pure tabOk mixedOk Try.func98 rfl (by decide) (by kernel_rfl) (by show (1:Nat) ≤ _; decide) fun E hE => go_start ?_
  simp only [Try.f98, wk, upd, binR, ↓reduceIte, Nat.reduceEqDiff, reduceCtorEq, ofConst, ofCell, okCell, arI, cmpI, RetQ, RetM, finV, finC, finMV, finMC, resOf, V.w1, cellsV, refsC, refsO, callR, Nat.reduceAdd, Nat.reduceMul, Nat.reduceSub, Nat.reduceLeDiff, Nat.reduceLT, Nat.reduceBEq, boxR, idxR, loadR, storeR, readSl, lenR, sliceR, boundR, makeR, pureC, pureL, TD.isAgg, pgC_len8 hl, celsC_len8 hl, pgC_drop1, pgC_drop17 hl, celsC_all hl, pgC_fold, pgC_all hl, goR_pg0, noS_mk, refs_pgF, refs_celsF, ren_pg, ren_cels, fin_pg, finM_pg, fin_cels, finM_cels, pureL_pg, pureL_cels]
  refine aw_ind (fun i : Nat => ⟨tOf [(1, vp 1 0), (3, vi .i64 i)], mOf [(1, .box (pgC l cs))]⟩) (fun i => i ≤ 8 ∧ ∀ (j : Nat) (h : j < cs.length), j < i → celOk cs[j] = true) (fun i => 8 - i) 0 rfl
      (weak_mem (M := []) ⟨rfl, rfl, trivial⟩ ⟨rfl, trivial⟩ rfl (by simp only [List.all_cons, refs_pgO]; rfl) (by rw [hE]; rfl) rfl) ⟨by omega, fun j h h2 => by omega⟩ ?_
  rintro i ⟨hi, hinv⟩ ih
  by_cases h : (i : Int) < 8
  · have h' : i < cs.length := by omega
    have hw : IntKind.i64.wrap ((i : Int) + 1) = ((i + 1 : Nat) : Int) := by rw [w64 (by omega) (by omega)]; omega
    have hc := pgC_cel (l := l) h'
    have hlt : 1 + i * 2 + 2 ≤ 17 := by omega
    have hin : inR (↑i) 8 := ⟨by omega, h⟩
    have hok : celOk cs[i] = (decide (cs[i].2.size ≤ 20) && (cs[i].1 || decide (cs[i].2 = noS))) := rfl
    have hnx : celOk cs[i] = true → ∀ (j : Nat) (h : j < cs.length), j < i + 1 → celOk cs[j] = true := fun hk j hj hji => by
      by_cases hjx : j = i
      · subst hjx; exact hk
      · exact hinv j hj (by omega)
    have hno := fun hk => vbeq (pgOk_no (l := l) h' hk).symm
    generalize cs[i] = x at hc hok hnx hno
    obtain ⟨u, v⟩ := x
    simp only [clk, wk, upd, binR, ↓reduceIte, Nat.reduceEqDiff, reduceCtorEq, ofConst, ofCell, okCell, arI, cmpI, RetQ, RetM, finV, finC, finMV, finMC, resOf, V.w1, cellsV, refsC, refsO, callR, Nat.reduceAdd, Nat.reduceMul, Nat.reduceSub, Nat.reduceLeDiff, Nat.reduceLT, Nat.reduceBEq, boxR, idxR, loadR, storeR, readSl, lenR, sliceR, boundR, makeR, pureC, pureL, TD.isAgg, Int.reduceEq, Int.reduceNe, Int.reduceLT, Int.reduceLE, Int.reduceGT, Int.reduceGE, Int.reduceToNat, Int.reduceSub, Int.reduceAdd, Int.reduceMul, likeL, likeP, eqLP, pgC_len8 hl, celsC_len8 hl, pgC_drop1, pgC_drop17 hl, celsC_all hl, pgC_fold, pgC_all hl, goR_pg0, noS_mk, refs_pgF, refs_celsF, ren_pg, ren_cels, fin_pg, finM_pg, fin_cels, finM_cels, pureL_pg, pureL_cels, hc, h, hlt, hin]
    cases u
    · simp only [clk, wk, upd, binR, ↓reduceIte, Nat.reduceEqDiff, reduceCtorEq, ofConst, ofCell, okCell, arI, cmpI, RetQ, RetM, finV, finC, finMV, finMC, resOf, V.w1, cellsV, refsC, refsO, callR, Nat.reduceAdd, Nat.reduceMul, Nat.reduceSub, Nat.reduceLeDiff, Nat.reduceLT, Nat.reduceBEq, boxR, idxR, loadR, storeR, readSl, lenR, sliceR, boundR, makeR, pureC, pureL, TD.isAgg, Int.reduceEq, Int.reduceNe, Int.reduceLT, Int.reduceLE, Int.reduceGT, Int.reduceGE, Int.reduceToNat, Int.reduceSub, Int.reduceAdd, Int.reduceMul, likeL, likeP, eqLP, noS_mk]
      refine ⟨fun h1 => hno (by rw [hok]; simp; omega), fun h1 => ⟨fun h2 => hno (by rw [hok]; simp [h2]), fun h2 => ?_⟩⟩
      exact ih (i + 1) _ ⟨by omega, hnx (by rw [hok]; simp at h2; simp [h2] <;> omega)⟩ (by omega) (weak_mem (M := []) ⟨rfl, by simp only [wk, upd, binR, ↓reduceIte, Nat.reduceEqDiff, reduceCtorEq, ofConst, ofCell, okCell, arI, cmpI, RetQ, RetM, finV, finC, finMV, finMC, resOf, V.w1, cellsV, refsC, refsO, callR, Nat.reduceAdd, Nat.reduceMul, Nat.reduceSub, Nat.reduceLeDiff, Nat.reduceLT, Nat.reduceBEq, boxR, idxR, loadR, storeR, readSl, lenR, sliceR, boundR, makeR, pureC, pureL, TD.isAgg, hw], trivial⟩ ⟨rfl, trivial⟩ rfl (by simp only [List.all_cons, refs_pgO]; rfl) (by rw [hE]; rfl) rfl)
    · simp only [clk, wk, upd, binR, ↓reduceIte, Nat.reduceEqDiff, reduceCtorEq, ofConst, ofCell, okCell, arI, cmpI, RetQ, RetM, finV, finC, finMV, finMC, resOf, V.w1, cellsV, refsC, refsO, callR, Nat.reduceAdd, Nat.reduceMul, Nat.reduceSub, Nat.reduceLeDiff, Nat.reduceLT, Nat.reduceBEq, boxR, idxR, loadR, storeR, readSl, lenR, sliceR, boundR, makeR, pureC, pureL, TD.isAgg, Int.reduceEq, Int.reduceNe, Int.reduceLT, Int.reduceLE, Int.reduceGT, Int.reduceGE, Int.reduceToNat, Int.reduceSub, Int.reduceAdd, Int.reduceMul, likeL, likeP, eqLP, noS_mk]
      refine ⟨fun h1 => hno (by rw [hok]; simp; omega), fun h1 => ?_⟩
      exact ih (i + 1) _ ⟨by omega, hnx (by rw [hok]; simp; omega)⟩ (by omega) (weak_mem (M := []) ⟨rfl, by simp only [wk, upd, binR, ↓reduceIte, Nat.reduceEqDiff, reduceCtorEq, ofConst, ofCell, okCell, arI, cmpI, RetQ, RetM, finV, finC, finMV, finMC, resOf, V.w1, cellsV, refsC, refsO, callR, Nat.reduceAdd, Nat.reduceMul, Nat.reduceSub, Nat.reduceLeDiff, Nat.reduceLT, Nat.reduceBEq, boxR, idxR, loadR, storeR, readSl, lenR, sliceR, boundR, makeR, pureC, pureL, TD.isAgg, hw], trivial⟩ ⟨rfl, trivial⟩ rfl (by simp only [List.all_cons, refs_pgO]; rfl) (by rw [hE]; rfl) rfl)
  · simp only [clk, wk, upd, binR, ↓reduceIte, Nat.reduceEqDiff, reduceCtorEq, ofConst, ofCell, okCell, arI, cmpI, RetQ, RetM, finV, finC, finMV, finMC, resOf, V.w1, cellsV, refsC, refsO, callR, Nat.reduceAdd, Nat.reduceMul, Nat.reduceSub, Nat.reduceLeDiff, Nat.reduceLT, Nat.reduceBEq, boxR, idxR, loadR, storeR, readSl, lenR, sliceR, boundR, makeR, pureC, pureL, TD.isAgg, Int.reduceEq, Int.reduceNe, Int.reduceLT, Int.reduceLE, Int.reduceGT, Int.reduceGE, Int.reduceToNat, Int.reduceSub, Int.reduceAdd, Int.reduceMul, likeL, likeP, eqLP, pgC_len8 hl, celsC_len8 hl, pgC_drop1, pgC_drop17 hl, celsC_all hl, pgC_fold, pgC_all hl, goR_pg0, noS_mk, refs_pgF, refs_celsF, ren_pg, ren_cels, fin_pg, finM_pg, fin_cels, finM_cels, pureL_pg, pureL_cels, h]
    exact vbeq (pgOk_yes fun j hj => hinv j hj (by omega)).symm

theorem c50 (c : Chg) : ConSem Try.prog tab 50 [.agg (chC c)] [] (vb (chOk c)) [] := by
  refine con_pure tabOk mixedOk Try.func50 rfl (by decide) (by kernel_rfl) (by show (1:Nat) ≤ _; decide) fun E hE => go_start ?_
  have hb : ∀ b : Bool, (b = true ↔ chOk c = true) → V.one (Ce.p (PV.bool b)) = V.one (Ce.p (PV.bool (chOk c))) := fun b h => vbeq (by cases b <;> cases hc : chOk c <;> simp_all)
  simp only [chOk_iff] at hb
  obtain ⟨k, p, s, o, n⟩ := c
  simp only [Try.f50, wk, upd, binR, ↓reduceIte, Nat.reduceEqDiff, reduceCtorEq, ofConst, ofCell, okCell, arI, cmpI, RetQ, RetM, finV, finC, finMV, finMC, resOf, V.w1, cellsV, refsC, refsO, callR, Nat.reduceAdd, Nat.reduceMul, Nat.reduceSub, Nat.reduceLeDiff, Nat.reduceLT, Nat.reduceBEq, boxR, idxR, loadR, storeR, readSl, lenR, sliceR, boundR, makeR, pureC, pureL, TD.isAgg, Int.reduceEq, Int.reduceNe, Int.reduceLT, Int.reduceLE, Int.reduceGT, Int.reduceGE, Int.reduceToNat, Int.reduceSub, Int.reduceAdd, Int.reduceMul, likeL, likeP, eqLP, chC, noS_mk]
  repeat' (first | intro _ | apply And.intro)
  all_goals
    refine hb _ ?_
    simp only [decide_eq_true_eq, Bool.false_eq_true, false_iff, true_iff, noS_iff] at *
    omega
theorem c51 (c : Chg) : ConSem Try.prog tab 51 [.agg (chC c)] [] (vb (chOk c)) [] := by
  refine con_pure tabOk mixedOk Try.func51 rfl (by decide) (by kernel_rfl) (by show (1:Nat) ≤ _; decide) fun E hE => go_start ?_
  have hb : ∀ b : Bool, (b = true ↔ chOk c = true) → V.one (Ce.p (PV.bool b)) = V.one (Ce.p (PV.bool (chOk c))) := fun b h => vbeq (by cases b <;> cases hc : chOk c <;> simp_all)
  simp only [chOk_iff] at hb
  obtain ⟨k, p, s, o, n⟩ := c
  simp only [Try.f51, wk, upd, binR, ↓reduceIte, Nat.reduceEqDiff, reduceCtorEq, ofConst, ofCell, okCell, arI, cmpI, RetQ, RetM, finV, finC, finMV, finMC, resOf, V.w1, cellsV, refsC, refsO, callR, Nat.reduceAdd, Nat.reduceMul, Nat.reduceSub, Nat.reduceLeDiff, Nat.reduceLT, Nat.reduceBEq, boxR, idxR, loadR, storeR, readSl, lenR, sliceR, boundR, makeR, pureC, pureL, TD.isAgg, Int.reduceEq, Int.reduceNe, Int.reduceLT, Int.reduceLE, Int.reduceGT, Int.reduceGE, Int.reduceToNat, Int.reduceSub, Int.reduceAdd, Int.reduceMul, likeL, likeP, eqLP, chC, noS_mk]
  repeat' (first | intro _ | apply And.intro)
  all_goals
    refine hb _ ?_
    simp only [decide_eq_true_eq, Bool.false_eq_true, false_iff, true_iff, noS_iff] at *
    omega
end Go.AW

/- A page behind a change, in the program and in the document's answer. -/
set_option maxRecDepth 100000
set_option linter.unusedSimpArgs false
set_option linter.unusedVariables false
namespace Go.AW
open Go.Proofs

theorem c48 (l : Int) (cs : List Cel) (hl : cs.length = 8) (c : Chg) (n : Int) : ConSem Try.prog tab 48 [.agg (pgC l cs), .agg (chC c), vi .u64 n] []
    (.tup [.agg (pgC (apF l cs c n).1 (apF l cs c n).2.1), .one (.p (.int .i64 (apF l cs c n).2.2))]) [] := by
  refine con_pure tabOk mixedOk Try.func48 rfl (by decide) (by kernel_rfl) (by show (3:Nat) ≤ _; decide) fun E hE => go_start ?_
  have h1 := c97 l cs hl
  have h2 := c50 c
  have hr : ∀ (a : Int) (b : List Cel) (e : Int), apF l cs c n = (a, b, e) → V.tup [W1.agg (pgC a b), W1.one (Ce.p (PV.int .i64 e))] = V.tup [W1.agg (pgC (apF l cs c n).1 (apF l cs c n).2.1), W1.one (Ce.p (PV.int .i64 (apF l cs c n).2.2))] := fun a b e h => by rw [h]
  generalize V.tup [W1.agg (pgC (apF l cs c n).1 (apF l cs c n).2.1), W1.one (Ce.p (PV.int .i64 (apF l cs c n).2.2))] = X at hr ⊢
  have hz := fun e => hr 0 noCels e
  simp only [Try.f48, go_nil, goX_nil, Int.toNat_natCast, loopQ_normal, loopQ_exit, loopQ_ret, den_go, den_exit, den_ret, go_skip, go_seq, go_block, go_blk, go_label, go_exit, go_ret, go_loop, goX_code, goX_blk, go_text, go_drawn, go_ops0, go_drw0, go_cond, goC_true, goC_false, goC_dec, go_t, go_tD, go_tG, go_tGD, goD_some, dstL, goG_skip, goG_tt, goG_ff, goG_tf, goG_ft, goG_dec, goR_ret, goR_retD, goR_getT, goR_getTD, goR_getM, goR_getMD, goR_fresh, goR_assert, goR_stuck, goR_splT, goR_splF, goR_splDec, goR_elem, goR_elemC, goR_call, goR_elemC_cons, goR_elemC_succ, Option.map_some, Option.map_none, opR, evR, evL, St.app, putT, upd, tOf_nil, tOf_cons, List.foldl, binR, ↓reduceIte, Nat.reduceEqDiff, Bool.false_eq_true, reduceCtorEq, ofConst, ofCell, okCell, List.getD_cons_zero, List.getD_cons_succ, arI, cmpI, retC, retB, skipW, st0, stM, RetQ, RetM, retK, runK, finVs, finV, finL, finC, finMVs, finMV, finML, finMC, resOf, W1.v, V.w1, cellsV, vi, vb, vs, List.map_nil, List.map_cons, List.flatMap_nil, List.flatMap_cons, List.append_nil, List.nil_append, List.cons_append, List.append_eq, Option.bind_some, List.getElem?_cons_zero, List.getElem?_cons_succ, List.toList_toArray, gatherR, refsV, refsC, refsW, refsO, callR, toIn, toOut, renV, renC, renW, renO, lentIn, mOf, List.find?_cons, List.find?_nil, beq_self_eq_true, buildR, fillA, placeS, placeA, List.zip_cons_cons, List.zip_nil_left, List.zip_nil_right, splice, List.take_zero, List.take_succ_cons, List.drop_zero, List.drop_succ_cons, List.take_nil, List.drop_nil, Nat.zero_add, Nat.add_zero, Nat.reduceAdd, Nat.reduceMul, Nat.reduceSub, Nat.reduceLeDiff, Nat.reduceLT, Nat.reduceBEq, Nat.le_refl, and_self, and_true, true_and, afterR, newIn, List.filter_cons, List.filter_nil, Bool.not_true, Bool.not_false, Bool.and_true, Bool.true_and, Bool.and_false, Bool.false_and, decide_true, decide_false, toOut, boxR, allocR, fieldR, idxR, loadR, storeR, partR, readSl, lenR, appR, sliceR, boundsR, boundR, makeR, buildSliceR, slicePartsA, pureC, pureL, allIn, List.contains_cons, List.contains_nil, Bool.or_false, Bool.or_true, Bool.true_or, Bool.false_or, List.any_cons, List.any_nil, List.all_cons, List.all_nil, ne_eq, not_false_eq_true, not_true_eq_false, true_implies, false_implies, implies_true, forall_const, TD.isAgg, List.foldl_cons, List.foldl_nil, List.mem_cons, List.not_mem_nil, or_false, forall_eq_or_imp, forall_eq, tab3, ty3, tab4, ty4, tab5, ty5, tab9, ty9, tab22, ty22, tab25, ty25, tab29, ty29, tab30, ty30, tab32, ty32, tab33, ty33, tab34, ty34, tab35, ty35, tab36, ty36, tab38, ty38, tab39, ty39, tab40, ty40, tab48, ty48, tab51, ty51, tab52, ty52, tab53, ty53, tab54, ty54, tab55, ty55, tab56, ty56, tab57, ty57, tab65, ty65, tab81, ty81, tab82, ty82, tab100, ty100, tab101, ty101, tab102, ty102, tab103, ty103, tab109, ty109, tab110, ty110, tab111, ty111, tab112, ty112, tab113, ty113, tab115, ty115, tab116, ty116, tab117, ty117, tab118, ty118, tab119, ty119, tab120, ty120, tab125, ty125, tab126, ty126, tab176, ty176, tab182, ty182, tab184, ty184, tab188, ty188, tab189, ty189, tab190, ty190, tab191, ty191, tab201, ty201, List.length_nil, List.length_cons, List.reverse_cons, List.reverse_nil, Int.reduceEq, Int.reduceNe, Int.reduceLT, Int.reduceLE, Int.reduceGT, Int.reduceGE, Int.reduceToNat, Int.reduceSub, Int.reduceAdd, Int.reduceMul, likeL, likeP, eqLP, pgC_len8 hl, celsC_len8 hl, pgC_drop1, pgC_drop17 hl, celsC_all hl, pgC_fold, pgC_all hl, goR_pg0, noS_mk, refs_pgF, refs_celsF, ren_pg, ren_cels, fin_pg, finM_pg, fin_cels, finM_cels, pureL_pg, pureL_cels, chC]
  refine call_by h1 ?_
  simp only [clk, go_nil, goX_nil, Int.toNat_natCast, loopQ_normal, loopQ_exit, loopQ_ret, den_go, den_exit, den_ret, go_skip, go_seq, go_block, go_blk, go_label, go_exit, go_ret, go_loop, goX_code, goX_blk, go_text, go_drawn, go_ops0, go_drw0, go_cond, goC_true, goC_false, goC_dec, go_t, go_tD, go_tG, go_tGD, goD_some, dstL, goG_skip, goG_tt, goG_ff, goG_tf, goG_ft, goG_dec, goR_ret, goR_retD, goR_getT, goR_getTD, goR_getM, goR_getMD, goR_fresh, goR_assert, goR_stuck, goR_splT, goR_splF, goR_splDec, goR_elem, goR_elemC, goR_call, goR_elemC_cons, goR_elemC_succ, Option.map_some, Option.map_none, opR, evR, evL, St.app, putT, upd, tOf_nil, tOf_cons, List.foldl, binR, ↓reduceIte, Nat.reduceEqDiff, Bool.false_eq_true, reduceCtorEq, ofConst, ofCell, okCell, List.getD_cons_zero, List.getD_cons_succ, arI, cmpI, retC, retB, skipW, st0, stM, RetQ, RetM, retK, runK, finVs, finV, finL, finC, finMVs, finMV, finML, finMC, resOf, W1.v, V.w1, cellsV, vi, vb, vs, List.map_nil, List.map_cons, List.flatMap_nil, List.flatMap_cons, List.append_nil, List.nil_append, List.cons_append, List.append_eq, Option.bind_some, List.getElem?_cons_zero, List.getElem?_cons_succ, List.toList_toArray, gatherR, refsV, refsC, refsW, refsO, callR, toIn, toOut, renV, renC, renW, renO, lentIn, mOf, List.find?_cons, List.find?_nil, beq_self_eq_true, buildR, fillA, placeS, placeA, List.zip_cons_cons, List.zip_nil_left, List.zip_nil_right, splice, List.take_zero, List.take_succ_cons, List.drop_zero, List.drop_succ_cons, List.take_nil, List.drop_nil, Nat.zero_add, Nat.add_zero, Nat.reduceAdd, Nat.reduceMul, Nat.reduceSub, Nat.reduceLeDiff, Nat.reduceLT, Nat.reduceBEq, Nat.le_refl, and_self, and_true, true_and, afterR, newIn, List.filter_cons, List.filter_nil, Bool.not_true, Bool.not_false, Bool.and_true, Bool.true_and, Bool.and_false, Bool.false_and, decide_true, decide_false, toOut, boxR, allocR, fieldR, idxR, loadR, storeR, partR, readSl, lenR, appR, sliceR, boundsR, boundR, makeR, buildSliceR, slicePartsA, pureC, pureL, allIn, List.contains_cons, List.contains_nil, Bool.or_false, Bool.or_true, Bool.true_or, Bool.false_or, List.any_cons, List.any_nil, List.all_cons, List.all_nil, ne_eq, not_false_eq_true, not_true_eq_false, true_implies, false_implies, implies_true, forall_const, TD.isAgg, List.foldl_cons, List.foldl_nil, List.mem_cons, List.not_mem_nil, or_false, forall_eq_or_imp, forall_eq, tab3, ty3, tab4, ty4, tab5, ty5, tab9, ty9, tab22, ty22, tab25, ty25, tab29, ty29, tab30, ty30, tab32, ty32, tab33, ty33, tab34, ty34, tab35, ty35, tab36, ty36, tab38, ty38, tab39, ty39, tab40, ty40, tab48, ty48, tab51, ty51, tab52, ty52, tab53, ty53, tab54, ty54, tab55, ty55, tab56, ty56, tab57, ty57, tab65, ty65, tab81, ty81, tab82, ty82, tab100, ty100, tab101, ty101, tab102, ty102, tab103, ty103, tab109, ty109, tab110, ty110, tab111, ty111, tab112, ty112, tab113, ty113, tab115, ty115, tab116, ty116, tab117, ty117, tab118, ty118, tab119, ty119, tab120, ty120, tab125, ty125, tab126, ty126, tab176, ty176, tab182, ty182, tab184, ty184, tab188, ty188, tab189, ty189, tab190, ty190, tab191, ty191, tab201, ty201, List.length_nil, List.length_cons, List.reverse_cons, List.reverse_nil, Int.reduceEq, Int.reduceNe, Int.reduceLT, Int.reduceLE, Int.reduceGT, Int.reduceGE, Int.reduceToNat, Int.reduceSub, Int.reduceAdd, Int.reduceMul, likeL, likeP, eqLP, pgC_len8 hl, celsC_len8 hl, pgC_drop1, pgC_drop17 hl, celsC_all hl, pgC_fold, pgC_all hl, goR_pg0, noS_mk, refs_pgF, refs_celsF, ren_pg, ren_cels, fin_pg, finM_pg, fin_cels, finM_cels, pureL_pg, pureL_cels, chC]
  cases hp : pgOk l cs
  · simp only [clk, go_nil, goX_nil, Int.toNat_natCast, loopQ_normal, loopQ_exit, loopQ_ret, den_go, den_exit, den_ret, go_skip, go_seq, go_block, go_blk, go_label, go_exit, go_ret, go_loop, goX_code, goX_blk, go_text, go_drawn, go_ops0, go_drw0, go_cond, goC_true, goC_false, goC_dec, go_t, go_tD, go_tG, go_tGD, goD_some, dstL, goG_skip, goG_tt, goG_ff, goG_tf, goG_ft, goG_dec, goR_ret, goR_retD, goR_getT, goR_getTD, goR_getM, goR_getMD, goR_fresh, goR_assert, goR_stuck, goR_splT, goR_splF, goR_splDec, goR_elem, goR_elemC, goR_call, goR_elemC_cons, goR_elemC_succ, Option.map_some, Option.map_none, opR, evR, evL, St.app, putT, upd, tOf_nil, tOf_cons, List.foldl, binR, ↓reduceIte, Nat.reduceEqDiff, Bool.false_eq_true, reduceCtorEq, ofConst, ofCell, okCell, List.getD_cons_zero, List.getD_cons_succ, arI, cmpI, retC, retB, skipW, st0, stM, RetQ, RetM, retK, runK, finVs, finV, finL, finC, finMVs, finMV, finML, finMC, resOf, W1.v, V.w1, cellsV, vi, vb, vs, List.map_nil, List.map_cons, List.flatMap_nil, List.flatMap_cons, List.append_nil, List.nil_append, List.cons_append, List.append_eq, Option.bind_some, List.getElem?_cons_zero, List.getElem?_cons_succ, List.toList_toArray, gatherR, refsV, refsC, refsW, refsO, callR, toIn, toOut, renV, renC, renW, renO, lentIn, mOf, List.find?_cons, List.find?_nil, beq_self_eq_true, buildR, fillA, placeS, placeA, List.zip_cons_cons, List.zip_nil_left, List.zip_nil_right, splice, List.take_zero, List.take_succ_cons, List.drop_zero, List.drop_succ_cons, List.take_nil, List.drop_nil, Nat.zero_add, Nat.add_zero, Nat.reduceAdd, Nat.reduceMul, Nat.reduceSub, Nat.reduceLeDiff, Nat.reduceLT, Nat.reduceBEq, Nat.le_refl, and_self, and_true, true_and, afterR, newIn, List.filter_cons, List.filter_nil, Bool.not_true, Bool.not_false, Bool.and_true, Bool.true_and, Bool.and_false, Bool.false_and, decide_true, decide_false, toOut, boxR, allocR, fieldR, idxR, loadR, storeR, partR, readSl, lenR, appR, sliceR, boundsR, boundR, makeR, buildSliceR, slicePartsA, pureC, pureL, allIn, List.contains_cons, List.contains_nil, Bool.or_false, Bool.or_true, Bool.true_or, Bool.false_or, List.any_cons, List.any_nil, List.all_cons, List.all_nil, ne_eq, not_false_eq_true, not_true_eq_false, true_implies, false_implies, implies_true, forall_const, TD.isAgg, List.foldl_cons, List.foldl_nil, List.mem_cons, List.not_mem_nil, or_false, forall_eq_or_imp, forall_eq, tab3, ty3, tab4, ty4, tab5, ty5, tab9, ty9, tab22, ty22, tab25, ty25, tab29, ty29, tab30, ty30, tab32, ty32, tab33, ty33, tab34, ty34, tab35, ty35, tab36, ty36, tab38, ty38, tab39, ty39, tab40, ty40, tab48, ty48, tab51, ty51, tab52, ty52, tab53, ty53, tab54, ty54, tab55, ty55, tab56, ty56, tab57, ty57, tab65, ty65, tab81, ty81, tab82, ty82, tab100, ty100, tab101, ty101, tab102, ty102, tab103, ty103, tab109, ty109, tab110, ty110, tab111, ty111, tab112, ty112, tab113, ty113, tab115, ty115, tab116, ty116, tab117, ty117, tab118, ty118, tab119, ty119, tab120, ty120, tab125, ty125, tab126, ty126, tab176, ty176, tab182, ty182, tab184, ty184, tab188, ty188, tab189, ty189, tab190, ty190, tab191, ty191, tab201, ty201, List.length_nil, List.length_cons, List.reverse_cons, List.reverse_nil, Int.reduceEq, Int.reduceNe, Int.reduceLT, Int.reduceLE, Int.reduceGT, Int.reduceGE, Int.reduceToNat, Int.reduceSub, Int.reduceAdd, Int.reduceMul, likeL, likeP, eqLP, pgC_len8 hl, celsC_len8 hl, pgC_drop1, pgC_drop17 hl, celsC_all hl, pgC_fold, pgC_all hl, goR_pg0, noS_mk, refs_pgF, refs_celsF, ren_pg, ren_cels, fin_pg, finM_pg, fin_cels, finM_cels, pureL_pg, pureL_cels, chC]
    exact hz 1 (by simp [apF, hp])
  simp only [clk, go_nil, goX_nil, Int.toNat_natCast, loopQ_normal, loopQ_exit, loopQ_ret, den_go, den_exit, den_ret, go_skip, go_seq, go_block, go_blk, go_label, go_exit, go_ret, go_loop, goX_code, goX_blk, go_text, go_drawn, go_ops0, go_drw0, go_cond, goC_true, goC_false, goC_dec, go_t, go_tD, go_tG, go_tGD, goD_some, dstL, goG_skip, goG_tt, goG_ff, goG_tf, goG_ft, goG_dec, goR_ret, goR_retD, goR_getT, goR_getTD, goR_getM, goR_getMD, goR_fresh, goR_assert, goR_stuck, goR_splT, goR_splF, goR_splDec, goR_elem, goR_elemC, goR_call, goR_elemC_cons, goR_elemC_succ, Option.map_some, Option.map_none, opR, evR, evL, St.app, putT, upd, tOf_nil, tOf_cons, List.foldl, binR, ↓reduceIte, Nat.reduceEqDiff, Bool.false_eq_true, reduceCtorEq, ofConst, ofCell, okCell, List.getD_cons_zero, List.getD_cons_succ, arI, cmpI, retC, retB, skipW, st0, stM, RetQ, RetM, retK, runK, finVs, finV, finL, finC, finMVs, finMV, finML, finMC, resOf, W1.v, V.w1, cellsV, vi, vb, vs, List.map_nil, List.map_cons, List.flatMap_nil, List.flatMap_cons, List.append_nil, List.nil_append, List.cons_append, List.append_eq, Option.bind_some, List.getElem?_cons_zero, List.getElem?_cons_succ, List.toList_toArray, gatherR, refsV, refsC, refsW, refsO, callR, toIn, toOut, renV, renC, renW, renO, lentIn, mOf, List.find?_cons, List.find?_nil, beq_self_eq_true, buildR, fillA, placeS, placeA, List.zip_cons_cons, List.zip_nil_left, List.zip_nil_right, splice, List.take_zero, List.take_succ_cons, List.drop_zero, List.drop_succ_cons, List.take_nil, List.drop_nil, Nat.zero_add, Nat.add_zero, Nat.reduceAdd, Nat.reduceMul, Nat.reduceSub, Nat.reduceLeDiff, Nat.reduceLT, Nat.reduceBEq, Nat.le_refl, and_self, and_true, true_and, afterR, newIn, List.filter_cons, List.filter_nil, Bool.not_true, Bool.not_false, Bool.and_true, Bool.true_and, Bool.and_false, Bool.false_and, decide_true, decide_false, toOut, boxR, allocR, fieldR, idxR, loadR, storeR, partR, readSl, lenR, appR, sliceR, boundsR, boundR, makeR, buildSliceR, slicePartsA, pureC, pureL, allIn, List.contains_cons, List.contains_nil, Bool.or_false, Bool.or_true, Bool.true_or, Bool.false_or, List.any_cons, List.any_nil, List.all_cons, List.all_nil, ne_eq, not_false_eq_true, not_true_eq_false, true_implies, false_implies, implies_true, forall_const, TD.isAgg, List.foldl_cons, List.foldl_nil, List.mem_cons, List.not_mem_nil, or_false, forall_eq_or_imp, forall_eq, tab3, ty3, tab4, ty4, tab5, ty5, tab9, ty9, tab22, ty22, tab25, ty25, tab29, ty29, tab30, ty30, tab32, ty32, tab33, ty33, tab34, ty34, tab35, ty35, tab36, ty36, tab38, ty38, tab39, ty39, tab40, ty40, tab48, ty48, tab51, ty51, tab52, ty52, tab53, ty53, tab54, ty54, tab55, ty55, tab56, ty56, tab57, ty57, tab65, ty65, tab81, ty81, tab82, ty82, tab100, ty100, tab101, ty101, tab102, ty102, tab103, ty103, tab109, ty109, tab110, ty110, tab111, ty111, tab112, ty112, tab113, ty113, tab115, ty115, tab116, ty116, tab117, ty117, tab118, ty118, tab119, ty119, tab120, ty120, tab125, ty125, tab126, ty126, tab176, ty176, tab182, ty182, tab184, ty184, tab188, ty188, tab189, ty189, tab190, ty190, tab191, ty191, tab201, ty201, List.length_nil, List.length_cons, List.reverse_cons, List.reverse_nil, Int.reduceEq, Int.reduceNe, Int.reduceLT, Int.reduceLE, Int.reduceGT, Int.reduceGE, Int.reduceToNat, Int.reduceSub, Int.reduceAdd, Int.reduceMul, likeL, likeP, eqLP, pgC_len8 hl, celsC_len8 hl, pgC_drop1, pgC_drop17 hl, celsC_all hl, pgC_fold, pgC_all hl, goR_pg0, noS_mk, refs_pgF, refs_celsF, ren_pg, ren_cels, fin_pg, finM_pg, fin_cels, finM_cels, pureL_pg, pureL_cels, chC]
  refine call_by h2 ?_
  cases hc : chOk c
  · simp only [clk, go_nil, goX_nil, Int.toNat_natCast, loopQ_normal, loopQ_exit, loopQ_ret, den_go, den_exit, den_ret, go_skip, go_seq, go_block, go_blk, go_label, go_exit, go_ret, go_loop, goX_code, goX_blk, go_text, go_drawn, go_ops0, go_drw0, go_cond, goC_true, goC_false, goC_dec, go_t, go_tD, go_tG, go_tGD, goD_some, dstL, goG_skip, goG_tt, goG_ff, goG_tf, goG_ft, goG_dec, goR_ret, goR_retD, goR_getT, goR_getTD, goR_getM, goR_getMD, goR_fresh, goR_assert, goR_stuck, goR_splT, goR_splF, goR_splDec, goR_elem, goR_elemC, goR_call, goR_elemC_cons, goR_elemC_succ, Option.map_some, Option.map_none, opR, evR, evL, St.app, putT, upd, tOf_nil, tOf_cons, List.foldl, binR, ↓reduceIte, Nat.reduceEqDiff, Bool.false_eq_true, reduceCtorEq, ofConst, ofCell, okCell, List.getD_cons_zero, List.getD_cons_succ, arI, cmpI, retC, retB, skipW, st0, stM, RetQ, RetM, retK, runK, finVs, finV, finL, finC, finMVs, finMV, finML, finMC, resOf, W1.v, V.w1, cellsV, vi, vb, vs, List.map_nil, List.map_cons, List.flatMap_nil, List.flatMap_cons, List.append_nil, List.nil_append, List.cons_append, List.append_eq, Option.bind_some, List.getElem?_cons_zero, List.getElem?_cons_succ, List.toList_toArray, gatherR, refsV, refsC, refsW, refsO, callR, toIn, toOut, renV, renC, renW, renO, lentIn, mOf, List.find?_cons, List.find?_nil, beq_self_eq_true, buildR, fillA, placeS, placeA, List.zip_cons_cons, List.zip_nil_left, List.zip_nil_right, splice, List.take_zero, List.take_succ_cons, List.drop_zero, List.drop_succ_cons, List.take_nil, List.drop_nil, Nat.zero_add, Nat.add_zero, Nat.reduceAdd, Nat.reduceMul, Nat.reduceSub, Nat.reduceLeDiff, Nat.reduceLT, Nat.reduceBEq, Nat.le_refl, and_self, and_true, true_and, afterR, newIn, List.filter_cons, List.filter_nil, Bool.not_true, Bool.not_false, Bool.and_true, Bool.true_and, Bool.and_false, Bool.false_and, decide_true, decide_false, toOut, boxR, allocR, fieldR, idxR, loadR, storeR, partR, readSl, lenR, appR, sliceR, boundsR, boundR, makeR, buildSliceR, slicePartsA, pureC, pureL, allIn, List.contains_cons, List.contains_nil, Bool.or_false, Bool.or_true, Bool.true_or, Bool.false_or, List.any_cons, List.any_nil, List.all_cons, List.all_nil, ne_eq, not_false_eq_true, not_true_eq_false, true_implies, false_implies, implies_true, forall_const, TD.isAgg, List.foldl_cons, List.foldl_nil, List.mem_cons, List.not_mem_nil, or_false, forall_eq_or_imp, forall_eq, tab3, ty3, tab4, ty4, tab5, ty5, tab9, ty9, tab22, ty22, tab25, ty25, tab29, ty29, tab30, ty30, tab32, ty32, tab33, ty33, tab34, ty34, tab35, ty35, tab36, ty36, tab38, ty38, tab39, ty39, tab40, ty40, tab48, ty48, tab51, ty51, tab52, ty52, tab53, ty53, tab54, ty54, tab55, ty55, tab56, ty56, tab57, ty57, tab65, ty65, tab81, ty81, tab82, ty82, tab100, ty100, tab101, ty101, tab102, ty102, tab103, ty103, tab109, ty109, tab110, ty110, tab111, ty111, tab112, ty112, tab113, ty113, tab115, ty115, tab116, ty116, tab117, ty117, tab118, ty118, tab119, ty119, tab120, ty120, tab125, ty125, tab126, ty126, tab176, ty176, tab182, ty182, tab184, ty184, tab188, ty188, tab189, ty189, tab190, ty190, tab191, ty191, tab201, ty201, List.length_nil, List.length_cons, List.reverse_cons, List.reverse_nil, Int.reduceEq, Int.reduceNe, Int.reduceLT, Int.reduceLE, Int.reduceGT, Int.reduceGE, Int.reduceToNat, Int.reduceSub, Int.reduceAdd, Int.reduceMul, likeL, likeP, eqLP, pgC_len8 hl, celsC_len8 hl, pgC_drop1, pgC_drop17 hl, celsC_all hl, pgC_fold, pgC_all hl, goR_pg0, noS_mk, refs_pgF, refs_celsF, ren_pg, ren_cels, fin_pg, finM_pg, fin_cels, finM_cels, pureL_pg, pureL_cels, chC]
    exact hz 1 (by simp [apF, hc])
  have hci := (chOk_iff c).1 hc
  obtain ⟨k, p, s, o, v⟩ := c
  obtain ⟨⟨hp0, hp1, hs0, hs1, ho, hv⟩, hk⟩ := hci
  simp only at hp0 hp1 hs0 hs1 ho hv hk
  obtain ⟨i, rfl⟩ : ∃ i : Nat, s = i := ⟨s.toNat, by omega⟩
  have hi : i < cs.length := by omega
  have hu := pgC_get_used (l := l) hi
  have hw := pgC_get_value (l := l) hi
  have hput := fun b s => pgC_put2 (l := l) hi b s
  have hl2 : ∀ x, (cs.set i x).length = 8 := fun x => by simpa using hl
  have hd : cs.getD i noCel = cs[i] := by simp [List.getD, hi]
  have hin : inR (↑i) 8 := ⟨by omega, by omega⟩
  have hle : 1 + i * 2 + 2 ≤ 17 := by omega
  have hmx : maxL = 4611686018427387904 := rfl
  generalize cs[i] = x at hu hw hd
  obtain ⟨u, w⟩ := x
  simp only [clk, go_nil, goX_nil, Int.toNat_natCast, loopQ_normal, loopQ_exit, loopQ_ret, den_go, den_exit, den_ret, go_skip, go_seq, go_block, go_blk, go_label, go_exit, go_ret, go_loop, goX_code, goX_blk, go_text, go_drawn, go_ops0, go_drw0, go_cond, goC_true, goC_false, goC_dec, go_t, go_tD, go_tG, go_tGD, goD_some, dstL, goG_skip, goG_tt, goG_ff, goG_tf, goG_ft, goG_dec, goR_ret, goR_retD, goR_getT, goR_getTD, goR_getM, goR_getMD, goR_fresh, goR_assert, goR_stuck, goR_splT, goR_splF, goR_splDec, goR_elem, goR_elemC, goR_call, goR_elemC_cons, goR_elemC_succ, Option.map_some, Option.map_none, opR, evR, evL, St.app, putT, upd, tOf_nil, tOf_cons, List.foldl, binR, ↓reduceIte, Nat.reduceEqDiff, Bool.false_eq_true, reduceCtorEq, ofConst, ofCell, okCell, List.getD_cons_zero, List.getD_cons_succ, arI, cmpI, retC, retB, skipW, st0, stM, RetQ, RetM, retK, runK, finVs, finV, finL, finC, finMVs, finMV, finML, finMC, resOf, W1.v, V.w1, cellsV, vi, vb, vs, List.map_nil, List.map_cons, List.flatMap_nil, List.flatMap_cons, List.append_nil, List.nil_append, List.cons_append, List.append_eq, Option.bind_some, List.getElem?_cons_zero, List.getElem?_cons_succ, List.toList_toArray, gatherR, refsV, refsC, refsW, refsO, callR, toIn, toOut, renV, renC, renW, renO, lentIn, mOf, List.find?_cons, List.find?_nil, beq_self_eq_true, buildR, fillA, placeS, placeA, List.zip_cons_cons, List.zip_nil_left, List.zip_nil_right, splice, List.take_zero, List.take_succ_cons, List.drop_zero, List.drop_succ_cons, List.take_nil, List.drop_nil, Nat.zero_add, Nat.add_zero, Nat.reduceAdd, Nat.reduceMul, Nat.reduceSub, Nat.reduceLeDiff, Nat.reduceLT, Nat.reduceBEq, Nat.le_refl, and_self, and_true, true_and, afterR, newIn, List.filter_cons, List.filter_nil, Bool.not_true, Bool.not_false, Bool.and_true, Bool.true_and, Bool.and_false, Bool.false_and, decide_true, decide_false, toOut, boxR, allocR, fieldR, idxR, loadR, storeR, partR, readSl, lenR, appR, sliceR, boundsR, boundR, makeR, buildSliceR, slicePartsA, pureC, pureL, allIn, List.contains_cons, List.contains_nil, Bool.or_false, Bool.or_true, Bool.true_or, Bool.false_or, List.any_cons, List.any_nil, List.all_cons, List.all_nil, ne_eq, not_false_eq_true, not_true_eq_false, true_implies, false_implies, implies_true, forall_const, TD.isAgg, List.foldl_cons, List.foldl_nil, List.mem_cons, List.not_mem_nil, or_false, forall_eq_or_imp, forall_eq, tab3, ty3, tab4, ty4, tab5, ty5, tab9, ty9, tab22, ty22, tab25, ty25, tab29, ty29, tab30, ty30, tab32, ty32, tab33, ty33, tab34, ty34, tab35, ty35, tab36, ty36, tab38, ty38, tab39, ty39, tab40, ty40, tab48, ty48, tab51, ty51, tab52, ty52, tab53, ty53, tab54, ty54, tab55, ty55, tab56, ty56, tab57, ty57, tab65, ty65, tab81, ty81, tab82, ty82, tab100, ty100, tab101, ty101, tab102, ty102, tab103, ty103, tab109, ty109, tab110, ty110, tab111, ty111, tab112, ty112, tab113, ty113, tab115, ty115, tab116, ty116, tab117, ty117, tab118, ty118, tab119, ty119, tab120, ty120, tab125, ty125, tab126, ty126, tab176, ty176, tab182, ty182, tab184, ty184, tab188, ty188, tab189, ty189, tab190, ty190, tab191, ty191, tab201, ty201, List.length_nil, List.length_cons, List.reverse_cons, List.reverse_nil, Int.reduceEq, Int.reduceNe, Int.reduceLT, Int.reduceLE, Int.reduceGT, Int.reduceGE, Int.reduceToNat, Int.reduceSub, Int.reduceAdd, Int.reduceMul, likeL, likeP, eqLP, pgC_len8 hl, celsC_len8 hl, pgC_drop1, pgC_drop17 hl, celsC_all hl, pgC_fold, pgC_all hl, goR_pg0, noS_mk, refs_pgF, refs_celsF, ren_pg, ren_cels, fin_pg, finM_pg, fin_cels, finM_cels, pureL_pg, pureL_cels, chC]
  refine ⟨fun h3 => hz 1 (by simp [apF, hp, hc, hmx]; omega), fun h3 => ?_⟩
  have e3 : decide (maxL < n) = false := by simp [hmx]; omega
  refine ⟨fun h4 => hz 13 (by simp [apF, hp, hc, e3, h4]), fun h4 => ⟨hin, ?_⟩⟩
  have hap : apF l cs ⟨k, p, i, o, v⟩ n = (if k = 1 ∧ u = true then (0, noCels, 6) else if k ≠ 1 ∧ u = false then (0, noCels, 5) else if w ≠ o then (0, noCels, 2) else (n, cs.set i (decide (k ≠ 3), v), 0)) := by
    simp only [apF, hp, hc, e3, Bool.not_true, Bool.or_false, Bool.false_eq_true, if_false, h4, Int.toNat_natCast, hd]
  by_cases hk1 : k = 1
  · have hk3 : k ≠ 3 := by omega
    cases u
    · by_cases hwo : w = o
      · rw [if_neg (by simp), if_neg (by simp [hk1]), if_neg (by simp [hwo]), decide_eq_true hk3] at hap
        simp only [clk, go_nil, goX_nil, Int.toNat_natCast, loopQ_normal, loopQ_exit, loopQ_ret, den_go, den_exit, den_ret, go_skip, go_seq, go_block, go_blk, go_label, go_exit, go_ret, go_loop, goX_code, goX_blk, go_text, go_drawn, go_ops0, go_drw0, go_cond, goC_true, goC_false, goC_dec, go_t, go_tD, go_tG, go_tGD, goD_some, dstL, goG_skip, goG_tt, goG_ff, goG_tf, goG_ft, goG_dec, goR_ret, goR_retD, goR_getT, goR_getTD, goR_getM, goR_getMD, goR_fresh, goR_assert, goR_stuck, goR_splT, goR_splF, goR_splDec, goR_elem, goR_elemC, goR_call, goR_elemC_cons, goR_elemC_succ, Option.map_some, Option.map_none, opR, evR, evL, St.app, putT, upd, tOf_nil, tOf_cons, List.foldl, binR, ↓reduceIte, Nat.reduceEqDiff, Bool.false_eq_true, reduceCtorEq, ofConst, ofCell, okCell, List.getD_cons_zero, List.getD_cons_succ, arI, cmpI, retC, retB, skipW, st0, stM, RetQ, RetM, retK, runK, finVs, finV, finL, finC, finMVs, finMV, finML, finMC, resOf, W1.v, V.w1, cellsV, vi, vb, vs, List.map_nil, List.map_cons, List.flatMap_nil, List.flatMap_cons, List.append_nil, List.nil_append, List.cons_append, List.append_eq, Option.bind_some, List.getElem?_cons_zero, List.getElem?_cons_succ, List.toList_toArray, gatherR, refsV, refsC, refsW, refsO, callR, toIn, toOut, renV, renC, renW, renO, lentIn, mOf, List.find?_cons, List.find?_nil, beq_self_eq_true, buildR, fillA, placeS, placeA, List.zip_cons_cons, List.zip_nil_left, List.zip_nil_right, splice, List.take_zero, List.take_succ_cons, List.drop_zero, List.drop_succ_cons, List.take_nil, List.drop_nil, Nat.zero_add, Nat.add_zero, Nat.reduceAdd, Nat.reduceMul, Nat.reduceSub, Nat.reduceLeDiff, Nat.reduceLT, Nat.reduceBEq, Nat.le_refl, and_self, and_true, true_and, afterR, newIn, List.filter_cons, List.filter_nil, Bool.not_true, Bool.not_false, Bool.and_true, Bool.true_and, Bool.and_false, Bool.false_and, decide_true, decide_false, toOut, boxR, allocR, fieldR, idxR, loadR, storeR, partR, readSl, lenR, appR, sliceR, boundsR, boundR, makeR, buildSliceR, slicePartsA, pureC, pureL, allIn, List.contains_cons, List.contains_nil, Bool.or_false, Bool.or_true, Bool.true_or, Bool.false_or, List.any_cons, List.any_nil, List.all_cons, List.all_nil, ne_eq, not_false_eq_true, not_true_eq_false, true_implies, false_implies, implies_true, forall_const, TD.isAgg, List.foldl_cons, List.foldl_nil, List.mem_cons, List.not_mem_nil, or_false, forall_eq_or_imp, forall_eq, tab3, ty3, tab4, ty4, tab5, ty5, tab9, ty9, tab22, ty22, tab25, ty25, tab29, ty29, tab30, ty30, tab32, ty32, tab33, ty33, tab34, ty34, tab35, ty35, tab36, ty36, tab38, ty38, tab39, ty39, tab40, ty40, tab48, ty48, tab51, ty51, tab52, ty52, tab53, ty53, tab54, ty54, tab55, ty55, tab56, ty56, tab57, ty57, tab65, ty65, tab81, ty81, tab82, ty82, tab100, ty100, tab101, ty101, tab102, ty102, tab103, ty103, tab109, ty109, tab110, ty110, tab111, ty111, tab112, ty112, tab113, ty113, tab115, ty115, tab116, ty116, tab117, ty117, tab118, ty118, tab119, ty119, tab120, ty120, tab125, ty125, tab126, ty126, tab176, ty176, tab182, ty182, tab184, ty184, tab188, ty188, tab189, ty189, tab190, ty190, tab191, ty191, tab201, ty201, List.length_nil, List.length_cons, List.reverse_cons, List.reverse_nil, Int.reduceEq, Int.reduceNe, Int.reduceLT, Int.reduceLE, Int.reduceGT, Int.reduceGE, Int.reduceToNat, Int.reduceSub, Int.reduceAdd, Int.reduceMul, likeL, likeP, eqLP, pgC_len8 hl, celsC_len8 hl, pgC_drop1, pgC_drop17 hl, celsC_all hl, pgC_fold, pgC_all hl, goR_pg0, noS_mk, refs_pgF, refs_celsF, ren_pg, ren_cels, fin_pg, finM_pg, fin_cels, finM_cels, pureL_pg, pureL_cels, chC, elemC_eq hu, elemC_eq hw, hput, hle, pgC_len8 (hl2 _), pgC_all (hl2 _), celsC_len8 (hl2 _), celsC_all (hl2 _), hk1, hwo]
        exact ⟨rfl, hr _ _ _ hap⟩
      · rw [if_neg (by simp), if_neg (by simp [hk1]), if_pos (by simp [hwo])] at hap
        simp only [clk, go_nil, goX_nil, Int.toNat_natCast, loopQ_normal, loopQ_exit, loopQ_ret, den_go, den_exit, den_ret, go_skip, go_seq, go_block, go_blk, go_label, go_exit, go_ret, go_loop, goX_code, goX_blk, go_text, go_drawn, go_ops0, go_drw0, go_cond, goC_true, goC_false, goC_dec, go_t, go_tD, go_tG, go_tGD, goD_some, dstL, goG_skip, goG_tt, goG_ff, goG_tf, goG_ft, goG_dec, goR_ret, goR_retD, goR_getT, goR_getTD, goR_getM, goR_getMD, goR_fresh, goR_assert, goR_stuck, goR_splT, goR_splF, goR_splDec, goR_elem, goR_elemC, goR_call, goR_elemC_cons, goR_elemC_succ, Option.map_some, Option.map_none, opR, evR, evL, St.app, putT, upd, tOf_nil, tOf_cons, List.foldl, binR, ↓reduceIte, Nat.reduceEqDiff, Bool.false_eq_true, reduceCtorEq, ofConst, ofCell, okCell, List.getD_cons_zero, List.getD_cons_succ, arI, cmpI, retC, retB, skipW, st0, stM, RetQ, RetM, retK, runK, finVs, finV, finL, finC, finMVs, finMV, finML, finMC, resOf, W1.v, V.w1, cellsV, vi, vb, vs, List.map_nil, List.map_cons, List.flatMap_nil, List.flatMap_cons, List.append_nil, List.nil_append, List.cons_append, List.append_eq, Option.bind_some, List.getElem?_cons_zero, List.getElem?_cons_succ, List.toList_toArray, gatherR, refsV, refsC, refsW, refsO, callR, toIn, toOut, renV, renC, renW, renO, lentIn, mOf, List.find?_cons, List.find?_nil, beq_self_eq_true, buildR, fillA, placeS, placeA, List.zip_cons_cons, List.zip_nil_left, List.zip_nil_right, splice, List.take_zero, List.take_succ_cons, List.drop_zero, List.drop_succ_cons, List.take_nil, List.drop_nil, Nat.zero_add, Nat.add_zero, Nat.reduceAdd, Nat.reduceMul, Nat.reduceSub, Nat.reduceLeDiff, Nat.reduceLT, Nat.reduceBEq, Nat.le_refl, and_self, and_true, true_and, afterR, newIn, List.filter_cons, List.filter_nil, Bool.not_true, Bool.not_false, Bool.and_true, Bool.true_and, Bool.and_false, Bool.false_and, decide_true, decide_false, toOut, boxR, allocR, fieldR, idxR, loadR, storeR, partR, readSl, lenR, appR, sliceR, boundsR, boundR, makeR, buildSliceR, slicePartsA, pureC, pureL, allIn, List.contains_cons, List.contains_nil, Bool.or_false, Bool.or_true, Bool.true_or, Bool.false_or, List.any_cons, List.any_nil, List.all_cons, List.all_nil, ne_eq, not_false_eq_true, not_true_eq_false, true_implies, false_implies, implies_true, forall_const, TD.isAgg, List.foldl_cons, List.foldl_nil, List.mem_cons, List.not_mem_nil, or_false, forall_eq_or_imp, forall_eq, tab3, ty3, tab4, ty4, tab5, ty5, tab9, ty9, tab22, ty22, tab25, ty25, tab29, ty29, tab30, ty30, tab32, ty32, tab33, ty33, tab34, ty34, tab35, ty35, tab36, ty36, tab38, ty38, tab39, ty39, tab40, ty40, tab48, ty48, tab51, ty51, tab52, ty52, tab53, ty53, tab54, ty54, tab55, ty55, tab56, ty56, tab57, ty57, tab65, ty65, tab81, ty81, tab82, ty82, tab100, ty100, tab101, ty101, tab102, ty102, tab103, ty103, tab109, ty109, tab110, ty110, tab111, ty111, tab112, ty112, tab113, ty113, tab115, ty115, tab116, ty116, tab117, ty117, tab118, ty118, tab119, ty119, tab120, ty120, tab125, ty125, tab126, ty126, tab176, ty176, tab182, ty182, tab184, ty184, tab188, ty188, tab189, ty189, tab190, ty190, tab191, ty191, tab201, ty201, List.length_nil, List.length_cons, List.reverse_cons, List.reverse_nil, Int.reduceEq, Int.reduceNe, Int.reduceLT, Int.reduceLE, Int.reduceGT, Int.reduceGE, Int.reduceToNat, Int.reduceSub, Int.reduceAdd, Int.reduceMul, likeL, likeP, eqLP, pgC_len8 hl, celsC_len8 hl, pgC_drop1, pgC_drop17 hl, celsC_all hl, pgC_fold, pgC_all hl, goR_pg0, noS_mk, refs_pgF, refs_celsF, ren_pg, ren_cels, fin_pg, finM_pg, fin_cels, finM_cels, pureL_pg, pureL_cels, chC, elemC_eq hu, elemC_eq hw, hput, hle, hk1, hwo]
        exact ⟨rfl, hz 2 hap⟩
    · rw [if_pos (by simp [hk1])] at hap
      simp only [clk, go_nil, goX_nil, Int.toNat_natCast, loopQ_normal, loopQ_exit, loopQ_ret, den_go, den_exit, den_ret, go_skip, go_seq, go_block, go_blk, go_label, go_exit, go_ret, go_loop, goX_code, goX_blk, go_text, go_drawn, go_ops0, go_drw0, go_cond, goC_true, goC_false, goC_dec, go_t, go_tD, go_tG, go_tGD, goD_some, dstL, goG_skip, goG_tt, goG_ff, goG_tf, goG_ft, goG_dec, goR_ret, goR_retD, goR_getT, goR_getTD, goR_getM, goR_getMD, goR_fresh, goR_assert, goR_stuck, goR_splT, goR_splF, goR_splDec, goR_elem, goR_elemC, goR_call, goR_elemC_cons, goR_elemC_succ, Option.map_some, Option.map_none, opR, evR, evL, St.app, putT, upd, tOf_nil, tOf_cons, List.foldl, binR, ↓reduceIte, Nat.reduceEqDiff, Bool.false_eq_true, reduceCtorEq, ofConst, ofCell, okCell, List.getD_cons_zero, List.getD_cons_succ, arI, cmpI, retC, retB, skipW, st0, stM, RetQ, RetM, retK, runK, finVs, finV, finL, finC, finMVs, finMV, finML, finMC, resOf, W1.v, V.w1, cellsV, vi, vb, vs, List.map_nil, List.map_cons, List.flatMap_nil, List.flatMap_cons, List.append_nil, List.nil_append, List.cons_append, List.append_eq, Option.bind_some, List.getElem?_cons_zero, List.getElem?_cons_succ, List.toList_toArray, gatherR, refsV, refsC, refsW, refsO, callR, toIn, toOut, renV, renC, renW, renO, lentIn, mOf, List.find?_cons, List.find?_nil, beq_self_eq_true, buildR, fillA, placeS, placeA, List.zip_cons_cons, List.zip_nil_left, List.zip_nil_right, splice, List.take_zero, List.take_succ_cons, List.drop_zero, List.drop_succ_cons, List.take_nil, List.drop_nil, Nat.zero_add, Nat.add_zero, Nat.reduceAdd, Nat.reduceMul, Nat.reduceSub, Nat.reduceLeDiff, Nat.reduceLT, Nat.reduceBEq, Nat.le_refl, and_self, and_true, true_and, afterR, newIn, List.filter_cons, List.filter_nil, Bool.not_true, Bool.not_false, Bool.and_true, Bool.true_and, Bool.and_false, Bool.false_and, decide_true, decide_false, toOut, boxR, allocR, fieldR, idxR, loadR, storeR, partR, readSl, lenR, appR, sliceR, boundsR, boundR, makeR, buildSliceR, slicePartsA, pureC, pureL, allIn, List.contains_cons, List.contains_nil, Bool.or_false, Bool.or_true, Bool.true_or, Bool.false_or, List.any_cons, List.any_nil, List.all_cons, List.all_nil, ne_eq, not_false_eq_true, not_true_eq_false, true_implies, false_implies, implies_true, forall_const, TD.isAgg, List.foldl_cons, List.foldl_nil, List.mem_cons, List.not_mem_nil, or_false, forall_eq_or_imp, forall_eq, tab3, ty3, tab4, ty4, tab5, ty5, tab9, ty9, tab22, ty22, tab25, ty25, tab29, ty29, tab30, ty30, tab32, ty32, tab33, ty33, tab34, ty34, tab35, ty35, tab36, ty36, tab38, ty38, tab39, ty39, tab40, ty40, tab48, ty48, tab51, ty51, tab52, ty52, tab53, ty53, tab54, ty54, tab55, ty55, tab56, ty56, tab57, ty57, tab65, ty65, tab81, ty81, tab82, ty82, tab100, ty100, tab101, ty101, tab102, ty102, tab103, ty103, tab109, ty109, tab110, ty110, tab111, ty111, tab112, ty112, tab113, ty113, tab115, ty115, tab116, ty116, tab117, ty117, tab118, ty118, tab119, ty119, tab120, ty120, tab125, ty125, tab126, ty126, tab176, ty176, tab182, ty182, tab184, ty184, tab188, ty188, tab189, ty189, tab190, ty190, tab191, ty191, tab201, ty201, List.length_nil, List.length_cons, List.reverse_cons, List.reverse_nil, Int.reduceEq, Int.reduceNe, Int.reduceLT, Int.reduceLE, Int.reduceGT, Int.reduceGE, Int.reduceToNat, Int.reduceSub, Int.reduceAdd, Int.reduceMul, likeL, likeP, eqLP, pgC_len8 hl, celsC_len8 hl, pgC_drop1, pgC_drop17 hl, celsC_all hl, pgC_fold, pgC_all hl, goR_pg0, noS_mk, refs_pgF, refs_celsF, ren_pg, ren_cels, fin_pg, finM_pg, fin_cels, finM_cels, pureL_pg, pureL_cels, chC, elemC_eq hu, elemC_eq hw, hk1]
      exact hz 6 hap
  · cases u
    · rw [if_neg (by simp), if_pos (by simp [hk1])] at hap
      simp only [clk, go_nil, goX_nil, Int.toNat_natCast, loopQ_normal, loopQ_exit, loopQ_ret, den_go, den_exit, den_ret, go_skip, go_seq, go_block, go_blk, go_label, go_exit, go_ret, go_loop, goX_code, goX_blk, go_text, go_drawn, go_ops0, go_drw0, go_cond, goC_true, goC_false, goC_dec, go_t, go_tD, go_tG, go_tGD, goD_some, dstL, goG_skip, goG_tt, goG_ff, goG_tf, goG_ft, goG_dec, goR_ret, goR_retD, goR_getT, goR_getTD, goR_getM, goR_getMD, goR_fresh, goR_assert, goR_stuck, goR_splT, goR_splF, goR_splDec, goR_elem, goR_elemC, goR_call, goR_elemC_cons, goR_elemC_succ, Option.map_some, Option.map_none, opR, evR, evL, St.app, putT, upd, tOf_nil, tOf_cons, List.foldl, binR, ↓reduceIte, Nat.reduceEqDiff, Bool.false_eq_true, reduceCtorEq, ofConst, ofCell, okCell, List.getD_cons_zero, List.getD_cons_succ, arI, cmpI, retC, retB, skipW, st0, stM, RetQ, RetM, retK, runK, finVs, finV, finL, finC, finMVs, finMV, finML, finMC, resOf, W1.v, V.w1, cellsV, vi, vb, vs, List.map_nil, List.map_cons, List.flatMap_nil, List.flatMap_cons, List.append_nil, List.nil_append, List.cons_append, List.append_eq, Option.bind_some, List.getElem?_cons_zero, List.getElem?_cons_succ, List.toList_toArray, gatherR, refsV, refsC, refsW, refsO, callR, toIn, toOut, renV, renC, renW, renO, lentIn, mOf, List.find?_cons, List.find?_nil, beq_self_eq_true, buildR, fillA, placeS, placeA, List.zip_cons_cons, List.zip_nil_left, List.zip_nil_right, splice, List.take_zero, List.take_succ_cons, List.drop_zero, List.drop_succ_cons, List.take_nil, List.drop_nil, Nat.zero_add, Nat.add_zero, Nat.reduceAdd, Nat.reduceMul, Nat.reduceSub, Nat.reduceLeDiff, Nat.reduceLT, Nat.reduceBEq, Nat.le_refl, and_self, and_true, true_and, afterR, newIn, List.filter_cons, List.filter_nil, Bool.not_true, Bool.not_false, Bool.and_true, Bool.true_and, Bool.and_false, Bool.false_and, decide_true, decide_false, toOut, boxR, allocR, fieldR, idxR, loadR, storeR, partR, readSl, lenR, appR, sliceR, boundsR, boundR, makeR, buildSliceR, slicePartsA, pureC, pureL, allIn, List.contains_cons, List.contains_nil, Bool.or_false, Bool.or_true, Bool.true_or, Bool.false_or, List.any_cons, List.any_nil, List.all_cons, List.all_nil, ne_eq, not_false_eq_true, not_true_eq_false, true_implies, false_implies, implies_true, forall_const, TD.isAgg, List.foldl_cons, List.foldl_nil, List.mem_cons, List.not_mem_nil, or_false, forall_eq_or_imp, forall_eq, tab3, ty3, tab4, ty4, tab5, ty5, tab9, ty9, tab22, ty22, tab25, ty25, tab29, ty29, tab30, ty30, tab32, ty32, tab33, ty33, tab34, ty34, tab35, ty35, tab36, ty36, tab38, ty38, tab39, ty39, tab40, ty40, tab48, ty48, tab51, ty51, tab52, ty52, tab53, ty53, tab54, ty54, tab55, ty55, tab56, ty56, tab57, ty57, tab65, ty65, tab81, ty81, tab82, ty82, tab100, ty100, tab101, ty101, tab102, ty102, tab103, ty103, tab109, ty109, tab110, ty110, tab111, ty111, tab112, ty112, tab113, ty113, tab115, ty115, tab116, ty116, tab117, ty117, tab118, ty118, tab119, ty119, tab120, ty120, tab125, ty125, tab126, ty126, tab176, ty176, tab182, ty182, tab184, ty184, tab188, ty188, tab189, ty189, tab190, ty190, tab191, ty191, tab201, ty201, List.length_nil, List.length_cons, List.reverse_cons, List.reverse_nil, Int.reduceEq, Int.reduceNe, Int.reduceLT, Int.reduceLE, Int.reduceGT, Int.reduceGE, Int.reduceToNat, Int.reduceSub, Int.reduceAdd, Int.reduceMul, likeL, likeP, eqLP, pgC_len8 hl, celsC_len8 hl, pgC_drop1, pgC_drop17 hl, celsC_all hl, pgC_fold, pgC_all hl, goR_pg0, noS_mk, refs_pgF, refs_celsF, ren_pg, ren_cels, fin_pg, finM_pg, fin_cels, finM_cels, pureL_pg, pureL_cels, chC, elemC_eq hu, elemC_eq hw, hk1]
      exact hz 5 hap
    · by_cases hwo : w = o
      · rw [if_neg (by simp [hk1]), if_neg (by simp), if_neg (by simp [hwo])] at hap
        simp only [clk, go_nil, goX_nil, Int.toNat_natCast, loopQ_normal, loopQ_exit, loopQ_ret, den_go, den_exit, den_ret, go_skip, go_seq, go_block, go_blk, go_label, go_exit, go_ret, go_loop, goX_code, goX_blk, go_text, go_drawn, go_ops0, go_drw0, go_cond, goC_true, goC_false, goC_dec, go_t, go_tD, go_tG, go_tGD, goD_some, dstL, goG_skip, goG_tt, goG_ff, goG_tf, goG_ft, goG_dec, goR_ret, goR_retD, goR_getT, goR_getTD, goR_getM, goR_getMD, goR_fresh, goR_assert, goR_stuck, goR_splT, goR_splF, goR_splDec, goR_elem, goR_elemC, goR_call, goR_elemC_cons, goR_elemC_succ, Option.map_some, Option.map_none, opR, evR, evL, St.app, putT, upd, tOf_nil, tOf_cons, List.foldl, binR, ↓reduceIte, Nat.reduceEqDiff, Bool.false_eq_true, reduceCtorEq, ofConst, ofCell, okCell, List.getD_cons_zero, List.getD_cons_succ, arI, cmpI, retC, retB, skipW, st0, stM, RetQ, RetM, retK, runK, finVs, finV, finL, finC, finMVs, finMV, finML, finMC, resOf, W1.v, V.w1, cellsV, vi, vb, vs, List.map_nil, List.map_cons, List.flatMap_nil, List.flatMap_cons, List.append_nil, List.nil_append, List.cons_append, List.append_eq, Option.bind_some, List.getElem?_cons_zero, List.getElem?_cons_succ, List.toList_toArray, gatherR, refsV, refsC, refsW, refsO, callR, toIn, toOut, renV, renC, renW, renO, lentIn, mOf, List.find?_cons, List.find?_nil, beq_self_eq_true, buildR, fillA, placeS, placeA, List.zip_cons_cons, List.zip_nil_left, List.zip_nil_right, splice, List.take_zero, List.take_succ_cons, List.drop_zero, List.drop_succ_cons, List.take_nil, List.drop_nil, Nat.zero_add, Nat.add_zero, Nat.reduceAdd, Nat.reduceMul, Nat.reduceSub, Nat.reduceLeDiff, Nat.reduceLT, Nat.reduceBEq, Nat.le_refl, and_self, and_true, true_and, afterR, newIn, List.filter_cons, List.filter_nil, Bool.not_true, Bool.not_false, Bool.and_true, Bool.true_and, Bool.and_false, Bool.false_and, decide_true, decide_false, toOut, boxR, allocR, fieldR, idxR, loadR, storeR, partR, readSl, lenR, appR, sliceR, boundsR, boundR, makeR, buildSliceR, slicePartsA, pureC, pureL, allIn, List.contains_cons, List.contains_nil, Bool.or_false, Bool.or_true, Bool.true_or, Bool.false_or, List.any_cons, List.any_nil, List.all_cons, List.all_nil, ne_eq, not_false_eq_true, not_true_eq_false, true_implies, false_implies, implies_true, forall_const, TD.isAgg, List.foldl_cons, List.foldl_nil, List.mem_cons, List.not_mem_nil, or_false, forall_eq_or_imp, forall_eq, tab3, ty3, tab4, ty4, tab5, ty5, tab9, ty9, tab22, ty22, tab25, ty25, tab29, ty29, tab30, ty30, tab32, ty32, tab33, ty33, tab34, ty34, tab35, ty35, tab36, ty36, tab38, ty38, tab39, ty39, tab40, ty40, tab48, ty48, tab51, ty51, tab52, ty52, tab53, ty53, tab54, ty54, tab55, ty55, tab56, ty56, tab57, ty57, tab65, ty65, tab81, ty81, tab82, ty82, tab100, ty100, tab101, ty101, tab102, ty102, tab103, ty103, tab109, ty109, tab110, ty110, tab111, ty111, tab112, ty112, tab113, ty113, tab115, ty115, tab116, ty116, tab117, ty117, tab118, ty118, tab119, ty119, tab120, ty120, tab125, ty125, tab126, ty126, tab176, ty176, tab182, ty182, tab184, ty184, tab188, ty188, tab189, ty189, tab190, ty190, tab191, ty191, tab201, ty201, List.length_nil, List.length_cons, List.reverse_cons, List.reverse_nil, Int.reduceEq, Int.reduceNe, Int.reduceLT, Int.reduceLE, Int.reduceGT, Int.reduceGE, Int.reduceToNat, Int.reduceSub, Int.reduceAdd, Int.reduceMul, likeL, likeP, eqLP, pgC_len8 hl, celsC_len8 hl, pgC_drop1, pgC_drop17 hl, celsC_all hl, pgC_fold, pgC_all hl, goR_pg0, noS_mk, refs_pgF, refs_celsF, ren_pg, ren_cels, fin_pg, finM_pg, fin_cels, finM_cels, pureL_pg, pureL_cels, chC, elemC_eq hu, elemC_eq hw, hput, hle, pgC_len8 (hl2 _), pgC_all (hl2 _), celsC_len8 (hl2 _), celsC_all (hl2 _), hk1, hwo]
        exact ⟨rfl, hr _ _ _ (by simpa using hap)⟩
      · rw [if_neg (by simp [hk1]), if_neg (by simp), if_pos (by simp [hwo])] at hap
        simp only [clk, go_nil, goX_nil, Int.toNat_natCast, loopQ_normal, loopQ_exit, loopQ_ret, den_go, den_exit, den_ret, go_skip, go_seq, go_block, go_blk, go_label, go_exit, go_ret, go_loop, goX_code, goX_blk, go_text, go_drawn, go_ops0, go_drw0, go_cond, goC_true, goC_false, goC_dec, go_t, go_tD, go_tG, go_tGD, goD_some, dstL, goG_skip, goG_tt, goG_ff, goG_tf, goG_ft, goG_dec, goR_ret, goR_retD, goR_getT, goR_getTD, goR_getM, goR_getMD, goR_fresh, goR_assert, goR_stuck, goR_splT, goR_splF, goR_splDec, goR_elem, goR_elemC, goR_call, goR_elemC_cons, goR_elemC_succ, Option.map_some, Option.map_none, opR, evR, evL, St.app, putT, upd, tOf_nil, tOf_cons, List.foldl, binR, ↓reduceIte, Nat.reduceEqDiff, Bool.false_eq_true, reduceCtorEq, ofConst, ofCell, okCell, List.getD_cons_zero, List.getD_cons_succ, arI, cmpI, retC, retB, skipW, st0, stM, RetQ, RetM, retK, runK, finVs, finV, finL, finC, finMVs, finMV, finML, finMC, resOf, W1.v, V.w1, cellsV, vi, vb, vs, List.map_nil, List.map_cons, List.flatMap_nil, List.flatMap_cons, List.append_nil, List.nil_append, List.cons_append, List.append_eq, Option.bind_some, List.getElem?_cons_zero, List.getElem?_cons_succ, List.toList_toArray, gatherR, refsV, refsC, refsW, refsO, callR, toIn, toOut, renV, renC, renW, renO, lentIn, mOf, List.find?_cons, List.find?_nil, beq_self_eq_true, buildR, fillA, placeS, placeA, List.zip_cons_cons, List.zip_nil_left, List.zip_nil_right, splice, List.take_zero, List.take_succ_cons, List.drop_zero, List.drop_succ_cons, List.take_nil, List.drop_nil, Nat.zero_add, Nat.add_zero, Nat.reduceAdd, Nat.reduceMul, Nat.reduceSub, Nat.reduceLeDiff, Nat.reduceLT, Nat.reduceBEq, Nat.le_refl, and_self, and_true, true_and, afterR, newIn, List.filter_cons, List.filter_nil, Bool.not_true, Bool.not_false, Bool.and_true, Bool.true_and, Bool.and_false, Bool.false_and, decide_true, decide_false, toOut, boxR, allocR, fieldR, idxR, loadR, storeR, partR, readSl, lenR, appR, sliceR, boundsR, boundR, makeR, buildSliceR, slicePartsA, pureC, pureL, allIn, List.contains_cons, List.contains_nil, Bool.or_false, Bool.or_true, Bool.true_or, Bool.false_or, List.any_cons, List.any_nil, List.all_cons, List.all_nil, ne_eq, not_false_eq_true, not_true_eq_false, true_implies, false_implies, implies_true, forall_const, TD.isAgg, List.foldl_cons, List.foldl_nil, List.mem_cons, List.not_mem_nil, or_false, forall_eq_or_imp, forall_eq, tab3, ty3, tab4, ty4, tab5, ty5, tab9, ty9, tab22, ty22, tab25, ty25, tab29, ty29, tab30, ty30, tab32, ty32, tab33, ty33, tab34, ty34, tab35, ty35, tab36, ty36, tab38, ty38, tab39, ty39, tab40, ty40, tab48, ty48, tab51, ty51, tab52, ty52, tab53, ty53, tab54, ty54, tab55, ty55, tab56, ty56, tab57, ty57, tab65, ty65, tab81, ty81, tab82, ty82, tab100, ty100, tab101, ty101, tab102, ty102, tab103, ty103, tab109, ty109, tab110, ty110, tab111, ty111, tab112, ty112, tab113, ty113, tab115, ty115, tab116, ty116, tab117, ty117, tab118, ty118, tab119, ty119, tab120, ty120, tab125, ty125, tab126, ty126, tab176, ty176, tab182, ty182, tab184, ty184, tab188, ty188, tab189, ty189, tab190, ty190, tab191, ty191, tab201, ty201, List.length_nil, List.length_cons, List.reverse_cons, List.reverse_nil, Int.reduceEq, Int.reduceNe, Int.reduceLT, Int.reduceLE, Int.reduceGT, Int.reduceGE, Int.reduceToNat, Int.reduceSub, Int.reduceAdd, Int.reduceMul, likeL, likeP, eqLP, pgC_len8 hl, celsC_len8 hl, pgC_drop1, pgC_drop17 hl, celsC_all hl, pgC_fold, pgC_all hl, goR_pg0, noS_mk, refs_pgF, refs_celsF, ren_pg, ren_cels, fin_pg, finM_pg, fin_cels, finM_cels, pureL_pg, pureL_cels, chC, elemC_eq hu, elemC_eq hw, hput, hle, hk1, hwo]
        exact ⟨rfl, hz 2 hap⟩
end Go.AW
