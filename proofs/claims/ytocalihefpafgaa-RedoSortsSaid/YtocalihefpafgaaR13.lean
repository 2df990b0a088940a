import Derived.Test.YtocalihefpafgaaAW
import Derived.Test.YtocalihefpafgaaR11
/- All pages, change by change and page by page: the same. Plain. -/
set_option maxRecDepth 100000
set_option linter.unusedSimpArgs false
set_option linter.unusedVariables false
namespace Go.AW
open Go.Proofs

theorem freeze_sl {E : Env} {σ : St} {l : List (Nat × V)} {h id n e : Nat} {xs : List (List PV)} (hl : agreeT σ.t l) (hd : σ.t h = .one (.osl id n)) (hm : σ.m id = some (.sl e xs)) (hn : n = xs.length) (hr : refsT [] l = true) (h0 : E.m0 = fun _ => none) :
    WeakF E σ { t := tOf ((h, .one (.p (.slice xs))) :: l), m := fun _ => none } := by
  constructor
  · intro i
    by_cases hi : i = h
    · subst hi
      refine .inr (.inr ⟨_, _, hd, by simp [tOf]; rfl, ?_⟩)
      exact .osl id n e xs hm hn rfl
    · have e : tOf ((h, .one (.p (.slice xs))) :: l) i = tOf l i := by simp only [tOf, if_neg hi]
      show tOf _ i = _ ∨ _
      rcases tOf_agree hl i with h1 | h1
      · exact .inl (e.trans h1)
      · refine .inr (.inl ⟨e.trans h1, fun id hid => ?_⟩)
        have hid : id ∈ refsV (tOf ((h, .one (.p (.slice xs))) :: l) i) := hid
        rw [e] at hid
        have := refsT_tOf hr i id hid
        simp at this
  · exact fun _ => .inl rfl
  · intro id o ho; cases ho
  · intro id o ho; rw [h0] at ho; cases ho

theorem rpF_shift {id upto : Int} (k : Int) : ∀ (xs : List Stm) (l : Int) (cs : List Cel) (m : Int), rpF id upto xs l cs (m + k) = (rpF id upto xs l cs m).map fun z => (z.1, z.2.1, z.2.2 + k)
  | [], l, cs, m => rfl
  | x :: r, l, cs, m => by
    simp only [rpF]
    split
    · split
      · rw [show m + k + 1 = (m + 1) + k by omega]; exact rpF_shift k r _ _ _
      · rfl
    · exact rpF_shift k r _ _ _

def pwF (xs : List Stm) : Nat → List Pag → Option (List Pag × Int)
  | _, [] => some ([], 0)
  | i, p :: r => match rpF i maxL xs p.l p.cs 0 with
    | none => none
    | some z => match pwF xs (i + 1) r with
      | none => none
      | some w => some (⟨z.1, z.2.1⟩ :: w.1, z.2.2 + w.2)

theorem pwL_pwF {xs : List Stm} (hs : spOk 8 xs = true) : ∀ (ps : List Pag) (i : Nat) (out : List Pag) (m : Int), allOk ps = true → i + ps.length ≤ 32 →
    pwL xs i ps out m = match pwF xs i ps with | none => ([], 0, 2) | some w => (out ++ w.1, m + w.2, 0)
  | [], i, out, m, ha, hi => by simp [pwL, pwF]
  | p :: r, i, out, m, ha, hi => by
    simp only [allOk, List.all_cons, Bool.and_eq_true] at ha
    simp only [List.length_cons] at hi
    have hz : rpR p.l p.cs i xs maxL = match rpF i maxL xs p.l p.cs 0 with | none => (0, noCels, 0, 2) | some (a, b, m) => (a, b, m, 0) := by
      unfold rpR
      rw [if_neg (by rw [ha.1]; simp; omega), if_neg (by rw [hs]; simp)]
      cases rpF i maxL xs p.l p.cs 0 <;> rfl
    simp only [pwL, pwF]
    rw [hz]
    cases hf : rpF i maxL xs p.l p.cs 0 with
    | none => rfl
    | some z =>
      obtain ⟨a, b, c⟩ := z
      simp only
      rw [if_pos trivial, pwL_pwF hs r (i + 1) _ _ ha.2 (by omega)]
      cases pwF xs (i + 1) r with
      | none => rfl
      | some w => simp only [List.append_assoc, List.cons_append, List.nil_append, Int.add_assoc]

theorem pwF_nil : ∀ (ps : List Pag) (i : Nat), pwF [] i ps = some (ps, 0)
  | [], i => rfl
  | p :: r, i => by simp only [pwF, rpF, pwF_nil r (i + 1)]; rfl

theorem pwF_out {x : Stm} {xs : List Stm} : ∀ (ps : List Pag) (i : Nat), (∀ j : Nat, i ≤ j → j < i + ps.length → isOf x j = false) → pwF (x :: xs) i ps = pwF xs i ps
  | [], i, h => rfl
  | p :: r, i, h => by
    have h0 := h i (Nat.le_refl _) (by simp)
    simp only [pwF, rpF]
    rw [if_neg (by rw [h0]; simp), pwF_out r (i + 1) fun j h1 h2 => h j (by omega) (by simp only [List.length_cons]; omega)]

theorem pwF_in {x : Stm} {xs : List Stm} (hx : isCh x.r = true) (hm : x.r.lsn ≤ maxL) : ∀ (ps : List Pag) (i j : Nat) (hj : j < ps.length), x.r.ch.p = ((i + j : Nat) : Int) →
    pwF (x :: xs) i ps = (if x.r.lsn ≤ ps[j].l then pwF xs i ps
      else if (apF ps[j].l ps[j].cs x.r.ch x.r.lsn).2.2 = 0 then
        (pwF xs i (ps.set j ⟨(apF ps[j].l ps[j].cs x.r.ch x.r.lsn).1, (apF ps[j].l ps[j].cs x.r.ch x.r.lsn).2.1⟩)).map fun w => (w.1, w.2 + 1)
      else none)
  | p :: r, i, 0, hj, hp => by
    have ho : isOf x i = true := by rw [isOf_eq, hx, hp]; simp
    have hr := pwF_out (x := x) (xs := xs) r (i + 1) fun j h1 h2 => by rw [isOf_eq, hp]; simp; omega
    simp only [pwF, rpF, hr, List.getElem_cons_zero, List.set_cons_zero]
    by_cases hl : x.r.lsn ≤ p.l
    · rw [if_pos hl, if_neg (by omega)]
    · rw [if_neg hl, if_pos ⟨ho, hm, by omega⟩]
      by_cases he : (apF p.l p.cs x.r.ch x.r.lsn).2.2 = 0
      · rw [if_pos he, if_pos he, rpF_shift 1 xs _ _ 0]
        cases rpF i maxL xs (apF p.l p.cs x.r.ch x.r.lsn).1 (apF p.l p.cs x.r.ch x.r.lsn).2.1 0 with
        | none => rfl
        | some z =>
          simp only [Option.map_some]
          cases pwF xs (i + 1) r with
          | none => rfl
          | some w => simp only [Option.map_some, Option.some.injEq, Prod.mk.injEq, true_and]; omega
      · rw [if_neg he, if_neg he]
  | p :: r, i, j + 1, hj, hp => by
    have hjr : j < r.length := by simpa using hj
    have ho : isOf x i = false := by rw [isOf_eq, hp]; simp; omega
    have hr := pwF_in (xs := xs) hx hm r (i + 1) j (by simpa using hj) (by rw [hp]; congr 1; omega)
    simp only [pwF, rpF, hr, List.getElem_cons_succ, List.set_cons_succ]
    rw [if_neg (by rw [ho]; simp)]
    by_cases hl : x.r.lsn ≤ r[j].l
    · rw [if_pos hl, if_pos hl]
    · rw [if_neg hl, if_neg hl]
      by_cases he : (apF r[j].l r[j].cs x.r.ch x.r.lsn).2.2 = 0
      · rw [if_pos he, if_pos he]
        cases rpF i maxL xs p.l p.cs 0 with
        | none => rfl
        | some z =>
          simp only
          cases pwF xs (i + 1) (r.set j ⟨(apF r[j].l r[j].cs x.r.ch x.r.lsn).1, (apF r[j].l r[j].cs x.r.ch x.r.lsn).2.1⟩) with
          | none => rfl
          | some w => simp only [Option.map_some, Option.some.injEq, Prod.mk.injEq, true_and]; omega
      · rw [if_neg he, if_neg he]
        cases rpF i maxL xs p.l p.cs 0 with
        | none => rfl
        | some z => rfl

/-- In range, and no number above the top. -/
def inRng (n : Nat) (x : Stm) : Prop := x.r.lsn ≤ maxL ∧ (isCh x.r = true → 0 ≤ x.r.ch.p ∧ x.r.ch.p < n)

theorem raF_pwF : ∀ (xs : List Stm) (ps : List Pag) (m : Int), (∀ x ∈ xs, inRng ps.length x) → raF xs ps m = (pwF xs 0 ps).map fun w => (w.1, w.2 + m)
  | [], ps, m, h => by simp [raF, pwF_nil]
  | x :: r, ps, m, h => by
    have hx := h x List.mem_cons_self
    have hr := fun y hy => h y (List.mem_cons_of_mem x hy)
    simp only [raF]
    by_cases hc : isCh x.r = true
    · obtain ⟨h1, h2⟩ := hx.2 hc
      obtain ⟨j, hj⟩ : ∃ j : Nat, x.r.ch.p = j := ⟨x.r.ch.p.toNat, by omega⟩
      have hjl : j < ps.length := by omega
      have hpi := pwF_in (xs := r) hc hx.1 ps 0 j hjl (by rw [hj]; congr 1; omega)
      have hjt : x.r.ch.p.toNat = j := by omega
      rw [if_pos hc, hjt, List.getElem?_eq_getElem hjl, hpi]
      simp only
      by_cases hl : x.r.lsn ≤ ps[j].l
      · rw [if_pos hl, if_pos hl]; exact raF_pwF r ps m hr
      · rw [if_neg hl, if_neg hl]
        by_cases he : (apF ps[j].l ps[j].cs x.r.ch x.r.lsn).2.2 = 0
        · rw [if_pos he, if_pos he, raF_pwF r _ _ (by simpa using hr)]
          cases pwF r 0 (ps.set j ⟨(apF ps[j].l ps[j].cs x.r.ch x.r.lsn).1, (apF ps[j].l ps[j].cs x.r.ch x.r.lsn).2.1⟩) with
          | none => rfl
          | some w => simp only [Option.map_some, Option.some.injEq, Prod.mk.injEq, true_and]; omega
        · rw [if_neg he, if_neg he]; rfl
    · rw [if_neg hc, pwF_out ps 0 fun j _ _ => by rw [isOf_eq]; simp [hc]]
      exact raF_pwF r ps m hr

theorem raF_far : ∀ (xs : List Stm) (ps : List Pag) (m : Int), (∃ x ∈ xs, isCh x.r = true ∧ ps.length ≤ x.r.ch.p.toNat) → raF xs ps m = none
  | [], ps, m, h => by obtain ⟨x, hx, _⟩ := h; cases hx
  | y :: r, ps, m, ⟨x, hx, h1, h2⟩ => by
    simp only [raF]
    rcases List.mem_cons.1 hx with rfl | hx
    · rw [if_pos h1, List.getElem?_eq_none h2]
    · have hr := fun ps2 m2 (h : ps2.length = ps.length) => raF_far r ps2 m2 ⟨x, hx, h1, by rw [h]; exact h2⟩
      split
      · split
        · rfl
        · split
          · exact hr _ _ rfl
          · split
            · exact hr _ _ (by simp)
            · rfl
      · exact hr _ _ rfl

theorem spOk_mem {n : Int} {xs : List Stm} (h : spOk n xs = true) {x : Stm} (hx : x ∈ xs) : nodeOk n x = true := by
  simp only [spOk, Bool.and_eq_true, List.all_eq_true] at h
  exact h.1 _ hx
theorem node_lsn {n : Int} {x : Stm} (h : nodeOk n x = true) : x.r.lsn ≤ maxL := by
  simp only [nodeOk, Bool.and_eq_true] at h
  have hp := recOk_iff.1 h.2
  exact hp.1.2.2.2
theorem node_page {n : Int} {x : Stm} (h : nodeOk n x = true) (hc : isCh x.r = true) : 0 ≤ x.r.ch.p := by
  have := (chOk_iff _).1 (ch_rec h hc)
  omega

theorem raR_eq (ps : List Pag) (xs : List Stm) : raR ps xs = pwR ps xs := by
  unfold raR pwR
  by_cases h1 : 32 < ps.length ∨ allOk ps = false
  · rw [if_pos h1, if_pos h1]
  · rw [if_neg h1, if_neg h1]
    by_cases h2 : spOk 8 xs = false
    · rw [if_pos h2, if_pos h2]
    · rw [if_neg h2, if_neg h2]
      have hs : spOk 8 xs = true := by simpa using h2
      have ha : allOk ps = true := by cases h : allOk ps <;> simp_all
      by_cases h3 : xs.any (farC ps.length) = true
      · rw [if_pos h3]
        rw [List.any_eq_true] at h3
        obtain ⟨x, hx, hf⟩ := h3
        simp only [farC, Bool.and_eq_true, decide_eq_true_eq] at hf
        rw [raF_far xs ps 0 ⟨x, hx, hf.1, by omega⟩]
      · rw [if_neg h3, pwL_pwF hs ps 0 [] 0 ha (by omega), raF_pwF xs ps 0 fun x hx => ⟨node_lsn (spOk_mem hs hx), fun hc => ⟨node_page (spOk_mem hs hx) hc, ?_⟩⟩]
        · cases pwF xs 0 ps with
          | none => rfl
          | some w => simp
        · simp only [List.any_eq_true, not_exists, not_and, farC, Bool.and_eq_true, decide_eq_true_eq] at h3
          have := h3 x hx hc
          omega
end Go.AW

/- Redoing twice, in pieces, of the changes alone. Plain. -/
set_option maxRecDepth 100000
set_option linter.unusedSimpArgs false
set_option linter.unusedVariables false
namespace Go.AW
open Go.Proofs

theorem adjB_pw {α : Type} {R : α → α → Bool} (ht : ∀ a b c, R a b = true → R b c = true → R a c = true) : ∀ xs : List α, adjB R xs = true ↔ xs.Pairwise fun a b => R a b = true
  | [] => by simp [adjB]
  | [a] => by simp [adjB]
  | a :: b :: r => by
    rw [List.pairwise_cons, ← adjB_pw ht (b :: r)]
    simp only [adjB, Bool.and_eq_true]
    refine ⟨fun ⟨h1, h2⟩ => ⟨fun y hy => ?_, h2⟩, fun ⟨h1, h2⟩ => ⟨h1 b (by simp), h2⟩⟩
    rcases List.mem_cons.1 hy with rfl | hy
    · exact h1
    · exact ht _ _ _ h1 ((List.pairwise_cons.1 ((adjB_pw ht (b :: r)).1 h2)).1 y hy)
theorem bef_iff (x y : Stm) : bef x y = true ↔ x.r.lsn < y.r.lsn ∨ (x.r.lsn = y.r.lsn ∧ x.node < y.node) := by
  unfold bef
  split <;> simp <;> omega
theorem bef_trans (a b c : Stm) (h1 : bef a b = true) (h2 : bef b c = true) : bef a c = true := by
  rw [bef_iff] at *; omega
theorem spOk_iff {n : Int} {xs : List Stm} : spOk n xs = true ↔ (∀ x ∈ xs, nodeOk n x = true) ∧ xs.Pairwise fun a b => bef a b = true := by
  simp only [spOk, Bool.and_eq_true, List.all_eq_true, adjB_pw bef_trans]
theorem spOk_sub {n : Int} {xs ys : List Stm} (h : spOk n xs = true) (hs : List.Sublist ys xs) : spOk n ys = true := by
  rw [spOk_iff] at *
  exact ⟨fun x hx => h.1 x (hs.subset hx), h.2.sublist hs⟩

theorem raF_filter : ∀ (xs : List Stm) (ps : List Pag) (m : Int), raF (xs.filter fun x => isCh x.r) ps m = raF xs ps m
  | [], ps, m => rfl
  | x :: r, ps, m => by
    have hr := raF_filter r
    by_cases hc : isCh x.r = true
    · rw [List.filter_cons_of_pos (by exact hc)]
      simp only [raF, hr]
    · rw [List.filter_cons_of_neg (by exact hc)]
      simp only [raF, hr]
      rw [if_neg hc]
theorem raF_append : ∀ (xs ys : List Stm) (ps : List Pag) (m : Int), raF (xs ++ ys) ps m = (raF xs ps m).bind fun z => raF ys z.1 z.2
  | [], ys, ps, m => rfl
  | x :: r, ys, ps, m => by
    have hr := raF_append r ys
    simp only [List.cons_append, raF, hr]
    split
    · split
      · rfl
      · split
        · rfl
        · split <;> rfl
    · rfl
theorem raF_shift (k : Int) : ∀ (xs : List Stm) (ps : List Pag) (m : Int), raF xs ps (m + k) = (raF xs ps m).map fun z => (z.1, z.2 + k)
  | [], ps, m => rfl
  | x :: r, ps, m => by
    have hr := raF_shift k r
    simp only [raF]
    split
    · split
      · rfl
      · split
        · exact hr _ _
        · split
          · rw [show m + k + 1 = (m + 1) + k by omega]; exact hr _ _
          · rfl
    · exact hr _ _
theorem raF_idle : ∀ (xs : List Stm) (ps : List Pag) (m : Int), (∀ x ∈ xs, isCh x.r = true → ∃ q, ps[x.r.ch.p.toNat]? = some q ∧ x.r.lsn ≤ q.l) → raF xs ps m = some (ps, m)
  | [], ps, m, h => rfl
  | x :: r, ps, m, h => by
    have hr := raF_idle r ps m fun y hy => h y (List.mem_cons_of_mem x hy)
    simp only [raF]
    by_cases hc : isCh x.r = true
    · obtain ⟨q, hq, hl⟩ := h x List.mem_cons_self hc
      rw [if_pos hc, hq]
      simp only
      rw [if_pos hl, hr]
    · rw [if_neg hc, hr]

theorem apF_ok {l : Int} {cs : List Cel} {c : Chg} {n : Int} (h : (apF l cs c n).2.2 = 0) : (apF l cs c n).1 = n ∧ pgOk n (apF l cs c n).2.1 = true ∧ l < n := by
  rcases apF_cases l cs c n with hf | ⟨_, _, h3⟩
  · rw [apF_fits hf]
    exact ⟨rfl, pgOk_set hf.pg (cel_ok_new hf.ch) hf.le, hf.lt⟩
  · exact absurd h h3

theorem raF_spec : ∀ (xs : List Stm) (ps : List Pag) (m : Int) (qs : List Pag) (n : Int), raF xs ps m = some (qs, n) →
    qs.length = ps.length ∧ (allOk ps = true → allOk qs = true) ∧ (okPs ps → okPs qs) ∧ (m ≤ n ∧ n ≤ m + xs.length) ∧ (∀ (j : Nat) (p : Pag), ps[j]? = some p → ∃ q : Pag, qs[j]? = some q ∧ p.l ≤ q.l) ∧
      ∀ x ∈ xs, isCh x.r = true → ∃ q : Pag, qs[x.r.ch.p.toNat]? = some q ∧ x.r.lsn ≤ q.l
  | [], ps, m, qs, n, h => by
    simp only [raF, Option.some.injEq, Prod.mk.injEq] at h
    obtain ⟨rfl, rfl⟩ := h
    exact ⟨rfl, id, id, by simp, fun j p hp => ⟨p, hp, by omega⟩, by simp⟩
  | x :: r, ps, m, qs, n, h => by
    simp only [raF] at h
    by_cases hc : isCh x.r = true
    · rw [if_pos hc] at h
      cases hj : ps[x.r.ch.p.toNat]? with
      | none => rw [hj] at h; cases h
      | some p =>
        rw [hj] at h
        simp only at h
        by_cases hl : x.r.lsn ≤ p.l
        · rw [if_pos hl] at h
          obtain ⟨h1, h2, h3, h4, h5, h6⟩ := raF_spec r _ _ _ _ h
          refine ⟨h1, h2, h3, by simp only [List.length_cons]; omega, h5, fun y hy hcy => ?_⟩
          rcases List.mem_cons.1 hy with rfl | hy
          · obtain ⟨q, hq, hle⟩ := h5 _ _ hj
            exact ⟨q, hq, by omega⟩
          · exact h6 y hy hcy
        · rw [if_neg hl] at h
          by_cases he : (apF p.l p.cs x.r.ch x.r.lsn).2.2 = 0
          · rw [if_pos he] at h
            obtain ⟨h1, h2, h3, h4, h5, h6⟩ := raF_spec r _ _ _ _ h
            obtain ⟨ha, hb, hc2⟩ := apF_ok he
            have hjl : x.r.ch.p.toNat < ps.length := (List.getElem?_eq_some_iff.1 hj).1
            obtain ⟨q, hq, hle⟩ := h5 x.r.ch.p.toNat _ (List.getElem?_set_self hjl)
            simp only at hle
            refine ⟨by simpa using h1, fun hap => h2 ?_, fun hop => h3 (okPs_set hop _ (apF_len (hop p (List.mem_of_getElem? hj)) _ _)), by simp only [List.length_cons]; omega, fun j p2 hp2 => ?_, fun y hy hcy => ?_⟩
            · simp only [allOk, List.all_eq_true] at hap ⊢
              intro y hy
              rcases List.mem_or_eq_of_mem_set hy with hy | rfl
              · exact hap y hy
              · simp only [ha]; exact hb
            · by_cases hjj : j = x.r.ch.p.toNat
              · subst hjj
                rw [hj] at hp2; cases hp2
                exact ⟨q, hq, by omega⟩
              · exact h5 j p2 (by rw [List.getElem?_set_ne (Ne.symm hjj)]; exact hp2)
            · rcases List.mem_cons.1 hy with rfl | hy
              · exact ⟨q, hq, by omega⟩
              · exact h6 y hy hcy
          · rw [if_neg he] at h; cases h
    · rw [if_neg hc] at h
      obtain ⟨h1, h2, h3, h4, h5, h6⟩ := raF_spec r _ _ _ _ h
      refine ⟨h1, h2, h3, by simp only [List.length_cons]; omega, h5, fun y hy hcy => ?_⟩
      rcases List.mem_cons.1 hy with rfl | hy
      · exact absurd hcy hc
      · exact h6 y hy hcy

structure RaOk (ps : List Pag) (xs : List Stm) (qs : List Pag) (n : Int) : Prop where
  len : ps.length ≤ 32
  ok : allOk ps = true
  sp : spOk 8 xs = true
  run : raF xs ps 0 = some (qs, n)
theorem RaOk.eq {ps : List Pag} {xs : List Stm} {qs : List Pag} {n : Int} (h : RaOk ps xs qs n) : raR ps xs = (qs, n, 0) := by
  unfold raR
  have := h.len
  rw [if_neg (by rw [h.ok]; simp; omega), if_neg (by rw [h.sp]; simp), h.run]
theorem raR_cases (ps : List Pag) (xs : List Stm) : (∃ qs n, RaOk ps xs qs n) ∨ ((raR ps xs).1 = [] ∧ (raR ps xs).2.1 = 0 ∧ (raR ps xs).2.2 ≠ 0) := by
  by_cases h1 : 32 < ps.length ∨ allOk ps = false
  · right; unfold raR; rw [if_pos h1]; simp
  by_cases h2 : spOk 8 xs = false
  · right; unfold raR; rw [if_neg h1, if_pos h2]; simp
  cases h3 : raF xs ps 0 with
  | none => right; unfold raR; rw [if_neg h1, if_neg h2, h3]; simp
  | some z =>
    left
    have ha : allOk ps = true := by cases h : allOk ps <;> simp_all
    exact ⟨z.1, z.2, by omega, ha, by simpa using h2, h3⟩

theorem RaOk.again {ps : List Pag} {xs : List Stm} {qs : List Pag} {n : Int} (h : RaOk ps xs qs n) : RaOk qs xs qs 0 := by
  obtain ⟨h1, h2, h3, h4, h5, h6⟩ := raF_spec _ _ _ _ _ h.run
  exact ⟨by rw [h1]; exact h.len, h2 h.ok, h.sp, raF_idle xs qs 0 h6⟩
theorem RaOk.filter {ps : List Pag} {xs : List Stm} {qs : List Pag} {n : Int} (h : RaOk ps xs qs n) : RaOk ps (xs.filter fun x => isCh x.r) qs n :=
  ⟨h.len, h.ok, spOk_sub h.sp List.filter_sublist, by rw [raF_filter]; exact h.run⟩
theorem RaOk.cut {ps : List Pag} {xs : List Stm} {qs : List Pag} {n : Int} (h : RaOk ps xs qs n) (k : Nat) : ∃ ws x y, RaOk ps (xs.take k) ws x ∧ RaOk ws (xs.drop k) qs y ∧ x + y = n := by
  have hr := h.run
  rw [← List.take_append_drop k xs, raF_append] at hr
  cases h1 : raF (xs.take k) ps 0 with
  | none => rw [h1] at hr; cases hr
  | some z =>
    obtain ⟨ws, x⟩ := z
    rw [h1] at hr
    simp only [Option.bind_some] at hr
    obtain ⟨a1, a2, a3, a4, a5, a6⟩ := raF_spec _ _ _ _ _ h1
    have hsh := raF_shift x (xs.drop k) ws 0
    rw [Int.zero_add, hr] at hsh
    cases h2 : raF (xs.drop k) ws 0 with
    | none => rw [h2] at hsh; cases hsh
    | some w =>
      obtain ⟨bs, y⟩ := w
      rw [h2] at hsh
      simp only [Option.map_some, Option.some.injEq, Prod.mk.injEq] at hsh
      obtain ⟨rfl, rfl⟩ := hsh
      exact ⟨ws, x, y, ⟨h.len, h.ok, spOk_sub h.sp (List.take_sublist k xs), h1⟩, ⟨by rw [a1]; exact h.len, a2 h.ok, spOk_sub h.sp (List.drop_sublist k xs), h2⟩, by omega⟩
theorem RaOk.pgs {ps : List Pag} {xs : List Stm} {qs : List Pag} {n : Int} (h : RaOk ps xs qs n) (hp : okPs ps) : okPs qs ∧ qs.length = ps.length ∧ 0 ≤ n ∧ n ≤ xs.length := by
  obtain ⟨h1, h2, h3, h4, h5, h6⟩ := raF_spec _ _ _ _ _ h.run
  exact ⟨h3 hp, h1, by omega, by omega⟩
theorem raR_okPs {ps : List Pag} {xs : List Stm} (hp : okPs ps) : okPs (raR ps xs).1 ∧ (raR ps xs).1.length ≤ ps.length := by
  rcases raR_cases ps xs with ⟨qs, n, h⟩ | ⟨h, _, _⟩
  · rw [h.eq]; have := h.pgs hp; exact ⟨this.1, by simp only; omega⟩
  · rw [h]; exact ⟨by simp [okPs], by simp⟩
end Go.AW
