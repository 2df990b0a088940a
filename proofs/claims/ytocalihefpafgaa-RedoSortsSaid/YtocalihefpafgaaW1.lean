/- Arguments of records, read. -/
import Derived.Test.YtocalihefpafgaaAW
import Derived.Test.YtocalihefpafgaaR9
import Derived.Test.YtocalihefpafgaaC4
import Derived.Test.YtocalihefpafgaaR1
set_option maxRecDepth 100000
set_option linter.unusedSimpArgs false
set_option linter.unusedVariables false
namespace Go.AW
open Go.Proofs

theorem trs_of {n : Nat} : ∀ xs : List (List PV), (∀ x ∈ xs, Wf tab (n + 2) 189 x) → ∃ ts : List TRow, xs = trs ts
  | [], _ => ⟨[], rfl⟩
  | x :: r, h => by
    obtain ⟨x0, y0, rfl, k0, h'⟩ := wf_field (wf_struct (h x (by simp)) rfl)
    obtain ⟨x1, y1, rfl, k1, h'⟩ := wf_field h'
    obtain ⟨x2, y2, rfl, k2, h'⟩ := wf_field h'
    obtain ⟨x3, y3, rfl, k3, h'⟩ := wf_field h'
    obtain ⟨x4, y4, rfl, k4, h'⟩ := wf_field h'
    obtain rfl := wf_end h'
    obtain ⟨a0, rfl, w0⟩ := wf_int (k := .i64) k0 rfl
    obtain ⟨a1, rfl, w1⟩ := wf_int (k := .i64) k1 rfl
    obtain ⟨a2, rfl, w2⟩ := wf_int (k := .u64) k2 rfl
    obtain ⟨a3, rfl, w3⟩ := wf_int (k := .u64) k3 rfl
    obtain ⟨a4, rfl, w4⟩ := wf_int (k := .u64) k4 rfl
    obtain ⟨ts, rfl⟩ := trs_of r fun y hy => h y (by simp [hy])
    exact ⟨⟨a0, a1, a2, a3, a4⟩ :: ts, rfl⟩
theorem drs_of {n : Nat} : ∀ xs : List (List PV), (∀ x ∈ xs, Wf tab (n + 2) 191 x) → ∃ ts : List DRow, xs = drs ts
  | [], _ => ⟨[], rfl⟩
  | x :: r, h => by
    obtain ⟨x0, y0, rfl, k0, h'⟩ := wf_field (wf_struct (h x (by simp)) rfl)
    obtain ⟨x1, y1, rfl, k1, h'⟩ := wf_field h'
    obtain rfl := wf_end h'
    obtain ⟨a0, rfl, w0⟩ := wf_int (k := .i64) k0 rfl
    obtain ⟨a1, rfl, w1⟩ := wf_int (k := .u64) k1 rfl
    obtain ⟨ts, rfl⟩ := drs_of r fun y hy => h y (by simp [hy])
    exact ⟨⟨a0, a1⟩ :: ts, rfl⟩
theorem wf_rec {n : Nat} {q : List PV} (h : Wf tab (n + 4) 113 q) : ∃ r : Rec, q = recP r ∧ RecS r ∧ (Lit.int .u64 r.lsn).wf = true := by
  obtain ⟨x0, y0, rfl, k0, h⟩ := wf_field (wf_struct h rfl)
  obtain ⟨x1, y1, rfl, k1, h⟩ := wf_field h
  obtain ⟨x2, y2, rfl, k2, h⟩ := wf_field h
  obtain ⟨x3, y3, rfl, k3, h⟩ := wf_field h
  obtain ⟨x4, y4, rfl, k4, h⟩ := wf_field h
  obtain ⟨x5, y5, rfl, k5, h⟩ := wf_field h
  obtain ⟨x6, y6, rfl, k6, h⟩ := wf_field h
  obtain ⟨x7, y7, rfl, k7, h⟩ := wf_field h
  obtain ⟨x8, y8, rfl, k8, h⟩ := wf_field h
  obtain ⟨x9, y9, rfl, k9, h⟩ := wf_field h
  obtain rfl := wf_end h
  obtain ⟨a0, rfl, w0⟩ := wf_int (k := .i64) k0 rfl
  obtain ⟨a1, rfl, w1⟩ := wf_int (k := .u64) k1 rfl
  obtain ⟨a2, rfl, w2⟩ := wf_int (k := .i64) k2 rfl
  obtain ⟨a3, rfl, w3⟩ := wf_int (k := .u64) k3 rfl
  obtain ⟨c, rfl, _⟩ := wf_chg k4
  obtain ⟨a5, rfl, w5⟩ := wf_int (k := .u64) k5 rfl
  obtain ⟨a6, rfl, w6⟩ := wf_int (k := .i64) k6 rfl
  obtain ⟨a7, rfl, w7⟩ := wf_int (k := .u64) k7 rfl
  obtain ⟨xs, rfl, b8, l8, e8⟩ := wf_sl k8 rfl
  obtain ⟨ys, rfl, b9, l9, e9⟩ := wf_sl k9 rfl
  obtain ⟨ts, rfl⟩ := trs_of xs e8
  obtain ⟨ds, rfl⟩ := drs_of ys e9
  rw [trs_length] at b8 l8
  rw [drs_length] at b9 l9
  exact ⟨⟨a0, a1, a2, a3, c, a5, a6, a7, ts, ds⟩, rfl, ⟨⟨b8, l8⟩, ⟨b9, l9⟩⟩, w1⟩
theorem recs_of {n : Nat} : ∀ xs : List (List PV), (∀ x ∈ xs, Wf tab (n + 4) 113 x) → ∃ rs : List Rec, xs = recs rs ∧ ∀ r ∈ rs, RecS r ∧ (Lit.int .u64 r.lsn).wf = true
  | [], _ => ⟨[], rfl, by simp⟩
  | x :: r, h => by
    obtain ⟨q, rfl, hq⟩ := wf_rec (h x (by simp))
    obtain ⟨rs, rfl, hr⟩ := recs_of r fun y hy => h y (by simp [hy])
    exact ⟨q :: rs, rfl, by simpa using ⟨hq, hr⟩⟩
theorem wf_stm {n : Nat} {q : List PV} (h : Wf tab (n + 5) 126 q) : ∃ x : Stm, q = stP x ∧ RecS x.r ∧ (Lit.int .u64 x.r.lsn).wf = true := by
  obtain ⟨x0, y0, rfl, k0, h⟩ := wf_field (wf_struct h rfl)
  obtain ⟨x1, y1, rfl, k1, h⟩ := wf_field h
  obtain rfl := wf_end h
  obtain ⟨a0, rfl, w0⟩ := wf_int (k := .i64) k0 rfl
  obtain ⟨r, rfl, hr⟩ := wf_rec k1
  exact ⟨⟨a0, r⟩, by simp [stP], hr⟩
theorem sts_of {n : Nat} : ∀ xs : List (List PV), (∀ x ∈ xs, Wf tab (n + 5) 126 x) → ∃ rs : List Stm, xs = sts rs ∧ ∀ r ∈ rs, RecS r.r ∧ (Lit.int .u64 r.r.lsn).wf = true
  | [], _ => ⟨[], rfl, by simp⟩
  | x :: r, h => by
    obtain ⟨q, rfl, hq⟩ := wf_stm (h x (by simp))
    obtain ⟨rs, rfl, hr⟩ := sts_of r fun y hy => h y (by simp [hy])
    exact ⟨q :: rs, rfl, by simpa using ⟨hq, hr⟩⟩
theorem pags_of {n : Nat} : ∀ xs : List (List PV), (∀ x ∈ xs, Wf tab (n + 4) 55 x) → ∃ ps : List Pag, xs = pgs ps ∧ okPs ps
  | [], _ => ⟨[], rfl, by simp [okPs]⟩
  | x :: r, h => by
    obtain ⟨l, cs, rfl, hl, _⟩ := wf_page (h x (by simp))
    obtain ⟨ps, rfl, hp⟩ := pags_of r fun y hy => h y (by simp [hy])
    refine ⟨⟨l, cs⟩ :: ps, rfl, fun q hq => ?_⟩
    rcases List.mem_cons.1 hq with rfl | hq
    · exact hl
    · exact hp q hq
end Go.AW
