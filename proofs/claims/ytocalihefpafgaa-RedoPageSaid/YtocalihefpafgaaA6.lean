/- The soundness of the abstract operations: places, reckoning, comparisons. -/
import Derived.Test.YtocalihefpafgaaA5
set_option linter.unusedVariables false
set_option linter.unusedSimpArgs false
namespace Go.AW

section
variable {P : Program} {T : Tab} {E : Env} {N : Nat} {gv : GV} {σ : St} {a : Act} {w : World}

theorem sound_ret {o : Oper} {c : Ce} {u : Value} {wr : Wr} {fp : List Loc} {C : Con} (hr : RelG T E N gv σ a w) (hdst : ∀ i, o.dst = some i → i < N) (h : Run C (retC c) σ wr fp)
    (hrun : (execOp a.eval o).run P w = .ok (.value u) w) (hv : RepC T w (Imm E σ.m gv w) σ.m gv c u) : Sound P T E N σ a w o wr := by
  obtain ⟨rfl, _⟩ := h
  exact sound_value hr hdst hrun hv

theorem sound_nilCheck {o : Oper} {x : Operand} {wr : Wr} {fp : List Loc} {C : Con} (hr : RelG T E N gv σ a w) (hdst : ∀ i, o.dst = some i → i < N) (ho : o.op = .nilCheck x)
    (h : Run C (match σ.ev x with
      | .one (.ptr id off) => .ret ⟨.one (.ptr id off), []⟩
      | .one (.ip cs) => .ret ⟨.one (.ip cs), []⟩
      | _ => .stuck) σ wr fp) : Sound P T E N σ a w o wr := by
  have hx := ev_rep hr x
  split at h
  · rename_i id off hxv
    rw [hxv] at hx
    obtain ⟨rfl, _⟩ := h
    have hx' := hx
    obtain ⟨b, cs, _, _, h3⟩ := hx
    exact sound_value hr hdst (u := a.eval x) (by simp [execOp, ho, h3]) hx'
  · rename_i cs hxv
    rw [hxv] at hx
    obtain ⟨rfl, _⟩ := h
    have hx' := hx
    obtain ⟨b, off, arr, e, fr, vs, h1, _⟩ := hx
    exact sound_value hr hdst (u := a.eval x) (by simp [execOp, ho, h1]) hx'
  · exact h.elim

theorem sound_unOp_not {o : Oper} {t : Nat} {x : Operand} {wr : Wr} {fp : List Loc} {C : Con} (hr : RelG T E N gv σ a w) (hdst : ∀ i, o.dst = some i → i < N) (ho : o.op = .unOp .not t x)
    (h : Run C (match σ.ev x with
      | .one (.p (.bool b)) => retC (.p (.bool (!b)))
      | _ => .stuck) σ wr fp) : Sound P T E N σ a w o wr := by
  have hx := ev_rep hr x
  split at h
  · rename_i b hxv
    rw [hxv] at hx
    have hb : a.eval x = .bool b := rp_bool hx
    exact sound_ret hr hdst h (u := .bool (!b)) (by simp [execOp, ho, hb, Op.unary]) (RepP.bool _)
  · exact h.elim

theorem sound_unOp_neg {o : Oper} {t : Nat} {x : Operand} {wr : Wr} {fp : List Loc} {C : Con} (hr : RelG T E N gv σ a w) (hdst : ∀ i, o.dst = some i → i < N) (ho : o.op = .unOp .neg t x)
    (h : Run C (match σ.ev x with
      | .one (.p (.int k n)) => retC (.p (.int k (k.wrap (0 - n))))
      | _ => .stuck) σ wr fp) : Sound P T E N σ a w o wr := by
  have hx := ev_rep hr x
  split at h
  · rename_i k n hxv
    rw [hxv] at hx
    have hb : a.eval x = .int k n := rp_int hx
    exact sound_ret hr hdst h (u := .int k (k.wrap (0 - n))) (by simp [execOp, ho, hb, Op.unary, Op.intArith]) (RepP.int _ _)
  · exact h.elim

theorem sound_extract {o : Oper} {i : Nat} {x : Operand} {wr : Wr} {fp : List Loc} {C : Con} (hr : RelG T E N gv σ a w) (hdst : ∀ i, o.dst = some i → i < N) (ho : o.op = .extract x i)
    (h : Run C (match σ.ev x with
      | .tup xs => match xs[i]? with
        | some w => .ret ⟨w.v, []⟩
        | none => .stuck
      | _ => .stuck) σ wr fp) : Sound P T E N σ a w o wr := by
  have hx := ev_rep hr x
  split at h
  · rename_i xs hxv
    rw [hxv] at hx
    obtain ⟨arr, h1, h2, h3⟩ := hx
    split at h
    · rename_i y hy
      obtain ⟨rfl, _⟩ := h
      have hlt : i < arr.size := by rw [h2]; exact (List.getElem?_eq_some_iff.1 hy).1
      have hu : arr[i]? = some arr[i] := by simp [hlt]
      refine sound_value hr hdst (u := arr[i]) (by simp [execOp, ho, h1, Instr.extract, hu]) ?_
      have := h3 i y _ hy hu
      cases y with
      | one c => exact this
      | agg cs => exact this
    · exact h.elim
  · exact h.elim

theorem sound_min {o : Oper} {x y : Operand} {ats : Array Nat} {wr : Wr} {fp : List Loc} {C : Con} (hr : RelG T E N gv σ a w) (hdst : ∀ i, o.dst = some i → i < N)
    (ho : o.op = .call { callee := .builtin .min, args := #[x, y], argTypes := ats })
    (h : Run C (match σ.ev x, σ.ev y with
      | .one (.p (.int k a)), .one (.p (.int _ b)) => retC (.p (.int k (if b < a then b else a)))
      | _, _ => .stuck) σ wr fp) : Sound P T E N σ a w o wr := by
  have hx := ev_rep hr x
  have hy := ev_rep hr y
  split at h
  · rename_i k n k' n' hxv hyv
    rw [hxv] at hx
    rw [hyv] at hy
    have h1 : a.eval x = .int k n := rp_int hx
    have h2 : a.eval y = .int k' n' := rp_int hy
    exact sound_ret hr hdst h (u := .int k (if n' < n then n' else n)) (by simp [execOp, ho, h1, h2, resolve, invoke, builtin, Builtin.min_, Builtin.min2]) (RepP.int _ _)
  · exact h.elim

theorem sound_max {o : Oper} {x y : Operand} {ats : Array Nat} {wr : Wr} {fp : List Loc} {C : Con} (hr : RelG T E N gv σ a w) (hdst : ∀ i, o.dst = some i → i < N)
    (ho : o.op = .call { callee := .builtin .max, args := #[x, y], argTypes := ats })
    (h : Run C (match σ.ev x, σ.ev y with
      | .one (.p (.int k a)), .one (.p (.int _ b)) => retC (.p (.int k (if b > a then b else a)))
      | _, _ => .stuck) σ wr fp) : Sound P T E N σ a w o wr := by
  have hx := ev_rep hr x
  have hy := ev_rep hr y
  split at h
  · rename_i k n k' n' hxv hyv
    rw [hxv] at hx
    rw [hyv] at hy
    have h1 : a.eval x = .int k n := rp_int hx
    have h2 : a.eval y = .int k' n' := rp_int hy
    exact sound_ret hr hdst h (u := .int k (if n' > n then n' else n)) (by simp [execOp, ho, h1, h2, resolve, invoke, builtin, Builtin.max_, Builtin.max2]) (RepP.int _ _)
  · exact h.elim

variable (hT : TabOk P T)
include hT

theorem sound_convert {o : Oper} {s d : Nat} {x : Operand} {wr : Wr} {fp : List Loc} {C : Con} (hr : RelG T E N gv σ a w) (hdst : ∀ i, o.dst = some i → i < N) (ho : o.op = .convert s d x)
    (h : Run C (match (T s).d, (T d).d, σ.ev x with
      | .int _, .int k, .one (.p (.int _ n)) => retC (.p (.int k (k.wrap n)))
      | _, _, _ => .stuck) σ wr fp) : Sound P T E N σ a w o wr := by
  have hx := ev_rep hr x
  split at h
  · rename_i k1 k k2 n hs hd hxv
    rw [hxv] at hx
    have hb : a.eval x = .int k2 n := rp_int hx
    obtain ⟨ds, h1, _, h2⟩ := run_underlying_T hT (t := s) (by rw [hs]; simp)
    obtain ⟨dd, h3, _, h4⟩ := run_underlying_T hT (t := d) (by rw [hd]; simp)
    rw [hs] at h1
    rw [hd] at h3
    cases ds <;> simp [descOk] at h1
    cases dd <;> simp [descOk] at h3
    subst h1; subst h3
    exact sound_ret hr hdst h (u := .int k (k.wrap n)) (by simp [execOp, ho, hb, convert, h2, h4, Conv.intToInt]) (RepP.int _ _)
  · exact h.elim

theorem sound_field {o : Oper} {t f : Nat} {x : Operand} {wr : Wr} {fp : List Loc} {C : Con} (hr : RelG T E N gv σ a w) (hdst : ∀ i, o.dst = some i → i < N) (ho : o.op = .fieldAddr t x f)
    (h : Run C (fieldR T t (σ.ev x) f) σ wr fp) : Sound P T E N σ a w o wr := by
  have hx := ev_rep hr x
  unfold fieldR at h
  split at h
  · rename_i fs hfs
    split at h
    · rename_i off u hf
      obtain ⟨⟨hne, hsz⟩, h⟩ := h
      obtain ⟨ds, h1, _, h2⟩ := run_underlying_T hT (t := t) (by rw [hfs]; simp)
      rw [hfs] at h1
      cases ds <;> simp [descOk] at h1
      rename_i fields _
      have hfield : ∃ fd : Field, fields[f]? = some fd ∧ fd.offset = off ∧ fd.type = u := by
        rw [← h1] at hf
        simp only [List.getElem?_map, Option.map_eq_some_iff] at hf
        obtain ⟨fd, h3, h4⟩ := hf
        simp at h4
        exact ⟨fd, by simpa using h3, h4.1, h4.2⟩
      obtain ⟨fd, h3, rfl, rfl⟩ := hfield
      have hgo : ∀ b k, a.eval x = .pointer (some ⟨b, k, none⟩) → (execOp a.eval o).run P w = .ok (.value (.pointer (some ⟨b, k + fd.offset, none⟩))) w := by
        intro b k hp
        simp [execOp, ho, Instr.fieldAt, h2, h3, hp, Instr.sureAddr, fieldPlace, run_sizeOf_T hT hne, hsz, add_none]
      split at h
      · rename_i id k hxv
        rw [hxv] at hx
        obtain ⟨b, cs, h5, h6, h7⟩ := hx
        exact sound_ret hr hdst h (hgo b k h7) ⟨b, cs, h5, h6, rfl⟩
      · rename_i cs hxv
        rw [hxv] at hx
        obtain ⟨b, k, arr, e, fr, vs, h5, h6, h7, h8, h9, h10⟩ := hx
        exact sound_ret hr hdst h (hgo b k h5) ⟨b, k + fd.offset, arr, e, fr, vs.drop fd.offset, rfl, h6, h7, fun j u hj => by
          rw [List.getElem?_drop] at hj; rw [Nat.add_assoc]; exact h8 _ u hj, by simp [h9], fun j q u hq hu => by
          rw [List.getElem?_drop] at hq hu; exact h10 _ q u hq hu⟩
      · rename_i id n i k hxv
        rw [hxv] at hx
        obtain ⟨h0, e, xs, h5, h6, h7⟩ := hx
        obtain ⟨fp', rfl, h⟩ := h
        simp only [h5] at h
        obtain ⟨hn, h⟩ := h
        obtain ⟨b, h8, h9⟩ := h7 hn
        exact sound_ret hr hdst h (hgo b _ h9) ⟨rfl, e, xs, h5, h6, fun _ => ⟨b, h8, by rw [Nat.add_assoc]⟩⟩
      · exact h.elim
    · exact h.elim
  · exact h.elim

theorem sound_idx {o : Oper} {t : Nat} {x y : Operand} {wr : Wr} {fp : List Loc} {C : Con} (hr : RelG T E N gv σ a w) (hdst : ∀ i, o.dst = some i → i < N) (ho : o.op = .indexAddr t x y)
    (h : Run C (idxR T t (σ.ev x) (σ.ev y)) σ wr fp) : Sound P T E N σ a w o wr := by
  have hx := ev_rep hr x
  have hy := ev_rep hr y
  unfold idxR at h
  split at h
  · rename_i ki i hyv
    rw [hyv] at hy
    have hyi : a.eval y = .int ki i := rp_int hy
    -- an array's place
    have harr : ∀ (n e : Nat), (T t).d = .arr n e → (T e).d ≠ .other → inR i n → ∀ b k, a.eval x = .pointer (some ⟨b, k, none⟩) →
        (execOp a.eval o).run P w = .ok (.value (.pointer (some ⟨b, k + i.toNat * (T e).size, none⟩))) w := by
      intro n e hd hne hin b k hp
      obtain ⟨ds, h1, _, h2⟩ := run_underlying_T hT (t := t) (by rw [hd]; simp)
      rw [hd] at h1
      cases ds <;> simp [descOk] at h1
      obtain ⟨rfl, rfl⟩ := h1
      have hin' : 0 ≤ i ∧ i < (n : Int) := hin
      simp [execOp, ho, Instr.indexAt, hyi, asIntOf, h2, hp, Instr.sureAddr, hin', run_sizeOf_T hT hne, add_none]
    split at h
    · rename_i e xs hd hxv
      rw [hxv] at hx
      obtain ⟨r, hxi, ⟨h0, hne, hrl, hrn⟩, h⟩ := h
      have hx : RepP w (Imm E σ.m gv w) (.slice xs) (a.eval x) := hx
      generalize hxe : a.eval x = xv at hx
      cases hx with
      | sl0 a' cap _ => simp at hxi
      | sl _ b off cap sz arr e' fr vs hI hh hz hc hv hl hrep =>
        obtain ⟨ds, h1, _, h2⟩ := run_underlying_T hT (t := t) (by rw [hd]; simp)
        rw [hd] at h1
        cases ds <;> simp [descOk] at h1
        subst h1
        have hlt : i.toNat < xs.length := (List.getElem?_eq_some_iff.1 hxi).1
        have hsz : sz = (T e).size := by rw [← hrl]; exact (hz r (List.mem_of_getElem? hxi)).symm
        subst hsz
        have hin' : i < (xs.length : Int) := by omega
        have hrun : (execOp a.eval o).run P w = .ok (.value (.pointer (some ⟨b, off + i.toNat * (T e).size, none⟩))) w := by
          simp [execOp, ho, Instr.indexAt, hyi, asIntOf, h2, hxe, h0, hin', run_sizeOf_T hT hne, add_none]
        have hle2 : i.toNat * (T e).size + (T e).size ≤ xs.length * (T e).size := by
          have := Nat.mul_le_mul_right (T e).size (show i.toNat + 1 ≤ xs.length from hlt)
          rwa [Nat.succ_mul] at this
        have hfl := flatten_len xs (T e).size hz
        refine sound_ret hr hdst h hrun ⟨b, off + i.toNat * (T e).size, arr, e', fr, (vs.drop (i.toNat * (T e).size)).take (T e).size, rfl, hI, hh, fun j u hj => ?_, by simp; omega, fun j q u hq hu => ?_⟩
        · rw [List.getElem?_take] at hj
          split at hj
          · rw [List.getElem?_drop] at hj; rw [Nat.add_assoc]; exact hv _ u hj
          · cases hj
        · rw [List.getElem?_take] at hu
          split at hu
          · rename_i hj
            rw [List.getElem?_drop] at hu
            exact hrep _ q u (by rw [flatten_get xs (T e).size hz i.toNat j r hxi hj]; exact hq) hu
          · cases hu
    · rename_i e id n hd hxv
      rw [hxv] at hx
      obtain ⟨h0, e', xs, h5, h6, h7⟩ := hx
      obtain ⟨fp', rfl, h⟩ := h
      simp only [h5] at h
      obtain ⟨⟨hn, rfl, hne, hin⟩, h⟩ := h
      have h7 := h7 hn
      obtain ⟨hz, vs, ⟨ho1, ho2⟩, hvs⟩ := hr.rep id _ h5
      have hin' : 0 ≤ i ∧ i < (xs.length : Int) := hin
      rcases ho2 with ⟨hnil, hn0⟩ | ⟨g, cap, cur, hv, _, hh, hcap, _, hsz, htake⟩
      · omega
      simp at hv
      obtain ⟨hg1, hg2⟩ := hv
      obtain ⟨ds, h1, _, h2⟩ := run_underlying_T hT (t := t) (by rw [hd]; simp)
      rw [hd] at h1
      cases ds <;> simp [descOk] at h1
      subst h1
      have hin2 : i < (n : Int) := by rw [hn]; exact hin'.2
      have hrun : (execOp a.eval o).run P w = .ok (.value (.pointer (some ⟨g, i.toNat * (T e').size, none⟩))) w := by
        simp [execOp, ho, Instr.indexAt, hyi, asIntOf, h2, h7, hg1, hin'.1, hin2, run_sizeOf_T hT hne, add_none]
      exact sound_ret hr hdst h hrun ⟨rfl, e', xs, h5, h6, fun _ => ⟨g, hg1, by simp⟩⟩
    · rename_i e id n hd hxv
      rw [hxv] at hx
      obtain ⟨b, cs, h5, h6, h7⟩ := hx
      obtain ⟨fp', rfl, h⟩ := h
      simp only [h5] at h
      obtain ⟨⟨hne, hin⟩, h⟩ := h
      have hin' : 0 ≤ i ∧ i < (n : Int) := hin
      obtain ⟨ds, h1, _, h2⟩ := run_underlying_T hT (t := t) (by rw [hd]; simp)
      rw [hd] at h1
      cases ds <;> simp [descOk] at h1
      subst h1
      have hrun : (execOp a.eval o).run P w = .ok (.value (.pointer (some ⟨b, i.toNat * (T e).size, none⟩))) w := by
        simp [execOp, ho, Instr.indexAt, hyi, asIntOf, h2, h7, hin'.1, hin'.2, run_sizeOf_T hT hne, add_none]
      exact sound_ret hr hdst h hrun ⟨b, cs, h5, h6, rfl⟩
    · rename_i n e id k hd hxv
      rw [hxv] at hx
      obtain ⟨b, cs, h5, h6, h7⟩ := hx
      obtain ⟨⟨hin, hne⟩, h⟩ := h
      exact sound_ret hr hdst h (harr n e hd hne hin b k h7) ⟨b, cs, h5, h6, rfl⟩
    · rename_i n e cs hd hxv
      rw [hxv] at hx
      obtain ⟨b, k, arr, e', fr, vs, h5, h6, h7, h8, h9, h10⟩ := hx
      obtain ⟨⟨hin, hne⟩, h⟩ := h
      exact sound_ret hr hdst h (harr n e hd hne hin b k h5) ⟨b, _, arr, e', fr, vs.drop (i.toNat * (T e).size), rfl, h6, h7, fun j u hj => by
        rw [List.getElem?_drop] at hj; rw [Nat.add_assoc]; exact h8 _ u hj, by simp [h9], fun j q u hq hu => by
        rw [List.getElem?_drop] at hq hu; exact h10 _ q u hq hu⟩
    · rename_i n e id m k off hd hxv
      rw [hxv] at hx
      obtain ⟨h0, e', xs, h5, h6, h7⟩ := hx
      obtain ⟨fp', rfl, h⟩ := h
      simp only [h5] at h
      obtain ⟨⟨hm, hin, hne⟩, h⟩ := h
      obtain ⟨b, h8, h9⟩ := h7 hm
      exact sound_ret hr hdst h (harr n e hd hne hin b _ h9) ⟨rfl, e', xs, h5, h6, fun _ => ⟨b, h8, by rw [Nat.add_assoc]⟩⟩
    · exact h.elim
  · exact h.elim

theorem sound_index {o : Oper} {t : Nat} {x y : Operand} {wr : Wr} {fp : List Loc} {C : Con} (hr : RelG T E N gv σ a w) (hdst : ∀ i, o.dst = some i → i < N) (ho : o.op = .index t x y)
    (h : Run C (match (T t).d, σ.ev x, σ.ev y with
    | .arr n e, .agg cs, .one (.p (.int _ i)) => .assert (inR i n) (partR T e cs (i.toNat * (T e).size) fun v => .ret ⟨v, []⟩)
    | _, _, _ => .stuck) σ wr fp) : Sound P T E N σ a w o wr := by
  have hx := ev_rep hr x
  have hy := ev_rep hr y
  split at h
  · rename_i n e cs ki i hd hxv hyv
    rw [hxv] at hx
    rw [hyv] at hy
    have hyi : a.eval y = .int ki i := rp_int hy
    obtain ⟨arr, hxa, hl⟩ := hx
    obtain ⟨hin, h⟩ := h
    obtain ⟨hne, h⟩ := run_partR h
    obtain ⟨ds, h1, _, h2⟩ := run_underlying_T hT (t := t) (by rw [hd]; simp)
    rw [hd] at h1
    cases ds <;> simp [descOk] at h1
    obtain ⟨rfl, rfl⟩ := h1
    have hin' : 0 ≤ i ∧ i < (n : Int) := hin
    have hex : (execOp a.eval o).run P w = ((part e arr (i.toNat * (T e).size)).run P w).andThen fun v w' => .ok (.value v) w' := by
      simp [execOp, ho, Instr.index, hyi, asIntOf, h2, hxa, hin', run_sizeOf_T hT hne]
    rcases h with ⟨hagg, hlen, rfl, _⟩ | ⟨hagg, c, hc, rfl, _⟩
    · refine sound_value hr hdst (u := .agg (arr.extract (i.toNat * (T e).size) (i.toNat * (T e).size + (T e).size))) ?_ ⟨_, rfl, ?_⟩
      · rw [hex]; simp [part, run_isAgg_T hT hne, hagg, run_sizeOf_T hT hne]
      · have := repL_take (repL_drop hl (i.toNat * (T e).size)) (T e).size
        simpa [Array.toList_extract, List.extract_eq_take_drop, Nat.add_sub_cancel_left] using this
    · have hlt : i.toNat * (T e).size < arr.size := by
        have h3 := (List.getElem?_eq_some_iff.1 hc).1
        have h4 := hl.1
        simp at h4; omega
      have hu : arr[i.toNat * (T e).size]? = some arr[i.toNat * (T e).size] := by simp [hlt]
      refine sound_value hr hdst (u := arr[i.toNat * (T e).size]) ?_ (hl.2 _ c _ hc (by rw [Array.getElem?_toList]; exact hu))
      rw [hex]; simp [part, run_isAgg_T hT hne, hagg, hu]
  · exact h.elim

theorem sound_fieldV {o : Oper} {t f : Nat} {x : Operand} {wr : Wr} {fp : List Loc} {C : Con} (hr : RelG T E N gv σ a w) (hdst : ∀ i, o.dst = some i → i < N) (ho : o.op = .field t x f)
    (h : Run C (match (T t).d, σ.ev x with
    | .struct fs, .agg cs => match fs[f]? with
      | some (off, u) => partR T u cs off fun v => .ret ⟨v, []⟩
      | none => .stuck
    | _, _ => .stuck) σ wr fp) : Sound P T E N σ a w o wr := by
  have hx := ev_rep hr x
  split at h
  · rename_i fs cs hfs hxv
    rw [hxv] at hx
    obtain ⟨arr, hxa, hl⟩ := hx
    split at h
    · rename_i off u hf
      obtain ⟨hne, h⟩ := run_partR h
      obtain ⟨ds, h1, _, h2⟩ := run_underlying_T hT (t := t) (by rw [hfs]; simp)
      rw [hfs] at h1
      cases ds <;> simp [descOk] at h1
      rename_i fields _
      have hfield : ∃ fd : Field, fields[f]? = some fd ∧ fd.offset = off ∧ fd.type = u := by
        rw [← h1] at hf
        simp only [List.getElem?_map, Option.map_eq_some_iff] at hf
        obtain ⟨fd, h3, h4⟩ := hf
        simp at h4
        exact ⟨fd, by simpa using h3, h4.1, h4.2⟩
      obtain ⟨fd, h3, rfl, rfl⟩ := hfield
      have hex : (execOp a.eval o).run P w = ((part fd.type arr fd.offset).run P w).andThen fun v w' => .ok (.value v) w' := by
        simp [execOp, ho, Instr.field, h2, h3, hxa, asAgg]
      rcases h with ⟨hagg, hlen, rfl, _⟩ | ⟨hagg, c, hc, rfl, _⟩
      · refine sound_value hr hdst (u := .agg (arr.extract fd.offset (fd.offset + (T fd.type).size))) ?_ ⟨_, rfl, ?_⟩
        · rw [hex]; simp [part, run_isAgg_T hT hne, hagg, run_sizeOf_T hT hne]
        · have := repL_take (repL_drop hl fd.offset) (T fd.type).size
          simpa [Array.toList_extract, List.extract_eq_take_drop, Nat.add_sub_cancel_left] using this
      · have hlt : fd.offset < arr.size := by
          have h3 := (List.getElem?_eq_some_iff.1 hc).1
          have h4 := hl.1
          simp at h4; omega
        have hu : arr[fd.offset]? = some arr[fd.offset] := by simp [hlt]
        refine sound_value hr hdst (u := arr[fd.offset]) ?_ (hl.2 _ c _ hc (by rw [Array.getElem?_toList]; exact hu))
        rw [hex]; simp [part, run_isAgg_T hT hne, hagg, hu]
    · exact h.elim
  · exact h.elim

theorem sound_len {o : Oper} {t : Nat} {x : Operand} {wr : Wr} {fp : List Loc} {C : Con} (hr : RelG T E N gv σ a w) (hdst : ∀ i, o.dst = some i → i < N)
    (ho : o.op = .call { callee := .builtin .len, args := #[x], argTypes := #[t] })
    (h : Run C (lenR (T t).d (σ.ev x)) σ wr fp) : Sound P T E N σ a w o wr := by
  have hx := ev_rep hr x
  have hs : ∀ s, a.eval x = .string s → (T t).d = .str → (execOp a.eval o).run P w = .ok (.value (.int .i64 s.size)) w := by
    intro s hs hd
    obtain ⟨ds, h1, _, h2⟩ := run_underlying_T hT (t := t) (by rw [hd]; simp)
    rw [hd] at h1
    cases ds <;> simp [descOk] at h1
    simp [execOp, ho, resolve, invoke, builtin, Builtin.len_, h2, hs, goInt]
  have hsl : ∀ b n c e, a.eval x = .slice b n c → (T t).d = .sl e → (execOp a.eval o).run P w = .ok (.value (.int .i64 n)) w := by
    intro b n c e hs hd
    obtain ⟨ds, h1, _, h2⟩ := run_underlying_T hT (t := t) (by rw [hd]; simp)
    rw [hd] at h1
    cases ds <;> simp [descOk] at h1
    simp [execOp, ho, resolve, invoke, builtin, Builtin.len_, h2, hs, goInt]
  unfold lenR at h
  split at h
  · rename_i s hd hxv
    rw [hxv] at hx
    exact sound_ret hr hdst h (hs s (rp_str hx) hd) (RepP.int _ _)
  · rename_i e hd hxv
    rw [hxv] at hx
    exact sound_ret hr hdst h (hsl none 0 0 e (rp_nilsl hx) hd) (RepP.int _ _)
  · rename_i e hd hxv
    rw [hxv] at hx
    obtain ⟨b, c, hb⟩ := rp_nesl hx
    exact sound_ret hr hdst h (hsl (some b) 0 c e hb hd) (RepP.int _ _)
  · rename_i e id n hd hxv
    rw [hxv] at hx
    obtain ⟨b, cs, h5, h6, h7⟩ := hx
    exact sound_ret hr hdst h (hsl _ n n e h7 hd) (RepP.int _ _)
  · rename_i e xs hd hxv
    rw [hxv] at hx
    have hx : RepP w (Imm E σ.m gv w) (.slice xs) (a.eval x) := hx
    obtain ⟨b, c, hb⟩ : ∃ b c, a.eval x = .slice b xs.length c := by
      generalize a.eval x = xv at hx
      cases hx
      · exact ⟨_, _, rfl⟩
      · exact ⟨_, _, rfl⟩
    exact sound_ret hr hdst h (hsl b _ c e hb hd) (RepP.int _ _)
  · rename_i e id n hd hxv
    rw [hxv] at hx
    obtain ⟨h0, e', xs, h5, h6, h7⟩ := hx
    obtain ⟨fp', rfl, h⟩ := h
    simp only [h5] at h
    obtain ⟨hn, h⟩ := h
    subst hn
    exact sound_ret hr hdst h (hsl _ _ _ e (h7 rfl) hd) (RepP.int _ _)
  · exact h.elim
end
end Go.AW
