/- A table of types against the program's own; comparisons of wholes. -/
import Derived.Test.YtocalihefpafgaaA13
import Derived.DeepKeys
set_option linter.unusedVariables false
set_option linter.unusedSimpArgs false
namespace Go.AW

def cellIs : Value → PV → Bool
  | .bool a, .bool b => a == b
  | .int k a, .int k' b => decide (k = k') && decide (a = b)
  | .string a, .str b => a.data.toList == b.data.toList
  | .pointer none, .nilp => true
  | .slice none 0 0, .nilsl => true
  | .nilFunc, .nilf => true
  | _, _ => false
def cellsAre : List Value → List PV → Bool
  | [], [] => true
  | v :: vs, q :: qs => cellIs v q && cellsAre vs qs
  | _, _ => false

def descB : TD → TypeDesc → Bool
  | .bool, .bool => true | .int k, .int k' => decide (k = k') | .str, .string => true | .ptr e, .pointer e' => e == e' | .sl e, .slice e' => e == e'
  | .arr n e, .array n' e' => n == n' && e == e' | .struct fs, .struct fields => fields.toList.map (fun f => (f.offset, f.type)) == fs | .func, .func .. => true
  | _, _ => false

def tyB (P : Program) (t : Nat) (i : TI) : Bool :=
  (match P.underlying t with | some ds => descB i.d ds | none => false) &&
  (match P.info? t with
   | some ti => ti.size == i.size && ti.bytes == i.bytes && (match ti.zero with | some z => cellsAre z.cells.toList i.zero | none => false)
   | none => false) &&
  i.zero.all simpleP && i.zero.length == i.size

theorem cellIs_eq {v : Value} {q : PV} (h : cellIs v q = true) : v = pvVal q := by
  unfold cellIs at h
  split at h <;> simp_all [pvVal]
  rename_i a b
  obtain ⟨⟨a⟩⟩ := a; obtain ⟨⟨b⟩⟩ := b
  simp at h; subst h; rfl
theorem cellsAre_eq : ∀ {vs : List Value} {qs : List PV}, cellsAre vs qs = true → vs = qs.map pvVal
  | [], [], _ => rfl
  | [], _ :: _, h => by simp [cellsAre] at h
  | _ :: _, [], h => by simp [cellsAre] at h
  | v :: vs, q :: qs, h => by
    simp only [cellsAre, Bool.and_eq_true] at h
    simp [cellIs_eq h.1, cellsAre_eq h.2]
theorem descB_ok {d : TD} {ds : TypeDesc} (h : descB d ds = true) : descOk d ds := by
  unfold descB at h
  split at h <;> simp_all [descOk]

theorem tyOk_of {P : Program} {t : Nat} {i : TI} (h : tyB P t i = true) (he : i.eqok = true → EqOk P t i.zero) : TyOk P t i := by
  simp only [tyB, Bool.and_eq_true] at h
  obtain ⟨⟨⟨h1, h2⟩, h3⟩, h4⟩ := h
  refine ⟨?_, ?_, h3, by simpa using h4, he⟩
  · split at h1
    · rename_i ds hd; exact ⟨ds, hd, descB_ok h1⟩
    · cases h1
  · split at h2
    · rename_i ti hi
      simp only [Bool.and_eq_true] at h2
      obtain ⟨⟨h5, h6⟩, h7⟩ := h2
      split at h7
      · rename_i z hz; exact ⟨ti, z, hi, by simpa using h5, by simpa using h6, hz, cellsAre_eq h7⟩
      · cases h7
    · cases h2

/-! ### Comparing wholes -/

/-- The parts of a struct lie one behind the other; their zero values make up its own. -/
def partsB (T : Tab) : List Field → Nat → List PV → Bool
  | [], _, z => z.isEmpty
  | f :: fs, off, z => f.name != "_" && f.offset == off && decide ((T f.type).size ≤ z.length) && likeZ (z.take (T f.type).size) (T f.type).zero && partsB T fs (off + (T f.type).size) (z.drop (T f.type).size)
where likeZ (a b : List PV) : Bool := likeL a b && a.length == b.length

def eqB (P : Program) (T : Tab) : Nat → Nat → Bool
  | 0, _ => false
  | m + 1, t => tyB P t (T t) && match P.underlying t with
    | some .bool => (T t).size == 1 && likeL (T t).zero [.bool false]
    | some (.int k) => (T t).size == 1 && likeL (T t).zero [.int k 0]
    | some .string => (T t).size == 1 && likeL (T t).zero [.str ByteArray.empty]
    | some (.struct fs) => !P.stoodInHeld t && partsB T fs.toList 0 (T t).zero && fs.toList.all (fun f => eqB P T m f.type)
    | some (.array n e) => eqB P T m e && (T t).size == n * (T e).size && likeL (T t).zero (List.replicate n (T e).zero).flatten
    | _ => false

def whole (T : Tab) (t : Nat) (xs : List PV) : Value := if (T t).d.isAgg then .agg (xs.map pvVal).toArray else ((xs.map pvVal).head?).getD undef

theorem likeL_len : ∀ {a b : List PV}, likeL a b = true → a.length = b.length
  | [], [], _ => rfl
  | [], _ :: _, h => by simp [likeL] at h
  | _ :: _, [], h => by simp [likeL] at h
  | _ :: a, _ :: b, h => by simp only [likeL, Bool.and_eq_true] at h; simp [likeL_len h.2]
theorem likeL_trans : ∀ {a b c : List PV}, likeL a b = true → likeL b c = true → likeL a c = true
  | [], [], [], _, _ => rfl
  | [], [], _ :: _, _, h => by simp [likeL] at h
  | [], _ :: _, _, h, _ => by simp [likeL] at h
  | _ :: _, [], _, h, _ => by simp [likeL] at h
  | _ :: _, _ :: _, [], _, h => by simp [likeL] at h
  | x :: a, y :: b, z :: c, h, k => by
    simp only [likeL, Bool.and_eq_true] at h k ⊢
    refine ⟨?_, likeL_trans h.2 k.2⟩
    have h1 := h.1; have h2 := k.1
    cases x <;> cases y <;> simp [likeP] at h1 <;> cases z <;> simp [likeP] at h2 ⊢
    exact h1.trans h2
theorem likeL_take : ∀ {a b : List PV} (n : Nat), likeL a b = true → likeL (a.take n) (b.take n) = true
  | _, _, 0, _ => by simp [likeL]
  | [], [], n + 1, _ => by simp [likeL]
  | [], _ :: _, _ + 1, h => by simp [likeL] at h
  | _ :: _, [], _ + 1, h => by simp [likeL] at h
  | _ :: a, _ :: b, n + 1, h => by simp only [likeL, Bool.and_eq_true] at h; simp only [List.take_succ_cons, likeL, h.1, Bool.true_and]; exact likeL_take n h.2
theorem likeL_drop : ∀ {a b : List PV} (n : Nat), likeL a b = true → likeL (a.drop n) (b.drop n) = true
  | _, _, 0, h => h
  | [], [], n + 1, _ => by simp [likeL]
  | [], _ :: _, _ + 1, h => by simp [likeL] at h
  | _ :: _, [], _ + 1, h => by simp [likeL] at h
  | _ :: a, _ :: b, n + 1, h => by simp only [likeL, Bool.and_eq_true] at h; exact likeL_drop n h.2
theorem eqLP_append : ∀ {a b c d : List PV}, a.length = b.length → eqLP (a ++ c) (b ++ d) = (eqLP a b && eqLP c d)
  | [], [], c, d, _ => by simp [eqLP]
  | [], _ :: _, _, _, h => by simp at h
  | _ :: _, [], _, _, h => by simp at h
  | x :: a, y :: b, c, d, h => by simp only [List.cons_append, eqLP, eqLP_append (a := a) (b := b) (c := c) (d := d) (by simpa using h), Bool.and_assoc]

section
variable {P : Program} {T : Tab} {w : World}

theorem run_part_T {t : Nat} (h : tyB P t (T t) = true) (xs : List PV) (off : Nat) (hle : off + (T t).size ≤ xs.length) (hpos : (T t).d.isAgg = false → 0 < (T t).size) :
    (part t (xs.map pvVal).toArray off).run P w = .ok (whole T t ((xs.drop off).take (T t).size)) w := by
  have hty : TyOk P t { T t with eqok := false } := tyOk_of (by simpa [tyB] using h) (by intro h; cases h)
  obtain ⟨ds, h1, h2⟩ := hty.desc
  obtain ⟨ti, z, h3, h4, _⟩ := hty.info
  have ha : (isAgg t).run P w = .ok (T t).d.isAgg w := by
    simp only [isAgg, Sem.run_bind, run_underlying h1, Result.andThen_ok]
    simp only at h2
    generalize (T t).d = d at *
    cases d <;> cases ds <;> simp_all [descOk, TD.isAgg]
  have hs : (sizeOf t).run P w = .ok (T t).size w := by simp [sizeOf, typeInfo, h3, h4]
  unfold part whole
  simp only [Sem.run_bind, ha, Result.andThen_ok]
  cases hagg : (T t).d.isAgg with
  | true =>
    simp only [if_true, Sem.run_bind, hs, Result.andThen_ok, Sem.run_pure]
    congr 2
    apply Array.ext'
    simp [List.map_drop, List.map_take, List.extract_eq_take_drop]
  | false =>
    have hp := hpos hagg
    have hlt : off < xs.length := by omega
    have hx : (xs.map pvVal).toArray[off]? = some (pvVal xs[off]) := by simp [hlt]
    simp only [Bool.false_eq_true, if_false, hx, Sem.run_pure]
    have : (xs.drop off).take (T t).size = xs[off] :: ((xs.drop (off + 1)).take ((T t).size - 1)) := by
      rw [List.drop_eq_getElem_cons hlt]
      obtain ⟨k, hk⟩ : ∃ k, (T t).size = k + 1 := ⟨(T t).size - 1, by omega⟩
      rw [hk, List.take_succ_cons, Nat.add_sub_cancel]
    rw [this]; simp

def EqWhole (P : Program) (T : Tab) (d t : Nat) : Prop := ∀ (xs ys : List PV) (w : World), likeL xs (T t).zero = true → likeL ys (T t).zero = true → (Op.equalIn d t (whole T t xs) (whole T t ys)).run P w = .ok (eqLP xs ys) w

theorem eqB_ty {m t : Nat} (h : eqB P T m t = true) : tyB P t (T t) = true := by
  cases m with
  | zero => simp [eqB] at h
  | succ m => simp only [eqB, Bool.and_eq_true] at h; exact h.1

theorem eqB_ok {m t : Nat} (h : eqB P T m t = true) : TyOk P t { T t with eqok := false } := tyOk_of (by simpa [tyB] using eqB_ty h) (by intro h; cases h)

theorem eqB_pos {m t : Nat} (h : eqB P T m t = true) (ha : (T t).d.isAgg = false) : 0 < (T t).size := by
  obtain ⟨ds, h1, h2⟩ := (eqB_ok h).desc
  cases m with
  | zero => simp [eqB] at h
  | succ m =>
    simp only [eqB, Bool.and_eq_true, h1] at h
    have h2 : descOk (T t).d ds := h2
    revert h h2 ha
    generalize (T t).d = d
    intro ha h h2
    cases ds <;> cases d <;> simp_all [descOk, TD.isAgg]

theorem eq_fields (d m : Nat) (hall : ∀ t, eqB P T m t = true → EqWhole P T d t) (xs ys : List PV) : ∀ (fs : List Field) (off : Nat) (z : List PV), partsB T fs off z = true → fs.all (fun f => eqB P T m f.type) = true → off ≤ xs.length → off ≤ ys.length →
    likeL (xs.drop off) z = true → likeL (ys.drop off) z = true → ∀ w, (Op.eqFields d (xs.map pvVal).toArray (ys.map pvVal).toArray fs).run P w = .ok (eqLP (xs.drop off) (ys.drop off)) w
  | [], off, z, hp, _, _, _, hx, hy, w => by
    simp [partsB] at hp; subst hp
    have h1 : xs.drop off = [] := List.length_eq_zero_iff.1 (by simpa using likeL_len hx)
    have h2 : ys.drop off = [] := List.length_eq_zero_iff.1 (by simpa using likeL_len hy)
    rw [h1, h2]; simp [Op.eqFields, eqLP]
  | f :: fs, off, z, hp, ha, hox, hoy, hx, hy, w => by
    simp only [partsB, partsB.likeZ, Bool.and_eq_true, decide_eq_true_eq, bne_iff_ne, ne_eq, beq_iff_eq] at hp
    obtain ⟨⟨⟨⟨hn, ho⟩, hle⟩, hl1, hl2⟩, hrest⟩ := hp
    simp only [List.all_cons, Bool.and_eq_true] at ha
    have hxl := likeL_len hx
    have hyl := likeL_len hy
    simp at hxl hyl
    have hpx := run_part_T (w := w) (eqB_ty ha.1) xs off (by omega) (fun h => eqB_pos ha.1 h)
    have hpy := run_part_T (w := w) (eqB_ty ha.1) ys off (by omega) (fun h => eqB_pos ha.1 h)
    have heq := hall f.type ha.1 _ _ w (likeL_trans (likeL_take (T f.type).size hx) hl1) (likeL_trans (likeL_take (T f.type).size hy) hl1)
    have ih := eq_fields d m hall xs ys fs (off + (T f.type).size) _ hrest ha.2 (by omega) (by omega) (by have := likeL_drop (T f.type).size hx; rwa [List.drop_drop] at this) (by have := likeL_drop (T f.type).size hy; rwa [List.drop_drop] at this) w
    simp only [Op.eqFields, hn, ne_eq, not_false_eq_true, if_true, Sem.run_bind, ho, hpx, hpy, Result.andThen_ok, heq]
    have e1 : eqLP (xs.drop off) (ys.drop off) = (eqLP ((xs.drop off).take (T f.type).size) ((ys.drop off).take (T f.type).size) && eqLP (xs.drop (off + (T f.type).size)) (ys.drop (off + (T f.type).size))) := by
      conv => lhs; rw [← List.take_append_drop (T f.type).size (xs.drop off), ← List.take_append_drop (T f.type).size (ys.drop off)]
      rw [eqLP_append (by simp; omega), List.drop_drop, List.drop_drop]
    rw [e1]
    cases hb : eqLP ((xs.drop off).take (T f.type).size) ((ys.drop off).take (T f.type).size) with
    | false => simp
    | true => simpa using ih

theorem eq_items (d m e : Nat) (heq : EqWhole P T d e) (he : eqB P T m e = true) (xs ys : List PV) : ∀ (n k : Nat), k * (T e).size ≤ xs.length → k * (T e).size ≤ ys.length →
    likeL (xs.drop (k * (T e).size)) (List.replicate n (T e).zero).flatten = true → likeL (ys.drop (k * (T e).size)) (List.replicate n (T e).zero).flatten = true →
    ∀ w, (Op.eqItems d e (T e).size (xs.map pvVal).toArray (ys.map pvVal).toArray (List.range' k n)).run P w = .ok (eqLP (xs.drop (k * (T e).size)) (ys.drop (k * (T e).size))) w
  | 0, k, _, _, hx, hy, w => by
    have h1 : xs.drop (k * (T e).size) = [] := List.length_eq_zero_iff.1 (by simpa using likeL_len hx)
    have h2 : ys.drop (k * (T e).size) = [] := List.length_eq_zero_iff.1 (by simpa using likeL_len hy)
    rw [h1, h2]; simp [Op.eqItems, eqLP]
  | n + 1, k, hkx, hky, hx, hy, w => by
    have hzl : (T e).zero.length = (T e).size := (eqB_ok he).len
    have hxl := likeL_len hx
    have hyl := likeL_len hy
    rw [List.replicate_succ, List.flatten_cons] at hx hy hxl hyl
    simp only [List.length_drop, List.length_append, hzl] at hxl hyl
    have hpx := run_part_T (w := w) (eqB_ty he) xs (k * (T e).size) (by omega) (fun h => eqB_pos he h)
    have hpy := run_part_T (w := w) (eqB_ty he) ys (k * (T e).size) (by omega) (fun h => eqB_pos he h)
    have hx1 := likeL_take (T e).size hx
    have hy1 := likeL_take (T e).size hy
    rw [List.take_append_of_le_length (by omega), List.take_of_length_le (l := (T e).zero) (by omega)] at hx1 hy1
    have hx2 := likeL_drop (T e).size hx
    have hy2 := likeL_drop (T e).size hy
    have e2 : k * (T e).size + (T e).size = (k + 1) * (T e).size := (Nat.succ_mul _ _).symm
    rw [List.drop_drop, e2, List.drop_append_of_le_length (by omega), List.drop_of_length_le (l := (T e).zero) (by omega), List.nil_append] at hx2 hy2
    have heqv := heq _ _ w hx1 hy1
    have ih := eq_items d m e heq he xs ys n (k + 1) (by omega) (by omega) hx2 hy2 w
    have e1 : eqLP (xs.drop (k * (T e).size)) (ys.drop (k * (T e).size)) = (eqLP ((xs.drop (k * (T e).size)).take (T e).size) ((ys.drop (k * (T e).size)).take (T e).size) && eqLP (xs.drop ((k + 1) * (T e).size)) (ys.drop ((k + 1) * (T e).size))) := by
      conv => lhs; rw [← List.take_append_drop (T e).size (xs.drop (k * (T e).size)), ← List.take_append_drop (T e).size (ys.drop (k * (T e).size))]
      rw [eqLP_append (by simp; omega), List.drop_drop, List.drop_drop, e2]
    rw [List.range'_succ]
    simp only [Op.eqItems, Sem.run_bind, hpx, hpy, Result.andThen_ok, heqv, e1]
    cases hb : eqLP ((xs.drop (k * (T e).size)).take (T e).size) ((ys.drop (k * (T e).size)).take (T e).size) with
    | false => simp
    | true => simpa using ih

theorem eqB_whole : ∀ (m t d : Nat), eqB P T m t = true → EqWhole P T (d + m) t
  | 0, t, d, h => by simp [eqB] at h
  | m + 1, t, d, h => by
    have hok := eqB_ok h
    obtain ⟨ds, h1, h2⟩ := hok.desc
    have hlen := hok.len
    have h2 : descOk (T t).d ds := h2
    have hlen : (T t).zero.length = (T t).size := hlen
    have h0 := h
    simp only [eqB, h1] at h
    simp only [Bool.and_eq_true] at h
    intro xs ys w hx hy
    have hxl := likeL_len hx
    have hyl := likeL_len hy
    -- a plain cell
    have hone : (T t).d.isAgg = false → (T t).size = 1 → ∃ x y, xs = [x] ∧ ys = [y] ∧ whole T t xs = pvVal x ∧ whole T t ys = pvVal y := by
      intro ha hs
      match xs, ys, hxl, hyl with
      | [x], [y], _, _ => exact ⟨x, y, rfl, rfl, by simp [whole, ha], by simp [whole, ha]⟩
      | [], _, h, _ => simp at h; omega
      | _ :: _ :: _, _, h, _ => simp at h; omega
      | _, [], _, h => simp at h; omega
      | _, _ :: _ :: _, _, h => simp at h; omega
    have hz1 : (T t).size = 1 → ∃ z, (T t).zero = [z] := by
      intro hs
      match hz : (T t).zero, hlen with
      | [z], _ => exact ⟨z, rfl⟩
      | [], h => simp at h; omega
      | _ :: _ :: _, h => simp at h; omega
    obtain ⟨ti, zv, hi3, hi4, hi5, hi6, hi7⟩ := hok.info
    cases ds with
    | bool =>
      simp only [Bool.and_eq_true] at h
      have ha : (T t).d.isAgg = false := by revert h2; generalize (T t).d = d'; intro h2; cases d' <;> simp_all [descOk, TD.isAgg]
      have hx2 := likeL_trans hx h.2.2; have hy2 := likeL_trans hy h.2.2
      obtain ⟨x, y, rfl, rfl, hx1, hy1⟩ := hone ha (by simpa using h.2.1)
      rw [hx1, hy1]
      cases x <;> simp [likeL, likeP] at hx2
      cases y <;> simp [likeL, likeP] at hy2
      rw [show d + (m + 1) = (d + m) + 1 from rfl]
      simp [pvVal, eqLP, run_equalIn_bool' w _ t _ _ h1]
    | int k =>
      simp only [Bool.and_eq_true] at h
      have ha : (T t).d.isAgg = false := by revert h2; generalize (T t).d = d'; intro h2; cases d' <;> simp_all [descOk, TD.isAgg]
      have hx2 := likeL_trans hx h.2.2; have hy2 := likeL_trans hy h.2.2
      obtain ⟨x, y, rfl, rfl, hx1, hy1⟩ := hone ha (by simpa using h.2.1)
      rw [hx1, hy1]
      cases x <;> simp [likeL, likeP] at hx2
      cases y <;> simp [likeL, likeP] at hy2
      subst hx2 hy2
      rw [show d + (m + 1) = (d + m) + 1 from rfl]
      simp only [pvVal, eqLP, run_equalIn_int w _ t _ _ _ _ h1, Bool.beq_eq_decide_eq, Bool.and_true]
    | string =>
      simp only [Bool.and_eq_true] at h
      have ha : (T t).d.isAgg = false := by revert h2; generalize (T t).d = d'; intro h2; cases d' <;> simp_all [descOk, TD.isAgg]
      have hx2 := likeL_trans hx h.2.2; have hy2 := likeL_trans hy h.2.2
      obtain ⟨x, y, rfl, rfl, hx1, hy1⟩ := hone ha (by simpa using h.2.1)
      rw [hx1, hy1]
      cases x <;> simp [likeL, likeP] at hx2
      cases y <;> simp [likeL, likeP] at hy2
      rw [show d + (m + 1) = (d + m) + 1 from rfl]
      simp [pvVal, eqLP, run_equalIn_string w _ t _ _ h1, beq_bytes]
    | struct fs =>
      simp only [Bool.and_eq_true] at h
      have ha : (T t).d.isAgg = true := by revert h2; generalize (T t).d = d'; intro h2; cases d' <;> simp_all [descOk, TD.isAgg]
      obtain ⟨_, ⟨hs, hp⟩, hall⟩ := h
      have hf : P.fieldsOf t = fs := by simp [Program.fieldsOf, h1]
      simp only [whole, ha, if_true]
      rw [show d + (m + 1) = (d + m) + 1 from rfl, run_equalIn_struct w (d + m) t _ _ (by rw [hf]; exact h1) (by simpa using hs), hf]
      have := eq_fields (w := w) (d + m) m (fun t h => eqB_whole m t d h) xs ys fs.toList 0 _ hp (by simpa using hall) (Nat.zero_le _) (Nat.zero_le _) (by simpa using hx) (by simpa using hy)
      simpa using this
    | array n e =>
      simp only [Bool.and_eq_true] at h
      have ha : (T t).d.isAgg = true := by revert h2; generalize (T t).d = d'; intro h2; cases d' <;> simp_all [descOk, TD.isAgg]
      obtain ⟨_, ⟨he, hsz⟩, hz⟩ := h
      obtain ⟨tie, _, hie, hie2, _⟩ := (eqB_ok he).info
      have hce : P.cellsOf e = (T e).size := by simp [Program.cellsOf, hie, hie2]
      simp only [whole, ha, if_true]
      rw [show d + (m + 1) = (d + m) + 1 from rfl, run_equalIn_array w (d + m) _ _ h1 hie, hce, List.range_eq_range']
      have := eq_items (P := P) (T := T) (d + m) m e (eqB_whole m e d he) he xs ys n 0 (by simp) (by simp) (by simpa using likeL_trans hx hz) (by simpa using likeL_trans hy hz)
      simpa using this w
    | _ => simp at h

/-- A type's wholes are compared cell by cell. -/
theorem eqOk_of {m t : Nat} (hm : m ≤ 10000) (h : eqB P T m t = true) (ha : (T t).d.isAgg = true) (hg : P.eqGuardType P.depth t = false) : EqOk P t (T t).zero := by
  intro xs ys hx hy x y w
  have := eqB_whole m t (10000 - m) h xs ys w hx hy
  rw [show 10000 - m + m = 10000 by omega] at this
  simp only [whole, ha, if_true] at this
  constructor
  · simp only [Sem.run_bind, run_eqGuard_agg w .eql t x y _ _ hg, Result.andThen_ok, run_eql_struct w, this]
  · simp only [Sem.run_bind, run_eqGuard_agg w .neq t x y _ _ hg, Result.andThen_ok, run_neq_struct w, this]
end
end Go.AW
