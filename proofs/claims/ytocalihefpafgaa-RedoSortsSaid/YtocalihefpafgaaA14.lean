import Derived.Test.YtocalihefpafgaaA12
import Derived.DeepKeys
/- A table of types against the program's own; comparisons of wholes. -/
set_option linter.unusedVariables false
set_option linter.unusedSimpArgs false
namespace Go.AW

def cellIs : Value → PV → Bool
  | .bool a, .bool b => a == b
  | .int k a, .int k' b => decide (k = k') && decide (a = b)
  | .string a, .str b => a.data.toList == b.data.toList
  | .pointer none, .nilp => true
  | .slice none 0 0, .nilsl => true
  | .nilFunc, .nilf => true
  | _, _ => false
def cellsAre : List Value → List PV → Bool
  | [], [] => true
  | v :: vs, q :: qs => cellIs v q && cellsAre vs qs
  | _, _ => false

def descB : TD → TypeDesc → Bool
  | .bool, .bool => true | .int k, .int k' => decide (k = k') | .str, .string => true | .ptr e, .pointer e' => e == e' | .sl e, .slice e' => e == e'
  | .arr n e, .array n' e' => n == n' && e == e' | .struct fs, .struct fields => fields.toList.map (fun f => (f.offset, f.type)) == fs | .func, .func .. => true
  | _, _ => false

def tyB (P : Program) (t : Nat) (i : TI) : Bool :=
  (match P.underlying t with | some ds => descB i.d ds | none => false) &&
  (match P.info? t with
   | some ti => ti.size == i.size && ti.bytes == i.bytes && (match ti.zero with | some z => cellsAre z.cells.toList i.zero | none => false)
   | none => false) &&
  i.zero.all simpleP && i.zero.length == i.size

theorem cellIs_eq {v : Value} {q : PV} (h : cellIs v q = true) : v = pvVal q := by
  unfold cellIs at h
  split at h <;> simp_all [pvVal]
  rename_i a b
  obtain ⟨⟨a⟩⟩ := a; obtain ⟨⟨b⟩⟩ := b
  simp at h; subst h; rfl
theorem cellsAre_eq : ∀ {vs : List Value} {qs : List PV}, cellsAre vs qs = true → vs = qs.map pvVal
  | [], [], _ => rfl
  | [], _ :: _, h => by simp [cellsAre] at h
  | _ :: _, [], h => by simp [cellsAre] at h
  | v :: vs, q :: qs, h => by
    simp only [cellsAre, Bool.and_eq_true] at h
    simp [cellIs_eq h.1, cellsAre_eq h.2]
theorem descB_ok {d : TD} {ds : TypeDesc} (h : descB d ds = true) : descOk d ds := by
  unfold descB at h
  split at h <;> simp_all [descOk]

theorem tyOk_of {P : Program} {t : Nat} {i : TI} (h : tyB P t i = true) (he : i.eqok = true → EqOk P t i.zero) : TyOk P t i := by
  simp only [tyB, Bool.and_eq_true] at h
  obtain ⟨⟨⟨h1, h2⟩, h3⟩, h4⟩ := h
  refine ⟨?_, ?_, h3, by simpa using h4, he⟩
  · split at h1
    · rename_i ds hd; exact ⟨ds, hd, descB_ok h1⟩
    · cases h1
  · split at h2
    · rename_i ti hi
      simp only [Bool.and_eq_true] at h2
      obtain ⟨⟨h5, h6⟩, h7⟩ := h2
      split at h7
      · rename_i z hz; exact ⟨ti, z, hi, by simpa using h5, by simpa using h6, hz, cellsAre_eq h7⟩
      · cases h7
    · cases h2

/-! ### Comparing wholes -/

/-- The parts of a struct lie one behind the other; their zero values make up its own. -/
def partsB (T : Tab) : List Field → Nat → List PV → Bool
  | [], _, z => z.isEmpty
  | f :: fs, off, z => f.name != "_" && f.offset == off && decide ((T f.type).size ≤ z.length) && likeZ (z.take (T f.type).size) (T f.type).zero && partsB T fs (off + (T f.type).size) (z.drop (T f.type).size)
where likeZ (a b : List PV) : Bool := likeL a b && a.length == b.length

def eqB (P : Program) (T : Tab) : Nat → Nat → Bool
  | 0, _ => false
  | m + 1, t => tyB P t (T t) && match P.underlying t with
    | some .bool => (T t).size == 1 && likeL (T t).zero [.bool false]
    | some (.int k) => (T t).size == 1 && likeL (T t).zero [.int k 0]
    | some .string => (T t).size == 1 && likeL (T t).zero [.str ByteArray.empty]
    | some (.struct fs) => !P.stoodInHeld t && partsB T fs.toList 0 (T t).zero && fs.toList.all (fun f => eqB P T m f.type)
    | some (.array n e) => eqB P T m e && (T t).size == n * (T e).size && likeL (T t).zero (List.replicate n (T e).zero).flatten
    | _ => false

def whole (T : Tab) (t : Nat) (xs : List PV) : Value := if (T t).d.isAgg then .agg (xs.map pvVal).toArray else ((xs.map pvVal).head?).getD undef

theorem likeL_len : ∀ {a b : List PV}, likeL a b = true → a.length = b.length
  | [], [], _ => rfl
  | [], _ :: _, h => by simp [likeL] at h
  | _ :: _, [], h => by simp [likeL] at h
  | _ :: a, _ :: b, h => by simp only [likeL, Bool.and_eq_true] at h; simp [likeL_len h.2]
theorem likeL_trans : ∀ {a b c : List PV}, likeL a b = true → likeL b c = true → likeL a c = true
  | [], [], [], _, _ => rfl
  | [], [], _ :: _, _, h => by simp [likeL] at h
  | [], _ :: _, _, h, _ => by simp [likeL] at h
  | _ :: _, [], _, h, _ => by simp [likeL] at h
  | _ :: _, _ :: _, [], _, h => by simp [likeL] at h
  | x :: a, y :: b, z :: c, h, k => by
    simp only [likeL, Bool.and_eq_true] at h k ⊢
    refine ⟨?_, likeL_trans h.2 k.2⟩
    have h1 := h.1; have h2 := k.1
    cases x <;> cases y <;> simp [likeP] at h1 <;> cases z <;> simp [likeP] at h2 ⊢
    exact h1.trans h2
theorem likeL_take : ∀ {a b : List PV} (n : Nat), likeL a b = true → likeL (a.take n) (b.take n) = true
  | _, _, 0, _ => by simp [likeL]
  | [], [], n + 1, _ => by simp [likeL]
  | [], _ :: _, _ + 1, h => by simp [likeL] at h
  | _ :: _, [], _ + 1, h => by simp [likeL] at h
  | _ :: a, _ :: b, n + 1, h => by simp only [likeL, Bool.and_eq_true] at h; simp only [List.take_succ_cons, likeL, h.1, Bool.true_and]; exact likeL_take n h.2
theorem likeL_drop : ∀ {a b : List PV} (n : Nat), likeL a b = true → likeL (a.drop n) (b.drop n) = true
  | _, _, 0, h => h
  | [], [], n + 1, _ => by simp [likeL]
  | [], _ :: _, _ + 1, h => by simp [likeL] at h
  | _ :: _, [], _ + 1, h => by simp [likeL] at h
  | _ :: a, _ :: b, n + 1, h => by simp only [likeL, Bool.and_eq_true] at h; exact likeL_drop n h.2
theorem eqLP_append : ∀ {a b c d : List PV}, a.length = b.length → eqLP (a ++ c) (b ++ d) = (eqLP a b && eqLP c d)
  | [], [], c, d, _ => by simp [eqLP]
  | [], _ :: _, _, _, h => by simp at h
  | _ :: _, [], _, _, h => by simp at h
  | x :: a, y :: b, c, d, h => by simp only [List.cons_append, eqLP, eqLP_append (a := a) (b := b) (c := c) (d := d) (by simpa using h), Bool.and_assoc]

section
variable {P : Program} {T : Tab} {w : World}

theorem run_part_T {t : Nat} (h : tyB P t (T t) = true) (xs : List PV) (off : Nat) (hle : off + (T t).size ≤ xs.length) (hpos : (T t).d.isAgg = false → 0 < (T t).size) :
    (part t (xs.map pvVal).toArray off).run P w = .ok (whole T t ((xs.drop off).take (T t).size)) w := by
  have hty : TyOk P t { T t with eqok := false } := tyOk_of (by simpa [tyB] using h) (by intro h; cases h)
  obtain ⟨ds, h1, h2⟩ := hty.desc
  obtain ⟨ti, z, h3, h4, _⟩ := hty.info
  have ha : (isAgg t).run P w = .ok (T t).d.isAgg w := by
    simp only [isAgg, Sem.run_bind, run_underlying h1, Result.andThen_ok]
    simp only at h2
    generalize (T t).d = d at *
    cases d <;> cases ds <;> simp_all [descOk, TD.isAgg]
  have hs : (sizeOf t).run P w = .ok (T t).size w := by simp [sizeOf, typeInfo, h3, h4]
  unfold part whole
  simp only [Sem.run_bind, ha, Result.andThen_ok]
  cases hagg : (T t).d.isAgg with
  | true =>
    simp only [if_true, Sem.run_bind, hs, Result.andThen_ok, Sem.run_pure]
    congr 2
    apply Array.ext'
    simp [List.map_drop, List.map_take, List.extract_eq_take_drop]
  | false =>
    have hp := hpos hagg
    have hlt : off < xs.length := by omega
    have hx : (xs.map pvVal).toArray[off]? = some (pvVal xs[off]) := by simp [hlt]
    simp only [Bool.false_eq_true, if_false, hx, Sem.run_pure]
    have : (xs.drop off).take (T t).size = xs[off] :: ((xs.drop (off + 1)).take ((T t).size - 1)) := by
      rw [List.drop_eq_getElem_cons hlt]
      obtain ⟨k, hk⟩ : ∃ k, (T t).size = k + 1 := ⟨(T t).size - 1, by omega⟩
      rw [hk, List.take_succ_cons, Nat.add_sub_cancel]
    rw [this]; simp

def EqWhole (P : Program) (T : Tab) (d t : Nat) : Prop := ∀ (xs ys : List PV) (w : World), likeL xs (T t).zero = true → likeL ys (T t).zero = true → (Op.equalIn d t (whole T t xs) (whole T t ys)).run P w = .ok (eqLP xs ys) w

theorem eqB_ty {m t : Nat} (h : eqB P T m t = true) : tyB P t (T t) = true := by
  cases m with
  | zero => simp [eqB] at h
  | succ m => simp only [eqB, Bool.and_eq_true] at h; exact h.1

theorem eqB_ok {m t : Nat} (h : eqB P T m t = true) : TyOk P t { T t with eqok := false } := tyOk_of (by simpa [tyB] using eqB_ty h) (by intro h; cases h)

theorem eqB_pos {m t : Nat} (h : eqB P T m t = true) (ha : (T t).d.isAgg = false) : 0 < (T t).size := by
  obtain ⟨ds, h1, h2⟩ := (eqB_ok h).desc
  cases m with
  | zero => simp [eqB] at h
  | succ m =>
    simp only [eqB, Bool.and_eq_true, h1] at h
    have h2 : descOk (T t).d ds := h2
    revert h h2 ha
    generalize (T t).d = d
    intro ha h h2
    cases ds <;> cases d <;> simp_all [descOk, TD.isAgg]

theorem eq_fields (d m : Nat) (hall : ∀ t, eqB P T m t = true → EqWhole P T d t) (xs ys : List PV) : ∀ (fs : List Field) (off : Nat) (z : List PV), partsB T fs off z = true → fs.all (fun f => eqB P T m f.type) = true → off ≤ xs.length → off ≤ ys.length →
    likeL (xs.drop off) z = true → likeL (ys.drop off) z = true → ∀ w, (Op.eqFields d (xs.map pvVal).toArray (ys.map pvVal).toArray fs).run P w = .ok (eqLP (xs.drop off) (ys.drop off)) w
  | [], off, z, hp, _, _, _, hx, hy, w => by
    simp [partsB] at hp; subst hp
    have h1 : xs.drop off = [] := List.length_eq_zero_iff.1 (by simpa using likeL_len hx)
    have h2 : ys.drop off = [] := List.length_eq_zero_iff.1 (by simpa using likeL_len hy)
    rw [h1, h2]; simp [Op.eqFields, eqLP]
  | f :: fs, off, z, hp, ha, hox, hoy, hx, hy, w => by
    simp only [partsB, partsB.likeZ, Bool.and_eq_true, decide_eq_true_eq, bne_iff_ne, ne_eq, beq_iff_eq] at hp
    obtain ⟨⟨⟨⟨hn, ho⟩, hle⟩, hl1, hl2⟩, hrest⟩ := hp
    simp only [List.all_cons, Bool.and_eq_true] at ha
    have hxl := likeL_len hx
    have hyl := likeL_len hy
    simp at hxl hyl
    have hpx := run_part_T (w := w) (eqB_ty ha.1) xs off (by omega) (fun h => eqB_pos ha.1 h)
    have hpy := run_part_T (w := w) (eqB_ty ha.1) ys off (by omega) (fun h => eqB_pos ha.1 h)
    have heq := hall f.type ha.1 _ _ w (likeL_trans (likeL_take (T f.type).size hx) hl1) (likeL_trans (likeL_take (T f.type).size hy) hl1)
    have ih := eq_fields d m hall xs ys fs (off + (T f.type).size) _ hrest ha.2 (by omega) (by omega) (by have := likeL_drop (T f.type).size hx; rwa [List.drop_drop] at this) (by have := likeL_drop (T f.type).size hy; rwa [List.drop_drop] at this) w
    simp only [Op.eqFields, hn, ne_eq, not_false_eq_true, if_true, Sem.run_bind, ho, hpx, hpy, Result.andThen_ok, heq]
    have e1 : eqLP (xs.drop off) (ys.drop off) = (eqLP ((xs.drop off).take (T f.type).size) ((ys.drop off).take (T f.type).size) && eqLP (xs.drop (off + (T f.type).size)) (ys.drop (off + (T f.type).size))) := by
      conv => lhs; rw [← List.take_append_drop (T f.type).size (xs.drop off), ← List.take_append_drop (T f.type).size (ys.drop off)]
      rw [eqLP_append (by simp; omega), List.drop_drop, List.drop_drop]
    rw [e1]
    cases hb : eqLP ((xs.drop off).take (T f.type).size) ((ys.drop off).take (T f.type).size) with
    | false => simp
    | true => simpa using ih

theorem eq_items (d m e : Nat) (heq : EqWhole P T d e) (he : eqB P T m e = true) (xs ys : List PV) : ∀ (n k : Nat), k * (T e).size ≤ xs.length → k * (T e).size ≤ ys.length →
    likeL (xs.drop (k * (T e).size)) (List.replicate n (T e).zero).flatten = true → likeL (ys.drop (k * (T e).size)) (List.replicate n (T e).zero).flatten = true →
    ∀ w, (Op.eqItems d e (T e).size (xs.map pvVal).toArray (ys.map pvVal).toArray (List.range' k n)).run P w = .ok (eqLP (xs.drop (k * (T e).size)) (ys.drop (k * (T e).size))) w
  | 0, k, _, _, hx, hy, w => by
    have h1 : xs.drop (k * (T e).size) = [] := List.length_eq_zero_iff.1 (by simpa using likeL_len hx)
    have h2 : ys.drop (k * (T e).size) = [] := List.length_eq_zero_iff.1 (by simpa using likeL_len hy)
    rw [h1, h2]; simp [Op.eqItems, eqLP]
  | n + 1, k, hkx, hky, hx, hy, w => by
    have hzl : (T e).zero.length = (T e).size := (eqB_ok he).len
    have hxl := likeL_len hx
    have hyl := likeL_len hy
    rw [List.replicate_succ, List.flatten_cons] at hx hy hxl hyl
    simp only [List.length_drop, List.length_append, hzl] at hxl hyl
    have hpx := run_part_T (w := w) (eqB_ty he) xs (k * (T e).size) (by omega) (fun h => eqB_pos he h)
    have hpy := run_part_T (w := w) (eqB_ty he) ys (k * (T e).size) (by omega) (fun h => eqB_pos he h)
    have hx1 := likeL_take (T e).size hx
    have hy1 := likeL_take (T e).size hy
    rw [List.take_append_of_le_length (by omega), List.take_of_length_le (l := (T e).zero) (by omega)] at hx1 hy1
    have hx2 := likeL_drop (T e).size hx
    have hy2 := likeL_drop (T e).size hy
    have e2 : k * (T e).size + (T e).size = (k + 1) * (T e).size := (Nat.succ_mul _ _).symm
    rw [List.drop_drop, e2, List.drop_append_of_le_length (by omega), List.drop_of_length_le (l := (T e).zero) (by omega), List.nil_append] at hx2 hy2
    have heqv := heq _ _ w hx1 hy1
    have ih := eq_items d m e heq he xs ys n (k + 1) (by omega) (by omega) hx2 hy2 w
    have e1 : eqLP (xs.drop (k * (T e).size)) (ys.drop (k * (T e).size)) = (eqLP ((xs.drop (k * (T e).size)).take (T e).size) ((ys.drop (k * (T e).size)).take (T e).size) && eqLP (xs.drop ((k + 1) * (T e).size)) (ys.drop ((k + 1) * (T e).size))) := by
      conv => lhs; rw [← List.take_append_drop (T e).size (xs.drop (k * (T e).size)), ← List.take_append_drop (T e).size (ys.drop (k * (T e).size))]
      rw [eqLP_append (by simp; omega), List.drop_drop, List.drop_drop, e2]
    rw [List.range'_succ]
    simp only [Op.eqItems, Sem.run_bind, hpx, hpy, Result.andThen_ok, heqv, e1]
    cases hb : eqLP ((xs.drop (k * (T e).size)).take (T e).size) ((ys.drop (k * (T e).size)).take (T e).size) with
    | false => simp
    | true => simpa using ih

theorem eqB_whole : ∀ (m t d : Nat), eqB P T m t = true → EqWhole P T (d + m) t
  | 0, t, d, h => by simp [eqB] at h
  | m + 1, t, d, h => by
    have hok := eqB_ok h
    obtain ⟨ds, h1, h2⟩ := hok.desc
    have hlen := hok.len
    have h2 : descOk (T t).d ds := h2
    have hlen : (T t).zero.length = (T t).size := hlen
    have h0 := h
    simp only [eqB, h1] at h
    simp only [Bool.and_eq_true] at h
    intro xs ys w hx hy
    have hxl := likeL_len hx
    have hyl := likeL_len hy
    -- a plain cell
    have hone : (T t).d.isAgg = false → (T t).size = 1 → ∃ x y, xs = [x] ∧ ys = [y] ∧ whole T t xs = pvVal x ∧ whole T t ys = pvVal y := by
      intro ha hs
      match xs, ys, hxl, hyl with
      | [x], [y], _, _ => exact ⟨x, y, rfl, rfl, by simp [whole, ha], by simp [whole, ha]⟩
      | [], _, h, _ => simp at h; omega
      | _ :: _ :: _, _, h, _ => simp at h; omega
      | _, [], _, h => simp at h; omega
      | _, _ :: _ :: _, _, h => simp at h; omega
    have hz1 : (T t).size = 1 → ∃ z, (T t).zero = [z] := by
      intro hs
      match hz : (T t).zero, hlen with
      | [z], _ => exact ⟨z, rfl⟩
      | [], h => simp at h; omega
      | _ :: _ :: _, h => simp at h; omega
    obtain ⟨ti, zv, hi3, hi4, hi5, hi6, hi7⟩ := hok.info
    cases ds with
    | bool =>
      simp only [Bool.and_eq_true] at h
      have ha : (T t).d.isAgg = false := by revert h2; generalize (T t).d = d'; intro h2; cases d' <;> simp_all [descOk, TD.isAgg]
      have hx2 := likeL_trans hx h.2.2; have hy2 := likeL_trans hy h.2.2
      obtain ⟨x, y, rfl, rfl, hx1, hy1⟩ := hone ha (by simpa using h.2.1)
      rw [hx1, hy1]
      cases x <;> simp [likeL, likeP] at hx2
      cases y <;> simp [likeL, likeP] at hy2
      rw [show d + (m + 1) = (d + m) + 1 from rfl]
      simp [pvVal, eqLP, run_equalIn_bool' w _ t _ _ h1]
    | int k =>
      simp only [Bool.and_eq_true] at h
      have ha : (T t).d.isAgg = false := by revert h2; generalize (T t).d = d'; intro h2; cases d' <;> simp_all [descOk, TD.isAgg]
      have hx2 := likeL_trans hx h.2.2; have hy2 := likeL_trans hy h.2.2
      obtain ⟨x, y, rfl, rfl, hx1, hy1⟩ := hone ha (by simpa using h.2.1)
      rw [hx1, hy1]
      cases x <;> simp [likeL, likeP] at hx2
      cases y <;> simp [likeL, likeP] at hy2
      subst hx2 hy2
      rw [show d + (m + 1) = (d + m) + 1 from rfl]
      simp only [pvVal, eqLP, run_equalIn_int w _ t _ _ _ _ h1, Bool.beq_eq_decide_eq, Bool.and_true]
    | string =>
      simp only [Bool.and_eq_true] at h
      have ha : (T t).d.isAgg = false := by revert h2; generalize (T t).d = d'; intro h2; cases d' <;> simp_all [descOk, TD.isAgg]
      have hx2 := likeL_trans hx h.2.2; have hy2 := likeL_trans hy h.2.2
      obtain ⟨x, y, rfl, rfl, hx1, hy1⟩ := hone ha (by simpa using h.2.1)
      rw [hx1, hy1]
      cases x <;> simp [likeL, likeP] at hx2
      cases y <;> simp [likeL, likeP] at hy2
      rw [show d + (m + 1) = (d + m) + 1 from rfl]
      simp [pvVal, eqLP, run_equalIn_string w _ t _ _ h1, beq_bytes]
    | struct fs =>
      simp only [Bool.and_eq_true] at h
      have ha : (T t).d.isAgg = true := by revert h2; generalize (T t).d = d'; intro h2; cases d' <;> simp_all [descOk, TD.isAgg]
      obtain ⟨_, ⟨hs, hp⟩, hall⟩ := h
      have hf : P.fieldsOf t = fs := by simp [Program.fieldsOf, h1]
      simp only [whole, ha, if_true]
      rw [show d + (m + 1) = (d + m) + 1 from rfl, run_equalIn_struct w (d + m) t _ _ (by rw [hf]; exact h1) (by simpa using hs), hf]
      have := eq_fields (w := w) (d + m) m (fun t h => eqB_whole m t d h) xs ys fs.toList 0 _ hp (by simpa using hall) (Nat.zero_le _) (Nat.zero_le _) (by simpa using hx) (by simpa using hy)
      simpa using this
    | array n e =>
      simp only [Bool.and_eq_true] at h
      have ha : (T t).d.isAgg = true := by revert h2; generalize (T t).d = d'; intro h2; cases d' <;> simp_all [descOk, TD.isAgg]
      obtain ⟨_, ⟨he, hsz⟩, hz⟩ := h
      obtain ⟨tie, _, hie, hie2, _⟩ := (eqB_ok he).info
      have hce : P.cellsOf e = (T e).size := by simp [Program.cellsOf, hie, hie2]
      simp only [whole, ha, if_true]
      rw [show d + (m + 1) = (d + m) + 1 from rfl, run_equalIn_array w (d + m) _ _ h1 hie, hce, List.range_eq_range']
      have := eq_items (P := P) (T := T) (d + m) m e (eqB_whole m e d he) he xs ys n 0 (by simp) (by simp) (by simpa using likeL_trans hx hz) (by simpa using likeL_trans hy hz)
      simpa using this w
    | _ => simp at h

/-- A type's wholes are compared cell by cell. -/
theorem eqOk_of {m t : Nat} (hm : m ≤ 10000) (h : eqB P T m t = true) (ha : (T t).d.isAgg = true) (hg : P.eqGuardType P.depth t = false) : EqOk P t (T t).zero := by
  intro xs ys hx hy x y w
  have := eqB_whole m t (10000 - m) h xs ys w hx hy
  rw [show 10000 - m + m = 10000 by omega] at this
  simp only [whole, ha, if_true] at this
  constructor
  · simp only [Sem.run_bind, run_eqGuard_agg w .eql t x y _ _ hg, Result.andThen_ok, run_eql_struct w, this]
  · simp only [Sem.run_bind, run_eqGuard_agg w .neq t x y _ _ hg, Result.andThen_ok, run_neq_struct w, this]
end
end Go.AW

/- The walk as a machine with a stack: rules by which a walk is reckoned, one step after the other. -/
set_option linter.unusedVariables false
set_option linter.unusedSimpArgs false
namespace Go.AW

inductive It where
  | code (c : Code)
  | blk (id : Nat)
  | ops (ops : Array Oper) (r : List Oper)
  | drw (ops : Array Oper) (r : List Oper) (acc : List (List Loc × List Loc))

section
variable (C : Con) (T : Tab) (L : Code → (Ex → St → Prop) → St → Prop) (Q : Ex → St → Prop)

def den : List It → Ex → St → Prop
  | [], e, σ => Q e σ
  | .code c :: k, e, σ => match e with
    | .normal => cw C T L c (den k) σ
    | .exit j => den k (.exit j) σ
    | .ret => den k .ret σ
  | .blk id :: k, e, σ => match e with
    | .normal => den k .normal σ
    | .exit j => if j = id then den k .normal σ else den k (.exit j) σ
    | .ret => den k .ret σ
  | .ops ops r :: k, e, σ => match e with
    | .normal => opsK C T ops r σ (den k .normal)
    | .exit j => den k (.exit j) σ
    | .ret => den k .ret σ
  | .drw ops r acc :: k, e, σ => match e with
    | .normal => opsD C T ops r σ (fun D σ => drawOk ops (acc.reverse ++ D) = true ∧ den k .normal σ)
    | .exit j => den k (.exit j) σ
    | .ret => den k .ret σ

/-- The machine, going on normally; leaving by an exit; returning. -/
def Go (k : List It) (σ : St) : Prop := den C T L Q k .normal σ
def GoX (j : Nat) (k : List It) (σ : St) : Prop := den C T L Q k (.exit j) σ
def GoT (k : List It) (σ : St) : Prop := den C T L Q k .ret σ
/-- An operation's reckoning, in a text region ('acc' none) or in a drawn one. -/
def GoR (p : Rd Wr) (dst : Option Nat) (ops : Array Oper) (r : List Oper) (acc : Option (List (List Loc × List Loc) × List Loc)) (k : List It) (σ : St) : Prop :=
  match acc with
  | none => runK C p σ fun w _ => den C T L Q (.ops ops r :: k) .normal (σ.app dst w)
  | some (acc, fps) => runK C p σ fun w fp => den C T L Q (.drw ops r ((dst.toList.map .t ++ w.ms.map (fun x => .m x.1), fps.reverse ++ fp) :: acc) :: k) .normal (σ.app dst w)
/-- A guard's word. -/
def GoG (v : V) (want : Bool) (d : Nat) (o : Oper) (ops : Array Oper) (r : List Oper) (acc : Option (List (List Loc × List Loc))) (k : List It) (σ : St) : Prop :=
  match v with
  | .tup [] => GoR C T L Q (.ret skipW) o.dst ops r (acc.map fun a => (a, [.t d])) k σ
  | .one (.p (.bool b)) => splitB b fun b => if b = want then GoR C T L Q (opR T o) o.dst ops r (acc.map fun a => (a, [.t d])) k { σ with t := upd σ.t d (.one (.p (.bool b))) }
      else GoR C T L Q (.ret skipW) o.dst ops r (acc.map fun a => (a, [.t d])) k { σ with t := upd σ.t d (.one (.p (.bool b))) }
  | _ => False
/-- A condition's word. -/
def GoC (v : V) (x y : Code) (k : List It) (σ : St) : Prop :=
  match v with
  | .one (.p (.bool b)) => splitB b fun b => if b = true then Go C T L Q (.code x :: k) σ else Go C T L Q (.code y :: k) σ
  | _ => False
def callS (f : Nat) (args : List V) (M : List (Nat × Obj)) (g : V → List (Nat × Obj) → Rd Wr) (dst : Option Nat) (ops : Array Oper) (r : List Oper) (acc : Option (List (List Loc × List Loc) × List Loc)) (k : List It) (σ : St) : Prop :=
  ∃ v M', C f args M v M' ∧ GoR C T L Q (g v M') dst ops r acc k σ
def elemS (xs : List (List PV)) (i : Nat) (g : List PV → Rd Wr) (dst : Option Nat) (ops : Array Oper) (r : List Oper) (acc : Option (List (List Loc × List Loc) × List Loc)) (k : List It) (σ : St) : Prop :=
  ∃ x, xs[i]? = some x ∧ GoR C T L Q (g x) dst ops r acc k σ
def elemCS (xs : List Ce) (i : Nat) (g : Ce → Rd Wr) (dst : Option Nat) (ops : Array Oper) (r : List Oper) (acc : Option (List (List Loc × List Loc) × List Loc)) (k : List It) (σ : St) : Prop :=
  ∃ x, xs[i]? = some x ∧ GoR C T L Q (g x) dst ops r acc k σ
end

section
variable {C : Con} {T : Tab} {L : Code → (Ex → St → Prop) → St → Prop} {Q : Ex → St → Prop} {k : List It} {σ : St}
variable {ops : Array Oper} {r : List Oper} {dst : Option Nat}

theorem go_start {c : Code} (h : Go C T L Q [.code c] σ) : cw C T L c Q σ := h

theorem go_nil : Go C T L Q [] σ = Q .normal σ := _root_.id rfl
theorem goX_nil {j : Nat} : GoX C T L Q j [] σ = Q (.exit j) σ := _root_.id rfl
theorem goT_all : GoT C T L Q k σ = Q .ret σ := by
  unfold GoT
  induction k with
  | nil => rfl
  | cons i k ih => cases i <;> exact ih
theorem go_skip : Go C T L Q (.code .skip :: k) σ = Go C T L Q k σ := _root_.id rfl
theorem go_seq {a b : Code} : Go C T L Q (.code (.seq a b) :: k) σ = Go C T L Q (.code a :: .code b :: k) σ := by
  show cw C T L a _ σ = cw C T L a _ σ
  congr 1
theorem go_block {id : Nat} {b : Code} : Go C T L Q (.code (.block id b) :: k) σ = Go C T L Q (.code b :: .blk id :: k) σ := by
  show cw C T L b _ σ = cw C T L b _ σ
  congr 1
theorem go_blk {id : Nat} : Go C T L Q (.blk id :: k) σ = Go C T L Q k σ := _root_.id rfl
theorem go_label {l : Nat} : Go C T L Q (.code (.label l) :: k) σ = Go C T L Q k σ := _root_.id rfl
theorem go_exit {id : Nat} : Go C T L Q (.code (.exit id) :: k) σ = GoX C T L Q id k σ := _root_.id rfl
theorem go_ret : Go C T L Q (.code .ret :: k) σ = Q .ret σ := goT_all
theorem go_loop {b : Code} : Go C T L Q (.code (.loop b) :: k) σ = L (.loop b) (den C T L Q k) σ := _root_.id rfl
theorem goX_code {j : Nat} {c : Code} : GoX C T L Q j (.code c :: k) σ = GoX C T L Q j k σ := _root_.id rfl
theorem goX_blk {j id : Nat} : GoX C T L Q j (.blk id :: k) σ = if j = id then Go C T L Q k σ else GoX C T L Q j k σ := _root_.id rfl
theorem den_go : den C T L Q k .normal σ = Go C T L Q k σ := _root_.id rfl
theorem den_exit {j : Nat} : den C T L Q k (.exit j) σ = GoX C T L Q j k σ := _root_.id rfl
theorem den_ret : den C T L Q k .ret σ = Q .ret σ := goT_all
theorem go_text {id : Nat} : Go C T L Q (.code (.region id ops false) :: k) σ = Go C T L Q (.ops ops ops.toList :: k) σ := _root_.id rfl
theorem go_drawn {id : Nat} : Go C T L Q (.code (.region id ops true) :: k) σ = Go C T L Q (.drw ops ops.toList [] :: k) σ := _root_.id rfl
theorem go_ops0 : Go C T L Q (.ops ops [] :: k) σ = Go C T L Q k σ := _root_.id rfl
theorem go_drw0 {acc : List (List Loc × List Loc)} : Go C T L Q (.drw ops [] acc :: k) σ = (drawOk ops acc.reverse = true ∧ Go C T L Q k σ) := by
  show (drawOk ops (acc.reverse ++ []) = true ∧ _) = _
  rw [List.append_nil]; rfl
theorem go_cond {c : Nat} {x y : Code} : Go C T L Q (.code (.cond (.tmp c) x y) :: k) σ = GoC C T L Q (σ.t c) x y k σ := by
  show cw C T L (.cond (.tmp c) x y) _ σ = _
  simp only [cw]
  unfold GoC
  generalize σ.t c = v
  cases v <;> try rfl
theorem goC_true {x y : Code} : GoC C T L Q (.one (.p (.bool true))) x y k σ = Go C T L Q (.code x :: k) σ := by simp [GoC, splitB]
theorem goC_false {x y : Code} : GoC C T L Q (.one (.p (.bool false))) x y k σ = Go C T L Q (.code y :: k) σ := by simp [GoC, splitB]
theorem goC_dec {q : Prop} [Decidable q] {x y : Code} : GoC C T L Q (.one (.p (.bool (decide q)))) x y k σ = ((q → Go C T L Q (.code x :: k) σ) ∧ (¬ q → Go C T L Q (.code y :: k) σ)) := by simp [GoC, splitB]
theorem goC_any {b : Bool} {x y : Code} : GoC C T L Q (.one (.p (.bool b))) x y k σ = ((b = true → Go C T L Q (.code x :: k) σ) ∧ (b = false → Go C T L Q (.code y :: k) σ)) := by simp [GoC, splitB]

theorem go_op {o : Oper} (h : o.guard = none) : Go C T L Q (.ops ops (o :: r) :: k) σ = GoR C T L Q (opR T o) o.dst ops r none k σ := by
  show opsK C T ops (o :: r) σ _ = _
  simp only [opsK, h]; rfl
theorem go_opD {o : Oper} {acc : List (List Loc × List Loc)} (h : o.guard = none) : Go C T L Q (.drw ops (o :: r) acc :: k) σ = GoR C T L Q (opR T o) o.dst ops r (some (acc, [])) k σ := by
  show opsD C T ops (o :: r) σ (fun D σ => drawOk ops (acc.reverse ++ D) = true ∧ den C T L Q k .normal σ) = _
  simp only [opsD, h, GoR, den, List.reverse_nil, List.nil_append, List.reverse_cons, List.append_assoc, List.singleton_append]
theorem go_opG {o : Oper} {j d : Nat} {want : Bool} (h : o.guard = some (j, want)) (hd : (ops[j]?).bind (·.dst) = some d) : Go C T L Q (.ops ops (o :: r) :: k) σ = GoG C T L Q (σ.t d) want d o ops r none k σ := by
  show opsK C T ops (o :: r) σ _ = _
  simp only [opsK, h, hd]
  unfold GoG
  generalize σ.t d = v
  cases v with
  | undef => rfl
  | agg cs => rfl
  | tup xs => cases xs <;> rfl
  | one c =>
    cases c <;> try rfl
theorem go_opGD {o : Oper} {acc : List (List Loc × List Loc)} {j d : Nat} {want : Bool} (h : o.guard = some (j, want)) (hd : (ops[j]?).bind (·.dst) = some d) : Go C T L Q (.drw ops (o :: r) acc :: k) σ = GoG C T L Q (σ.t d) want d o ops r (some acc) k σ := by
  show opsD C T ops (o :: r) σ (fun D σ => drawOk ops (acc.reverse ++ D) = true ∧ den C T L Q k .normal σ) = _
  simp only [opsD, h, hd]
  unfold GoG
  generalize σ.t d = v
  cases v with
  | undef => rfl
  | agg cs => rfl
  | tup xs =>
    cases xs with
    | nil => simp only [GoR, Option.map_some, den, runK, skipW, List.reverse_cons, List.reverse_nil, List.nil_append, List.append_nil, List.append_assoc, List.singleton_append, List.map_nil]
    | cons x xs => rfl
  | one c =>
    cases c <;> try rfl
    rename_i x; cases x <;> try rfl
    simp only [GoR, Option.map_some, den, runK, skipW, List.reverse_cons, List.reverse_nil, List.nil_append, List.append_nil, List.append_assoc, List.singleton_append, List.map_nil, List.cons_append]

/-- Where a guard stands. -/
def dstL : List Oper → Nat → Option Nat
  | [], _ => none
  | o :: _, 0 => o.dst
  | _ :: r, n + 1 => dstL r n
theorem dstL_get : ∀ (l : List Oper) (j : Nat), dstL l j = (l[j]?).bind (·.dst)
  | [], j => by simp [dstL]
  | o :: l, 0 => by simp [dstL]
  | o :: l, n + 1 => by simp [dstL, dstL_get l n]
def GoD (C : Con) (T : Tab) (L : Code → (Ex → St → Prop) → St → Prop) (Q : Ex → St → Prop) (od : Option Nat) (want : Bool) (o : Oper) (ops : Array Oper) (r : List Oper) (acc : Option (List (List Loc × List Loc))) (k : List It) (σ : St) : Prop :=
  match od with
  | some d => GoG C T L Q (σ.t d) want d o ops r acc k σ
  | none => False
theorem goD_some {d : Nat} {want : Bool} {o : Oper} {acc : Option (List (List Loc × List Loc))} : GoD C T L Q (some d) want o ops r acc k σ = GoG C T L Q (σ.t d) want d o ops r acc k σ := _root_.id rfl

/-- The machine's rules for operations as they stand in the text. -/
theorem go_t {op : Op} {ty : TypeId} {ps : String} {af : Array Edge} : Go C T L Q (.ops ops (⟨dst, op, ty, ps, af, none⟩ :: r) :: k) σ = GoR C T L Q (opR T ⟨dst, op, ty, ps, af, none⟩) dst ops r none k σ := go_op rfl
theorem go_tD {op : Op} {ty : TypeId} {ps : String} {af : Array Edge} {acc : List (List Loc × List Loc)} : Go C T L Q (.drw ops (⟨dst, op, ty, ps, af, none⟩ :: r) acc :: k) σ = GoR C T L Q (opR T ⟨dst, op, ty, ps, af, none⟩) dst ops r (some (acc, [])) k σ := go_opD rfl
theorem go_tG {op : Op} {ty : TypeId} {ps : String} {af : Array Edge} {j : Nat} {want : Bool} : Go C T L Q (.ops ops (⟨dst, op, ty, ps, af, some (j, want)⟩ :: r) :: k) σ = GoD C T L Q (dstL ops.toList j) want ⟨dst, op, ty, ps, af, some (j, want)⟩ ops r none k σ := by
  rw [dstL_get, Array.getElem?_toList]
  cases hd : (ops[j]?).bind (·.dst) with
  | some d => exact go_opG rfl hd
  | none => simp only [Go, den, opsK, hd, GoD]
theorem go_tGD {op : Op} {ty : TypeId} {ps : String} {af : Array Edge} {j : Nat} {want : Bool} {acc : List (List Loc × List Loc)} : Go C T L Q (.drw ops (⟨dst, op, ty, ps, af, some (j, want)⟩ :: r) acc :: k) σ = GoD C T L Q (dstL ops.toList j) want ⟨dst, op, ty, ps, af, some (j, want)⟩ ops r (some acc) k σ := by
  rw [dstL_get, Array.getElem?_toList]
  cases hd : (ops[j]?).bind (·.dst) with
  | some d => exact go_opGD rfl hd
  | none => simp only [Go, den, opsD, hd, GoD]

theorem goG_skip {want : Bool} {d : Nat} {o : Oper} {acc : Option (List (List Loc × List Loc))} : GoG C T L Q (.tup []) want d o ops r acc k σ = GoR C T L Q (.ret skipW) o.dst ops r (acc.map fun a => (a, [.t d])) k σ := _root_.id rfl
theorem goG_tt {d : Nat} {o : Oper} {acc : Option (List (List Loc × List Loc))} : GoG C T L Q (.one (.p (.bool true))) true d o ops r acc k σ = GoR C T L Q (opR T o) o.dst ops r (acc.map fun a => (a, [.t d])) k { σ with t := upd σ.t d (.one (.p (.bool true))) } := by simp [GoG, splitB]
theorem goG_ff {d : Nat} {o : Oper} {acc : Option (List (List Loc × List Loc))} : GoG C T L Q (.one (.p (.bool false))) false d o ops r acc k σ = GoR C T L Q (opR T o) o.dst ops r (acc.map fun a => (a, [.t d])) k { σ with t := upd σ.t d (.one (.p (.bool false))) } := by simp [GoG, splitB]
theorem goG_tf {d : Nat} {o : Oper} {acc : Option (List (List Loc × List Loc))} : GoG C T L Q (.one (.p (.bool true))) false d o ops r acc k σ = GoR C T L Q (.ret skipW) o.dst ops r (acc.map fun a => (a, [.t d])) k { σ with t := upd σ.t d (.one (.p (.bool true))) } := by simp [GoG, splitB]
theorem goG_ft {d : Nat} {o : Oper} {acc : Option (List (List Loc × List Loc))} : GoG C T L Q (.one (.p (.bool false))) true d o ops r acc k σ = GoR C T L Q (.ret skipW) o.dst ops r (acc.map fun a => (a, [.t d])) k { σ with t := upd σ.t d (.one (.p (.bool false))) } := by simp [GoG, splitB]
theorem goG_any {b : Bool} {want : Bool} {d : Nat} {o : Oper} {acc : Option (List (List Loc × List Loc))} : GoG C T L Q (.one (.p (.bool b))) want d o ops r acc k σ =
    ((b = true → GoG C T L Q (.one (.p (.bool true))) want d o ops r acc k σ) ∧ (b = false → GoG C T L Q (.one (.p (.bool false))) want d o ops r acc k σ)) := by
  cases b <;> simp
theorem goG_dec {q : Prop} [Decidable q] {want : Bool} {d : Nat} {o : Oper} {acc : Option (List (List Loc × List Loc))} : GoG C T L Q (.one (.p (.bool (decide q)))) want d o ops r acc k σ =
    ((q → GoG C T L Q (.one (.p (.bool true))) want d o ops r acc k σ) ∧ (¬ q → GoG C T L Q (.one (.p (.bool false))) want d o ops r acc k σ)) := by
  by_cases h : q <;> simp [h]

theorem goR_ret {w : Wr} : GoR C T L Q (.ret w) dst ops r none k σ = Go C T L Q (.ops ops r :: k) (σ.app dst w) := _root_.id rfl
theorem goR_retD {w : Wr} {acc : List (List Loc × List Loc)} {fps : List Loc} : GoR C T L Q (.ret w) dst ops r (some (acc, fps)) k σ = Go C T L Q (.drw ops r ((dst.toList.map .t ++ w.ms.map (fun x => .m x.1), fps.reverse) :: acc) :: k) (σ.app dst w) := by
  simp only [GoR, runK, List.append_nil]; rfl
theorem goR_getT {t : Nat} {g : V → Rd Wr} : GoR C T L Q (.getT t g) dst ops r none k σ = GoR C T L Q (g (σ.t t)) dst ops r none k σ := _root_.id rfl
theorem goR_getTD {t : Nat} {g : V → Rd Wr} {acc : List (List Loc × List Loc)} {fps : List Loc} : GoR C T L Q (.getT t g) dst ops r (some (acc, fps)) k σ = GoR C T L Q (g (σ.t t)) dst ops r (some (acc, .t t :: fps)) k σ := by
  simp only [GoR, runK, List.reverse_cons, List.append_assoc, List.singleton_append]
theorem goR_getM {t : Nat} {g : Option Obj → Rd Wr} : GoR C T L Q (.getM t g) dst ops r none k σ = GoR C T L Q (g (σ.m t)) dst ops r none k σ := _root_.id rfl
theorem goR_getMD {t : Nat} {g : Option Obj → Rd Wr} {acc : List (List Loc × List Loc)} {fps : List Loc} : GoR C T L Q (.getM t g) dst ops r (some (acc, fps)) k σ = GoR C T L Q (g (σ.m t)) dst ops r (some (acc, .m t :: fps)) k σ := by
  simp only [GoR, runK, List.reverse_cons, List.append_assoc, List.singleton_append]
theorem goR_fresh {d n : Nat} {p : Rd Wr} : GoR C T L Q (.fresh d n p) dst ops r none k σ = ((∀ i, i < n → σ.m (rowI d i) = none) ∧ GoR C T L Q p dst ops r none k σ) := _root_.id rfl
theorem goR_assert {q : Prop} {p : Rd Wr} {acc : Option (List (List Loc × List Loc) × List Loc)} : GoR C T L Q (.assert q p) dst ops r acc k σ = (q ∧ GoR C T L Q p dst ops r acc k σ) := by
  cases acc <;> rfl
theorem goR_stuck {acc : Option (List (List Loc × List Loc) × List Loc)} : GoR C T L Q .stuck dst ops r acc k σ = False := by cases acc <;> rfl
theorem goR_splT {g : Bool → Rd Wr} {acc : Option (List (List Loc × List Loc) × List Loc)} : GoR C T L Q (.spl true g) dst ops r acc k σ = GoR C T L Q (g true) dst ops r acc k σ := by cases acc <;> simp [GoR, runK, splitB]
theorem goR_splF {g : Bool → Rd Wr} {acc : Option (List (List Loc × List Loc) × List Loc)} : GoR C T L Q (.spl false g) dst ops r acc k σ = GoR C T L Q (g false) dst ops r acc k σ := by cases acc <;> simp [GoR, runK, splitB]
theorem goR_splDec {q : Prop} [Decidable q] {g : Bool → Rd Wr} {acc : Option (List (List Loc × List Loc) × List Loc)} : GoR C T L Q (.spl (decide q) g) dst ops r acc k σ = ((q → GoR C T L Q (g true) dst ops r acc k σ) ∧ (¬ q → GoR C T L Q (g false) dst ops r acc k σ)) := by cases acc <;> simp [GoR, runK, splitB]
theorem goR_splAny {b : Bool} {g : Bool → Rd Wr} {acc : Option (List (List Loc × List Loc) × List Loc)} : GoR C T L Q (.spl b g) dst ops r acc k σ = ((b = true → GoR C T L Q (g true) dst ops r acc k σ) ∧ (b = false → GoR C T L Q (g false) dst ops r acc k σ)) := by cases acc <;> simp [GoR, runK, splitB]
theorem goR_elem {xs : List (List PV)} {i : Nat} {g : List PV → Rd Wr} {acc : Option (List (List Loc × List Loc) × List Loc)} : GoR C T L Q (.elem xs i g) dst ops r acc k σ = elemS C T L Q xs i g dst ops r acc k σ := by cases acc <;> rfl
theorem goR_elemC {xs : List Ce} {i : Nat} {g : Ce → Rd Wr} {acc : Option (List (List Loc × List Loc) × List Loc)} : GoR C T L Q (.elemC xs i g) dst ops r acc k σ = elemCS C T L Q xs i g dst ops r acc k σ := by cases acc <;> rfl
theorem goR_call {f : Nat} {args : List V} {M : List (Nat × Obj)} {g : V → List (Nat × Obj) → Rd Wr} {acc : Option (List (List Loc × List Loc) × List Loc)} : GoR C T L Q (.call f args M g) dst ops r acc k σ = callS C T L Q f args M g dst ops r acc k σ := by cases acc <;> rfl

/-- A call, by its contract. -/
theorem call_by {f : Nat} {args : List V} {M : List (Nat × Obj)} {g : V → List (Nat × Obj) → Rd Wr} {acc : Option (List (List Loc × List Loc) × List Loc)} {v : V} {M' : List (Nat × Obj)} (hc : C f args M v M')
    (h : GoR C T L Q (g v M') dst ops r acc k σ) : callS C T L Q f args M g dst ops r acc k σ := ⟨v, M', hc, h⟩
theorem elem_by {xs : List (List PV)} {i : Nat} {g : List PV → Rd Wr} {acc : Option (List (List Loc × List Loc) × List Loc)} {x : List PV} (hx : xs[i]? = some x) (h : GoR C T L Q (g x) dst ops r acc k σ) :
    elemS C T L Q xs i g dst ops r acc k σ := ⟨x, hx, h⟩
theorem elemC_by {xs : List Ce} {i : Nat} {g : Ce → Rd Wr} {acc : Option (List (List Loc × List Loc) × List Loc)} {x : Ce} (hx : xs[i]? = some x) (h : GoR C T L Q (g x) dst ops r acc k σ) :
    elemCS C T L Q xs i g dst ops r acc k σ := ⟨x, hx, h⟩
theorem goR_elemC_cons {c : Ce} {xs : List Ce} {g : Ce → Rd Wr} {acc : Option (List (List Loc × List Loc) × List Loc)} : elemCS C T L Q (c :: xs) 0 g dst ops r acc k σ = GoR C T L Q (g c) dst ops r acc k σ := by
  simp [elemCS]
theorem goR_elemC_succ {c : Ce} {xs : List Ce} {i : Nat} {g : Ce → Rd Wr} {acc : Option (List (List Loc × List Loc) × List Loc)} : elemCS C T L Q (c :: xs) (i + 1) g dst ops r acc k σ = elemCS C T L Q xs i g dst ops r acc k σ := by
  simp [elemCS]
end

/-! ### States by lists, for what is forgotten -/

def tOf : List (Nat × V) → Nat → V
  | [], _ => .undef
  | (i, v) :: r, j => if j = i then v else tOf r j
theorem tOf_nil {j : Nat} : tOf [] j = .undef := _root_.id rfl
theorem tOf_cons {i j : Nat} {v : V} {r : List (Nat × V)} : tOf ((i, v) :: r) j = if j = i then v else tOf r j := _root_.id rfl

def agreeT (t : Nat → V) : List (Nat × V) → Prop
  | [] => True
  | (i, v) :: r => t i = v ∧ agreeT t r

theorem tOf_agree {t : Nat → V} : ∀ {l : List (Nat × V)}, agreeT t l → ∀ i, tOf l i = .undef ∨ tOf l i = t i
  | [], _, i => .inl rfl
  | (j, v) :: r, h, i => by
    unfold tOf
    split
    · rename_i e; subst e; exact .inr h.1.symm
    · exact tOf_agree h.2 i

/-- All that a list of values refers to is among these. -/
def refsT (ids : List Nat) : List (Nat × V) → Bool
  | [] => true
  | (_, v) :: r => (refsV v).all ids.contains && refsT ids r
theorem refsT_tOf {ids : List Nat} : ∀ {l : List (Nat × V)}, refsT ids l = true → ∀ i, ∀ id ∈ refsV (tOf l i), id ∈ ids
  | [], _, i, id, h => by simp [tOf, refsV] at h
  | (j, v) :: r, hb, i, id, h => by
    simp only [refsT, Bool.and_eq_true] at hb
    unfold tOf at h
    split at h
    · exact List.contains_iff_mem.1 (List.all_eq_true.1 hb.1 id h)
    · exact refsT_tOf hb.2 i id h

/-- Forgetting, down to lists: pure (no memory). -/
theorem weak_pure {E : Env} {σ : St} {l : List (Nat × V)} (h : agreeT σ.t l) (hr : refsT [] l = true) (h0 : E.m0 = fun _ => none) : Weak E σ { t := tOf l, m := fun _ => none } where
  t := tOf_agree h
  m := fun _ => .inl rfl
  rt := fun i id hid => by have := refsT_tOf hr i id hid; simp at this
  rm := fun id o h => by cases h
  m0 := fun id o h => by rw [h0] at h; cases h

theorem weak_mem {E : Env} {σ : St} {l : List (Nat × V)} {M M' : List (Nat × Obj)} (h : agreeT σ.t l) (hm : allIn M' σ.m) (hr : refsT (M'.map (·.1)) l = true) (hM : M'.all (fun x => (refsO x.2).all (M'.map (·.1)).contains) = true)
    (h0 : E.m0 = mOf M) (hsub : M.all (fun x => (M'.map (·.1)).contains x.1) = true) : Weak E σ { t := tOf l, m := mOf M' } := by
  have hk : ∀ id, (M'.map (·.1)).contains id = true → mOf M' id = σ.m id := fun id h => by
    rcases mOf_allIn hm id with ⟨_, h2⟩ | ⟨h1, _⟩
    · rw [h2] at h; cases h
    · exact h1
  refine ⟨tOf_agree h, fun id => ?_, fun i id hid => hk id (List.contains_iff_mem.2 (refsT_tOf hr i id hid)), fun id o h j hj => hk j (List.all_eq_true.1 (List.all_eq_true.1 hM (id, o) (mOf_mem h)) j hj), fun id o h => ?_⟩
  · rcases mOf_allIn hm id with ⟨h1, _⟩ | ⟨h1, _⟩
    · exact .inl h1
    · exact .inr h1
  · rw [h0] at h
    exact hk id (List.all_eq_true.1 hsub (id, o) (mOf_mem h))
end Go.AW

/- Rows of own slices, as they stand in a walk. -/
set_option linter.unusedVariables false
set_option linter.unusedSimpArgs false
namespace Go.AW

section
variable {C : Con} {T : Tab} {L : Code → (Ex → St → Prop) → St → Prop} {Q : Ex → St → Prop} {k : List It} {σ : St} {ops : Array Oper} {r : List Oper} {dst : Option Nat} {acc : Option (List (List Loc × List Loc) × List Loc)}
theorem elem_eq {xs : List (List PV)} {i : Nat} {g : List PV → Rd Wr} {x : List PV} (hx : xs[i]? = some x) : elemS C T L Q xs i g dst ops r acc k σ = GoR C T L Q (g x) dst ops r acc k σ := by
  simp [elemS, hx]
theorem elemC_eq {xs : List Ce} {i : Nat} {g : Ce → Rd Wr} {x : Ce} (hx : xs[i]? = some x) : elemCS C T L Q xs i g dst ops r acc k σ = GoR C T L Q (g x) dst ops r acc k σ := by
  simp [elemCS, hx]
end

/-- The cells of a row of own slices. -/
def rowsC (d : Nat) (ls : List (List (List PV))) : List Ce := ls.mapIdx fun i l => .osl (rowI d i) l.length
/-- Memory with such a row. -/
def mR (d e : Nat) (ls : List (List (List PV))) (m : Nat → Option Obj) (j : Nat) : Option Obj :=
  if j = d then some (.box (rowsC d ls)) else if 1000000 + 1000 * d ≤ j ∧ j < 1000000 + 1000 * d + ls.length then (ls[j - (1000000 + 1000 * d)]?).map (.sl e) else m j

theorem rowsC_length {d : Nat} {ls : List (List (List PV))} : (rowsC d ls).length = ls.length := by simp [rowsC]
theorem rowsC_get {d : Nat} {ls : List (List (List PV))} {i : Nat} (h : i < ls.length) : (rowsC d ls)[i]? = some (.osl (rowI d i) ls[i].length) := by
  simp [rowsC, h]
theorem mR_box {d e : Nat} {ls : List (List (List PV))} {m : Nat → Option Obj} : mR d e ls m d = some (.box (rowsC d ls)) := by simp [mR]
theorem rowI_ne {d i : Nat} : rowI d i ≠ d := by unfold rowI; omega
theorem mR_row {d e : Nat} {ls : List (List (List PV))} {m : Nat → Option Obj} {i : Nat} (h : i < ls.length) : mR d e ls m (rowI d i) = some (.sl e ls[i]) := by
  unfold mR
  rw [if_neg rowI_ne, if_pos (by unfold rowI; omega)]
  have : rowI d i - (1000000 + 1000 * d) = i := by unfold rowI; omega
  rw [this]; simp [h]
theorem mR_other {d e : Nat} {ls : List (List (List PV))} {m : Nat → Option Obj} {j : Nat} (h : j ≠ d) (h2 : j < 1000000) : mR d e ls m j = m j := by
  unfold mR
  rw [if_neg h, if_neg (by omega)]

theorem mR_new {d e n : Nat} {m : Nat → Option Obj} : (rowsM d e n).foldl (fun m x => upd m x.1 (some x.2)) m = mR d e (List.replicate n []) m := by
  funext j
  have hb : ((List.range n).map fun i => Ce.osl (rowI d i) 0) = rowsC d (List.replicate n []) := by
    refine List.ext_getElem (by simp [rowsC]) fun i h1 h2 => ?_
    simp [rowsC]
  simp only [rowsM, List.foldl_append, List.foldl_cons, List.foldl_nil]
  unfold upd mR
  by_cases hj : j = d
  · rw [if_pos hj, if_pos hj, hb]
  · rw [if_neg hj, if_neg hj]
    have := rowsF_get d e m n j
    unfold upd at this
    rw [this, List.length_replicate]
    by_cases h : 1000000 + 1000 * d ≤ j ∧ j < 1000000 + 1000 * d + n
    · rw [if_pos h, if_pos h]
      rw [List.getElem?_replicate, if_pos (by omega)]; rfl
    · rw [if_neg h, if_neg h]

/-- One slice of the row grows, and stands in its place again. -/
theorem mR_put {d e : Nat} {ls : List (List (List PV))} {m : Nat → Option Obj} {i : Nat} (h : i < ls.length) (l : List (List PV)) (n : Nat) (hn : n = l.length) :
    upd (upd (mR d e ls m) (rowI d i) (some (.sl e l))) d (some (.box (splice (rowsC d ls) i [.osl (rowI d i) n]))) = mR d e (ls.set i l) m := by
  subst hn
  have hb : splice (rowsC d ls) i [.osl (rowI d i) l.length] = rowsC d (ls.set i l) := by
    refine List.ext_getElem? fun k => ?_
    rw [getElem?_splice _ _ _ _ (by simp [rowsC]; omega)]
    by_cases hk : k < i
    · rw [if_pos hk]; simp [rowsC, List.getElem?_set_ne (show i ≠ k by omega)]
    · rw [if_neg hk]
      by_cases hk2 : k < i + [Ce.osl (rowI d i) l.length].length
      · rw [if_pos hk2]
        simp at hk2
        have : k = i := by omega
        subst this
        simp [rowsC, h]
      · rw [if_neg hk2]
        simp at hk2
        simp [rowsC, List.getElem?_set_ne (show i ≠ k by omega)]
  funext j
  rw [hb]
  unfold upd
  by_cases hj : j = d
  · rw [if_pos hj, hj, mR_box]
  · rw [if_neg hj]
    by_cases hi : j = rowI d i
    · rw [if_pos hi, hi, mR_row (by simpa using h)]
      simp
    · rw [if_neg hi]
      unfold mR
      rw [if_neg hj, if_neg hj, List.length_set]
      by_cases hr : 1000000 + 1000 * d ≤ j ∧ j < 1000000 + 1000 * d + ls.length
      · rw [if_pos hr, if_pos hr, List.getElem?_set_ne (by intro e; apply hi; unfold rowI; omega)]
      · rw [if_neg hr, if_neg hr]

/-- A row of own slices, read as data. -/
theorem view_rows {d e : Nat} {ls : List (List (List PV))} {m m' : Nat → Option Obj} (h1 : m' d = none) (h2 : ∀ i, i < ls.length → m' (rowI d i) = none) :
    ViewC (mR d e ls m) m' (.bsl d ls.length) (.p (.slice (ls.map fun x => [.slice x]))) := by
  refine .bsl d ls.length e (rowsC d ls) ls mR_box rfl h1 rowsC_length fun k x hx => ?_
  have hk : k < ls.length := (List.getElem?_eq_some_iff.1 hx).1
  have : ls[k] = x := (List.getElem?_eq_some_iff.1 hx).2
  refine ⟨rowI d k, ?_, ?_, h2 k hk⟩
  · rw [rowsC_get hk, this]
  · rw [mR_row hk, this]

theorem upd_mR {d e k : Nat} {ls : List (List (List PV))} {m : Nat → Option Obj} {v : Option Obj} (h : k ≠ d) (h2 : k < 1000000) : upd (mR d e ls m) k v = mR d e ls (upd m k v) := by
  funext j
  simp only [upd, mR]
  by_cases hj : j = k
  · subst hj
    rw [if_pos rfl, if_neg h, if_neg (by omega), if_pos rfl]
  · rw [if_neg hj, if_neg hj]

/-- Forgetting, down to a row of own slices. -/
theorem weak_mR {E : Env} {σ : St} {l : List (Nat × V)} {d e : Nat} {ls : List (List (List PV))} {m2 : Nat → Option Obj} (h : agreeT σ.t l) (hm : σ.m = mR d e ls m2) (hr : refsT [d] l = true) (h0 : E.m0 = fun _ => none) :
    Weak E σ { t := tOf l, m := mR d e ls (fun _ => none) } := by
  have key : ∀ j, mR d e ls (fun _ => none) j = none ∨ mR d e ls (fun _ => none) j = σ.m j := by
    intro j
    rw [hm]
    unfold mR
    by_cases hj : j = d
    · rw [if_pos hj, if_pos hj]; exact .inr rfl
    · rw [if_neg hj, if_neg hj]
      by_cases hr : 1000000 + 1000 * d ≤ j ∧ j < 1000000 + 1000 * d + ls.length
      · rw [if_pos hr, if_pos hr]; exact .inr rfl
      · rw [if_neg hr]; exact .inl rfl
  have hrow : ∀ i, i < ls.length → mR d e ls (fun _ => none) (rowI d i) = σ.m (rowI d i) := fun i hi => by rw [hm, mR_row hi, mR_row hi]
  refine ⟨tOf_agree h, key, fun i id hid => ?_, fun id o ho j hj => ?_, fun id o h => by rw [h0] at h; cases h⟩
  · have := refsT_tOf hr i id hid
    simp at this; subst this
    rw [hm, mR_box]; exact mR_box (m := fun _ => none)
  · have ho : mR d e ls (fun _ => none) id = some o := ho
    unfold mR at ho
    by_cases hid : id = d
    · rw [if_pos hid] at ho
      cases ho
      simp only [refsO, List.mem_flatMap] at hj
      obtain ⟨c, hc, hj⟩ := hj
      obtain ⟨i, hi, rfl⟩ := List.getElem_of_mem hc
      have hi' : i < ls.length := by rwa [rowsC_length] at hi
      have : (rowsC d ls)[i] = .osl (rowI d i) ls[i].length := by simp [rowsC]
      rw [this] at hj
      simp [refsC] at hj; subst hj
      exact hrow i hi'
    · rw [if_neg hid] at ho
      split at ho
      · cases hx : ls[id - (1000000 + 1000 * d)]? with
        | none => rw [hx] at ho; cases ho
        | some x => rw [hx] at ho; cases ho; simp [refsO] at hj
      · cases ho

theorem weakF_refl {E : Env} {σ : St} : WeakF E σ σ :=
  ⟨fun i => .inr (.inl ⟨rfl, fun _ _ => rfl⟩), fun _ => .inr rfl, fun _ _ _ _ _ => rfl, fun _ _ _ => rfl⟩

/-- A row of own slices is read as data from now on: the place of its header, what else is kept. -/
theorem freeze_mR {E : Env} {σ : St} {l : List (Nat × V)} {d e h : Nat} {ls : List (List (List PV))} {m2 : Nat → Option Obj} (hl : agreeT σ.t l) (hd : σ.t h = .one (.bsl d ls.length)) (hm : σ.m = mR d e ls m2) (hr : refsT [] l = true) (h0 : E.m0 = fun _ => none) :
    WeakF E σ { t := tOf ((h, .one (.p (.slice (ls.map fun x => [.slice x])))) :: l), m := fun _ => none } := by
  constructor
  · intro i
    by_cases hi : i = h
    · subst hi
      refine .inr (.inr ⟨_, _, hd, by simp [tOf]; rfl, ?_⟩)
      rw [hm]
      exact view_rows rfl fun _ _ => rfl
    · have e : tOf ((h, .one (.p (.slice (ls.map fun x => [.slice x])))) :: l) i = tOf l i := by simp only [tOf, if_neg hi]
      show tOf _ i = _ ∨ _
      rcases tOf_agree hl i with h1 | h1
      · exact .inl (e.trans h1)
      · refine .inr (.inl ⟨e.trans h1, fun id hid => ?_⟩)
        have hid : id ∈ refsV (tOf ((h, .one (.p (.slice (ls.map fun x => [.slice x])))) :: l) i) := hid
        rw [e] at hid
        have := refsT_tOf hr i id hid
        simp at this
  · exact fun _ => .inl rfl
  · intro id o ho; cases ho
  · intro id o ho; rw [h0] at ho; cases ho
end Go.AW
