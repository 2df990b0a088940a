import Derived.Orders
import Derived.Laws.AppendOwn
import Derived.Laws.MakeOwn
import Derived.Laws.CopyRow
import Derived.Laws.Tables
import Derived.Below
import Derived.Great.BuildSlice
/- An abstract walk of Go code: abstract values, abstract operations, abstract runs. No program in sight; nothing here is trusted. -/
set_option linter.unusedVariables false
namespace Go.AW

/-- A pure cell: what one cell holds, seen as data. A slice is seen as the list of its elements, each as the list of its cells. -/
inductive PV where
  | bool (b : Bool) | int (k : IntKind) (n : Int) | str (s : ByteArray)
  | nilp | nilsl | slice (xs : List (List PV)) | func (f : Nat) | nilf | nesl

/-- A cell: pure, or a reference into memory of the call's own ('ptr' into a box, 'osl' a slice of its own, 'oel' a place in such a slice), or a pointer to memory that is only read ('ip'). -/
inductive Ce where
  | p (x : PV) | ptr (id off : Nat) | osl (id n : Nat) | oel (id n i off : Nat) | ip (cs : List PV) | bsl (id n : Nat)

inductive W1 where
  | one (x : Ce) | agg (cs : List Ce)

inductive V where
  | undef | one (x : Ce) | agg (cs : List Ce) | tup (xs : List W1)

inductive Obj where
  | box (cs : List Ce) | sl (e : Nat) (xs : List (List PV))

structure St where
  t : Nat → V
  m : Nat → Option Obj

def upd {α : Type} (f : Nat → α) (i : Nat) (v : α) (j : Nat) : α := if j = i then v else f j

inductive TD where
  | bool | int (k : IntKind) | str | ptr (e : Nat) | sl (e : Nat) | arr (n e : Nat) | struct (fs : List (Nat × Nat)) | func | other

structure TI where
  d : TD
  size : Nat
  bytes : Nat
  zero : List PV
  eqok : Bool

abbrev Tab := Nat → TI

inductive Loc where
  | t (n : Nat) | m (id : Nat)
  deriving DecidableEq

/-- The names of the slices in a row of slices of the call's own: row i of 'd'. -/
def rowI (d i : Nat) : Nat := 1000000 + 1000 * d + i

inductive Rd (α : Type) where
  | ret (a : α)
  | getT (t : Nat) (k : V → Rd α)
  | getM (id : Nat) (k : Option Obj → Rd α)
  | fresh (d n : Nat) (k : Rd α)
  | assert (p : Prop) (k : Rd α)
  | spl (b : Bool) (k : Bool → Rd α)
  | elem (xs : List (List PV)) (i : Nat) (k : List PV → Rd α)
  | elemC (xs : List Ce) (i : Nat) (k : Ce → Rd α)
  | call (f : Nat) (args : List V) (M : List (Nat × Obj)) (k : V → List (Nat × Obj) → Rd α)
  | stuck

structure Wr where
  v : V
  ms : List (Nat × Obj)

/-- What is known of the program's functions: called with such arguments and such memory it hands back this, and leaves that. -/
abbrev Con := Nat → List V → List (Nat × Obj) → V → List (Nat × Obj) → Prop

def splitB (b : Bool) (K : Bool → Prop) : Prop := (b = true → K true) ∧ (b = false → K false)
theorem splitB_true (K : Bool → Prop) : splitB true K = K true := by simp [splitB]
theorem splitB_false (K : Bool → Prop) : splitB false K = K false := by simp [splitB]
theorem splitB_dec (q : Prop) [Decidable q] (K : Bool → Prop) : splitB (decide q) K = ((q → K true) ∧ (¬ q → K false)) := by simp [splitB]
theorem splitB_not (b : Bool) (K : Bool → Prop) : splitB (!b) K = splitB b (fun b => K (!b)) := by cases b <;> simp [splitB]
theorem splitB_out {b : Bool} {K : Bool → Prop} (h : splitB b K) : K b := by cases b; exact h.2 rfl; exact h.1 rfl

section
variable {α : Type} (C : Con)
def Run : Rd α → St → α → List Loc → Prop
  | .ret a, σ, b, fp => b = a ∧ fp = []
  | .getT t k, σ, b, fp => ∃ fp', fp = .t t :: fp' ∧ Run (k (σ.t t)) σ b fp'
  | .getM i k, σ, b, fp => ∃ fp', fp = .m i :: fp' ∧ Run (k (σ.m i)) σ b fp'
  | .fresh d n k, σ, b, fp => ∃ fp', fp = (List.range n).map (fun i => Loc.m (rowI d i)) ++ fp' ∧ (∀ i, i < n → σ.m (rowI d i) = none) ∧ Run k σ b fp'
  | .assert q k, σ, b, fp => q ∧ Run k σ b fp
  | .spl q k, σ, b, fp => Run (k q) σ b fp
  | .elem xs i k, σ, b, fp => ∃ r, xs[i]? = some r ∧ Run (k r) σ b fp
  | .elemC xs i k, σ, b, fp => ∃ r, xs[i]? = some r ∧ Run (k r) σ b fp
  | .call f args M k, σ, b, fp => ∃ r M', C f args M r M' ∧ Run (k r M') σ b fp
  | .stuck, _, _, _ => False

def runK : Rd α → St → (α → List Loc → Prop) → Prop
  | .ret a, σ, K => K a []
  | .getT t k, σ, K => runK (k (σ.t t)) σ (fun a fp => K a (.t t :: fp))
  | .getM i k, σ, K => runK (k (σ.m i)) σ (fun a fp => K a (.m i :: fp))
  | .fresh d n k, σ, K => (∀ i, i < n → σ.m (rowI d i) = none) ∧ runK k σ (fun a fp => K a ((List.range n).map (fun i => Loc.m (rowI d i)) ++ fp))
  | .assert q k, σ, K => q ∧ runK k σ K
  | .spl q k, σ, K => splitB q (fun q => runK (k q) σ K)
  | .elem xs i k, σ, K => ∃ r, xs[i]? = some r ∧ runK (k r) σ K
  | .elemC xs i k, σ, K => ∃ r, xs[i]? = some r ∧ runK (k r) σ K
  | .call f args M k, σ, K => ∃ r M', C f args M r M' ∧ runK (k r M') σ K
  | .stuck, _, _ => False

theorem runK_run (p : Rd α) : ∀ (σ : St) (K : α → List Loc → Prop), runK C p σ K → ∃ a fp, Run C p σ a fp ∧ K a fp := by
  induction p with
  | ret a => exact fun σ K h => ⟨a, [], ⟨rfl, rfl⟩, h⟩
  | getT t k ih => intro σ K h; obtain ⟨a, fp, hr, hk⟩ := ih _ σ _ h; exact ⟨a, _, ⟨fp, rfl, hr⟩, hk⟩
  | getM t k ih => intro σ K h; obtain ⟨a, fp, hr, hk⟩ := ih _ σ _ h; exact ⟨a, _, ⟨fp, rfl, hr⟩, hk⟩
  | fresh d n k ih => intro σ K h; obtain ⟨a, fp, hr, hk⟩ := ih σ _ h.2; exact ⟨a, _, ⟨fp, rfl, h.1, hr⟩, hk⟩
  | assert q k ih => intro σ K h; obtain ⟨a, fp, hr, hk⟩ := ih σ _ h.2; exact ⟨a, fp, ⟨h.1, hr⟩, hk⟩
  | spl q k ih => intro σ K h; obtain ⟨a, fp, hr, hk⟩ := ih q σ K (splitB_out h); exact ⟨a, fp, hr, hk⟩
  | elem xs i k ih => intro σ K h; obtain ⟨r, hx, h⟩ := h; obtain ⟨a, fp, hr, hk⟩ := ih r σ K h; exact ⟨a, fp, ⟨r, hx, hr⟩, hk⟩
  | elemC xs i k ih => intro σ K h; obtain ⟨r, hx, h⟩ := h; obtain ⟨a, fp, hr, hk⟩ := ih r σ K h; exact ⟨a, fp, ⟨r, hx, hr⟩, hk⟩
  | call f args M k ih => intro σ K h; obtain ⟨r, M', hc, h⟩ := h; obtain ⟨a, fp, hr, hk⟩ := ih r M' σ K h; exact ⟨a, fp, ⟨r, M', hc, hr⟩, hk⟩
  | stuck => intro σ K h; exact h.elim

def St.agree (σ σ' : St) (fp : List Loc) : Prop := ∀ l ∈ fp, match l with | .t n => σ'.t n = σ.t n | .m i => σ'.m i = σ.m i

/-- A run looks only where its footprint says. -/
theorem Run.local {p : Rd α} : ∀ {σ σ' : St} {a : α} {fp : List Loc}, Run C p σ a fp → σ.agree σ' fp → Run C p σ' a fp := by
  induction p with
  | ret a => exact fun h _ => h
  | getT t k ih =>
    rintro σ σ' a fp ⟨fp', rfl, h⟩ hg
    have h0 : σ'.t t = σ.t t := hg (.t t) (by simp)
    exact ⟨fp', rfl, by rw [h0]; exact ih _ h fun l hl => hg l (by simp [hl])⟩
  | getM t k ih =>
    rintro σ σ' a fp ⟨fp', rfl, h⟩ hg
    have h0 : σ'.m t = σ.m t := hg (.m t) (by simp)
    exact ⟨fp', rfl, by rw [h0]; exact ih _ h fun l hl => hg l (by simp [hl])⟩
  | fresh d n k ih =>
    rintro σ σ' a fp ⟨fp', rfl, h0, h⟩ hg
    refine ⟨fp', rfl, fun i hi => ?_, ih h fun l hl => hg l (by simp [hl])⟩
    have h1 : σ'.m (rowI d i) = σ.m (rowI d i) := hg (.m (rowI d i)) (by simp; exact .inl ⟨i, hi, rfl⟩)
    rw [h1]; exact h0 i hi
  | assert q k ih => exact fun h hg => ⟨h.1, ih h.2 hg⟩
  | spl q k ih => exact fun h hg => ih _ h hg
  | elem xs i k ih => rintro σ σ' a fp ⟨r, hx, h⟩ hg; exact ⟨r, hx, ih _ h hg⟩
  | elemC xs i k ih => rintro σ σ' a fp ⟨r, hx, h⟩ hg; exact ⟨r, hx, ih _ h hg⟩
  | call f args M k ih => rintro σ σ' a fp ⟨r, M', hc, h⟩ hg; exact ⟨r, M', hc, ih _ _ h hg⟩
  | stuck => exact fun h _ => h.elim
end

/-! ### Operations -/

def ofCell : Value → Ce
  | .bool b => .p (.bool b) | .int k n => .p (.int k n) | .string s => .p (.str s)
  | .pointer none => .p .nilp | .slice none 0 0 => .p .nilsl | _ => .p .nilf
/-- Cells that a constant may hold. -/
def okCell : Value → Bool
  | .bool _ | .int _ _ | .string _ | .pointer none | .slice none 0 0 | .nilFunc => true
  | _ => false
def ofConst : Value → V
  | .bool b => .one (.p (.bool b)) | .int k n => .one (.p (.int k n)) | .string s => .one (.p (.str s))
  | .pointer none => .one (.p .nilp) | .slice none 0 0 => .one (.p .nilsl) | .nilFunc => .one (.p .nilf)
  | .agg cs => if cs.toList.all okCell then .agg (cs.toList.map ofCell) else .undef
  | _ => .undef

def evR {α : Type} (o : Operand) (k : V → Rd α) : Rd α :=
  match o with
  | .tmp t => .getT t k
  | .const v => k (ofConst v)
  | .func f => k (.one (.p (.func f)))
  | .global _ => k .undef

def evL {α : Type} (l : List Operand) (k : List V → Rd α) : Rd α :=
  match l with
  | [] => k []
  | o :: r => evR o fun v => evL r fun vs => k (v :: vs)

def TD.isAgg : TD → Bool
  | .struct _ | .arr _ _ => true
  | _ => false

def cellsV : V → Option (List Ce)
  | .one c => some [c]
  | .agg cs => some cs
  | _ => none

def V.w1 : V → Option W1
  | .one c => some (.one c)
  | .agg cs => some (.agg cs)
  | _ => none

def W1.v : W1 → V
  | .one c => .one c
  | .agg cs => .agg cs

/-- A part of a row of cells, as a value of a type. -/
def partR {α : Type} (T : Tab) (t : Nat) (cs : List Ce) (off : Nat) (k : V → Rd α) : Rd α :=
  match (T t).d with
  | .other => .stuck
  | .struct _ | .arr _ _ => .assert (off + (T t).size ≤ cs.length) (k (.agg ((cs.drop off).take (T t).size)))
  | _ => .elemC cs off fun c => k (.one c)

def pureC : Ce → Option PV
  | .p x => some x
  | _ => none
def pureL : List Ce → Option (List PV)
  | [] => some []
  | .p x :: r => (pureL r).map (x :: ·)
  | _ :: _ => none

def splice {α : Type} (cs : List α) (off : Nat) (new : List α) : List α := cs.take off ++ new ++ cs.drop (off + new.length)

/-- A literal's cells: parts laid over the zero value, in their order; each at its place (offset, size). -/
def fillA (place : Nat → Option (Nat × Nat)) (cells : List Ce) : List (Nat × V) → Option (List Ce)
  | [] => some cells
  | (i, v) :: r =>
    match place i, cellsV v with
    | some (off, size), some cs => if cs.length = size ∧ off + cs.length ≤ cells.length then fillA place (splice cells off cs) r else none
    | _, _ => none

/-- Cells of the same kinds: bools, integers, strings. -/
def likeP : PV → PV → Bool
  | .bool _, .bool _ => true | .int k _, .int k' _ => decide (k = k') | .str _, .str _ => true
  | _, _ => false
def likeL : List PV → List PV → Bool
  | [], [] => true
  | x :: xs, y :: ys => likeP x y && likeL xs ys
  | _, _ => false
/-- Are such cells alike? -/
def eqLP : List PV → List PV → Bool
  | x :: xs, y :: ys => (match x, y with | .bool a, .bool b => a == b | .int _ a, .int _ b => decide (a = b) | .str a, .str b => decide (a = b) | _, _ => false) && eqLP xs ys
  | _, _ => true

def cmpI (op : BinOp) (a b : Int) : Option Bool :=
  match op with
  | .eql => some (decide (a = b)) | .neq => some (decide (a ≠ b)) | .lss => some (decide (a < b))
  | .leq => some (decide (a ≤ b)) | .gtr => some (decide (b < a)) | .geq => some (decide (b ≤ a))
  | _ => none
def arI (op : BinOp) (k : IntKind) (a b : Int) : Option Int :=
  match op with
  | .add => some (k.wrap (a + b)) | .sub => some (k.wrap (a - b)) | .mul => some (k.wrap (a * b))
  | _ => none

def retB {α : Type} (b : Bool) : Rd Wr := .ret ⟨.one (.p (.bool b)), []⟩
def retC (c : Ce) : Rd Wr := .ret ⟨.one c, []⟩

def binR (T : Tab) (op : BinOp) (t : Nat) (x y : V) : Rd Wr :=
  match x, y with
  | .one (.p (.int k a)), .one (.p (.int k' b)) =>
    if k = k' then
      match arI op k a b with
      | some n => retC (.p (.int k n))
      | none => match cmpI op a b with
        | some q => retC (.p (.bool q))
        | none => match op with
          | .rem => .assert (b ≠ 0) (retC (.p (.int k (a.tmod b))))
          | .quo => .assert (b ≠ 0) (retC (.p (.int k (k.wrap (a.tdiv b)))))
          | _ => .stuck
    else .stuck
  | .one (.p (.str a)), .one (.p (.str b)) => match op with
    | .eql => retC (.p (.bool (decide (a = b))))
    | .neq => retC (.p (.bool (decide (a ≠ b))))
    | _ => .stuck
  | .one (.p (.bool a)), .one (.p (.bool b)) => match (T t).d, op with
    | .bool, .eql => retC (.p (.bool (a == b)))
    | .bool, .neq => retC (.p (.bool (!(a == b))))
    | _, _ => .stuck
  | .agg xs, .agg ys => if (T t).eqok then
      match pureL xs, pureL ys with
      | some xs, some ys => .assert ((T t).d ≠ .other ∧ likeL xs (T t).zero = true ∧ likeL ys (T t).zero = true) <| match op with
        | .eql => retC (.p (.bool (eqLP xs ys)))
        | .neq => retC (.p (.bool (!(eqLP xs ys))))
        | _ => .stuck
      | _, _ => .stuck
    else .stuck
  | .one (.p .nilp), .one (.p .nilp) => match (T t).d, op with
    | .ptr _, .eql => retC (.p (.bool true))
    | .ptr _, .neq => retC (.p (.bool false))
    | _, _ => .stuck
  | .one (.ptr _ _), .one (.p .nilp) => match (T t).d, op with
    | .ptr _, .eql => retC (.p (.bool false))
    | .ptr _, .neq => retC (.p (.bool true))
    | _, _ => .stuck
  | .one (.p (.func _)), .one (.p .nilf) => match (T t).d, op with
    | .func, .eql => retC (.p (.bool false))
    | .func, .neq => retC (.p (.bool true))
    | _, _ => .stuck
  | .one (.p .nilsl), .one (.p .nilsl) => match (T t).d, op with
    | .sl _, .eql => retC (.p (.bool true))
    | .sl _, .neq => retC (.p (.bool false))
    | _, _ => .stuck
  | .one (.p .nesl), .one (.p .nilsl) => match (T t).d, op with
    | .sl _, .eql => retC (.p (.bool false))
    | .sl _, .neq => retC (.p (.bool true))
    | _, _ => .stuck
  | .one (.p (.slice (_ :: _))), .one (.p .nilsl) => match (T t).d, op with
    | .sl _, .eql => retC (.p (.bool false))
    | .sl _, .neq => retC (.p (.bool true))
    | _, _ => .stuck
  | .one (.osl id n), .one (.p .nilsl) => .getM id fun ob => match ob with
    | some (.sl _ xs) => .assert (n = xs.length ∧ n ≠ 0) <| match (T t).d, op with
      | .sl _, .eql => retC (.p (.bool false))
      | .sl _, .neq => retC (.p (.bool true))
      | _, _ => .stuck
    | _ => .stuck
  | _, _ => .stuck

/-- 'i' lies in what has n places. -/
def inR (i : Int) (n : Nat) : Prop := 0 ≤ i ∧ i < n

def idxR (T : Tab) (t : Nat) (x i : V) : Rd Wr :=
  match i with
  | .one (.p (.int _ i)) =>
    match (T t).d, x with
    | .sl e, .one (.p (.slice xs)) => .elem xs i.toNat fun r => .assert (0 ≤ i ∧ (T e).d ≠ .other ∧ r.length = (T e).size ∧ r ≠ []) (retC (.ip r))
    | .sl e, .one (.osl id n) => .getM id fun ob => match ob with
      | some (.sl e' xs) => .assert (n = xs.length ∧ e' = e ∧ (T e).d ≠ .other ∧ inR i xs.length) (retC (.oel id n i.toNat 0))
      | _ => .stuck
    | .sl e, .one (.bsl id n) => .getM id fun ob => match ob with
      | some (.box cs) => .assert ((T e).d ≠ .other ∧ inR i n) (retC (.ptr id (i.toNat * (T e).size)))
      | _ => .stuck
    | .arr n e, .one (.ptr id off) => .assert (inR i n ∧ (T e).d ≠ .other) (retC (.ptr id (off + i.toNat * (T e).size)))
    | .arr n e, .one (.ip cs) => .assert (inR i n ∧ (T e).d ≠ .other) (retC (.ip (cs.drop (i.toNat * (T e).size))))
    | .arr n e, .one (.oel id m k off) => .getM id fun ob => match ob with
      | some (.sl _ xs) => .assert (m = xs.length ∧ inR i n ∧ (T e).d ≠ .other) (retC (.oel id m k (off + i.toNat * (T e).size)))
      | _ => .stuck
    | _, _ => .stuck
  | _ => .stuck

def fieldR (T : Tab) (t : Nat) (x : V) (f : Nat) : Rd Wr :=
  match (T t).d with
  | .struct fs => match fs[f]? with
    | some (o, u) => .assert ((T u).d ≠ .other ∧ (T u).size ≠ 0) <| match x with
      | .one (.ptr id off) => retC (.ptr id (off + o))
      | .one (.ip cs) => retC (.ip (cs.drop o))
      | .one (.oel id m k off) => .getM id fun ob => match ob with
        | some (.sl _ xs) => .assert (m = xs.length) (retC (.oel id m k (off + o)))
        | _ => .stuck
      | _ => .stuck
    | none => .stuck
  | _ => .stuck

def loadR (T : Tab) (t : Nat) (a : V) : Rd Wr :=
  match a with
  | .one (.ptr id off) => .getM id fun ob => match ob with
    | some (.box cs) => partR T t cs off fun v => .ret ⟨v, []⟩
    | _ => .stuck
  | .one (.ip cs) => partR T t (cs.map .p) 0 fun v => .ret ⟨v, []⟩
  | .one (.oel id n i off) => .getM id fun ob => match ob with
    | some (.sl sz xs) => .assert (n = xs.length) (.elem xs i fun r => partR T t (r.map .p) off fun v => .ret ⟨v, []⟩)
    | _ => .stuck
  | _ => .stuck

def storeR (T : Tab) (t : Nat) (a x : V) : Rd Wr :=
  match a, cellsV x with
  | .one (.ptr id off), some new => .getM id fun ob => match ob with
    | some (.box cs) => .assert ((T t).d ≠ .other ∧ new.length = (T t).size ∧ off + new.length ≤ cs.length) (.ret ⟨.undef, [(id, .box (splice cs off new))]⟩)
    | _ => .stuck
  | .one (.oel id n i off), some new => match pureL new with
    | some new => .getM id fun ob => match ob with
      | some (.sl e xs) => .assert (n = xs.length) (.elem xs i fun r =>
          .assert ((T t).d ≠ .other ∧ new.length = (T t).size ∧ off + new.length ≤ r.length) (.ret ⟨.undef, [(id, .sl e (xs.set i (splice r off new)))]⟩))
      | _ => .stuck
    | none => .stuck
  | _, _ => .stuck

/-- A slice's elements, as data; the reading of a slice of its own is as it stands. -/
def readSl {α : Type} (x : V) (k : List (List PV) → Rd α) : Rd α :=
  match x with
  | .one (.p .nilsl) => k []
  | .one (.p .nesl) => k []
  | .one (.p (.slice xs)) => k xs
  | .one (.osl id n) => .getM id fun ob => match ob with
    | some (.sl sz xs) => .assert (n = xs.length) (k xs)
    | _ => .stuck
  | _ => .stuck

def lenR (d : TD) (x : V) : Rd Wr :=
  match d, x with
  | .str, .one (.p (.str s)) => retC (.p (.int .i64 s.size))
  | .sl _, .one (.p .nilsl) => retC (.p (.int .i64 0))
  | .sl _, .one (.p .nesl) => retC (.p (.int .i64 0))
  | .sl _, .one (.bsl _ n) => retC (.p (.int .i64 n))
  | .sl _, .one (.p (.slice xs)) => retC (.p (.int .i64 xs.length))
  | .sl _, .one (.osl id n) => .getM id fun ob => match ob with
    | some (.sl _ xs) => .assert (n = xs.length) (retC (.p (.int .i64 xs.length)))
    | _ => .stuck
  | _, _ => .stuck

/-- append: to nothing (a slice of the call's own is made under the name of the operation's place), or to a slice of its own. -/
def appR (T : Tab) (d : Option Nat) (t : Nat) (s x : V) : Rd Wr :=
  match (T t).d with
  | .sl e => readSl x fun ys =>
    match s, d with
    | .one (.p .nilsl), some d => .getM d fun ob => match ob with
      | none => .assert ((T e).d ≠ .other ∧ (∀ y ∈ ys, y.length = (T e).size) ∧ 0 < (T e).size ∧ ys.length * (T e).bytes ≤ 140737488355328 ∧ ys.length ≤ maxLen)
          (.ret ⟨.one (.osl d ys.length), [(d, .sl e ys)]⟩)
      | some _ => .stuck
    | .one (.osl id n), _ => .getM id fun ob => match ob with
      | some (.sl e' xs) => .assert (n = xs.length ∧ e' = e ∧ (T e).d ≠ .other ∧ 0 < (T e).size ∧ (∀ y ∈ ys, y.length = (T e).size) ∧
            (xs.length + ys.length) * (T e).bytes ≤ 140737488355328 ∧ xs.length + ys.length ≤ maxLen)
          (.ret ⟨.one (.osl id (xs.length + ys.length)), [(id, .sl e (xs ++ ys))]⟩)
      | _ => .stuck
    | _, _ => .stuck
  | _ => .stuck

/-- A row of own slices, all empty: the box, and the slices. -/
def rowsM (d e n : Nat) : List (Nat × Obj) := (List.range n).map (fun i => (rowI d i, Obj.sl e [])) ++ [(d, .box ((List.range n).map fun i => .osl (rowI d i) 0))]

def makeR (T : Tab) (d : Option Nat) (t : Nat) (l c : V) : Rd Wr :=
  match (T t).d, l, c, d with
  | .sl e, .one (.p (.int _ n)), .one (.p (.int _ n')), some d => .getM d fun ob => match ob with
    | none => match (T e).d with
      | .sl e' => .fresh d n.toNat (.assert (n' = n ∧ 0 ≤ n ∧ n * (T e).bytes ≤ 140737488355328 ∧ n ≤ maxLen ∧ (T e).d ≠ .other ∧ (T e).zero.length = (T e).size)
        (.assert ((T e).zero = [.nilsl]) (.ret ⟨.one (.bsl d n.toNat), rowsM d e' n.toNat⟩)))
      | _ => .assert (n' = n ∧ 0 ≤ n ∧ n * (T e).bytes ≤ 140737488355328 ∧ n ≤ maxLen ∧ (T e).d ≠ .other ∧ (T e).zero.length = (T e).size)
        (.ret ⟨.one (.osl d n.toNat), [(d, .sl e (List.replicate n.toNat (T e).zero))]⟩)
    | some _ => .stuck
  | _, _, _, _ => .stuck

def allocR (T : Tab) (d : Option Nat) (e : Nat) : Rd Wr :=
  match d with
  | some d => .getM d fun ob => match ob with
    | none => .assert ((T e).d ≠ .other) (.ret ⟨.one (.ptr d 0), [(d, .box ((T e).zero.map .p))]⟩)
    | some _ => .stuck
  | none => .stuck

def boxR (d : Option Nat) (x : V) : Rd Wr :=
  match d, cellsV x with
  | some d, some cs => .getM d fun ob => match ob with
    | none => .ret ⟨.one (.ptr d 0), [(d, .box cs)]⟩
    | some _ => .stuck
  | _, _ => .stuck

def placeS (T : Tab) (fs : List (Nat × Nat)) (i : Nat) : Option (Nat × Nat) := (fs[i]?).map fun f => (f.1, (T f.2).size)
def placeA (T : Tab) (e : Nat) (i : Nat) : Option (Nat × Nat) := some (i * (T e).size, (T e).size)

def buildR (T : Tab) (t : Nat) (parts : List (Nat × V)) : Rd Wr :=
  match (T t).d with
  | .struct fs => match fillA (placeS T fs) ((T t).zero.map .p) parts with
    | some cs => .assert (∀ f ∈ fs, (T f.2).d ≠ .other) (.ret ⟨.agg cs, []⟩)
    | none => .stuck
  | _ => .stuck

/-- A slice literal: all its parts are given, in their order, and pure. -/
def slicePartsA (size : Nat) : Nat → List (Nat × V) → Option (List (List PV))
  | _, [] => some []
  | k, (i, v) :: r => match cellsV v with
    | some cs => match pureL cs, slicePartsA size (k + 1) r with
      | some x, some xs => if i = k ∧ x.length = size then some (x :: xs) else none
      | _, _ => none
    | none => none

def buildSliceR (T : Tab) (d : Option Nat) (t len : Nat) (parts : List (Nat × V)) : Rd Wr :=
  match (T t).d with
  | .sl e => match parts with
    | [] => match d with
      | some d => .getM d fun ob => match ob with
        | none => .assert (len = 0 ∧ (T e).d ≠ .other) (.ret ⟨.one (.osl d 0), [(d, .sl e [])]⟩)
        | some _ => .stuck
      | none => .stuck
    | p :: r => match slicePartsA (T e).size 0 (p :: r) with
      | some xs => .assert (len = xs.length ∧ (T e).d ≠ .other ∧ 0 < (T e).size ∧ (T e).zero.length = (T e).size ∧ len * (T e).size ≤ 16777216) (retC (.p (.slice xs)))
      | none => .stuck
  | _ => .stuck

def boundR (v : V) (k : Int → Rd Wr) : Rd Wr :=
  match v with
  | .one (.p (.int _ l)) => k l
  | _ => .stuck
/-- The bounds of a slice expression over what has n places. -/
def boundsR (lo hi : Option V) (n : Nat) (k : Nat → Nat → Rd Wr) : Rd Wr :=
  match lo with
  | none => match hi with
    | none => k 0 n
    | some h => boundR h fun h => .assert (0 ≤ h ∧ h ≤ n) (k 0 h.toNat)
  | some l => boundR l fun l => match hi with
    | none => .assert (0 ≤ l ∧ l ≤ n) (k l.toNat n)
    | some h => boundR h fun h => .assert (0 ≤ l ∧ l ≤ h ∧ h ≤ n) (k l.toNat h.toNat)

def sliceR (T : Tab) (t : Nat) (x : V) (lo hi : Option V) : Rd Wr :=
  match (T t).d, x with
  | .str, .one (.p (.str s)) => boundsR lo hi s.size fun l h => retC (.p (.str (s.extract l h)))
  | .sl e, .one (.p (.slice xs)) => .assert ((T e).d ≠ .other ∧ ∀ y ∈ xs, y.length = (T e).size) (boundsR lo hi xs.length fun l h => retC (.p (.slice ((xs.take h).drop l))))
  | _, _ => .stuck

/-- Which memory goes along with a call: what its arguments point to. -/
def refsC : Ce → List Nat
  | .ptr id _ => [id]
  | .osl id _ => [id]
  | .oel id _ _ _ => [id]
  | .bsl id _ => [id]
  | _ => []
def refsW : W1 → List Nat
  | .one c => refsC c
  | .agg cs => cs.flatMap refsC
def refsV : V → List Nat
  | .undef => []
  | .one c => refsC c
  | .agg cs => cs.flatMap refsC
  | .tup xs => xs.flatMap refsW
def refsO : Obj → List Nat
  | .box cs => cs.flatMap refsC
  | _ => []
/-- Each named block is read once; blocks that a box names come along. -/
def gatherR {α : Type} : Nat → List Nat → List (Nat × Obj) → (List (Nat × Obj) → Rd α) → Rd α
  | _, [], M, k => k M
  | 0, _ :: _, _, _ => .stuck
  | n + 1, i :: r, M, k => if M.any (fun x => x.1 == i) then gatherR n r M k else
    .getM i fun ob => match ob with
      | some o => gatherR n (refsO o ++ r) (M ++ [(i, o)]) k
      | none => .stuck

def renC (f : Nat → Nat) : Ce → Ce
  | .p x => .p x
  | .ptr id off => .ptr (f id) off
  | .osl id n => .osl (f id) n
  | .oel id n i off => .oel (f id) n i off
  | .ip cs => .ip cs
  | .bsl id n => .bsl (f id) n
def renW (f : Nat → Nat) : W1 → W1
  | .one c => .one (renC f c)
  | .agg cs => .agg (cs.map (renC f))
def renV (f : Nat → Nat) : V → V
  | .undef => .undef
  | .one c => .one (renC f c)
  | .agg cs => .agg (cs.map (renC f))
  | .tup xs => .tup (xs.map (renW f))
def renO (f : Nat → Nat) : Obj → Obj
  | .box cs => .box (cs.map (renC f))
  | .sl e xs => .sl e xs

/-- The names that a call's memory bears inside: 1000, 1001, .. -/
def toIn : List (Nat × Obj) → Nat → Nat → Nat
  | [], _, _ => 0
  | x :: M, k, id => if x.1 = id then k else toIn M (k + 1) id
def toOut : List (Nat × Obj) → Nat → Nat → Nat → Nat
  | [], _, d, _ => d
  | x :: M, k, d, i => if i = k then x.1 else toOut M (k + 1) d i
def lentIn : List (Nat × Obj) → Nat → List (Nat × Obj) → List (Nat × Obj)
  | [], _, _ => []
  | x :: R, k, M => (k, renO (toIn M 1000) x.2) :: lentIn R (k + 1) M
/-- What is new in what comes back. -/
def newIn (n : Nat) (M' : List (Nat × Obj)) : List Nat := (M'.map (·.1)).filter fun k => !(decide (1000 ≤ k) && decide (k < 1000 + n))

def afterR (dst : Option Nat) (M : List (Nat × Obj)) (r : V) (M' : List (Nat × Obj)) : Rd Wr :=
  match newIn M.length M' with
  | [] => .ret ⟨renV (toOut M 1000 0) r, (M'.map fun x => (toOut M 1000 0 x.1, renO (toOut M 1000 0) x.2)).reverse⟩
  | [_] => match dst with
    | none => .stuck
    | some d => .getM d fun ob => match ob with
      | some _ => .stuck
      | none => .ret ⟨renV (toOut M 1000 d) r, (M'.map fun x => (toOut M 1000 d x.1, renO (toOut M 1000 d) x.2)).reverse⟩
  | _ => .stuck

def callR (o : Option Nat) (f : V) (args : List V) : Rd Wr :=
  match f with
  | .one (.p (.func f)) => gatherR 64 (args.flatMap refsV) [] fun M => .call f (args.map (renV (toIn M 1000))) (lentIn M 1000 M) (afterR o M)
  | _ => .stuck

def opR (T : Tab) (o : Oper) : Rd Wr :=
  match o.op with
  | .move x | .assign x => evR x fun v => .ret ⟨v, []⟩
  | .pick c a b => evR c fun cv => match cv with
    | .one (.p (.bool q)) => .spl q fun q => if q then evR a fun v => .ret ⟨v, []⟩ else evR b fun v => .ret ⟨v, []⟩
    | _ => .stuck
  | .alloc e => allocR T o.dst e
  | .box _ x => evR x fun v => boxR o.dst v
  | .build t parts => evL (parts.toList.map (·.2)) fun vs => buildR T t ((parts.toList.map (·.1)).zip vs)
  | .buildSlice t len parts => evL (parts.toList.map (·.2)) fun vs => buildSliceR T o.dst t len ((parts.toList.map (·.1)).zip vs)
  | .load t a => evR a fun v => loadR T t v
  | .store t a x => evR a fun a => evR x fun x => storeR T t a x
  | .nilCheck x => evR x fun v => match v with
    | .one (.ptr id off) => .ret ⟨.one (.ptr id off), []⟩
    | .one (.ip cs) => .ret ⟨.one (.ip cs), []⟩
    | _ => .stuck
  | .binOp op t x y _ => evR x fun x => evR y fun y => binR T op t x y
  | .unOp .not _ x => evR x fun v => match v with
    | .one (.p (.bool b)) => retC (.p (.bool (!b)))
    | _ => .stuck
  | .unOp .neg _ x => evR x fun v => match v with
    | .one (.p (.int k n)) => retC (.p (.int k (k.wrap (0 - n))))
    | _ => .stuck
  | .convert src dst x => evR x fun v => match (T src).d, (T dst).d, v with
    | .int _, .int k, .one (.p (.int _ n)) => retC (.p (.int k (k.wrap n)))
    | _, _, _ => .stuck
  | .makeSlice t l c => evR l fun l => evR c fun c => makeR T o.dst t l c
  | .slice t x lo hi none => evR x fun x => match lo, hi with
    | none, none => sliceR T t x none none
    | some l, none => evR l fun l => sliceR T t x (some l) none
    | none, some h => evR h fun h => sliceR T t x none (some h)
    | some l, some h => evR l fun l => evR h fun h => sliceR T t x (some l) (some h)
  | .fieldAddr t x f => evR x fun v => fieldR T t v f
  | .indexAddr t x i => evR x fun x => evR i fun i => idxR T t x i
  | .index t x i => evR x fun x => evR i fun i => match (T t).d, x, i with
    | .arr n e, .agg cs, .one (.p (.int _ i)) => .assert (inR i n) (partR T e cs (i.toNat * (T e).size) fun v => .ret ⟨v, []⟩)
    | _, _, _ => .stuck
  | .field t x f => evR x fun x => match (T t).d, x with
    | .struct fs, .agg cs => match fs[f]? with
      | some (off, u) => partR T u cs off fun v => .ret ⟨v, []⟩
      | none => .stuck
    | _, _ => .stuck
  | .extract x i => evR x fun v => match v with
    | .tup xs => match xs[i]? with
      | some w => .ret ⟨w.v, []⟩
      | none => .stuck
    | _ => .stuck
  | .call { callee := .builtin .len, args, argTypes } => match args.toList, argTypes.toList with
    | [x], [t] => evR x fun v => lenR (T t).d v
    | _, _ => .stuck
  | .call { callee := .builtin .append, args, argTypes } => match args.toList, argTypes.toList with
    | [s, x], [t, u] => evR s fun s => evR x fun x => if u = t then appR T o.dst t s x else .stuck
    | _, _ => .stuck
  | .call { callee := .builtin .min, args, .. } => match args.toList with
    | [x, y] => evR x fun x => evR y fun y => match x, y with
      | .one (.p (.int k a)), .one (.p (.int _ b)) => retC (.p (.int k (if b < a then b else a)))
      | _, _ => .stuck
    | _ => .stuck
  | .call { callee := .builtin .max, args, .. } => match args.toList with
    | [x, y] => evR x fun x => evR y fun y => match x, y with
      | .one (.p (.int k a)), .one (.p (.int _ b)) => retC (.p (.int k (if b > a then b else a)))
      | _, _ => .stuck
    | _ => .stuck
  | .call { callee := .value f, args, .. } => evR f fun f => evL args.toList fun vs => callR o.dst f vs
  | _ => .stuck

def putT (t : Nat → V) (d : Option Nat) (v : V) : Nat → V :=
  match d with
  | some d => upd t d v
  | none => t

def St.app (σ : St) (d : Option Nat) (w : Wr) : St :=
  { t := putT σ.t d w.v
    m := w.ms.foldl (fun m x => upd m x.1 (some x.2)) σ.m }

def skipW : Wr := ⟨.tup [], []⟩

/-- One operation of a region, its guard heeded. -/
def guardR (ops : Array Oper) (o : Oper) (p : Rd Wr) : Rd Wr :=
  match o.guard with
  | none => p
  | some (j, want) => match (ops[j]?).bind (·.dst) with
    | none => .stuck
    | some d => .getT d fun v => match v with
      | .tup [] => .ret skipW
      | .one (.p (.bool b)) => .spl b fun b => if b = want then p else .ret skipW
      | _ => .stuck

/-- The operations of a region, in the order of the text. -/
def opsK (C : Con) (T : Tab) (ops : Array Oper) : List Oper → St → (St → Prop) → Prop
  | [], σ, K => K σ
  | o :: r, σ, K =>
    match o.guard with
    | none => runK C (opR T o) σ fun w _ => opsK C T ops r (σ.app o.dst w) K
    | some (j, want) => match (ops[j]?).bind (·.dst) with
      | none => False
      | some d => match σ.t d with
        | .tup [] => opsK C T ops r (σ.app o.dst skipW) K
        | .one (.p (.bool b)) => splitB b fun b =>
            if b = want then runK C (opR T o) { σ with t := upd σ.t d (.one (.p (.bool b))) } fun w _ => opsK C T ops r (St.app { σ with t := upd σ.t d (.one (.p (.bool b))) } o.dst w) K
            else opsK C T ops r (St.app { σ with t := upd σ.t d (.one (.p (.bool b))) } o.dst skipW) K
        | _ => False

theorem upd_self {α : Type} (f : Nat → α) (i : Nat) : upd f i (f i) = f := by
  funext j; unfold upd; split <;> simp_all

theorem opsK_run (C : Con) (T : Tab) (ops : Array Oper) : ∀ (l : List Oper) (σ : St) (K : St → Prop), opsK C T ops l σ K →
    match l with
    | [] => K σ
    | o :: r => ∃ w fp, Run C (guardR ops o (opR T o)) σ w fp ∧ opsK C T ops r (σ.app o.dst w) K
  | [], σ, K, h => h
  | o :: r, σ, K, h => by
    show ∃ w fp, _
    unfold opsK at h
    unfold guardR
    cases hg : o.guard with
    | none =>
      simp only [hg] at h ⊢
      exact runK_run C _ _ _ h
    | some gw =>
      obtain ⟨j, want⟩ := gw
      simp only [hg] at h ⊢
      cases hd : (ops[j]?).bind (·.dst) with
      | none => simp [hd] at h
      | some d =>
        simp only [hd] at h ⊢
        cases hv : σ.t d with
        | undef => simp [hv] at h
        | agg cs => simp [hv] at h
        | tup xs =>
          cases xs with
          | nil => simp only [hv] at h; exact ⟨skipW, [.t d], ⟨[], rfl, by simp [hv, Run]⟩, h⟩
          | cons x xs => simp [hv] at h
        | one c =>
          cases c with
          | p x =>
            cases x with
            | bool b =>
              simp only [hv] at h
              have h := splitB_out h
              have e : upd σ.t d (.one (.p (.bool b))) = σ.t := by rw [← hv]; exact upd_self _ _
              simp only [e] at h
              by_cases hb : b = want
              · simp only [hb, if_true] at h
                obtain ⟨w, fp, hr, hk⟩ := runK_run C _ _ _ h
                exact ⟨w, .t d :: fp, ⟨fp, rfl, by simp only [hv, Run, hb, if_true]; exact hr⟩, hk⟩
              · simp only [hb, if_false] at h
                exact ⟨skipW, [.t d], ⟨[], rfl, by simp [hv, Run, hb]⟩, h⟩
            | _ => simp [hv] at h
          | _ => simp [hv] at h

end Go.AW

/- What an abstract value says of a concrete one; and that it stays so while memory that it does not speak of is turned. -/
set_option linter.unusedVariables false
namespace Go.AW

/-- A pure cell and what it stands for: the memory that it leads to lies in blocks of which I holds. -/
inductive RepP (w : World) (I : Nat → Prop) : PV → Value → Prop where
  | bool (b : Bool) : RepP w I (.bool b) (.bool b)
  | int (k : IntKind) (n : Int) : RepP w I (.int k n) (.int k n)
  | str (s : ByteArray) : RepP w I (.str s) (.string s)
  | nilp : RepP w I .nilp (.pointer none)
  | nilsl : RepP w I .nilsl (.slice none 0 0)
  | nilf : RepP w I .nilf .nilFunc
  | func (f : Nat) : RepP w I (.func f) (.func (.func f) #[] #[])
  | nesl (a : Addr) (cap : Nat) : RepP w I .nesl (.slice (some a) 0 cap)
  | sl0 (a : Option Addr) (cap : Nat) (h : a = none → cap = 0) : RepP w I (.slice []) (.slice a 0 cap)
  | sl (xs : List (List PV)) (b off cap sz : Nat) (arr : Array Value) (e : TypeId) (fr : Nat × Nat) (vs : List Value)
      (hI : I b) (hh : w.heap[b]? = some (.cells arr e fr)) (hz : ∀ x ∈ xs, x.length = sz) (hc : xs.length ≤ cap)
      (hv : ∀ (k : Nat) v, vs[k]? = some v → arr[off + k]? = some v) (hl : vs.length = xs.flatten.length)
      (hr : ∀ (k : Nat) q v, xs.flatten[k]? = some q → vs[k]? = some v → RepP w I q v) : RepP w I (.slice xs) (.slice (some ⟨b, off, none⟩) xs.length cap)

theorem RepP.mono {w w' : World} {I I' : Nat → Prop} (h : ∀ b, I b → I' b ∧ w'.heap[b]? = w.heap[b]?) {q : PV} {v : Value} (hr : RepP w I q v) : RepP w' I' q v := by
  induction hr with
  | bool b => exact .bool b
  | int k n => exact .int k n
  | str s => exact .str s
  | nilp => exact .nilp
  | nilsl => exact .nilsl
  | nilf => exact .nilf
  | func f => exact .func f
  | nesl a cap => exact .nesl a cap
  | sl0 a cap h0 => exact .sl0 a cap h0
  | sl xs b off cap sz arr e fr vs hI hh hz hc hv hl _ ih => exact .sl xs b off cap sz arr e fr vs (h b hI).1 ((h b hI).2.trans hh) hz hc hv hl ih

theorem RepP.one {w : World} {I : Nat → Prop} {q : PV} {v : Value} (hr : RepP w I q v) : v.oneCell' = true := by cases hr <;> rfl

theorem rp_bool {w : World} {I : Nat → Prop} {b : Bool} {v : Value} (h : RepP w I (.bool b) v) : v = .bool b := by cases h; rfl
theorem rp_int {w : World} {I : Nat → Prop} {k : IntKind} {n : Int} {v : Value} (h : RepP w I (.int k n) v) : v = .int k n := by cases h; rfl
theorem rp_str {w : World} {I : Nat → Prop} {s : ByteArray} {v : Value} (h : RepP w I (.str s) v) : v = .string s := by cases h; rfl
theorem rp_nilp {w : World} {I : Nat → Prop} {v : Value} (h : RepP w I .nilp v) : v = .pointer none := by cases h; rfl
theorem rp_nilsl {w : World} {I : Nat → Prop} {v : Value} (h : RepP w I .nilsl v) : v = .slice none 0 0 := by cases h; rfl
theorem rp_nesl {w : World} {I : Nat → Prop} {v : Value} (h : RepP w I .nesl v) : ∃ a cap, v = .slice (some a) 0 cap := by cases h; exact ⟨_, _, rfl⟩
theorem rp_nilf {w : World} {I : Nat → Prop} {v : Value} (h : RepP w I .nilf v) : v = .nilFunc := by cases h; rfl
theorem rp_func {w : World} {I : Nat → Prop} {f : Nat} {v : Value} (h : RepP w I (.func f) v) : v = .func (.func f) #[] #[] := by cases h; rfl

abbrev GV := Nat → Option Addr × Nat
def blk (gv : GV) (id : Nat) : Option Nat := (gv id).1.map (·.block)

def RepC (T : Tab) (w : World) (I : Nat → Prop) (m : Nat → Option Obj) (gv : GV) : Ce → Value → Prop
  | .p x, v => RepP w I x v
  | .ptr id off, v => ∃ b cs, m id = some (.box cs) ∧ (gv id).1 = some ⟨b, 0, none⟩ ∧ v = .pointer (some ⟨b, off, none⟩)
  | .osl id n, v => v.oneCell' = true ∧ ∃ e xs, m id = some (.sl e xs) ∧ n ≤ xs.length ∧ (n = xs.length → v = .slice (gv id).1 n (gv id).2)
  | .oel id n i off, v => v.oneCell' = true ∧ ∃ e xs, m id = some (.sl e xs) ∧ n ≤ xs.length ∧
      (n = xs.length → ∃ b, (gv id).1 = some ⟨b, 0, none⟩ ∧ v = .pointer (some ⟨b, i * (T e).size + off, none⟩))
  | .ip cs, v => ∃ (b off : Nat) (arr : Array Value) (e : TypeId) (fr : Nat × Nat) (vs : List Value), v = .pointer (some ⟨b, off, none⟩) ∧ I b ∧ w.heap[b]? = some (.cells arr e fr) ∧
      (∀ (k : Nat) u, vs[k]? = some u → arr[off + k]? = some u) ∧ vs.length = cs.length ∧ ∀ (k : Nat) q u, cs[k]? = some q → vs[k]? = some u → RepP w I q u
  | .bsl id n, v => ∃ b cs, m id = some (.box cs) ∧ (gv id).1 = some ⟨b, 0, none⟩ ∧ v = .slice (some ⟨b, 0, none⟩) n n

/-- Rows of cells, one by one. -/
def RepL (T : Tab) (w : World) (I : Nat → Prop) (m : Nat → Option Obj) (gv : GV) (cs : List Ce) (vs : List Value) : Prop :=
  vs.length = cs.length ∧ ∀ (k : Nat) c v, cs[k]? = some c → vs[k]? = some v → RepC T w I m gv c v

def RepW (T : Tab) (w : World) (I : Nat → Prop) (m : Nat → Option Obj) (gv : GV) : W1 → Value → Prop
  | .one c, v => RepC T w I m gv c v
  | .agg cs, v => ∃ arr, v = .agg arr ∧ RepL T w I m gv cs arr.toList

def RepV (T : Tab) (w : World) (I : Nat → Prop) (m : Nat → Option Obj) (gv : GV) : V → Value → Prop
  | .undef, _ => True
  | .one c, v => RepC T w I m gv c v
  | .agg cs, v => ∃ arr, v = .agg arr ∧ RepL T w I m gv cs arr.toList
  | .tup xs, v => ∃ arr : Array Value, v = .tuple arr ∧ arr.size = xs.length ∧ ∀ (k : Nat) x u, xs[k]? = some x → arr[k]? = some u → RepW T w I m gv x u

def RepO (T : Tab) (w : World) (I : Nat → Prop) (m : Nat → Option Obj) (gv : GV) (id : Nat) : Obj → Prop
  | .box cs => ∃ b arr e, (gv id).1 = some ⟨b, 0, none⟩ ∧ w.heap[b]? = some (.cells arr e (0, 0)) ∧ RepL T w I m gv cs arr.toList
  | .sl e xs => (∀ x ∈ xs, x.length = (T e).size) ∧ ∃ vs : List Value, w.ownsRow 0 e (T e).size (.slice (gv id).1 xs.length (gv id).2) xs.length vs ∧
      ∀ (k : Nat) q v, xs.flatten[k]? = some q → vs[k]? = some v → RepP w I q v

/-- What holds of memory goes on holding of what is named. -/
structure Pers (m : Nat → Option Obj) (gv : GV) (m' : Nat → Option Obj) (gv' : GV) : Prop where
  box : ∀ id cs, m id = some (.box cs) → ∃ cs', m' id = some (.box cs') ∧ (gv' id).1 = (gv id).1
  sl : ∀ id e xs, m id = some (.sl e xs) → ∃ xs', m' id = some (.sl e xs') ∧ xs.length ≤ xs'.length ∧ (xs'.length = xs.length → gv' id = gv id)

theorem Pers.refl (m : Nat → Option Obj) (gv : GV) : Pers m gv m gv := ⟨fun id cs h => ⟨cs, h, rfl⟩, fun id e xs h => ⟨xs, h, Nat.le_refl _, fun _ => rfl⟩⟩

theorem Pers.trans {m m' m'' : Nat → Option Obj} {gv gv' gv'' : GV} (h : Pers m gv m' gv') (k : Pers m' gv' m'' gv'') : Pers m gv m'' gv'' := by
  refine ⟨fun id cs hm => ?_, fun id e xs hm => ?_⟩
  · obtain ⟨cs', h1, h2⟩ := h.box id cs hm
    obtain ⟨cs'', h3, h4⟩ := k.box id cs' h1
    exact ⟨cs'', h3, h4.trans h2⟩
  · obtain ⟨xs', h1, h2, h3⟩ := h.sl id e xs hm
    obtain ⟨xs'', h4, h5, h6⟩ := k.sl id e xs' h1
    exact ⟨xs'', h4, by omega, fun hl => (h6 (by omega)).trans (h3 (by omega))⟩

/-- What a call begins with: the world, the blocks that may be read as they are (J), the blocks that are its own to write (B). -/
structure Env where
  w0 : World
  m0 : Nat → Option Obj
  gv0 : GV
  J : Nat → Prop
  B : Nat → Prop
  jb : ∀ b, J b → b < w0.heap.size ∧ ¬ B b

def Imm (E : Env) (m : Nat → Option Obj) (gv : GV) (w : World) (b : Nat) : Prop :=
  (E.J b ∨ E.w0.heap.size ≤ b) ∧ b < w.heap.size ∧ ∀ id o, m id = some o → blk gv id ≠ some b

structure RelM (T : Tab) (E : Env) (gv : GV) (m : Nat → Option Obj) (w : World) : Prop where
  tape : w.tape = E.w0.tape
  os : w.os = E.w0.os
  output : w.output = E.w0.output
  size : E.w0.heap.size ≤ w.heap.size
  keep : ∀ b, b < E.w0.heap.size → ¬ E.B b → w.heap[b]? = E.w0.heap[b]?
  rep : ∀ id o, m id = some o → RepO T w (Imm E m gv w) m gv id o
  own : ∀ id o b, m id = some o → blk gv id = some b → b < w.heap.size ∧ (E.B b ∨ E.w0.heap.size ≤ b)
  inj : ∀ id id' o o' b, m id = some o → m id' = some o' → blk gv id = some b → blk gv id' = some b → id = id'
  new : ∀ id o b, m id = some o → blk gv id = some b → E.w0.heap.size ≤ b ∨ ((∃ o0, E.m0 id = some o0) ∧ blk E.gv0 id = some b)
  pers : Pers E.m0 E.gv0 m gv

structure RelG (T : Tab) (E : Env) (N : Nat) (gv : GV) (σ : St) (a : Act) (w : World) : Prop extends RelM T E gv σ.m w where
  defers : a.defers = []
  n : a.tmps.size = N
  t : ∀ i, RepV T w (Imm E σ.m gv w) σ.m gv (σ.t i) (a.tmps.getD i undef)

section
variable {T : Tab} {w w' : World} {I I' : Nat → Prop} {m m' : Nat → Option Obj} {gv gv' : GV}

theorem RepC.mono (h : ∀ b, I b → I' b ∧ w'.heap[b]? = w.heap[b]?) (hp : Pers m gv m' gv') {c : Ce} {v : Value} (hr : RepC T w I m gv c v) : RepC T w' I' m' gv' c v := by
  cases c with
  | p x => exact RepP.mono h hr
  | ptr id off =>
    obtain ⟨b, cs, h1, h2, h3⟩ := hr
    obtain ⟨cs', h4, h5⟩ := hp.box id cs h1
    exact ⟨b, cs', h4, h5.trans h2, h3⟩
  | osl id n =>
    obtain ⟨h0, e, xs, h1, h2, h3⟩ := hr
    obtain ⟨xs', h4, h5, h6⟩ := hp.sl id e xs h1
    refine ⟨h0, e, xs', h4, by omega, fun hn => ?_⟩
    rw [h6 (by omega)]; exact h3 (by omega)
  | oel id n i off =>
    obtain ⟨h0, e, xs, h1, h2, h3⟩ := hr
    obtain ⟨xs', h4, h5, h6⟩ := hp.sl id e xs h1
    refine ⟨h0, e, xs', h4, by omega, fun hn => ?_⟩
    rw [h6 (by omega)]; exact h3 (by omega)
  | ip cs =>
    obtain ⟨b, off, arr, e, fr, vs, h1, h2, h3, h4, h5, h6⟩ := hr
    exact ⟨b, off, arr, e, fr, vs, h1, (h b h2).1, (h b h2).2.trans h3, h4, h5, fun k q u hq hu => RepP.mono h (h6 k q u hq hu)⟩
  | bsl id n =>
    obtain ⟨b, cs, h1, h2, h3⟩ := hr
    obtain ⟨cs', h4, h5⟩ := hp.box id cs h1
    exact ⟨b, cs', h4, h5.trans h2, h3⟩

theorem RepL.mono (h : ∀ b, I b → I' b ∧ w'.heap[b]? = w.heap[b]?) (hp : Pers m gv m' gv') {c : List Ce} {v : List Value} (hr : RepL T w I m gv c v) : RepL T w' I' m' gv' c v :=
  ⟨hr.1, fun k c v hc hv => RepC.mono h hp (hr.2 k c v hc hv)⟩

theorem RepW.mono (h : ∀ b, I b → I' b ∧ w'.heap[b]? = w.heap[b]?) (hp : Pers m gv m' gv') {c : W1} {v : Value} (hr : RepW T w I m gv c v) : RepW T w' I' m' gv' c v := by
  cases c with
  | one c => exact RepC.mono h hp hr
  | agg cs => obtain ⟨arr, h1, h2⟩ := hr; exact ⟨arr, h1, h2.mono h hp⟩

theorem RepV.mono (h : ∀ b, I b → I' b ∧ w'.heap[b]? = w.heap[b]?) (hp : Pers m gv m' gv') {c : V} {v : Value} (hr : RepV T w I m gv c v) : RepV T w' I' m' gv' c v := by
  cases c with
  | undef => trivial
  | one c => exact RepC.mono h hp hr
  | agg cs => obtain ⟨arr, h1, h2⟩ := hr; exact ⟨arr, h1, h2.mono h hp⟩
  | tup xs => obtain ⟨arr, h1, h2, h3⟩ := hr; exact ⟨arr, h1, h2, fun k x u hx hu => RepW.mono h hp (h3 k x u hx hu)⟩

theorem RepC.one {c : Ce} {v : Value} (hr : RepC T w I m gv c v) : v.oneCell' = true := by
  cases c with
  | p x => exact RepP.one hr
  | ptr id off => obtain ⟨b, cs, _, _, rfl⟩ := hr; rfl
  | osl id n => exact hr.1
  | oel id n i off => exact hr.1
  | ip cs => obtain ⟨b, off, arr, e, fr, vs, rfl, _⟩ := hr; rfl
  | bsl id n => obtain ⟨b, cs, _, _, rfl⟩ := hr; rfl

/-- An object stays as it is where its block does. -/
theorem RepO.mono (h : ∀ b, I b → I' b ∧ w'.heap[b]? = w.heap[b]?) (hp : Pers m gv m' gv') {id : Nat} (hg : gv' id = gv id) (hb : ∀ b, blk gv id = some b → w'.heap[b]? = w.heap[b]?)
    {o : Obj} (hr : RepO T w I m gv id o) : RepO T w' I' m' gv' id o := by
  cases o with
  | box cs =>
    obtain ⟨b, arr, e, h1, h2, h3⟩ := hr
    exact ⟨b, arr, e, by rw [hg]; exact h1, (hb b (by simp [blk, h1])).trans h2, h3.mono h hp⟩
  | sl e xs =>
    obtain ⟨h0, vs, h1, h2⟩ := hr
    refine ⟨h0, vs, ?_, fun k q v hq hv => RepP.mono h (h2 k q v hq hv)⟩
    rw [hg]
    obtain ⟨ho1, ho2⟩ := h1
    refine ⟨ho1, ?_⟩
    rcases ho2 with ho2 | ⟨g, cap, cur, hv, hg0, hh, r⟩
    · exact .inl ho2
    · refine .inr ⟨g, cap, cur, hv, hg0, ?_, r⟩
      rw [hb g (by simp at hv; simp [blk, hv.1])]; exact hh
end

/-- One object (or none) is turned, or comes anew; all else stays. -/
structure Turn (m : Nat → Option Obj) (gv : GV) (w : World) (d : Nat) (m' : Nat → Option Obj) (gv' : GV) (w' : World) : Prop where
  tape : w'.tape = w.tape
  os : w'.os = w.os
  output : w'.output = w.output
  size : w.heap.size ≤ w'.heap.size
  m_ne : ∀ id, id ≠ d → m' id = m id
  gv_ne : ∀ id, id ≠ d → gv' id = gv id
  heap : ∀ b, b < w.heap.size → (∀ o, m d = some o → blk gv d ≠ some b) → w'.heap[b]? = w.heap[b]?
  place : ∀ o' b, m' d = some o' → Go.AW.blk gv' d = some b → b < w'.heap.size ∧ ((∃ o, m d = some o ∧ Go.AW.blk gv d = some b) ∨ w.heap.size ≤ b)
  box : ∀ cs, m d = some (.box cs) → ∃ cs', m' d = some (.box cs') ∧ (gv' d).1 = (gv d).1
  sl : ∀ e xs, m d = some (.sl e xs) → ∃ xs', m' d = some (.sl e xs') ∧ xs.length ≤ xs'.length ∧ (xs'.length = xs.length → gv' d = gv d)

section
variable {T : Tab} {E : Env} {gv gv' : GV} {m m' : Nat → Option Obj} {w w' : World} {d : Nat}

theorem Turn.pers (ht : Turn m gv w d m' gv' w') : Pers m gv m' gv' := by
  refine ⟨fun id cs h => ?_, fun id e xs h => ?_⟩
  · by_cases hd : id = d
    · subst hd; exact ht.box cs h
    · exact ⟨cs, by rw [ht.m_ne id hd]; exact h, by rw [ht.gv_ne id hd]⟩
  · by_cases hd : id = d
    · subst hd; exact ht.sl e xs h
    · exact ⟨xs, by rw [ht.m_ne id hd]; exact h, Nat.le_refl _, fun _ => by rw [ht.gv_ne id hd]⟩

theorem Turn.imm (ht : Turn m gv w d m' gv' w') (b : Nat) (h : Imm E m gv w b) : Imm E m' gv' w' b ∧ w'.heap[b]? = w.heap[b]? := by
  obtain ⟨h1, h2, h3⟩ := h
  refine ⟨⟨h1, Nat.lt_of_lt_of_le h2 ht.size, fun id o hm hb => ?_⟩, ht.heap b h2 fun o hm => h3 d o hm⟩
  by_cases hd : id = d
  · subst hd
    rcases (ht.place o b hm hb).2 with ⟨o', hm', hb'⟩ | hlt
    · exact h3 id o' hm' hb'
    · omega
  · rw [ht.m_ne id hd] at hm
    have : blk gv id = some b := by unfold blk at hb ⊢; rw [ht.gv_ne id hd] at hb; exact hb
    exact h3 id o hm this

theorem RelM.turn (hr : RelM T E gv m w) (ht : Turn m gv w d m' gv' w') (hd : ∀ o, m' d = some o → RepO T w' (Imm E m' gv' w') m' gv' d o) : RelM T E gv' m' w' where
  tape := ht.tape.trans hr.tape
  os := ht.os.trans hr.os
  output := ht.output.trans hr.output
  size := Nat.le_trans hr.size ht.size
  keep := fun b hb hB => by
    rw [ht.heap b (Nat.lt_of_lt_of_le hb hr.size) (fun o hm hbk => ?_), hr.keep b hb hB]
    rcases (hr.own d o b hm hbk).2 with h | h
    · exact hB h
    · omega
  rep := fun id o hm => by
    by_cases hid : id = d
    · subst hid; exact hd o hm
    · rw [ht.m_ne id hid] at hm
      refine RepO.mono (fun b hb => ht.imm b hb) ht.pers (ht.gv_ne id hid) (fun b hb => ?_) (hr.rep id o hm)
      refine ht.heap b (hr.own id o b hm hb).1 (fun o' hm' hb' => hid (hr.inj id d o o' b hm hm' hb hb'))
  own := fun id o b hm hb => by
    by_cases hid : id = d
    · subst hid
      obtain ⟨h1, h2⟩ := ht.place o b hm hb
      refine ⟨h1, ?_⟩
      rcases h2 with ⟨o', hm', hb'⟩ | h2
      · exact (hr.own id o' b hm' hb').2
      · exact .inr (Nat.le_trans hr.size h2)
    · rw [ht.m_ne id hid] at hm
      have hb : blk gv id = some b := by unfold blk at hb ⊢; rw [ht.gv_ne id hid] at hb; exact hb
      obtain ⟨h1, h2⟩ := hr.own id o b hm hb
      exact ⟨Nat.lt_of_lt_of_le h1 ht.size, h2⟩
  inj := fun id id' o o' b hm hm' hb hb' => by
    have key : ∀ i p, i ≠ d → m' i = some p → blk gv' i = some b → blk gv' d = some b → (∃ o, m' d = some o) → False := by
      rintro i p hi hmi hbi hbd ⟨od, hod⟩
      rw [ht.m_ne i hi] at hmi
      have hbi : blk gv i = some b := by unfold blk at hbi ⊢; rw [ht.gv_ne i hi] at hbi; exact hbi
      rcases (ht.place od b hod hbd).2 with ⟨q, hq, hbq⟩ | hlt
      · exact hi (hr.inj i d p q b hmi hq hbi hbq)
      · have := (hr.own i p b hmi hbi).1; omega
    by_cases h1 : id = d
    · by_cases h2 : id' = d
      · rw [h1, h2]
      · subst h1; exact (key id' o' h2 hm' hb' hb ⟨o, hm⟩).elim
    · by_cases h2 : id' = d
      · subst h2; exact (key id o h1 hm hb hb' ⟨o', hm'⟩).elim
      · rw [ht.m_ne id h1] at hm
        rw [ht.m_ne id' h2] at hm'
        have hb : blk gv id = some b := by unfold blk at hb ⊢; rw [ht.gv_ne id h1] at hb; exact hb
        have hb' : blk gv id' = some b := by unfold blk at hb' ⊢; rw [ht.gv_ne id' h2] at hb'; exact hb'
        exact hr.inj id id' o o' b hm hm' hb hb'
  new := fun id o b hm hb => by
    by_cases hid : id = d
    · subst hid
      rcases (ht.place o b hm hb).2 with ⟨o', hm', hb'⟩ | h2
      · exact hr.new id o' b hm' hb'
      · exact .inl (Nat.le_trans hr.size h2)
    · rw [ht.m_ne id hid] at hm
      have hb : blk gv id = some b := by unfold blk at hb ⊢; rw [ht.gv_ne id hid] at hb; exact hb
      exact hr.new id o b hm hb
  pers := hr.pers.trans ht.pers

/-- The world has more blocks; nothing else. -/
theorem RelM.grow_turn (hr : RelM T E gv m w) (h1 : w'.tape = w.tape) (h2 : w'.os = w.os) (h3 : w'.output = w.output) (h4 : w.heap.size ≤ w'.heap.size)
    (h5 : ∀ b, b < w.heap.size → w'.heap[b]? = w.heap[b]?) : Turn m gv w 0 m gv w' :=
  ⟨h1, h2, h3, h4, fun _ _ => rfl, fun _ _ => rfl, fun b hb _ => h5 b hb, fun o b hm hb => ⟨Nat.lt_of_lt_of_le (hr.own 0 o b hm hb).1 h4, .inl ⟨o, hm, hb⟩⟩,
    fun cs h => ⟨cs, h, rfl⟩, fun e xs h => ⟨xs, h, Nat.le_refl _, fun _ => rfl⟩⟩
theorem RelM.grow (hr : RelM T E gv m w) (h1 : w'.tape = w.tape) (h2 : w'.os = w.os) (h3 : w'.output = w.output) (h4 : w.heap.size ≤ w'.heap.size)
    (h5 : ∀ b, b < w.heap.size → w'.heap[b]? = w.heap[b]?) : RelM T E gv m w' ∧ ∀ b, Imm E m gv w b → Imm E m gv w' b ∧ w'.heap[b]? = w.heap[b]? := by
  have ht := hr.grow_turn h1 h2 h3 h4 h5
  exact ⟨hr.turn ht fun o hm => RepO.mono (fun b hb => ht.imm b hb) ht.pers rfl (fun b hb => h5 b (hr.own 0 o b hm hb).1) (hr.rep 0 o hm), fun b hb => ht.imm b hb⟩
end
end Go.AW

/- Each abstract operation tells what the model's operation does. -/
set_option linter.unusedVariables false
set_option linter.unusedSimpArgs false
namespace Go.AW

/-- The value of a pure cell that leads nowhere. -/
def pvVal : PV → Value
  | .bool b => .bool b | .int k n => .int k n | .str s => .string s | .nilp => .pointer none | .nilsl => .slice none 0 0 | .nilf => .nilFunc
  | .func f => .func (.func f) #[] #[] | .slice _ => .slice none 0 0 | .nesl => .slice none 0 0

def simpleP : PV → Bool
  | .slice _ => false
  | .nesl => false
  | _ => true

def primP : PV → Bool
  | .bool _ | .int _ _ | .str _ => true
  | _ => false

def descOk : TD → TypeDesc → Prop
  | .bool, .bool => True | .int k, .int k' => k = k' | .str, .string => True | .ptr e, .pointer e' => e = e' | .sl e, .slice e' => e = e'
  | .arr n e, .array n' e' => n = n' ∧ e = e' | .struct fs, .struct fields => fields.toList.map (fun f => (f.offset, f.type)) = fs | .func, .func .. => True
  | _, _ => False

/-- What is to be known of a type whose values are compared as wholes. -/
def EqOk (P : Program) (t : Nat) (zero : List PV) : Prop :=
  ∀ (xs ys : List PV), likeL xs zero = true → likeL ys zero = true → ∀ (x y : Operand) (w : World),
    (do eqGuard .eql t x y (.agg (xs.map pvVal).toArray) (.agg (ys.map pvVal).toArray); binOp .eql t (.agg (xs.map pvVal).toArray) (.agg (ys.map pvVal).toArray)).run P w = .ok (.bool (eqLP xs ys)) w ∧
    (do eqGuard .neq t x y (.agg (xs.map pvVal).toArray) (.agg (ys.map pvVal).toArray); binOp .neq t (.agg (xs.map pvVal).toArray) (.agg (ys.map pvVal).toArray)).run P w = .ok (.bool (!(eqLP xs ys))) w

structure TyOk (P : Program) (t : Nat) (i : TI) : Prop where
  desc : ∃ ds, P.underlying t = some ds ∧ descOk i.d ds
  info : ∃ ti z, P.info? t = some ti ∧ ti.size = i.size ∧ ti.bytes = i.bytes ∧ ti.zero = some z ∧ z.cells.toList = i.zero.map pvVal
  simple : i.zero.all simpleP = true
  len : i.zero.length = i.size
  eq : i.eqok = true → EqOk P t i.zero

def TabOk (P : Program) (T : Tab) : Prop := ∀ t, (T t).d ≠ .other → TyOk P t (T t)

theorem repP_simple (w : World) (I : Nat → Prop) : ∀ q : PV, simpleP q = true → RepP w I q (pvVal q)
  | .bool b, _ => .bool b
  | .int k n, _ => .int k n
  | .str s, _ => .str s
  | .nilp, _ => .nilp
  | .nilsl, _ => .nilsl
  | .nilf, _ => .nilf
  | .func f, _ => .func f
  | .slice _, h => by simp [simpleP] at h
  | .nesl, h => by simp [simpleP] at h

theorem repP_prim {w : World} {I : Nat → Prop} {q : PV} {v : Value} (h : RepP w I q v) (hp : primP q = true) : v = pvVal q := by
  cases h <;> first | rfl | (simp [primP] at hp)

section
variable {P : Program} {T : Tab} (hT : TabOk P T)
include hT

theorem run_underlying_T {t : Nat} (h : (T t).d ≠ .other) : ∃ ds, descOk (T t).d ds ∧ P.underlying t = some ds ∧ ∀ w, (underlying t).run P w = .ok ds w := by
  obtain ⟨ds, h1, h2⟩ := (hT t h).desc
  exact ⟨ds, h2, h1, fun w => run_underlying h1 w⟩

theorem run_isAgg_T {t : Nat} (h : (T t).d ≠ .other) (w : World) : (isAgg t).run P w = .ok (T t).d.isAgg w := by
  obtain ⟨ds, h1, _, h2⟩ := run_underlying_T hT h
  simp only [isAgg, Sem.run_bind, h2, Result.andThen_ok]
  generalize (T t).d = d at *
  cases d <;> cases ds <;> simp_all [descOk, TD.isAgg]

theorem run_sizeOf_T {t : Nat} (h : (T t).d ≠ .other) (w : World) : (sizeOf t).run P w = .ok (T t).size w := by
  obtain ⟨ti, z, h1, h2, _⟩ := (hT t h).info
  simp [sizeOf, typeInfo, h1, h2]

theorem run_typeInfo_T {t : Nat} (h : (T t).d ≠ .other) : ∃ ti z, (∀ w, (typeInfo t).run P w = .ok ti w) ∧ P.info? t = some ti ∧ ti.size = (T t).size ∧ ti.bytes = (T t).bytes ∧ ti.zero = some z ∧ z.cells.toList = (T t).zero.map pvVal := by
  obtain ⟨ti, z, h1, h2⟩ := (hT t h).info
  exact ⟨ti, z, fun w => by simp [typeInfo, h1], h1, h2⟩

theorem run_zeroValue_T {t : Nat} (h : (T t).d ≠ .other) : ∃ z, (∀ w, (zeroValue t).run P w = .ok z w) ∧ z.cells.toList = (T t).zero.map pvVal := by
  obtain ⟨ti, z, h1, _, _, _, h4, h5⟩ := run_typeInfo_T hT h
  exact ⟨z, fun w => by simp [zeroValue, h1, h4], h5⟩

omit hT in
theorem cell_of_heap {w : World} {b off : Nat} {arr : Array Value} {e : TypeId} {fr : Nat × Nat} (hh : w.heap[b]? = some (.cells arr e fr)) : w.cell? ⟨b, off, none⟩ = arr[off]? := by
  simp [World.cell?, hh]

omit hT in
theorem add_none (b off k : Nat) : (⟨b, off, none⟩ : Addr).add k = ⟨b, off + k, none⟩ := by
  unfold Addr.add; split
  · subst_vars; rfl
  · rfl

theorem run_load_agg {t : Nat} (h : (T t).d ≠ .other) (ha : (T t).d.isAgg = true) {w : World} {b off : Nat} {arr : Array Value} {e : TypeId} {fr : Nat × Nat} (hh : w.heap[b]? = some (.cells arr e fr))
    (us : List Value) (hl : us.length = (T t).size) (hu : ∀ (k : Nat) u, us[k]? = some u → arr[off + k]? = some u) :
    (Instr.loadAt t (.pointer (some ⟨b, off, none⟩))).run P w = .ok (.agg us.toArray) w := by
  have := run_loadCells_list (P := P) w ⟨b, off, none⟩ us (fun j v hj => by rw [add_none, cell_of_heap hh]; exact hu j v hj)
  rw [hl] at this
  simp [Instr.loadAt, Instr.sureAddr, loadVar, run_isAgg_T hT h, ha, run_sizeOf_T hT h, this]

theorem run_load_one {t : Nat} (h : (T t).d ≠ .other) (ha : (T t).d.isAgg = false) {w : World} {b off : Nat} {arr : Array Value} {e : TypeId} {fr : Nat × Nat} (hh : w.heap[b]? = some (.cells arr e fr))
    (u : Value) (hu : arr[off]? = some u) : (Instr.loadAt t (.pointer (some ⟨b, off, none⟩))).run P w = .ok u w := by
  simp [Instr.loadAt, Instr.sureAddr, loadVar, run_isAgg_T hT h, ha, cell_of_heap hh, hu]
end

/-! ### Small laws on lists -/
theorem repL_drop {T : Tab} {w : World} {I : Nat → Prop} {m : Nat → Option Obj} {gv : GV} {cs : List Ce} {vs : List Value} (h : RepL T w I m gv cs vs) (k : Nat) : RepL T w I m gv (cs.drop k) (vs.drop k) :=
  ⟨by simp [h.1], fun i c v hc hv => h.2 (k + i) c v (by simpa [List.getElem?_drop] using hc) (by simpa [List.getElem?_drop] using hv)⟩
theorem repL_take {T : Tab} {w : World} {I : Nat → Prop} {m : Nat → Option Obj} {gv : GV} {cs : List Ce} {vs : List Value} (h : RepL T w I m gv cs vs) (k : Nat) : RepL T w I m gv (cs.take k) (vs.take k) := by
  refine ⟨by simp [h.1], fun i c v hc hv => ?_⟩
  rw [List.getElem?_take] at hc hv
  split at hc
  · rename_i hk
    rw [if_pos hk] at hv
    exact h.2 i c v hc hv
  · cases hc
theorem repL_append {T : Tab} {w : World} {I : Nat → Prop} {m : Nat → Option Obj} {gv : GV} {cs cs' : List Ce} {vs vs' : List Value} (h : RepL T w I m gv cs vs) (h' : RepL T w I m gv cs' vs') : RepL T w I m gv (cs ++ cs') (vs ++ vs') := by
  refine ⟨by simp [h.1, h'.1], fun i c v hc hv => ?_⟩
  rw [List.getElem?_append] at hc hv
  rw [h.1] at hv
  split at hc
  · rename_i hk
    rw [if_pos hk] at hv
    exact h.2 i c v hc hv
  · rename_i hk
    rw [if_neg hk] at hv
    exact h'.2 _ c v hc hv
theorem repL_nil {T : Tab} {w : World} {I : Nat → Prop} {m : Nat → Option Obj} {gv : GV} : RepL T w I m gv [] [] := ⟨rfl, fun k c v h => by simp at h⟩
theorem repL_cons {T : Tab} {w : World} {I : Nat → Prop} {m : Nat → Option Obj} {gv : GV} {c : Ce} {v : Value} {cs : List Ce} {vs : List Value} (h : RepC T w I m gv c v) (h' : RepL T w I m gv cs vs) : RepL T w I m gv (c :: cs) (v :: vs) := by
  refine ⟨by simp [h'.1], fun i c' v' hc hv => ?_⟩
  cases i with
  | zero => simp at hc hv; subst hc; subst hv; exact h
  | succ i => simp at hc hv; exact h'.2 i c' v' hc hv
theorem repL_splice {T : Tab} {w : World} {I : Nat → Prop} {m : Nat → Option Obj} {gv : GV} {cs new : List Ce} {vs us : List Value} (h : RepL T w I m gv cs vs) (h' : RepL T w I m gv new us) (k : Nat) :
    RepL T w I m gv (splice cs k new) (splice vs k us) := by
  unfold splice
  rw [h'.1]
  exact repL_append (repL_append (repL_take h k) h') (repL_drop h _)
theorem repL_p {T : Tab} {w : World} {I : Nat → Prop} {m : Nat → Option Obj} {gv : GV} {qs : List PV} {vs : List Value} (hl : vs.length = qs.length) (h : ∀ (k : Nat) q v, qs[k]? = some q → vs[k]? = some v → RepP w I q v) : RepL T w I m gv (qs.map .p) vs :=
  ⟨by simp [hl], fun k c v hc hv => by
    rw [List.getElem?_map] at hc
    cases hq : qs[k]? with
    | none => simp [hq] at hc
    | some q => simp [hq] at hc; subst hc; exact h k q v hq hv⟩
theorem pureL_map : ∀ {cs : List Ce} {qs : List PV}, pureL cs = some qs → cs = qs.map .p
  | [], qs, h => by simp [pureL] at h; subst h; rfl
  | .p x :: r, qs, h => by
    simp only [pureL, Option.map_eq_some_iff] at h
    obtain ⟨ys, h1, rfl⟩ := h
    simp [pureL_map h1]
  | .ptr _ _ :: _, _, h | .osl _ _ :: _, _, h | .oel _ _ _ _ :: _, _, h | .ip _ :: _, _, h | .bsl _ _ :: _, _, h => by simp [pureL] at h
theorem repL_one {T : Tab} {w : World} {I : Nat → Prop} {m : Nat → Option Obj} {gv : GV} {cs : List Ce} {vs : List Value} (h : RepL T w I m gv cs vs) : ∀ v ∈ vs, v.oneCell' = true := by
  intro v hv
  obtain ⟨k, hk, rfl⟩ := List.getElem_of_mem hv
  have hlt : k < cs.length := by rw [← h.1]; exact hk
  exact RepC.one (h.2 k cs[k] _ (by simp [hlt]) (by simp [hk]))

theorem flatten_len {α : Type} : ∀ (xs : List (List α)) (sz : Nat), (∀ x ∈ xs, x.length = sz) → xs.flatten.length = xs.length * sz
  | [], sz, _ => by simp
  | x :: r, sz, h => by
    simp only [List.flatten_cons, List.length_append, List.length_cons, flatten_len r sz (fun y hy => h y (by simp [hy])), h x (by simp), Nat.add_mul]
    omega
theorem flatten_get {α : Type} : ∀ (xs : List (List α)) (sz : Nat), (∀ x ∈ xs, x.length = sz) → ∀ (i j : Nat) (x : List α), xs[i]? = some x → j < sz → xs.flatten[i * sz + j]? = x[j]?
  | [], sz, _, i, j, x, h, _ => by simp at h
  | y :: r, sz, hz, i, j, x, h, hj => by
    have hy : y.length = sz := hz y (by simp)
    cases i with
    | zero =>
      simp at h; subst h
      simp only [List.flatten_cons, Nat.zero_mul, Nat.zero_add]
      rw [List.getElem?_append_left (by omega)]
    | succ i =>
      simp only [List.flatten_cons]
      rw [List.getElem?_append_right (by rw [hy, Nat.succ_mul]; omega)]
      have := flatten_get r sz (fun z hz' => hz z (by simp [hz'])) i j x (by simpa using h) hj
      rw [← this, hy]
      congr 1
      rw [Nat.succ_mul]; omega
theorem flatten_set {α : Type} : ∀ (xs : List (List α)) (sz : Nat), (∀ x ∈ xs, x.length = sz) → ∀ (i : Nat) (y : List α), i < xs.length → y.length = sz → (xs.set i y).flatten = splice xs.flatten (i * sz) y
  | [], sz, _, i, y, h, _ => by simp at h
  | x :: r, sz, hz, i, y, h, hy => by
    have hx : x.length = sz := hz x (by simp)
    cases i with
    | zero => simp [splice, List.set, hy, ← hx]
    | succ i =>
      have ih := flatten_set r sz (fun z hz' => hz z (by simp [hz'])) i y (by simpa using h) hy
      have e : (i + 1) * sz = x.length + i * sz := by rw [Nat.succ_mul, hx]; omega
      simp only [List.set_cons_succ, List.flatten_cons, ih, splice, e, List.take_length_add_append, Nat.add_assoc, List.drop_length_add_append, List.append_assoc]

theorem getElem?_splice {α : Type} (cs us : List α) (k j : Nat) (h : k + us.length ≤ cs.length) : (splice cs k us)[j]? = if j < k then cs[j]? else if j < k + us.length then us[j - k]? else cs[j]? := by
  unfold splice
  rw [List.append_assoc, List.getElem?_append, List.length_take, Nat.min_eq_left (by omega)]
  split
  · rename_i hj; rw [List.getElem?_take, if_pos hj]
  · rename_i hj
    rw [List.getElem?_append]
    split
    · rename_i hj2; rw [if_pos (by omega)]
    · rename_i hj2; rw [if_neg (by omega), List.getElem?_drop]; congr 1; omega
theorem length_splice {α : Type} (cs us : List α) (k : Nat) (h : k + us.length ≤ cs.length) : (splice cs k us).length = cs.length := by simp [splice]; omega
theorem take_splice {α : Type} (cs us : List α) (k n : Nat) (h : k + us.length ≤ n) (hn : n ≤ cs.length) : (splice cs k us).take n = splice (cs.take n) k us := by
  apply List.ext_getElem?
  intro j
  rw [List.getElem?_take, getElem?_splice _ _ _ _ (by omega), getElem?_splice _ _ _ _ (by rw [List.length_take]; omega)]
  simp only [List.getElem?_take]
  by_cases h1 : j < n
  · simp [h1]
  · simp [h1, show ¬ j < k by omega, show ¬ j < k + us.length by omega]
theorem splice_splice {α : Type} (xs : List (List α)) (sz i off : Nat) (r new : List α) (hz : ∀ x ∈ xs, x.length = sz) (hi : xs[i]? = some r) (h : off + new.length ≤ r.length) :
    splice xs.flatten (i * sz) (splice r off new) = splice xs.flatten (i * sz + off) new := by
  have hr : r.length = sz := hz r (List.mem_of_getElem? hi)
  have hlt : i < xs.length := (List.getElem?_eq_some_iff.1 hi).1
  have hle : i * sz + sz ≤ xs.length * sz := by
    have := Nat.mul_le_mul_right sz (show i + 1 ≤ xs.length from hlt)
    rwa [Nat.succ_mul] at this
  have hf := flatten_len xs sz hz
  apply List.ext_getElem?
  intro j
  have hs := length_splice r new off h
  rw [getElem?_splice xs.flatten (splice r off new) _ _ (by omega), getElem?_splice xs.flatten new _ _ (by omega), hs]
  by_cases c1 : j < i * sz
  · simp [c1, show j < i * sz + off by omega]
  · simp only [c1, if_false]
    by_cases c2 : j < i * sz + r.length
    · have hg := flatten_get xs sz hz i (j - i * sz) r hi (by omega)
      rw [show i * sz + (j - i * sz) = j by omega] at hg
      rw [if_pos c2, getElem?_splice _ _ _ _ h, hg]
      by_cases c3 : j < i * sz + off
      · simp [c3, show j - i * sz < off by omega]
      · simp only [c3, if_false, show ¬ j - i * sz < off by omega]
        by_cases c4 : j < i * sz + off + new.length
        · simp [c4, show j - i * sz < off + new.length by omega, Nat.sub_add_eq]
        · simp [c4, show ¬ j - i * sz < off + new.length by omega]
    · simp [c2, show ¬ j < i * sz + off by omega, show ¬ j < i * sz + off + new.length by omega]
end Go.AW

/- The soundness of the abstract operations, one by one. -/
set_option linter.unusedVariables false
set_option linter.unusedSimpArgs false
namespace Go.AW

def mOf (M : List (Nat × Obj)) (id : Nat) : Option Obj := (M.find? (fun x => x.1 == id)).map (·.2)

/-- What a contract means. -/
def ConSem (P : Program) (T : Tab) : Con := fun f args M r M' =>
  (∃ fn, P.funcs[f]? = some fn ∧ fn.body.isSome = true ∧ (fn.name == "runtime.NumGoroutine") = false) ∧ ∀ (w : World) (gv : GV) (J : Nat → Prop) (vs : Array Value) (hJ : ∀ b, J b → b < w.heap.size ∧ ¬ ∃ id o, mOf M id = some o ∧ blk gv id = some b),
    RelM T ⟨w, mOf M, gv, J, fun b => ∃ id o, mOf M id = some o ∧ blk gv id = some b, hJ⟩ gv (mOf M) w →
    vs.size = args.length → (∀ (k : Nat) a v, args[k]? = some a → vs[k]? = some v → RepV T w J (mOf M) gv a v) →
    Calls P f vs w (fun e w' => ∃ v gv', e = .returned v ∧
      RelM T ⟨w, mOf M, gv, J, fun b => ∃ id o, mOf M id = some o ∧ blk gv id = some b, hJ⟩ gv' (mOf M') w' ∧
      RepV T w' (Imm ⟨w, mOf M, gv, J, fun b => ∃ id o, mOf M id = some o ∧ blk gv id = some b, hJ⟩ (mOf M') gv' w') (mOf M') gv' r v)

section
variable {P : Program} {T : Tab} {E : Env} {N : Nat} {gv : GV} {σ : St} {a : Act} {w : World}

theorem ofConst_rep {I : Nat → Prop} {m : Nat → Option Obj} (v : Value) : RepV T w I m gv (ofConst v) v := by
  unfold ofConst
  split
  · exact RepP.bool _
  · exact RepP.int _ _
  · exact RepP.str _
  · exact RepP.nilp
  · exact RepP.nilsl
  · exact RepP.nilf
  · split
    · rename_i cs h
      refine ⟨cs, rfl, by simp, fun k c v hc hv => ?_⟩
      rw [List.getElem?_map, hv] at hc
      simp at hc; subst hc
      have : okCell v = true := List.all_eq_true.1 h v (List.mem_of_getElem? hv)
      unfold ofCell
      split
      · exact RepP.bool _
      · exact RepP.int _ _
      · exact RepP.str _
      · exact RepP.nilp
      · exact RepP.nilsl
      · rename_i h1 h2 h3 h4 h5
        unfold okCell at this
        split at this <;> simp_all
        exact RepP.nilf
    · trivial
  · trivial

/-- An operand's value, abstractly. -/
def St.ev (σ : St) : Operand → V
  | .tmp t => σ.t t
  | .const v => ofConst v
  | .func f => .one (.p (.func f))
  | .global _ => .undef

theorem ev_rep (hr : RelG T E N gv σ a w) (o : Operand) : RepV T w (Imm E σ.m gv w) σ.m gv (σ.ev o) (a.eval o) := by
  cases o with
  | tmp t => exact hr.t t
  | const v => exact ofConst_rep v
  | func f => exact RepP.func f
  | global g => trivial

theorem run_evR {C : Con} {α : Type} {o : Operand} {k : V → Rd α} {x : α} {fp : List Loc} (h : Run C (evR o k) σ x fp) : ∃ fp', Run C (k (σ.ev o)) σ x fp' := by
  cases o with
  | tmp t => obtain ⟨fp', _, h⟩ := h; exact ⟨fp', h⟩
  | const v => exact ⟨fp, h⟩
  | func f => exact ⟨fp, h⟩
  | global g => exact ⟨fp, h⟩

theorem run_evL {C : Con} {α : Type} : ∀ {l : List Operand} {k : List V → Rd α} {x : α} {fp : List Loc}, Run C (evL l k) σ x fp → ∃ fp', Run C (k (l.map σ.ev)) σ x fp'
  | [], k, x, fp, h => ⟨fp, h⟩
  | o :: r, k, x, fp, h => by
    obtain ⟨fp1, h1⟩ := run_evR h
    obtain ⟨fp2, h2⟩ := run_evL h1
    exact ⟨fp2, h2⟩

theorem run_partR {C : Con} {α : Type} {t : Nat} {cs : List Ce} {off : Nat} {k : V → Rd α} {x : α} {fp : List Loc} (h : Run C (partR T t cs off k) σ x fp) :
    (T t).d ≠ .other ∧ (((T t).d.isAgg = true ∧ off + (T t).size ≤ cs.length ∧ Run C (k (.agg ((cs.drop off).take (T t).size))) σ x fp) ∨
      ((T t).d.isAgg = false ∧ ∃ c, cs[off]? = some c ∧ Run C (k (.one c)) σ x fp)) := by
  unfold partR at h
  split at h
  · exact h.elim
  · rename_i hd; rw [hd]; exact ⟨by simp, .inl ⟨rfl, h.1, h.2⟩⟩
  · rename_i hd; rw [hd]; exact ⟨by simp, .inl ⟨rfl, h.1, h.2⟩⟩
  · rename_i h1 h2 h3
    refine ⟨h1, .inr ⟨?_, h⟩⟩
    generalize (T t).d = d at *
    cases d <;> simp_all [TD.isAgg]

/-! The ends: what follows an operation. -/
theorem wp_value {o : Oper} {Q : Exit → Act → World → Prop} {next : Act → World → Prop} {v : Value} {w' : World} (h : (execOp a.eval o).run P w = .ok (.value v) w') (hn : next (a.put o.dst v) w') : o.wp P a w next Q := by
  unfold Oper.wp; rw [h]; exact hn
theorem wp_skip' {o : Oper} {Q : Exit → Act → World → Prop} {next : Act → World → Prop} {w' : World} (h : (execOp a.eval o).run P w = .ok .skip w') (hn : next (a.put o.dst undef) w') : o.wp P a w next Q := by
  unfold Oper.wp; rw [h]; exact hn

theorem put_get {dst : Option Nat} {v : Value} (hn : a.tmps.size = N) (hd : ∀ d, dst = some d → d < N) (i : Nat) :
    (a.put dst v).tmps.getD i undef = if dst = some i then v else a.tmps.getD i undef := by
  cases dst with
  | none => simp [Act.put]
  | some d =>
    have := hd d rfl
    simp only [Act.put, Option.some.injEq]
    by_cases h : d = i
    · subst h; simp [Array.getD, hn, this]
    · simp only [Array.getD_eq_getD_getElem?, Array.getElem?_setIfInBounds, h, if_false]

theorem RelG.put_turn {gv' : GV} {m' : Nat → Option Obj} {w' : World} {d : Nat} (hr : RelG T E N gv σ a w) (ht : Turn σ.m gv w d m' gv' w')
    (hd : ∀ o, m' d = some o → RepO T w' (Imm E m' gv' w') m' gv' d o) {dst : Option Nat} (hdst : ∀ i, dst = some i → i < N) {v : V} {u : Value} (hv : RepV T w' (Imm E m' gv' w') m' gv' v u) :
    RelG T E N gv' { t := putT σ.t dst v, m := m' } (a.put dst u) w' where
  toRelM := hr.toRelM.turn ht hd
  defers := by cases dst <;> exact hr.defers
  n := by cases dst <;> simp [Act.put, hr.n]
  t := fun i => by
    rw [put_get hr.n hdst]
    cases dst with
    | none => simp only [reduceCtorEq, if_false, putT]; exact RepV.mono (fun b hb => ht.imm b hb) ht.pers (hr.t i)
    | some k =>
      simp only [Option.some.injEq, upd, putT]
      by_cases h : k = i
      · subst h; simp only [if_true]; exact hv
      · rw [if_neg h, if_neg (fun e => h e.symm)]; exact RepV.mono (fun b hb => ht.imm b hb) ht.pers (hr.t i)

theorem RelG.put_grow {w' : World} (hr : RelG T E N gv σ a w) (h1 : w'.tape = w.tape) (h2 : w'.os = w.os) (h3 : w'.output = w.output) (h4 : w.heap.size ≤ w'.heap.size)
    (h5 : ∀ b, b < w.heap.size → w'.heap[b]? = w.heap[b]?) {dst : Option Nat} (hdst : ∀ i, dst = some i → i < N) {v : V} {u : Value} (hv : RepV T w' (Imm E σ.m gv w') σ.m gv v u) :
    RelG T E N gv (σ.app dst ⟨v, []⟩) (a.put dst u) w' := by
  have ht := hr.toRelM.grow_turn h1 h2 h3 h4 h5
  exact hr.put_turn ht (fun o hm => RepO.mono (fun b hb => ht.imm b hb) ht.pers rfl (fun b hb => h5 b (hr.own 0 o b hm hb).1) (hr.rep 0 o hm)) hdst hv

theorem RelG.put (hr : RelG T E N gv σ a w) {dst : Option Nat} (hdst : ∀ i, dst = some i → i < N) {v : V} {u : Value} (hv : RepV T w (Imm E σ.m gv w) σ.m gv v u) :
    RelG T E N gv (σ.app dst ⟨v, []⟩) (a.put dst u) w := hr.put_grow rfl rfl rfl (Nat.le_refl _) (fun _ _ => rfl) hdst hv

/-- What is to be shown of an operation. -/
def Sound (P : Program) (T : Tab) (E : Env) (N : Nat) (σ : St) (a : Act) (w : World) (o : Oper) (wr : Wr) : Prop :=
  ∀ (next : Act → World → Prop) (Q : Exit → Act → World → Prop), (∀ gv' a' w', RelG T E N gv' (σ.app o.dst wr) a' w' → next a' w') → o.wp P a w next Q

theorem sound_value {o : Oper} {v : V} {u : Value} (hr : RelG T E N gv σ a w) (hdst : ∀ i, o.dst = some i → i < N) (h : (execOp a.eval o).run P w = .ok (.value u) w)
    (hv : RepV T w (Imm E σ.m gv w) σ.m gv v u) : Sound P T E N σ a w o ⟨v, []⟩ :=
  fun next Q hn => wp_value h (hn _ _ _ (hr.put hdst hv))

theorem sound_move {o : Oper} {x : Operand} (hr : RelG T E N gv σ a w) (hdst : ∀ i, o.dst = some i → i < N) (ho : o.op = .move x ∨ o.op = .assign x) : Sound P T E N σ a w o ⟨σ.ev x, []⟩ :=
  sound_value hr hdst (by rcases ho with h | h <;> simp [execOp, h] <;> rfl) (ev_rep hr x)

variable (hT : TabOk P T)
include hT

theorem load_rep {t : Nat} {x : V} {u : Value} {wr : Wr} {fp : List Loc} {C : Con} (hr : RelG T E N gv σ a w) (he : RepV T w (Imm E σ.m gv w) σ.m gv x u)
    (h : Run C (loadR T t x) σ wr fp) : ∃ ad r, u = .pointer (some ad) ∧ (Instr.loadAt t u).run P w = .ok r w ∧ RepV T w (Imm E σ.m gv w) σ.m gv wr.v r ∧ wr.ms = [] := by
  -- the cells behind a pointer, and what they stand for
  have key : ∀ (b off : Nat) (arr : Array Value) (e : TypeId) (fr : Nat × Nat) (cs : List Ce) (k : Nat) (vs : List Value) (fp' : List Loc), u = .pointer (some ⟨b, off + k, none⟩) → w.heap[b]? = some (.cells arr e fr) →
      RepL T w (Imm E σ.m gv w) σ.m gv cs vs → (∀ (j : Nat) u, vs[j]? = some u → arr[off + j]? = some u) → Run C (partR T t cs k fun v => .ret ⟨v, []⟩) σ wr fp' →
      ∃ ad r, u = .pointer (some ad) ∧ (Instr.loadAt t u).run P w = .ok r w ∧ RepV T w (Imm E σ.m gv w) σ.m gv wr.v r ∧ wr.ms = [] := by
    intro b off arr e fr cs k vs fp' hx hh hl hc hp
    subst hx
    obtain ⟨hd, hp⟩ := run_partR hp
    rcases hp with ⟨hagg, hlen, hrun⟩ | ⟨hagg, c, hcs, hrun⟩
    · obtain ⟨rfl, rfl⟩ := hrun
      have hl2 := repL_take (repL_drop hl k) (T t).size
      have := run_load_agg hT hd hagg hh (off := off + k) ((vs.drop k).take (T t).size) (by have := hl.1; simp; omega) (fun j u hj => by
        rw [List.getElem?_take] at hj
        split at hj
        · rw [List.getElem?_drop] at hj
          have := hc (k + j) u hj
          rwa [← Nat.add_assoc] at this
        · cases hj)
      exact ⟨_, .agg ((vs.drop k).take (T t).size).toArray, rfl, this, ⟨_, rfl, by simpa using hl2⟩, rfl⟩
    · obtain ⟨rfl, rfl⟩ := hrun
      have hlt : k < vs.length := by
        rw [hl.1]
        exact (List.getElem?_eq_some_iff.1 hcs).1
      have hv : vs[k]? = some vs[k] := by simp [hlt]
      have := run_load_one hT hd hagg hh (off := off + k) vs[k] (hc k _ hv)
      exact ⟨_, vs[k], rfl, this, hl.2 k c _ hcs hv, rfl⟩
  unfold loadR at h
  split at h
  · rename_i id off
    obtain ⟨fp', rfl, h⟩ := h
    obtain ⟨b, cs, h1, h2, h3⟩ := he
    simp only [h1] at h
    obtain ⟨b', arr, e, h4, h5, h6⟩ := hr.rep id _ h1
    have : b' = b := by rw [h2] at h4; simp at h4; exact h4.symm
    subst this
    exact key b' 0 arr e (0, 0) cs off arr.toList fp' (by simpa using h3) h5 h6 (fun j u hj => by simpa using hj) h
  · rename_i cs
    obtain ⟨b, off, arr, e, fr, vs, h1, h2, h3, h4, h5, h6⟩ := he
    exact key b off arr e fr (cs.map .p) 0 vs fp (by simpa using h1) h3 (repL_p h5 h6) h4 h
  · rename_i id n i off
    obtain ⟨fp', rfl, h⟩ := h
    obtain ⟨h0, e, xs, h1, h2, h3⟩ := he
    simp only [h1] at h
    obtain ⟨hn, r, hxi, h⟩ := h
    obtain ⟨b, h4, h5⟩ := h3 hn
    obtain ⟨hz, vs, ⟨ho1, ho2⟩, hvs⟩ := hr.rep id _ h1
    rcases ho2 with ⟨hnil, _⟩ | ⟨g, cap, cur, hv, _, hh, hcap, _, hsz, htake⟩
    · rw [h4] at hnil; simp at hnil
    · rw [h4] at hv; simp at hv
      obtain ⟨rfl, rfl⟩ := hv
      have hi : i < xs.length := (List.getElem?_eq_some_iff.1 hxi).1
      have hrl : r.length = (T e).size := hz r (List.mem_of_getElem? hxi)
      refine key b (i * (T e).size) cur e (0, 0) (r.map .p) off ((vs.drop (i * (T e).size)).take (T e).size) fp' h5 hh ?_ ?_ h
      · have hvl : vs.length = xs.length * (T e).size := ho1
        have hle : i * (T e).size + (T e).size ≤ xs.length * (T e).size := by
          have := Nat.mul_le_mul_right (T e).size (show i + 1 ≤ xs.length from hi)
          rwa [Nat.succ_mul] at this
        refine repL_p (by simp; omega) (fun k q v hq hv => ?_)
        rw [List.getElem?_take] at hv
        split at hv
        · rename_i hk
          rw [List.getElem?_drop] at hv
          exact hvs (i * (T e).size + k) q v (by rw [flatten_get xs (T e).size hz i k r hxi hk]; exact hq) hv
        · cases hv
      · intro j u hj
        rw [List.getElem?_take] at hj
        split at hj
        · rw [List.getElem?_drop, ← htake, List.getElem?_take] at hj
          split at hj
          · simpa using hj
          · cases hj
        · cases hj
  · exact h.elim

theorem sound_load {o : Oper} {t : Nat} {x : Operand} {wr : Wr} {fp : List Loc} {C : Con} (hr : RelG T E N gv σ a w) (hdst : ∀ i, o.dst = some i → i < N) (ho : o.op = .load t x)
    (h : Run C (loadR T t (σ.ev x)) σ wr fp) : Sound P T E N σ a w o wr := by
  obtain ⟨ad, r, h1, h2, h3, h4⟩ := load_rep (P := P) hT hr (ev_rep hr x) h
  obtain ⟨v, ms⟩ := wr
  simp only at h4
  subst h4
  exact sound_value hr hdst (u := r) (by simp [execOp, ho, h2]) h3
end
end Go.AW

/- The soundness of the abstract operations: new memory, stores, comparisons, places. -/
set_option linter.unusedVariables false
set_option linter.unusedSimpArgs false
namespace Go.AW

section
variable {P : Program} {T : Tab} {E : Env} {N : Nat} {gv : GV} {σ : St} {a : Act} {w : World}

theorem heap_alloc_new (w : World) (o : Go.Obj) : (w.alloc o).heap[w.heap.size]? = some o := by
  show (w.heap.push o)[w.heap.size]? = some o
  simp
theorem heap_alloc_old (w : World) (o : Go.Obj) (b : Nat) (h : b < w.heap.size) : (w.alloc o).heap[b]? = w.heap[b]? := by
  show (w.heap.push o)[b]? = _
  rw [Array.getElem?_push, if_neg (by omega)]

/-- A new block under a new name. -/
theorem turn_new {d : Nat} (hm : σ.m d = none) (obj : Obj) (cap : Nat) (o : Go.Obj) :
    Turn σ.m gv w d (upd σ.m d (some obj)) (upd gv d (some ⟨w.heap.size, 0, none⟩, cap)) (w.alloc o) where
  tape := rfl
  os := rfl
  output := rfl
  size := by simp
  m_ne := fun id h => by simp [upd, h]
  gv_ne := fun id h => by simp [upd, h]
  heap := fun b hb _ => heap_alloc_old w o b hb
  place := fun o' b _ h => by simp [blk, upd] at h; subst h; exact ⟨by simp, .inr (Nat.le_refl _)⟩
  box := fun cs h => by rw [hm] at h; cases h
  sl := fun e xs h => by rw [hm] at h; cases h

theorem sound_new_box {o : Oper} {d : Nat} {cs : List Ce} {arr : Array Value} {e : TypeId} (hr : RelG T E N gv σ a w) (hd : o.dst = some d) (hdN : d < N) (hm : σ.m d = none)
    (h : (execOp a.eval o).run P w = .ok (.value (.pointer (some ⟨w.heap.size, 0, none⟩))) (w.alloc (.cells arr e)))
    (hl : RepL T w (Imm E σ.m gv w) σ.m gv cs arr.toList) : Sound P T E N σ a w o ⟨.one (.ptr d 0), [(d, .box cs)]⟩ := by
  intro next Q hn
  refine wp_value h (hn (upd gv d (some ⟨w.heap.size, 0, none⟩, 0)) _ _ ?_)
  have ht := turn_new (gv := gv) (w := w) hm (.box cs) 0 (.cells arr e)
  have := hr.put_turn ht (fun ob hob => ?_) (dst := o.dst) (by rw [hd]; rintro i ⟨⟩; exact hdN) (v := .one (.ptr d 0)) (u := .pointer (some ⟨w.heap.size, 0, none⟩)) ?_
  · exact this
  · simp [upd] at hob; subst hob
    exact ⟨w.heap.size, arr, e, by simp [upd], heap_alloc_new _ _, RepL.mono (fun b hb => ht.imm b hb) ht.pers hl⟩
  · exact ⟨w.heap.size, cs, by simp [upd], by simp [upd], rfl⟩

theorem sound_box {o : Oper} {e : Nat} {x : Operand} {wr : Wr} {fp : List Loc} {C : Con} (hr : RelG T E N gv σ a w) (hdst : ∀ i, o.dst = some i → i < N) (ho : o.op = .box e x)
    (h : Run C (boxR o.dst (σ.ev x)) σ wr fp) : Sound P T E N σ a w o wr := by
  have he := ev_rep hr x
  unfold boxR at h
  split at h
  · rename_i d cs hd hc
    obtain ⟨fp', rfl, h⟩ := h
    cases hm : σ.m d with
    | some ob => simp [hm, Run] at h
    | none =>
      simp only [hm] at h
      obtain ⟨rfl, _⟩ := h
      have hrun : (execOp a.eval o).run P w = .ok (.value (.pointer (some ⟨w.heap.size, 0, none⟩))) (w.alloc (.cells (a.eval x).cells e)) := by
        simp [execOp, ho, Instr.box, newVar, newRow]
      refine sound_new_box hr hd (hdst d hd) hm hrun ?_
      unfold cellsV at hc
      split at hc
      · rename_i c hx; rw [hx] at he; simp at hc; subst hc
        have h1 := RepC.one he
        have : (a.eval x).cells = #[a.eval x] := by cases hv : a.eval x <;> simp_all [Value.cells, Value.oneCell']
        rw [this]
        exact repL_cons he repL_nil
      · rename_i cs' hx; rw [hx] at he; simp at hc; subst hc
        obtain ⟨arr, h1, h2⟩ := he
        rw [h1]; exact h2
      · cases hc
  · exact h.elim

/-- What may stand in a constant place. -/
theorem cells_rep {v : V} {u : Value} {cs : List Ce} {I : Nat → Prop} {m : Nat → Option Obj} (he : RepV T w I m gv v u) (hc : cellsV v = some cs) : RepL T w I m gv cs u.cells.toList := by
  unfold cellsV at hc
  split at hc
  · simp at hc; subst hc
    have h1 := RepC.one he
    have : u.cells = #[u] := by cases u <;> simp_all [Value.cells, Value.oneCell']
    rw [this]
    exact repL_cons he repL_nil
  · simp at hc; subst hc
    obtain ⟨arr, h1, h2⟩ := he
    rw [h1]; exact h2
  · cases hc

variable (hT : TabOk P T)
include hT

theorem zero_repL {e : Nat} (hne : (T e).d ≠ .other) {z : Value} (hz : z.cells.toList = (T e).zero.map pvVal) {I : Nat → Prop} {m : Nat → Option Obj} : RepL T w I m gv ((T e).zero.map .p) z.cells.toList := by
  rw [hz]
  refine repL_p (by simp) (fun k q v hq hv => ?_)
  rw [List.getElem?_map, hq] at hv
  simp at hv; subst hv
  exact repP_simple w I q (List.all_eq_true.1 (hT e hne).simple q (List.mem_of_getElem? hq))

theorem sound_alloc {o : Oper} {e : Nat} {wr : Wr} {fp : List Loc} {C : Con} (hr : RelG T E N gv σ a w) (hdst : ∀ i, o.dst = some i → i < N) (ho : o.op = .alloc e)
    (h : Run C (allocR T o.dst e) σ wr fp) : Sound P T E N σ a w o wr := by
  unfold allocR at h
  split at h
  · rename_i d hd
    obtain ⟨fp', rfl, h⟩ := h
    cases hm : σ.m d with
    | some ob => simp [hm, Run] at h
    | none =>
      simp only [hm] at h
      obtain ⟨hne, rfl, _⟩ := h
      obtain ⟨z, hz, hzc⟩ := run_zeroValue_T hT hne
      have hrun : (execOp a.eval o).run P w = .ok (.value (.pointer (some ⟨w.heap.size, 0, none⟩))) (w.alloc (.cells z.cells e)) := by
        simp [execOp, ho, Instr.alloc, hz, newVar, newRow]
      exact sound_new_box hr hd (hdst d hd) hm hrun (zero_repL hT hne hzc)
  · exact h.elim

omit hT in
theorem list_of_splice {arr : Array Value} {k : Nat} {us : List Value} (h : k + us.length ≤ arr.size) : (splice arr.toList k us).length = arr.size := by
  simp [splice]; omega

theorem sound_store {o : Oper} {t : Nat} {x y : Operand} {wr : Wr} {fp : List Loc} {C : Con} (hr : RelG T E N gv σ a w) (hdst : ∀ i, o.dst = some i → i < N) (ho : o.op = .store t x y)
    (h : Run C (storeR T t (σ.ev x) (σ.ev y)) σ wr fp) : Sound P T E N σ a w o wr := by
  have hx := ev_rep hr x
  have hy := ev_rep hr y
  -- the store itself
  have hst : (T t).d ≠ .other → ∀ (b k : Nat) (arr : Array Value) (e : TypeId), a.eval x = .pointer (some ⟨b, k, none⟩) → w.heap[b]? = some (.cells arr e (0, 0)) → (a.eval y).cells.size = (T t).size → k + (a.eval y).cells.size ≤ arr.size →
      (∀ v ∈ (a.eval y).cells.toList, v.oneCell' = true) → (execOp a.eval o).run P w = .ok .skip (w.setRow b (splice arr.toList k (a.eval y).cells.toList).toArray) := by
    intro hne b k arr e hp hh hs hk h1
    have := run_storeCells_at P b k e (a.eval y).cells.toList 0 arr w hh (by simpa using hk) h1
    simp only [Nat.add_zero] at this
    simp only [execOp, ho, Instr.storeAt, hp, Instr.sureAddr, storeVar, Sem.run_bind, Sem.run_pure, Result.andThen_ok, run_sizeOf_T hT hne, hs, ne_eq, not_true_eq_false, if_false]
    simp [this, splice]
  -- a row turned at one object's block
  have hturn : ∀ (id b : Nat) (obj obj' : Obj) (arr : Array Value) (e : TypeId) (new : Array Value), σ.m id = some obj → (gv id).1 = some ⟨b, 0, none⟩ → w.heap[b]? = some (.cells arr e (0, 0)) →
      (∀ cs, obj = .box cs → ∃ cs', obj' = .box cs') → (∀ e xs, obj = .sl e xs → ∃ xs', obj' = .sl e xs' ∧ xs'.length = xs.length) →
      Turn σ.m gv w id (upd σ.m id (some obj')) gv (w.setRow b new) := by
    intro id b obj obj' arr e new hm hg hh hbox hsl
    refine ⟨rfl, rfl, rfl, by simp, fun i hi => by simp [upd, hi], fun _ _ => rfl, fun b' hb' hno => ?_, fun o' b' ho' hb' => ?_, fun cs hcs => ?_, fun e' xs hxs => ?_⟩
    · refine setRow_other w b b' new (fun e => hno obj hm ?_)
      simp [blk, hg, e]
    · have : b' = b := by simp [blk, hg] at hb'; exact hb'.symm
      subst this
      exact ⟨by simp; exact (Array.getElem?_eq_some_iff.1 hh).1, .inl ⟨obj, hm, hb'⟩⟩
    · rw [hm] at hcs; simp at hcs
      obtain ⟨cs', h'⟩ := hbox cs hcs
      exact ⟨cs', by simp [upd, h'], rfl⟩
    · rw [hm] at hxs; simp at hxs
      obtain ⟨xs', h', hl'⟩ := hsl e' xs hxs
      exact ⟨xs', by simp [upd, h'], by omega, fun _ => rfl⟩
  unfold storeR at h
  split at h
  · rename_i id off new hxv hnew
    rw [hxv] at hx
    obtain ⟨b, cs, h1, h2, h3⟩ := hx
    obtain ⟨fp', rfl, h⟩ := h
    simp only [h1] at h
    obtain ⟨⟨hne, hl, hle⟩, rfl, _⟩ := h
    obtain ⟨b', arr, e, h4, h5, h6⟩ := hr.rep id _ h1
    have : b' = b := by rw [h2] at h4; simp at h4; exact h4.symm
    subst this
    have hcr := cells_rep hy hnew
    have hcl : (a.eval y).cells.size = new.length := by have := hcr.1; simpa using this
    have hal : arr.size = cs.length := by have := h6.1; simpa using this
    have hrun := hst hne b' off arr e h3 h5 (by omega) (by omega) (repL_one hcr)
    have ht := hturn id b' _ (.box (splice cs off new)) arr e (splice arr.toList off (a.eval y).cells.toList).toArray h1 h2 h5 (fun cs _ => ⟨_, rfl⟩) (fun e xs h => by cases h)
    intro next Q hn
    refine wp_skip' hrun (hn gv _ _ ?_)
    have := hr.put_turn ht (fun ob hob => ?_) (dst := o.dst) hdst (v := .undef) (u := undef) trivial
    · exact this
    · simp [upd] at hob; subst hob
      refine ⟨b', _, e, h2, setRow_heap w b' arr _ e (0, 0) h5, ?_⟩
      simpa using RepL.mono (fun b hb => ht.imm b hb) ht.pers (repL_splice h6 hcr off)
  · rename_i id n i off new hxv hnew
    rw [hxv] at hx
    split at h
    · rename_i new' hpure
      have hnn := pureL_map hpure
      subst hnn
      obtain ⟨h0, e, xs, h1, h2, h3⟩ := hx
      obtain ⟨fp', rfl, h⟩ := h
      simp only [h1] at h
      obtain ⟨hn', r, hxi, ⟨hne, hl, hle⟩, rfl, _⟩ := h
      obtain ⟨b, h4, h5⟩ := h3 hn'
      obtain ⟨hz, vs, ⟨ho1, ho2⟩, hvs⟩ := hr.rep id _ h1
      rcases ho2 with ⟨hnil, _⟩ | ⟨g, cap, cur, hv, _, hh, hcap, hmax, hsz, htake⟩
      · rw [h4] at hnil; simp at hnil
      rw [h4] at hv; simp at hv
      obtain ⟨rfl, rfl⟩ := hv
      have hi : i < xs.length := (List.getElem?_eq_some_iff.1 hxi).1
      have hrl : r.length = (T e).size := hz r (List.mem_of_getElem? hxi)
      have hcr := cells_rep hy hnew
      have hcl : (a.eval y).cells.size = new'.length := by have := hcr.1; simpa using this
      have hle2 : i * (T e).size + (T e).size ≤ xs.length * (T e).size := by
        have := Nat.mul_le_mul_right (T e).size (show i + 1 ≤ xs.length from hi)
        rwa [Nat.succ_mul] at this
      have hle3 : xs.length * (T e).size ≤ (gv id).2 * (T e).size := Nat.mul_le_mul_right _ hcap
      have hrun := hst hne b (i * (T e).size + off) cur e h5 hh (by omega) (by omega) (repL_one hcr)
      have ht := hturn id b _ (.sl e (xs.set i (splice r off new'))) cur e (splice cur.toList (i * (T e).size + off) (a.eval y).cells.toList).toArray h1 h4 hh (fun cs h => by cases h)
        (fun e xs h => by cases h; exact ⟨_, rfl, by simp⟩)
      intro next Q hn
      refine wp_skip' hrun (hn gv _ _ ?_)
      have := hr.put_turn ht (fun ob hob => ?_) (dst := o.dst) hdst (v := .undef) (u := undef) trivial
      · exact this
      · simp [upd] at hob; subst hob
        have hslen : (splice r off new').length = (T e).size := by simp [splice]; omega
        refine ⟨fun x hx => ?_, splice vs (i * (T e).size + off) (a.eval y).cells.toList, ⟨?_, .inr ⟨b, (gv id).2, _, ?_, Nat.zero_le _, setRow_heap w b cur _ e (0, 0) hh, ?_, hmax, ?_, ?_⟩⟩, ?_⟩
        · rcases List.mem_or_eq_of_mem_set hx with hx | hx
          · exact hz x hx
          · rw [hx]; exact hslen
        · have : vs.length = xs.length * (T e).size := ho1
          simp [splice]; omega
        · rw [h4]
        · simpa using hcap
        · simp [splice]; omega
        · have hvl : vs.length = xs.length * (T e).size := ho1
          have hclL : (a.eval y).cells.toList.length = new'.length := by simpa using hcl
          rw [← htake]
          simp only [List.length_set]
          exact take_splice _ _ _ _ (by omega) (by simp; omega)
        · intro k q v hq hv
          have hflat : (xs.set i (splice r off new')).flatten = splice xs.flatten (i * (T e).size + off) new' := by
            rw [flatten_set xs (T e).size hz i _ hi hslen]
            exact splice_splice xs (T e).size i off r new' hz hxi hle
          rw [hflat] at hq
          have hfl := flatten_len xs (T e).size hz
          have hvl : vs.length = xs.length * (T e).size := ho1
          have hp1 : RepL T w (Imm E σ.m gv w) σ.m gv (xs.flatten.map Ce.p) vs := repL_p (by omega) hvs
          have := repL_splice hp1 hcr (i * (T e).size + off)
          have hmap : splice (xs.flatten.map Ce.p) (i * (T e).size + off) (new'.map Ce.p) = (splice xs.flatten (i * (T e).size + off) new').map Ce.p := by simp [splice]
          rw [hmap] at this
          have := this.2 k (.p q) v (by simp [hq]) hv
          exact RepP.mono (fun b hb => ht.imm b hb) this
    · exact h.elim
  · exact h.elim
end
end Go.AW

/- The soundness of the abstract operations: places, reckoning, comparisons. -/
set_option linter.unusedVariables false
set_option linter.unusedSimpArgs false
namespace Go.AW

section
variable {P : Program} {T : Tab} {E : Env} {N : Nat} {gv : GV} {σ : St} {a : Act} {w : World}

theorem sound_ret {o : Oper} {c : Ce} {u : Value} {wr : Wr} {fp : List Loc} {C : Con} (hr : RelG T E N gv σ a w) (hdst : ∀ i, o.dst = some i → i < N) (h : Run C (retC c) σ wr fp)
    (hrun : (execOp a.eval o).run P w = .ok (.value u) w) (hv : RepC T w (Imm E σ.m gv w) σ.m gv c u) : Sound P T E N σ a w o wr := by
  obtain ⟨rfl, _⟩ := h
  exact sound_value hr hdst hrun hv

theorem sound_nilCheck {o : Oper} {x : Operand} {wr : Wr} {fp : List Loc} {C : Con} (hr : RelG T E N gv σ a w) (hdst : ∀ i, o.dst = some i → i < N) (ho : o.op = .nilCheck x)
    (h : Run C (match σ.ev x with
      | .one (.ptr id off) => .ret ⟨.one (.ptr id off), []⟩
      | .one (.ip cs) => .ret ⟨.one (.ip cs), []⟩
      | _ => .stuck) σ wr fp) : Sound P T E N σ a w o wr := by
  have hx := ev_rep hr x
  split at h
  · rename_i id off hxv
    rw [hxv] at hx
    obtain ⟨rfl, _⟩ := h
    have hx' := hx
    obtain ⟨b, cs, _, _, h3⟩ := hx
    exact sound_value hr hdst (u := a.eval x) (by simp [execOp, ho, h3]) hx'
  · rename_i cs hxv
    rw [hxv] at hx
    obtain ⟨rfl, _⟩ := h
    have hx' := hx
    obtain ⟨b, off, arr, e, fr, vs, h1, _⟩ := hx
    exact sound_value hr hdst (u := a.eval x) (by simp [execOp, ho, h1]) hx'
  · exact h.elim

theorem sound_unOp_not {o : Oper} {t : Nat} {x : Operand} {wr : Wr} {fp : List Loc} {C : Con} (hr : RelG T E N gv σ a w) (hdst : ∀ i, o.dst = some i → i < N) (ho : o.op = .unOp .not t x)
    (h : Run C (match σ.ev x with
      | .one (.p (.bool b)) => retC (.p (.bool (!b)))
      | _ => .stuck) σ wr fp) : Sound P T E N σ a w o wr := by
  have hx := ev_rep hr x
  split at h
  · rename_i b hxv
    rw [hxv] at hx
    have hb : a.eval x = .bool b := rp_bool hx
    exact sound_ret hr hdst h (u := .bool (!b)) (by simp [execOp, ho, hb, Op.unary]) (RepP.bool _)
  · exact h.elim

theorem sound_unOp_neg {o : Oper} {t : Nat} {x : Operand} {wr : Wr} {fp : List Loc} {C : Con} (hr : RelG T E N gv σ a w) (hdst : ∀ i, o.dst = some i → i < N) (ho : o.op = .unOp .neg t x)
    (h : Run C (match σ.ev x with
      | .one (.p (.int k n)) => retC (.p (.int k (k.wrap (0 - n))))
      | _ => .stuck) σ wr fp) : Sound P T E N σ a w o wr := by
  have hx := ev_rep hr x
  split at h
  · rename_i k n hxv
    rw [hxv] at hx
    have hb : a.eval x = .int k n := rp_int hx
    exact sound_ret hr hdst h (u := .int k (k.wrap (0 - n))) (by simp [execOp, ho, hb, Op.unary, Op.intArith]) (RepP.int _ _)
  · exact h.elim

theorem sound_extract {o : Oper} {i : Nat} {x : Operand} {wr : Wr} {fp : List Loc} {C : Con} (hr : RelG T E N gv σ a w) (hdst : ∀ i, o.dst = some i → i < N) (ho : o.op = .extract x i)
    (h : Run C (match σ.ev x with
      | .tup xs => match xs[i]? with
        | some w => .ret ⟨w.v, []⟩
        | none => .stuck
      | _ => .stuck) σ wr fp) : Sound P T E N σ a w o wr := by
  have hx := ev_rep hr x
  split at h
  · rename_i xs hxv
    rw [hxv] at hx
    obtain ⟨arr, h1, h2, h3⟩ := hx
    split at h
    · rename_i y hy
      obtain ⟨rfl, _⟩ := h
      have hlt : i < arr.size := by rw [h2]; exact (List.getElem?_eq_some_iff.1 hy).1
      have hu : arr[i]? = some arr[i] := by simp [hlt]
      refine sound_value hr hdst (u := arr[i]) (by simp [execOp, ho, h1, Instr.extract, hu]) ?_
      have := h3 i y _ hy hu
      cases y with
      | one c => exact this
      | agg cs => exact this
    · exact h.elim
  · exact h.elim

theorem sound_min {o : Oper} {x y : Operand} {ats : Array Nat} {wr : Wr} {fp : List Loc} {C : Con} (hr : RelG T E N gv σ a w) (hdst : ∀ i, o.dst = some i → i < N)
    (ho : o.op = .call { callee := .builtin .min, args := #[x, y], argTypes := ats })
    (h : Run C (match σ.ev x, σ.ev y with
      | .one (.p (.int k a)), .one (.p (.int _ b)) => retC (.p (.int k (if b < a then b else a)))
      | _, _ => .stuck) σ wr fp) : Sound P T E N σ a w o wr := by
  have hx := ev_rep hr x
  have hy := ev_rep hr y
  split at h
  · rename_i k n k' n' hxv hyv
    rw [hxv] at hx
    rw [hyv] at hy
    have h1 : a.eval x = .int k n := rp_int hx
    have h2 : a.eval y = .int k' n' := rp_int hy
    exact sound_ret hr hdst h (u := .int k (if n' < n then n' else n)) (by simp [execOp, ho, h1, h2, resolve, invoke, builtin, Builtin.min_, Builtin.min2]) (RepP.int _ _)
  · exact h.elim

theorem sound_max {o : Oper} {x y : Operand} {ats : Array Nat} {wr : Wr} {fp : List Loc} {C : Con} (hr : RelG T E N gv σ a w) (hdst : ∀ i, o.dst = some i → i < N)
    (ho : o.op = .call { callee := .builtin .max, args := #[x, y], argTypes := ats })
    (h : Run C (match σ.ev x, σ.ev y with
      | .one (.p (.int k a)), .one (.p (.int _ b)) => retC (.p (.int k (if b > a then b else a)))
      | _, _ => .stuck) σ wr fp) : Sound P T E N σ a w o wr := by
  have hx := ev_rep hr x
  have hy := ev_rep hr y
  split at h
  · rename_i k n k' n' hxv hyv
    rw [hxv] at hx
    rw [hyv] at hy
    have h1 : a.eval x = .int k n := rp_int hx
    have h2 : a.eval y = .int k' n' := rp_int hy
    exact sound_ret hr hdst h (u := .int k (if n' > n then n' else n)) (by simp [execOp, ho, h1, h2, resolve, invoke, builtin, Builtin.max_, Builtin.max2]) (RepP.int _ _)
  · exact h.elim

variable (hT : TabOk P T)
include hT

theorem sound_convert {o : Oper} {s d : Nat} {x : Operand} {wr : Wr} {fp : List Loc} {C : Con} (hr : RelG T E N gv σ a w) (hdst : ∀ i, o.dst = some i → i < N) (ho : o.op = .convert s d x)
    (h : Run C (match (T s).d, (T d).d, σ.ev x with
      | .int _, .int k, .one (.p (.int _ n)) => retC (.p (.int k (k.wrap n)))
      | _, _, _ => .stuck) σ wr fp) : Sound P T E N σ a w o wr := by
  have hx := ev_rep hr x
  split at h
  · rename_i k1 k k2 n hs hd hxv
    rw [hxv] at hx
    have hb : a.eval x = .int k2 n := rp_int hx
    obtain ⟨ds, h1, _, h2⟩ := run_underlying_T hT (t := s) (by rw [hs]; simp)
    obtain ⟨dd, h3, _, h4⟩ := run_underlying_T hT (t := d) (by rw [hd]; simp)
    rw [hs] at h1
    rw [hd] at h3
    cases ds <;> simp [descOk] at h1
    cases dd <;> simp [descOk] at h3
    subst h1; subst h3
    exact sound_ret hr hdst h (u := .int k (k.wrap n)) (by simp [execOp, ho, hb, convert, h2, h4, Conv.intToInt]) (RepP.int _ _)
  · exact h.elim

theorem sound_field {o : Oper} {t f : Nat} {x : Operand} {wr : Wr} {fp : List Loc} {C : Con} (hr : RelG T E N gv σ a w) (hdst : ∀ i, o.dst = some i → i < N) (ho : o.op = .fieldAddr t x f)
    (h : Run C (fieldR T t (σ.ev x) f) σ wr fp) : Sound P T E N σ a w o wr := by
  have hx := ev_rep hr x
  unfold fieldR at h
  split at h
  · rename_i fs hfs
    split at h
    · rename_i off u hf
      obtain ⟨⟨hne, hsz⟩, h⟩ := h
      obtain ⟨ds, h1, _, h2⟩ := run_underlying_T hT (t := t) (by rw [hfs]; simp)
      rw [hfs] at h1
      cases ds <;> simp [descOk] at h1
      rename_i fields _
      have hfield : ∃ fd : Field, fields[f]? = some fd ∧ fd.offset = off ∧ fd.type = u := by
        rw [← h1] at hf
        simp only [List.getElem?_map, Option.map_eq_some_iff] at hf
        obtain ⟨fd, h3, h4⟩ := hf
        simp at h4
        exact ⟨fd, by simpa using h3, h4.1, h4.2⟩
      obtain ⟨fd, h3, rfl, rfl⟩ := hfield
      have hgo : ∀ b k, a.eval x = .pointer (some ⟨b, k, none⟩) → (execOp a.eval o).run P w = .ok (.value (.pointer (some ⟨b, k + fd.offset, none⟩))) w := by
        intro b k hp
        simp [execOp, ho, Instr.fieldAt, h2, h3, hp, Instr.sureAddr, fieldPlace, run_sizeOf_T hT hne, hsz, add_none]
      split at h
      · rename_i id k hxv
        rw [hxv] at hx
        obtain ⟨b, cs, h5, h6, h7⟩ := hx
        exact sound_ret hr hdst h (hgo b k h7) ⟨b, cs, h5, h6, rfl⟩
      · rename_i cs hxv
        rw [hxv] at hx
        obtain ⟨b, k, arr, e, fr, vs, h5, h6, h7, h8, h9, h10⟩ := hx
        exact sound_ret hr hdst h (hgo b k h5) ⟨b, k + fd.offset, arr, e, fr, vs.drop fd.offset, rfl, h6, h7, fun j u hj => by
          rw [List.getElem?_drop] at hj; rw [Nat.add_assoc]; exact h8 _ u hj, by simp [h9], fun j q u hq hu => by
          rw [List.getElem?_drop] at hq hu; exact h10 _ q u hq hu⟩
      · rename_i id n i k hxv
        rw [hxv] at hx
        obtain ⟨h0, e, xs, h5, h6, h7⟩ := hx
        obtain ⟨fp', rfl, h⟩ := h
        simp only [h5] at h
        obtain ⟨hn, h⟩ := h
        obtain ⟨b, h8, h9⟩ := h7 hn
        exact sound_ret hr hdst h (hgo b _ h9) ⟨rfl, e, xs, h5, h6, fun _ => ⟨b, h8, by rw [Nat.add_assoc]⟩⟩
      · exact h.elim
    · exact h.elim
  · exact h.elim

theorem sound_idx {o : Oper} {t : Nat} {x y : Operand} {wr : Wr} {fp : List Loc} {C : Con} (hr : RelG T E N gv σ a w) (hdst : ∀ i, o.dst = some i → i < N) (ho : o.op = .indexAddr t x y)
    (h : Run C (idxR T t (σ.ev x) (σ.ev y)) σ wr fp) : Sound P T E N σ a w o wr := by
  have hx := ev_rep hr x
  have hy := ev_rep hr y
  unfold idxR at h
  split at h
  · rename_i ki i hyv
    rw [hyv] at hy
    have hyi : a.eval y = .int ki i := rp_int hy
    -- an array's place
    have harr : ∀ (n e : Nat), (T t).d = .arr n e → (T e).d ≠ .other → inR i n → ∀ b k, a.eval x = .pointer (some ⟨b, k, none⟩) →
        (execOp a.eval o).run P w = .ok (.value (.pointer (some ⟨b, k + i.toNat * (T e).size, none⟩))) w := by
      intro n e hd hne hin b k hp
      obtain ⟨ds, h1, _, h2⟩ := run_underlying_T hT (t := t) (by rw [hd]; simp)
      rw [hd] at h1
      cases ds <;> simp [descOk] at h1
      obtain ⟨rfl, rfl⟩ := h1
      have hin' : 0 ≤ i ∧ i < (n : Int) := hin
      simp [execOp, ho, Instr.indexAt, hyi, asIntOf, h2, hp, Instr.sureAddr, hin', run_sizeOf_T hT hne, add_none]
    split at h
    · rename_i e xs hd hxv
      rw [hxv] at hx
      obtain ⟨r, hxi, ⟨h0, hne, hrl, hrn⟩, h⟩ := h
      have hx : RepP w (Imm E σ.m gv w) (.slice xs) (a.eval x) := hx
      generalize hxe : a.eval x = xv at hx
      cases hx with
      | sl0 a' cap _ => simp at hxi
      | sl _ b off cap sz arr e' fr vs hI hh hz hc hv hl hrep =>
        obtain ⟨ds, h1, _, h2⟩ := run_underlying_T hT (t := t) (by rw [hd]; simp)
        rw [hd] at h1
        cases ds <;> simp [descOk] at h1
        subst h1
        have hlt : i.toNat < xs.length := (List.getElem?_eq_some_iff.1 hxi).1
        have hsz : sz = (T e).size := by rw [← hrl]; exact (hz r (List.mem_of_getElem? hxi)).symm
        subst hsz
        have hin' : i < (xs.length : Int) := by omega
        have hrun : (execOp a.eval o).run P w = .ok (.value (.pointer (some ⟨b, off + i.toNat * (T e).size, none⟩))) w := by
          simp [execOp, ho, Instr.indexAt, hyi, asIntOf, h2, hxe, h0, hin', run_sizeOf_T hT hne, add_none]
        have hle2 : i.toNat * (T e).size + (T e).size ≤ xs.length * (T e).size := by
          have := Nat.mul_le_mul_right (T e).size (show i.toNat + 1 ≤ xs.length from hlt)
          rwa [Nat.succ_mul] at this
        have hfl := flatten_len xs (T e).size hz
        refine sound_ret hr hdst h hrun ⟨b, off + i.toNat * (T e).size, arr, e', fr, (vs.drop (i.toNat * (T e).size)).take (T e).size, rfl, hI, hh, fun j u hj => ?_, by simp; omega, fun j q u hq hu => ?_⟩
        · rw [List.getElem?_take] at hj
          split at hj
          · rw [List.getElem?_drop] at hj; rw [Nat.add_assoc]; exact hv _ u hj
          · cases hj
        · rw [List.getElem?_take] at hu
          split at hu
          · rename_i hj
            rw [List.getElem?_drop] at hu
            exact hrep _ q u (by rw [flatten_get xs (T e).size hz i.toNat j r hxi hj]; exact hq) hu
          · cases hu
    · rename_i e id n hd hxv
      rw [hxv] at hx
      obtain ⟨h0, e', xs, h5, h6, h7⟩ := hx
      obtain ⟨fp', rfl, h⟩ := h
      simp only [h5] at h
      obtain ⟨⟨hn, rfl, hne, hin⟩, h⟩ := h
      have h7 := h7 hn
      obtain ⟨hz, vs, ⟨ho1, ho2⟩, hvs⟩ := hr.rep id _ h5
      have hin' : 0 ≤ i ∧ i < (xs.length : Int) := hin
      rcases ho2 with ⟨hnil, hn0⟩ | ⟨g, cap, cur, hv, _, hh, hcap, _, hsz, htake⟩
      · omega
      simp at hv
      obtain ⟨hg1, hg2⟩ := hv
      obtain ⟨ds, h1, _, h2⟩ := run_underlying_T hT (t := t) (by rw [hd]; simp)
      rw [hd] at h1
      cases ds <;> simp [descOk] at h1
      subst h1
      have hin2 : i < (n : Int) := by rw [hn]; exact hin'.2
      have hrun : (execOp a.eval o).run P w = .ok (.value (.pointer (some ⟨g, i.toNat * (T e').size, none⟩))) w := by
        simp [execOp, ho, Instr.indexAt, hyi, asIntOf, h2, h7, hg1, hin'.1, hin2, run_sizeOf_T hT hne, add_none]
      exact sound_ret hr hdst h hrun ⟨rfl, e', xs, h5, h6, fun _ => ⟨g, hg1, by simp⟩⟩
    · rename_i e id n hd hxv
      rw [hxv] at hx
      obtain ⟨b, cs, h5, h6, h7⟩ := hx
      obtain ⟨fp', rfl, h⟩ := h
      simp only [h5] at h
      obtain ⟨⟨hne, hin⟩, h⟩ := h
      have hin' : 0 ≤ i ∧ i < (n : Int) := hin
      obtain ⟨ds, h1, _, h2⟩ := run_underlying_T hT (t := t) (by rw [hd]; simp)
      rw [hd] at h1
      cases ds <;> simp [descOk] at h1
      subst h1
      have hrun : (execOp a.eval o).run P w = .ok (.value (.pointer (some ⟨b, i.toNat * (T e).size, none⟩))) w := by
        simp [execOp, ho, Instr.indexAt, hyi, asIntOf, h2, h7, hin'.1, hin'.2, run_sizeOf_T hT hne, add_none]
      exact sound_ret hr hdst h hrun ⟨b, cs, h5, h6, rfl⟩
    · rename_i n e id k hd hxv
      rw [hxv] at hx
      obtain ⟨b, cs, h5, h6, h7⟩ := hx
      obtain ⟨⟨hin, hne⟩, h⟩ := h
      exact sound_ret hr hdst h (harr n e hd hne hin b k h7) ⟨b, cs, h5, h6, rfl⟩
    · rename_i n e cs hd hxv
      rw [hxv] at hx
      obtain ⟨b, k, arr, e', fr, vs, h5, h6, h7, h8, h9, h10⟩ := hx
      obtain ⟨⟨hin, hne⟩, h⟩ := h
      exact sound_ret hr hdst h (harr n e hd hne hin b k h5) ⟨b, _, arr, e', fr, vs.drop (i.toNat * (T e).size), rfl, h6, h7, fun j u hj => by
        rw [List.getElem?_drop] at hj; rw [Nat.add_assoc]; exact h8 _ u hj, by simp [h9], fun j q u hq hu => by
        rw [List.getElem?_drop] at hq hu; exact h10 _ q u hq hu⟩
    · rename_i n e id m k off hd hxv
      rw [hxv] at hx
      obtain ⟨h0, e', xs, h5, h6, h7⟩ := hx
      obtain ⟨fp', rfl, h⟩ := h
      simp only [h5] at h
      obtain ⟨⟨hm, hin, hne⟩, h⟩ := h
      obtain ⟨b, h8, h9⟩ := h7 hm
      exact sound_ret hr hdst h (harr n e hd hne hin b _ h9) ⟨rfl, e', xs, h5, h6, fun _ => ⟨b, h8, by rw [Nat.add_assoc]⟩⟩
    · exact h.elim
  · exact h.elim

theorem sound_index {o : Oper} {t : Nat} {x y : Operand} {wr : Wr} {fp : List Loc} {C : Con} (hr : RelG T E N gv σ a w) (hdst : ∀ i, o.dst = some i → i < N) (ho : o.op = .index t x y)
    (h : Run C (match (T t).d, σ.ev x, σ.ev y with
    | .arr n e, .agg cs, .one (.p (.int _ i)) => .assert (inR i n) (partR T e cs (i.toNat * (T e).size) fun v => .ret ⟨v, []⟩)
    | _, _, _ => .stuck) σ wr fp) : Sound P T E N σ a w o wr := by
  have hx := ev_rep hr x
  have hy := ev_rep hr y
  split at h
  · rename_i n e cs ki i hd hxv hyv
    rw [hxv] at hx
    rw [hyv] at hy
    have hyi : a.eval y = .int ki i := rp_int hy
    obtain ⟨arr, hxa, hl⟩ := hx
    obtain ⟨hin, h⟩ := h
    obtain ⟨hne, h⟩ := run_partR h
    obtain ⟨ds, h1, _, h2⟩ := run_underlying_T hT (t := t) (by rw [hd]; simp)
    rw [hd] at h1
    cases ds <;> simp [descOk] at h1
    obtain ⟨rfl, rfl⟩ := h1
    have hin' : 0 ≤ i ∧ i < (n : Int) := hin
    have hex : (execOp a.eval o).run P w = ((part e arr (i.toNat * (T e).size)).run P w).andThen fun v w' => .ok (.value v) w' := by
      simp [execOp, ho, Instr.index, hyi, asIntOf, h2, hxa, hin', run_sizeOf_T hT hne]
    rcases h with ⟨hagg, hlen, rfl, _⟩ | ⟨hagg, c, hc, rfl, _⟩
    · refine sound_value hr hdst (u := .agg (arr.extract (i.toNat * (T e).size) (i.toNat * (T e).size + (T e).size))) ?_ ⟨_, rfl, ?_⟩
      · rw [hex]; simp [part, run_isAgg_T hT hne, hagg, run_sizeOf_T hT hne]
      · have := repL_take (repL_drop hl (i.toNat * (T e).size)) (T e).size
        simpa [Array.toList_extract, List.extract_eq_take_drop, Nat.add_sub_cancel_left] using this
    · have hlt : i.toNat * (T e).size < arr.size := by
        have h3 := (List.getElem?_eq_some_iff.1 hc).1
        have h4 := hl.1
        simp at h4; omega
      have hu : arr[i.toNat * (T e).size]? = some arr[i.toNat * (T e).size] := by simp [hlt]
      refine sound_value hr hdst (u := arr[i.toNat * (T e).size]) ?_ (hl.2 _ c _ hc (by rw [Array.getElem?_toList]; exact hu))
      rw [hex]; simp [part, run_isAgg_T hT hne, hagg, hu]
  · exact h.elim

theorem sound_fieldV {o : Oper} {t f : Nat} {x : Operand} {wr : Wr} {fp : List Loc} {C : Con} (hr : RelG T E N gv σ a w) (hdst : ∀ i, o.dst = some i → i < N) (ho : o.op = .field t x f)
    (h : Run C (match (T t).d, σ.ev x with
    | .struct fs, .agg cs => match fs[f]? with
      | some (off, u) => partR T u cs off fun v => .ret ⟨v, []⟩
      | none => .stuck
    | _, _ => .stuck) σ wr fp) : Sound P T E N σ a w o wr := by
  have hx := ev_rep hr x
  split at h
  · rename_i fs cs hfs hxv
    rw [hxv] at hx
    obtain ⟨arr, hxa, hl⟩ := hx
    split at h
    · rename_i off u hf
      obtain ⟨hne, h⟩ := run_partR h
      obtain ⟨ds, h1, _, h2⟩ := run_underlying_T hT (t := t) (by rw [hfs]; simp)
      rw [hfs] at h1
      cases ds <;> simp [descOk] at h1
      rename_i fields _
      have hfield : ∃ fd : Field, fields[f]? = some fd ∧ fd.offset = off ∧ fd.type = u := by
        rw [← h1] at hf
        simp only [List.getElem?_map, Option.map_eq_some_iff] at hf
        obtain ⟨fd, h3, h4⟩ := hf
        simp at h4
        exact ⟨fd, by simpa using h3, h4.1, h4.2⟩
      obtain ⟨fd, h3, rfl, rfl⟩ := hfield
      have hex : (execOp a.eval o).run P w = ((part fd.type arr fd.offset).run P w).andThen fun v w' => .ok (.value v) w' := by
        simp [execOp, ho, Instr.field, h2, h3, hxa, asAgg]
      rcases h with ⟨hagg, hlen, rfl, _⟩ | ⟨hagg, c, hc, rfl, _⟩
      · refine sound_value hr hdst (u := .agg (arr.extract fd.offset (fd.offset + (T fd.type).size))) ?_ ⟨_, rfl, ?_⟩
        · rw [hex]; simp [part, run_isAgg_T hT hne, hagg, run_sizeOf_T hT hne]
        · have := repL_take (repL_drop hl fd.offset) (T fd.type).size
          simpa [Array.toList_extract, List.extract_eq_take_drop, Nat.add_sub_cancel_left] using this
      · have hlt : fd.offset < arr.size := by
          have h3 := (List.getElem?_eq_some_iff.1 hc).1
          have h4 := hl.1
          simp at h4; omega
        have hu : arr[fd.offset]? = some arr[fd.offset] := by simp [hlt]
        refine sound_value hr hdst (u := arr[fd.offset]) ?_ (hl.2 _ c _ hc (by rw [Array.getElem?_toList]; exact hu))
        rw [hex]; simp [part, run_isAgg_T hT hne, hagg, hu]
    · exact h.elim
  · exact h.elim

theorem sound_len {o : Oper} {t : Nat} {x : Operand} {wr : Wr} {fp : List Loc} {C : Con} (hr : RelG T E N gv σ a w) (hdst : ∀ i, o.dst = some i → i < N)
    (ho : o.op = .call { callee := .builtin .len, args := #[x], argTypes := #[t] })
    (h : Run C (lenR (T t).d (σ.ev x)) σ wr fp) : Sound P T E N σ a w o wr := by
  have hx := ev_rep hr x
  have hs : ∀ s, a.eval x = .string s → (T t).d = .str → (execOp a.eval o).run P w = .ok (.value (.int .i64 s.size)) w := by
    intro s hs hd
    obtain ⟨ds, h1, _, h2⟩ := run_underlying_T hT (t := t) (by rw [hd]; simp)
    rw [hd] at h1
    cases ds <;> simp [descOk] at h1
    simp [execOp, ho, resolve, invoke, builtin, Builtin.len_, h2, hs, goInt]
  have hsl : ∀ b n c e, a.eval x = .slice b n c → (T t).d = .sl e → (execOp a.eval o).run P w = .ok (.value (.int .i64 n)) w := by
    intro b n c e hs hd
    obtain ⟨ds, h1, _, h2⟩ := run_underlying_T hT (t := t) (by rw [hd]; simp)
    rw [hd] at h1
    cases ds <;> simp [descOk] at h1
    simp [execOp, ho, resolve, invoke, builtin, Builtin.len_, h2, hs, goInt]
  unfold lenR at h
  split at h
  · rename_i s hd hxv
    rw [hxv] at hx
    exact sound_ret hr hdst h (hs s (rp_str hx) hd) (RepP.int _ _)
  · rename_i e hd hxv
    rw [hxv] at hx
    exact sound_ret hr hdst h (hsl none 0 0 e (rp_nilsl hx) hd) (RepP.int _ _)
  · rename_i e hd hxv
    rw [hxv] at hx
    obtain ⟨b, c, hb⟩ := rp_nesl hx
    exact sound_ret hr hdst h (hsl (some b) 0 c e hb hd) (RepP.int _ _)
  · rename_i e id n hd hxv
    rw [hxv] at hx
    obtain ⟨b, cs, h5, h6, h7⟩ := hx
    exact sound_ret hr hdst h (hsl _ n n e h7 hd) (RepP.int _ _)
  · rename_i e xs hd hxv
    rw [hxv] at hx
    have hx : RepP w (Imm E σ.m gv w) (.slice xs) (a.eval x) := hx
    obtain ⟨b, c, hb⟩ : ∃ b c, a.eval x = .slice b xs.length c := by
      generalize a.eval x = xv at hx
      cases hx
      · exact ⟨_, _, rfl⟩
      · exact ⟨_, _, rfl⟩
    exact sound_ret hr hdst h (hsl b _ c e hb hd) (RepP.int _ _)
  · rename_i e id n hd hxv
    rw [hxv] at hx
    obtain ⟨h0, e', xs, h5, h6, h7⟩ := hx
    obtain ⟨fp', rfl, h⟩ := h
    simp only [h5] at h
    obtain ⟨hn, h⟩ := h
    subst hn
    exact sound_ret hr hdst h (hsl _ _ _ e (h7 rfl) hd) (RepP.int _ _)
  · exact h.elim
end
end Go.AW
