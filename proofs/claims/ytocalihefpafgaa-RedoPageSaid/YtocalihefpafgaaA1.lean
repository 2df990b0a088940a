/- An abstract walk of Go code: abstract values, abstract operations, abstract runs. No program in sight; nothing here is trusted. -/
import Derived.Orders
import Derived.Laws.AppendOwn
import Derived.Laws.MakeOwn
import Derived.Laws.CopyRow
import Derived.Laws.Tables
import Derived.Below
set_option linter.unusedVariables false
namespace Go.AW

/-- A pure cell: what one cell holds, seen as data. A slice is seen as the list of its elements, each as the list of its cells. -/
inductive PV where
  | bool (b : Bool) | int (k : IntKind) (n : Int) | str (s : ByteArray)
  | nilp | nilsl | slice (xs : List (List PV)) | func (f : Nat) | nilf | nesl

/-- A cell: pure, or a reference into memory of the call's own ('ptr' into a box, 'osl' a slice of its own, 'oel' a place in such a slice), or a pointer to memory that is only read ('ip'). -/
inductive Ce where
  | p (x : PV) | ptr (id off : Nat) | osl (id n : Nat) | oel (id n i off : Nat) | ip (cs : List PV) | bsl (id n : Nat)

inductive W1 where
  | one (x : Ce) | agg (cs : List Ce)

inductive V where
  | undef | one (x : Ce) | agg (cs : List Ce) | tup (xs : List W1)

inductive Obj where
  | box (cs : List Ce) | sl (e : Nat) (xs : List (List PV))

structure St where
  t : Nat → V
  m : Nat → Option Obj

def upd {α : Type} (f : Nat → α) (i : Nat) (v : α) (j : Nat) : α := if j = i then v else f j

inductive TD where
  | bool | int (k : IntKind) | str | ptr (e : Nat) | sl (e : Nat) | arr (n e : Nat) | struct (fs : List (Nat × Nat)) | func | other

structure TI where
  d : TD
  size : Nat
  bytes : Nat
  zero : List PV
  eqok : Bool

abbrev Tab := Nat → TI

inductive Loc where
  | t (n : Nat) | m (id : Nat)
  deriving DecidableEq

/-- The names of the slices in a row of slices of the call's own: row i of 'd'. -/
def rowI (d i : Nat) : Nat := 1000000 + 1000 * d + i

inductive Rd (α : Type) where
  | ret (a : α)
  | getT (t : Nat) (k : V → Rd α)
  | getM (id : Nat) (k : Option Obj → Rd α)
  | fresh (d n : Nat) (k : Rd α)
  | assert (p : Prop) (k : Rd α)
  | spl (b : Bool) (k : Bool → Rd α)
  | elem (xs : List (List PV)) (i : Nat) (k : List PV → Rd α)
  | elemC (xs : List Ce) (i : Nat) (k : Ce → Rd α)
  | call (f : Nat) (args : List V) (M : List (Nat × Obj)) (k : V → List (Nat × Obj) → Rd α)
  | stuck

structure Wr where
  v : V
  ms : List (Nat × Obj)

/-- What is known of the program's functions: called with such arguments and such memory it hands back this, and leaves that. -/
abbrev Con := Nat → List V → List (Nat × Obj) → V → List (Nat × Obj) → Prop

def splitB (b : Bool) (K : Bool → Prop) : Prop := (b = true → K true) ∧ (b = false → K false)
theorem splitB_true (K : Bool → Prop) : splitB true K = K true := by simp [splitB]
theorem splitB_false (K : Bool → Prop) : splitB false K = K false := by simp [splitB]
theorem splitB_dec (q : Prop) [Decidable q] (K : Bool → Prop) : splitB (decide q) K = ((q → K true) ∧ (¬ q → K false)) := by simp [splitB]
theorem splitB_not (b : Bool) (K : Bool → Prop) : splitB (!b) K = splitB b (fun b => K (!b)) := by cases b <;> simp [splitB]
theorem splitB_out {b : Bool} {K : Bool → Prop} (h : splitB b K) : K b := by cases b; exact h.2 rfl; exact h.1 rfl

section
variable {α : Type} (C : Con)
def Run : Rd α → St → α → List Loc → Prop
  | .ret a, σ, b, fp => b = a ∧ fp = []
  | .getT t k, σ, b, fp => ∃ fp', fp = .t t :: fp' ∧ Run (k (σ.t t)) σ b fp'
  | .getM i k, σ, b, fp => ∃ fp', fp = .m i :: fp' ∧ Run (k (σ.m i)) σ b fp'
  | .fresh d n k, σ, b, fp => ∃ fp', fp = (List.range n).map (fun i => Loc.m (rowI d i)) ++ fp' ∧ (∀ i, i < n → σ.m (rowI d i) = none) ∧ Run k σ b fp'
  | .assert q k, σ, b, fp => q ∧ Run k σ b fp
  | .spl q k, σ, b, fp => Run (k q) σ b fp
  | .elem xs i k, σ, b, fp => ∃ r, xs[i]? = some r ∧ Run (k r) σ b fp
  | .elemC xs i k, σ, b, fp => ∃ r, xs[i]? = some r ∧ Run (k r) σ b fp
  | .call f args M k, σ, b, fp => ∃ r M', C f args M r M' ∧ Run (k r M') σ b fp
  | .stuck, _, _, _ => False

def runK : Rd α → St → (α → List Loc → Prop) → Prop
  | .ret a, σ, K => K a []
  | .getT t k, σ, K => runK (k (σ.t t)) σ (fun a fp => K a (.t t :: fp))
  | .getM i k, σ, K => runK (k (σ.m i)) σ (fun a fp => K a (.m i :: fp))
  | .fresh d n k, σ, K => (∀ i, i < n → σ.m (rowI d i) = none) ∧ runK k σ (fun a fp => K a ((List.range n).map (fun i => Loc.m (rowI d i)) ++ fp))
  | .assert q k, σ, K => q ∧ runK k σ K
  | .spl q k, σ, K => splitB q (fun q => runK (k q) σ K)
  | .elem xs i k, σ, K => ∃ r, xs[i]? = some r ∧ runK (k r) σ K
  | .elemC xs i k, σ, K => ∃ r, xs[i]? = some r ∧ runK (k r) σ K
  | .call f args M k, σ, K => ∃ r M', C f args M r M' ∧ runK (k r M') σ K
  | .stuck, _, _ => False

theorem runK_run (p : Rd α) : ∀ (σ : St) (K : α → List Loc → Prop), runK C p σ K → ∃ a fp, Run C p σ a fp ∧ K a fp := by
  induction p with
  | ret a => exact fun σ K h => ⟨a, [], ⟨rfl, rfl⟩, h⟩
  | getT t k ih => intro σ K h; obtain ⟨a, fp, hr, hk⟩ := ih _ σ _ h; exact ⟨a, _, ⟨fp, rfl, hr⟩, hk⟩
  | getM t k ih => intro σ K h; obtain ⟨a, fp, hr, hk⟩ := ih _ σ _ h; exact ⟨a, _, ⟨fp, rfl, hr⟩, hk⟩
  | fresh d n k ih => intro σ K h; obtain ⟨a, fp, hr, hk⟩ := ih σ _ h.2; exact ⟨a, _, ⟨fp, rfl, h.1, hr⟩, hk⟩
  | assert q k ih => intro σ K h; obtain ⟨a, fp, hr, hk⟩ := ih σ _ h.2; exact ⟨a, fp, ⟨h.1, hr⟩, hk⟩
  | spl q k ih => intro σ K h; obtain ⟨a, fp, hr, hk⟩ := ih q σ K (splitB_out h); exact ⟨a, fp, hr, hk⟩
  | elem xs i k ih => intro σ K h; obtain ⟨r, hx, h⟩ := h; obtain ⟨a, fp, hr, hk⟩ := ih r σ K h; exact ⟨a, fp, ⟨r, hx, hr⟩, hk⟩
  | elemC xs i k ih => intro σ K h; obtain ⟨r, hx, h⟩ := h; obtain ⟨a, fp, hr, hk⟩ := ih r σ K h; exact ⟨a, fp, ⟨r, hx, hr⟩, hk⟩
  | call f args M k ih => intro σ K h; obtain ⟨r, M', hc, h⟩ := h; obtain ⟨a, fp, hr, hk⟩ := ih r M' σ K h; exact ⟨a, fp, ⟨r, M', hc, hr⟩, hk⟩
  | stuck => intro σ K h; exact h.elim

def St.agree (σ σ' : St) (fp : List Loc) : Prop := ∀ l ∈ fp, match l with | .t n => σ'.t n = σ.t n | .m i => σ'.m i = σ.m i

/-- A run looks only where its footprint says. -/
theorem Run.local {p : Rd α} : ∀ {σ σ' : St} {a : α} {fp : List Loc}, Run C p σ a fp → σ.agree σ' fp → Run C p σ' a fp := by
  induction p with
  | ret a => exact fun h _ => h
  | getT t k ih =>
    rintro σ σ' a fp ⟨fp', rfl, h⟩ hg
    have h0 : σ'.t t = σ.t t := hg (.t t) (by simp)
    exact ⟨fp', rfl, by rw [h0]; exact ih _ h fun l hl => hg l (by simp [hl])⟩
  | getM t k ih =>
    rintro σ σ' a fp ⟨fp', rfl, h⟩ hg
    have h0 : σ'.m t = σ.m t := hg (.m t) (by simp)
    exact ⟨fp', rfl, by rw [h0]; exact ih _ h fun l hl => hg l (by simp [hl])⟩
  | fresh d n k ih =>
    rintro σ σ' a fp ⟨fp', rfl, h0, h⟩ hg
    refine ⟨fp', rfl, fun i hi => ?_, ih h fun l hl => hg l (by simp [hl])⟩
    have h1 : σ'.m (rowI d i) = σ.m (rowI d i) := hg (.m (rowI d i)) (by simp; exact .inl ⟨i, hi, rfl⟩)
    rw [h1]; exact h0 i hi
  | assert q k ih => exact fun h hg => ⟨h.1, ih h.2 hg⟩
  | spl q k ih => exact fun h hg => ih _ h hg
  | elem xs i k ih => rintro σ σ' a fp ⟨r, hx, h⟩ hg; exact ⟨r, hx, ih _ h hg⟩
  | elemC xs i k ih => rintro σ σ' a fp ⟨r, hx, h⟩ hg; exact ⟨r, hx, ih _ h hg⟩
  | call f args M k ih => rintro σ σ' a fp ⟨r, M', hc, h⟩ hg; exact ⟨r, M', hc, ih _ _ h hg⟩
  | stuck => exact fun h _ => h.elim
end

/-! ### Operations -/

def ofCell : Value → Ce
  | .bool b => .p (.bool b) | .int k n => .p (.int k n) | .string s => .p (.str s)
  | .pointer none => .p .nilp | .slice none 0 0 => .p .nilsl | _ => .p .nilf
/-- Cells that a constant may hold. -/
def okCell : Value → Bool
  | .bool _ | .int _ _ | .string _ | .pointer none | .slice none 0 0 | .nilFunc => true
  | _ => false
def ofConst : Value → V
  | .bool b => .one (.p (.bool b)) | .int k n => .one (.p (.int k n)) | .string s => .one (.p (.str s))
  | .pointer none => .one (.p .nilp) | .slice none 0 0 => .one (.p .nilsl) | .nilFunc => .one (.p .nilf)
  | .agg cs => if cs.toList.all okCell then .agg (cs.toList.map ofCell) else .undef
  | _ => .undef

def evR {α : Type} (o : Operand) (k : V → Rd α) : Rd α :=
  match o with
  | .tmp t => .getT t k
  | .const v => k (ofConst v)
  | .func f => k (.one (.p (.func f)))
  | .global _ => k .undef

def evL {α : Type} (l : List Operand) (k : List V → Rd α) : Rd α :=
  match l with
  | [] => k []
  | o :: r => evR o fun v => evL r fun vs => k (v :: vs)

def TD.isAgg : TD → Bool
  | .struct _ | .arr _ _ => true
  | _ => false

def cellsV : V → Option (List Ce)
  | .one c => some [c]
  | .agg cs => some cs
  | _ => none

def V.w1 : V → Option W1
  | .one c => some (.one c)
  | .agg cs => some (.agg cs)
  | _ => none

def W1.v : W1 → V
  | .one c => .one c
  | .agg cs => .agg cs

/-- A part of a row of cells, as a value of a type. -/
def partR {α : Type} (T : Tab) (t : Nat) (cs : List Ce) (off : Nat) (k : V → Rd α) : Rd α :=
  match (T t).d with
  | .other => .stuck
  | .struct _ | .arr _ _ => .assert (off + (T t).size ≤ cs.length) (k (.agg ((cs.drop off).take (T t).size)))
  | _ => .elemC cs off fun c => k (.one c)

def pureC : Ce → Option PV
  | .p x => some x
  | _ => none
def pureL : List Ce → Option (List PV)
  | [] => some []
  | .p x :: r => (pureL r).map (x :: ·)
  | _ :: _ => none

def splice {α : Type} (cs : List α) (off : Nat) (new : List α) : List α := cs.take off ++ new ++ cs.drop (off + new.length)

/-- A literal's cells: parts laid over the zero value, in their order; each at its place (offset, size). -/
def fillA (place : Nat → Option (Nat × Nat)) (cells : List Ce) : List (Nat × V) → Option (List Ce)
  | [] => some cells
  | (i, v) :: r =>
    match place i, cellsV v with
    | some (off, size), some cs => if cs.length = size ∧ off + cs.length ≤ cells.length then fillA place (splice cells off cs) r else none
    | _, _ => none

/-- Cells of the same kinds: bools, integers, strings. -/
def likeP : PV → PV → Bool
  | .bool _, .bool _ => true | .int k _, .int k' _ => decide (k = k') | .str _, .str _ => true
  | _, _ => false
def likeL : List PV → List PV → Bool
  | [], [] => true
  | x :: xs, y :: ys => likeP x y && likeL xs ys
  | _, _ => false
/-- Are such cells alike? -/
def eqLP : List PV → List PV → Bool
  | x :: xs, y :: ys => (match x, y with | .bool a, .bool b => a == b | .int _ a, .int _ b => decide (a = b) | .str a, .str b => decide (a = b) | _, _ => false) && eqLP xs ys
  | _, _ => true

def cmpI (op : BinOp) (a b : Int) : Option Bool :=
  match op with
  | .eql => some (decide (a = b)) | .neq => some (decide (a ≠ b)) | .lss => some (decide (a < b))
  | .leq => some (decide (a ≤ b)) | .gtr => some (decide (b < a)) | .geq => some (decide (b ≤ a))
  | _ => none
def arI (op : BinOp) (k : IntKind) (a b : Int) : Option Int :=
  match op with
  | .add => some (k.wrap (a + b)) | .sub => some (k.wrap (a - b)) | .mul => some (k.wrap (a * b))
  | _ => none

def retB {α : Type} (b : Bool) : Rd Wr := .ret ⟨.one (.p (.bool b)), []⟩
def retC (c : Ce) : Rd Wr := .ret ⟨.one c, []⟩

def binR (T : Tab) (op : BinOp) (t : Nat) (x y : V) : Rd Wr :=
  match x, y with
  | .one (.p (.int k a)), .one (.p (.int k' b)) =>
    if k = k' then
      match arI op k a b with
      | some n => retC (.p (.int k n))
      | none => match cmpI op a b with
        | some q => retC (.p (.bool q))
        | none => match op with
          | .rem => .assert (b ≠ 0) (retC (.p (.int k (a.tmod b))))
          | .quo => .assert (b ≠ 0) (retC (.p (.int k (k.wrap (a.tdiv b)))))
          | _ => .stuck
    else .stuck
  | .one (.p (.str a)), .one (.p (.str b)) => match op with
    | .eql => retC (.p (.bool (decide (a = b))))
    | .neq => retC (.p (.bool (decide (a ≠ b))))
    | _ => .stuck
  | .one (.p (.bool a)), .one (.p (.bool b)) => match (T t).d, op with
    | .bool, .eql => retC (.p (.bool (a == b)))
    | .bool, .neq => retC (.p (.bool (!(a == b))))
    | _, _ => .stuck
  | .agg xs, .agg ys => if (T t).eqok then
      match pureL xs, pureL ys with
      | some xs, some ys => .assert ((T t).d ≠ .other ∧ likeL xs (T t).zero = true ∧ likeL ys (T t).zero = true) <| match op with
        | .eql => retC (.p (.bool (eqLP xs ys)))
        | .neq => retC (.p (.bool (!(eqLP xs ys))))
        | _ => .stuck
      | _, _ => .stuck
    else .stuck
  | .one (.p .nilp), .one (.p .nilp) => match (T t).d, op with
    | .ptr _, .eql => retC (.p (.bool true))
    | .ptr _, .neq => retC (.p (.bool false))
    | _, _ => .stuck
  | .one (.ptr _ _), .one (.p .nilp) => match (T t).d, op with
    | .ptr _, .eql => retC (.p (.bool false))
    | .ptr _, .neq => retC (.p (.bool true))
    | _, _ => .stuck
  | .one (.p (.func _)), .one (.p .nilf) => match (T t).d, op with
    | .func, .eql => retC (.p (.bool false))
    | .func, .neq => retC (.p (.bool true))
    | _, _ => .stuck
  | .one (.p .nilsl), .one (.p .nilsl) => match (T t).d, op with
    | .sl _, .eql => retC (.p (.bool true))
    | .sl _, .neq => retC (.p (.bool false))
    | _, _ => .stuck
  | .one (.p .nesl), .one (.p .nilsl) => match (T t).d, op with
    | .sl _, .eql => retC (.p (.bool false))
    | .sl _, .neq => retC (.p (.bool true))
    | _, _ => .stuck
  | .one (.p (.slice (_ :: _))), .one (.p .nilsl) => match (T t).d, op with
    | .sl _, .eql => retC (.p (.bool false))
    | .sl _, .neq => retC (.p (.bool true))
    | _, _ => .stuck
  | .one (.osl id n), .one (.p .nilsl) => .getM id fun ob => match ob with
    | some (.sl _ xs) => .assert (n = xs.length ∧ n ≠ 0) <| match (T t).d, op with
      | .sl _, .eql => retC (.p (.bool false))
      | .sl _, .neq => retC (.p (.bool true))
      | _, _ => .stuck
    | _ => .stuck
  | _, _ => .stuck

/-- 'i' lies in what has n places. -/
def inR (i : Int) (n : Nat) : Prop := 0 ≤ i ∧ i < n

def idxR (T : Tab) (t : Nat) (x i : V) : Rd Wr :=
  match i with
  | .one (.p (.int _ i)) =>
    match (T t).d, x with
    | .sl e, .one (.p (.slice xs)) => .elem xs i.toNat fun r => .assert (0 ≤ i ∧ (T e).d ≠ .other ∧ r.length = (T e).size ∧ r ≠ []) (retC (.ip r))
    | .sl e, .one (.osl id n) => .getM id fun ob => match ob with
      | some (.sl e' xs) => .assert (n = xs.length ∧ e' = e ∧ (T e).d ≠ .other ∧ inR i xs.length) (retC (.oel id n i.toNat 0))
      | _ => .stuck
    | .sl e, .one (.bsl id n) => .getM id fun ob => match ob with
      | some (.box cs) => .assert ((T e).d ≠ .other ∧ inR i n) (retC (.ptr id (i.toNat * (T e).size)))
      | _ => .stuck
    | .arr n e, .one (.ptr id off) => .assert (inR i n ∧ (T e).d ≠ .other) (retC (.ptr id (off + i.toNat * (T e).size)))
    | .arr n e, .one (.ip cs) => .assert (inR i n ∧ (T e).d ≠ .other) (retC (.ip (cs.drop (i.toNat * (T e).size))))
    | .arr n e, .one (.oel id m k off) => .getM id fun ob => match ob with
      | some (.sl _ xs) => .assert (m = xs.length ∧ inR i n ∧ (T e).d ≠ .other) (retC (.oel id m k (off + i.toNat * (T e).size)))
      | _ => .stuck
    | _, _ => .stuck
  | _ => .stuck

def fieldR (T : Tab) (t : Nat) (x : V) (f : Nat) : Rd Wr :=
  match (T t).d with
  | .struct fs => match fs[f]? with
    | some (o, u) => .assert ((T u).d ≠ .other ∧ (T u).size ≠ 0) <| match x with
      | .one (.ptr id off) => retC (.ptr id (off + o))
      | .one (.ip cs) => retC (.ip (cs.drop o))
      | .one (.oel id m k off) => .getM id fun ob => match ob with
        | some (.sl _ xs) => .assert (m = xs.length) (retC (.oel id m k (off + o)))
        | _ => .stuck
      | _ => .stuck
    | none => .stuck
  | _ => .stuck

def loadR (T : Tab) (t : Nat) (a : V) : Rd Wr :=
  match a with
  | .one (.ptr id off) => .getM id fun ob => match ob with
    | some (.box cs) => partR T t cs off fun v => .ret ⟨v, []⟩
    | _ => .stuck
  | .one (.ip cs) => partR T t (cs.map .p) 0 fun v => .ret ⟨v, []⟩
  | .one (.oel id n i off) => .getM id fun ob => match ob with
    | some (.sl sz xs) => .assert (n = xs.length) (.elem xs i fun r => partR T t (r.map .p) off fun v => .ret ⟨v, []⟩)
    | _ => .stuck
  | _ => .stuck

def storeR (T : Tab) (t : Nat) (a x : V) : Rd Wr :=
  match a, cellsV x with
  | .one (.ptr id off), some new => .getM id fun ob => match ob with
    | some (.box cs) => .assert ((T t).d ≠ .other ∧ new.length = (T t).size ∧ off + new.length ≤ cs.length) (.ret ⟨.undef, [(id, .box (splice cs off new))]⟩)
    | _ => .stuck
  | .one (.oel id n i off), some new => match pureL new with
    | some new => .getM id fun ob => match ob with
      | some (.sl e xs) => .assert (n = xs.length) (.elem xs i fun r =>
          .assert ((T t).d ≠ .other ∧ new.length = (T t).size ∧ off + new.length ≤ r.length) (.ret ⟨.undef, [(id, .sl e (xs.set i (splice r off new)))]⟩))
      | _ => .stuck
    | none => .stuck
  | _, _ => .stuck

/-- A slice's elements, as data; the reading of a slice of its own is as it stands. -/
def readSl {α : Type} (x : V) (k : List (List PV) → Rd α) : Rd α :=
  match x with
  | .one (.p .nilsl) => k []
  | .one (.p .nesl) => k []
  | .one (.p (.slice xs)) => k xs
  | .one (.osl id n) => .getM id fun ob => match ob with
    | some (.sl sz xs) => .assert (n = xs.length) (k xs)
    | _ => .stuck
  | _ => .stuck

def lenR (d : TD) (x : V) : Rd Wr :=
  match d, x with
  | .str, .one (.p (.str s)) => retC (.p (.int .i64 s.size))
  | .sl _, .one (.p .nilsl) => retC (.p (.int .i64 0))
  | .sl _, .one (.p .nesl) => retC (.p (.int .i64 0))
  | .sl _, .one (.bsl _ n) => retC (.p (.int .i64 n))
  | .sl _, .one (.p (.slice xs)) => retC (.p (.int .i64 xs.length))
  | .sl _, .one (.osl id n) => .getM id fun ob => match ob with
    | some (.sl _ xs) => .assert (n = xs.length) (retC (.p (.int .i64 xs.length)))
    | _ => .stuck
  | _, _ => .stuck

/-- append: to nothing (a slice of the call's own is made under the name of the operation's place), or to a slice of its own. -/
def appR (T : Tab) (d : Option Nat) (t : Nat) (s x : V) : Rd Wr :=
  match (T t).d with
  | .sl e => readSl x fun ys =>
    match s, d with
    | .one (.p .nilsl), some d => .getM d fun ob => match ob with
      | none => .assert ((T e).d ≠ .other ∧ (∀ y ∈ ys, y.length = (T e).size) ∧ 0 < (T e).size ∧ ys.length * (T e).bytes ≤ 140737488355328 ∧ ys.length ≤ maxLen)
          (.ret ⟨.one (.osl d ys.length), [(d, .sl e ys)]⟩)
      | some _ => .stuck
    | .one (.osl id n), _ => .getM id fun ob => match ob with
      | some (.sl e' xs) => .assert (n = xs.length ∧ e' = e ∧ (T e).d ≠ .other ∧ 0 < (T e).size ∧ (∀ y ∈ ys, y.length = (T e).size) ∧
            (xs.length + ys.length) * (T e).bytes ≤ 140737488355328 ∧ xs.length + ys.length ≤ maxLen)
          (.ret ⟨.one (.osl id (xs.length + ys.length)), [(id, .sl e (xs ++ ys))]⟩)
      | _ => .stuck
    | _, _ => .stuck
  | _ => .stuck

/-- A row of own slices, all empty: the box, and the slices. -/
def rowsM (d e n : Nat) : List (Nat × Obj) := (List.range n).map (fun i => (rowI d i, Obj.sl e [])) ++ [(d, .box ((List.range n).map fun i => .osl (rowI d i) 0))]

def makeR (T : Tab) (d : Option Nat) (t : Nat) (l c : V) : Rd Wr :=
  match (T t).d, l, c, d with
  | .sl e, .one (.p (.int _ n)), .one (.p (.int _ n')), some d => .getM d fun ob => match ob with
    | none => match (T e).d with
      | .sl e' => .fresh d n.toNat (.assert (n' = n ∧ 0 ≤ n ∧ n * (T e).bytes ≤ 140737488355328 ∧ n ≤ maxLen ∧ (T e).d ≠ .other ∧ (T e).zero.length = (T e).size)
        (.assert ((T e).zero = [.nilsl]) (.ret ⟨.one (.bsl d n.toNat), rowsM d e' n.toNat⟩)))
      | _ => .assert (n' = n ∧ 0 ≤ n ∧ n * (T e).bytes ≤ 140737488355328 ∧ n ≤ maxLen ∧ (T e).d ≠ .other ∧ (T e).zero.length = (T e).size)
        (.ret ⟨.one (.osl d n.toNat), [(d, .sl e (List.replicate n.toNat (T e).zero))]⟩)
    | some _ => .stuck
  | _, _, _, _ => .stuck

def allocR (T : Tab) (d : Option Nat) (e : Nat) : Rd Wr :=
  match d with
  | some d => .getM d fun ob => match ob with
    | none => .assert ((T e).d ≠ .other) (.ret ⟨.one (.ptr d 0), [(d, .box ((T e).zero.map .p))]⟩)
    | some _ => .stuck
  | none => .stuck

def boxR (d : Option Nat) (x : V) : Rd Wr :=
  match d, cellsV x with
  | some d, some cs => .getM d fun ob => match ob with
    | none => .ret ⟨.one (.ptr d 0), [(d, .box cs)]⟩
    | some _ => .stuck
  | _, _ => .stuck

def placeS (T : Tab) (fs : List (Nat × Nat)) (i : Nat) : Option (Nat × Nat) := (fs[i]?).map fun f => (f.1, (T f.2).size)
def placeA (T : Tab) (e : Nat) (i : Nat) : Option (Nat × Nat) := some (i * (T e).size, (T e).size)

def buildR (T : Tab) (t : Nat) (parts : List (Nat × V)) : Rd Wr :=
  match (T t).d with
  | .struct fs => match fillA (placeS T fs) ((T t).zero.map .p) parts with
    | some cs => .assert (∀ f ∈ fs, (T f.2).d ≠ .other) (.ret ⟨.agg cs, []⟩)
    | none => .stuck
  | _ => .stuck

/-- A slice literal: all its parts are given, in their order, and pure. -/
def slicePartsA (size : Nat) : Nat → List (Nat × V) → Option (List (List PV))
  | _, [] => some []
  | k, (i, v) :: r => match cellsV v with
    | some cs => match pureL cs, slicePartsA size (k + 1) r with
      | some x, some xs => if i = k ∧ x.length = size then some (x :: xs) else none
      | _, _ => none
    | none => none

def buildSliceR (T : Tab) (d : Option Nat) (t len : Nat) (parts : List (Nat × V)) : Rd Wr :=
  match (T t).d with
  | .sl e => match parts with
    | [] => match d with
      | some d => .getM d fun ob => match ob with
        | none => .assert (len = 0 ∧ (T e).d ≠ .other) (.ret ⟨.one (.osl d 0), [(d, .sl e [])]⟩)
        | some _ => .stuck
      | none => .stuck
    | p :: r => match slicePartsA (T e).size 0 (p :: r) with
      | some xs => .assert (len = xs.length ∧ (T e).d ≠ .other ∧ 0 < (T e).size ∧ (T e).zero.length = (T e).size ∧ len * (T e).size ≤ 16777216) (retC (.p (.slice xs)))
      | none => .stuck
  | _ => .stuck

def boundR (v : V) (k : Int → Rd Wr) : Rd Wr :=
  match v with
  | .one (.p (.int _ l)) => k l
  | _ => .stuck
/-- The bounds of a slice expression over what has n places. -/
def boundsR (lo hi : Option V) (n : Nat) (k : Nat → Nat → Rd Wr) : Rd Wr :=
  match lo with
  | none => match hi with
    | none => k 0 n
    | some h => boundR h fun h => .assert (0 ≤ h ∧ h ≤ n) (k 0 h.toNat)
  | some l => boundR l fun l => match hi with
    | none => .assert (0 ≤ l ∧ l ≤ n) (k l.toNat n)
    | some h => boundR h fun h => .assert (0 ≤ l ∧ l ≤ h ∧ h ≤ n) (k l.toNat h.toNat)

def sliceR (T : Tab) (t : Nat) (x : V) (lo hi : Option V) : Rd Wr :=
  match (T t).d, x with
  | .str, .one (.p (.str s)) => boundsR lo hi s.size fun l h => retC (.p (.str (s.extract l h)))
  | .sl e, .one (.p (.slice xs)) => .assert ((T e).d ≠ .other ∧ ∀ y ∈ xs, y.length = (T e).size) (boundsR lo hi xs.length fun l h => retC (.p (.slice ((xs.take h).drop l))))
  | _, _ => .stuck

/-- Which memory goes along with a call: what its arguments point to. -/
def refsC : Ce → List Nat
  | .ptr id _ => [id]
  | .osl id _ => [id]
  | .oel id _ _ _ => [id]
  | .bsl id _ => [id]
  | _ => []
def refsW : W1 → List Nat
  | .one c => refsC c
  | .agg cs => cs.flatMap refsC
def refsV : V → List Nat
  | .undef => []
  | .one c => refsC c
  | .agg cs => cs.flatMap refsC
  | .tup xs => xs.flatMap refsW
def refsO : Obj → List Nat
  | .box cs => cs.flatMap refsC
  | _ => []
/-- Each named block is read once; blocks that a box names come along. -/
def gatherR {α : Type} : Nat → List Nat → List (Nat × Obj) → (List (Nat × Obj) → Rd α) → Rd α
  | _, [], M, k => k M
  | 0, _ :: _, _, _ => .stuck
  | n + 1, i :: r, M, k => if M.any (fun x => x.1 == i) then gatherR n r M k else
    .getM i fun ob => match ob with
      | some o => gatherR n (refsO o ++ r) (M ++ [(i, o)]) k
      | none => .stuck

def renC (f : Nat → Nat) : Ce → Ce
  | .p x => .p x
  | .ptr id off => .ptr (f id) off
  | .osl id n => .osl (f id) n
  | .oel id n i off => .oel (f id) n i off
  | .ip cs => .ip cs
  | .bsl id n => .bsl (f id) n
def renW (f : Nat → Nat) : W1 → W1
  | .one c => .one (renC f c)
  | .agg cs => .agg (cs.map (renC f))
def renV (f : Nat → Nat) : V → V
  | .undef => .undef
  | .one c => .one (renC f c)
  | .agg cs => .agg (cs.map (renC f))
  | .tup xs => .tup (xs.map (renW f))
def renO (f : Nat → Nat) : Obj → Obj
  | .box cs => .box (cs.map (renC f))
  | .sl e xs => .sl e xs

/-- The names that a call's memory bears inside: 1000, 1001, .. -/
def toIn : List (Nat × Obj) → Nat → Nat → Nat
  | [], _, _ => 0
  | x :: M, k, id => if x.1 = id then k else toIn M (k + 1) id
def toOut : List (Nat × Obj) → Nat → Nat → Nat → Nat
  | [], _, d, _ => d
  | x :: M, k, d, i => if i = k then x.1 else toOut M (k + 1) d i
def lentIn : List (Nat × Obj) → Nat → List (Nat × Obj) → List (Nat × Obj)
  | [], _, _ => []
  | x :: R, k, M => (k, renO (toIn M 1000) x.2) :: lentIn R (k + 1) M
/-- What is new in what comes back. -/
def newIn (n : Nat) (M' : List (Nat × Obj)) : List Nat := (M'.map (·.1)).filter fun k => !(decide (1000 ≤ k) && decide (k < 1000 + n))

def afterR (dst : Option Nat) (M : List (Nat × Obj)) (r : V) (M' : List (Nat × Obj)) : Rd Wr :=
  match newIn M.length M' with
  | [] => .ret ⟨renV (toOut M 1000 0) r, (M'.map fun x => (toOut M 1000 0 x.1, renO (toOut M 1000 0) x.2)).reverse⟩
  | [_] => match dst with
    | none => .stuck
    | some d => .getM d fun ob => match ob with
      | some _ => .stuck
      | none => .ret ⟨renV (toOut M 1000 d) r, (M'.map fun x => (toOut M 1000 d x.1, renO (toOut M 1000 d) x.2)).reverse⟩
  | _ => .stuck

def callR (o : Option Nat) (f : V) (args : List V) : Rd Wr :=
  match f with
  | .one (.p (.func f)) => gatherR 64 (args.flatMap refsV) [] fun M => .call f (args.map (renV (toIn M 1000))) (lentIn M 1000 M) (afterR o M)
  | _ => .stuck

def opR (T : Tab) (o : Oper) : Rd Wr :=
  match o.op with
  | .move x | .assign x => evR x fun v => .ret ⟨v, []⟩
  | .pick c a b => evR c fun cv => match cv with
    | .one (.p (.bool q)) => .spl q fun q => if q then evR a fun v => .ret ⟨v, []⟩ else evR b fun v => .ret ⟨v, []⟩
    | _ => .stuck
  | .alloc e => allocR T o.dst e
  | .box _ x => evR x fun v => boxR o.dst v
  | .build t parts => evL (parts.toList.map (·.2)) fun vs => buildR T t ((parts.toList.map (·.1)).zip vs)
  | .buildSlice t len parts => evL (parts.toList.map (·.2)) fun vs => buildSliceR T o.dst t len ((parts.toList.map (·.1)).zip vs)
  | .load t a => evR a fun v => loadR T t v
  | .store t a x => evR a fun a => evR x fun x => storeR T t a x
  | .nilCheck x => evR x fun v => match v with
    | .one (.ptr id off) => .ret ⟨.one (.ptr id off), []⟩
    | .one (.ip cs) => .ret ⟨.one (.ip cs), []⟩
    | _ => .stuck
  | .binOp op t x y _ => evR x fun x => evR y fun y => binR T op t x y
  | .unOp .not _ x => evR x fun v => match v with
    | .one (.p (.bool b)) => retC (.p (.bool (!b)))
    | _ => .stuck
  | .unOp .neg _ x => evR x fun v => match v with
    | .one (.p (.int k n)) => retC (.p (.int k (k.wrap (0 - n))))
    | _ => .stuck
  | .convert src dst x => evR x fun v => match (T src).d, (T dst).d, v with
    | .int _, .int k, .one (.p (.int _ n)) => retC (.p (.int k (k.wrap n)))
    | _, _, _ => .stuck
  | .makeSlice t l c => evR l fun l => evR c fun c => makeR T o.dst t l c
  | .slice t x lo hi none => evR x fun x => match lo, hi with
    | none, none => sliceR T t x none none
    | some l, none => evR l fun l => sliceR T t x (some l) none
    | none, some h => evR h fun h => sliceR T t x none (some h)
    | some l, some h => evR l fun l => evR h fun h => sliceR T t x (some l) (some h)
  | .fieldAddr t x f => evR x fun v => fieldR T t v f
  | .indexAddr t x i => evR x fun x => evR i fun i => idxR T t x i
  | .index t x i => evR x fun x => evR i fun i => match (T t).d, x, i with
    | .arr n e, .agg cs, .one (.p (.int _ i)) => .assert (inR i n) (partR T e cs (i.toNat * (T e).size) fun v => .ret ⟨v, []⟩)
    | _, _, _ => .stuck
  | .field t x f => evR x fun x => match (T t).d, x with
    | .struct fs, .agg cs => match fs[f]? with
      | some (off, u) => partR T u cs off fun v => .ret ⟨v, []⟩
      | none => .stuck
    | _, _ => .stuck
  | .extract x i => evR x fun v => match v with
    | .tup xs => match xs[i]? with
      | some w => .ret ⟨w.v, []⟩
      | none => .stuck
    | _ => .stuck
  | .call { callee := .builtin .len, args, argTypes } => match args.toList, argTypes.toList with
    | [x], [t] => evR x fun v => lenR (T t).d v
    | _, _ => .stuck
  | .call { callee := .builtin .append, args, argTypes } => match args.toList, argTypes.toList with
    | [s, x], [t, u] => evR s fun s => evR x fun x => if u = t then appR T o.dst t s x else .stuck
    | _, _ => .stuck
  | .call { callee := .builtin .min, args, .. } => match args.toList with
    | [x, y] => evR x fun x => evR y fun y => match x, y with
      | .one (.p (.int k a)), .one (.p (.int _ b)) => retC (.p (.int k (if b < a then b else a)))
      | _, _ => .stuck
    | _ => .stuck
  | .call { callee := .builtin .max, args, .. } => match args.toList with
    | [x, y] => evR x fun x => evR y fun y => match x, y with
      | .one (.p (.int k a)), .one (.p (.int _ b)) => retC (.p (.int k (if b > a then b else a)))
      | _, _ => .stuck
    | _ => .stuck
  | .call { callee := .value f, args, .. } => evR f fun f => evL args.toList fun vs => callR o.dst f vs
  | _ => .stuck

def putT (t : Nat → V) (d : Option Nat) (v : V) : Nat → V :=
  match d with
  | some d => upd t d v
  | none => t

def St.app (σ : St) (d : Option Nat) (w : Wr) : St :=
  { t := putT σ.t d w.v
    m := w.ms.foldl (fun m x => upd m x.1 (some x.2)) σ.m }

def skipW : Wr := ⟨.tup [], []⟩

/-- One operation of a region, its guard heeded. -/
def guardR (ops : Array Oper) (o : Oper) (p : Rd Wr) : Rd Wr :=
  match o.guard with
  | none => p
  | some (j, want) => match (ops[j]?).bind (·.dst) with
    | none => .stuck
    | some d => .getT d fun v => match v with
      | .tup [] => .ret skipW
      | .one (.p (.bool b)) => .spl b fun b => if b = want then p else .ret skipW
      | _ => .stuck

/-- The operations of a region, in the order of the text. -/
def opsK (C : Con) (T : Tab) (ops : Array Oper) : List Oper → St → (St → Prop) → Prop
  | [], σ, K => K σ
  | o :: r, σ, K =>
    match o.guard with
    | none => runK C (opR T o) σ fun w _ => opsK C T ops r (σ.app o.dst w) K
    | some (j, want) => match (ops[j]?).bind (·.dst) with
      | none => False
      | some d => match σ.t d with
        | .tup [] => opsK C T ops r (σ.app o.dst skipW) K
        | .one (.p (.bool b)) => splitB b fun b =>
            if b = want then runK C (opR T o) { σ with t := upd σ.t d (.one (.p (.bool b))) } fun w _ => opsK C T ops r (St.app { σ with t := upd σ.t d (.one (.p (.bool b))) } o.dst w) K
            else opsK C T ops r (St.app { σ with t := upd σ.t d (.one (.p (.bool b))) } o.dst skipW) K
        | _ => False

theorem upd_self {α : Type} (f : Nat → α) (i : Nat) : upd f i (f i) = f := by
  funext j; unfold upd; split <;> simp_all

theorem opsK_run (C : Con) (T : Tab) (ops : Array Oper) : ∀ (l : List Oper) (σ : St) (K : St → Prop), opsK C T ops l σ K →
    match l with
    | [] => K σ
    | o :: r => ∃ w fp, Run C (guardR ops o (opR T o)) σ w fp ∧ opsK C T ops r (σ.app o.dst w) K
  | [], σ, K, h => h
  | o :: r, σ, K, h => by
    show ∃ w fp, _
    unfold opsK at h
    unfold guardR
    cases hg : o.guard with
    | none =>
      simp only [hg] at h ⊢
      exact runK_run C _ _ _ h
    | some gw =>
      obtain ⟨j, want⟩ := gw
      simp only [hg] at h ⊢
      cases hd : (ops[j]?).bind (·.dst) with
      | none => simp [hd] at h
      | some d =>
        simp only [hd] at h ⊢
        cases hv : σ.t d with
        | undef => simp [hv] at h
        | agg cs => simp [hv] at h
        | tup xs =>
          cases xs with
          | nil => simp only [hv] at h; exact ⟨skipW, [.t d], ⟨[], rfl, by simp [hv, Run]⟩, h⟩
          | cons x xs => simp [hv] at h
        | one c =>
          cases c with
          | p x =>
            cases x with
            | bool b =>
              simp only [hv] at h
              have h := splitB_out h
              have e : upd σ.t d (.one (.p (.bool b))) = σ.t := by rw [← hv]; exact upd_self _ _
              simp only [e] at h
              by_cases hb : b = want
              · simp only [hb, if_true] at h
                obtain ⟨w, fp, hr, hk⟩ := runK_run C _ _ _ h
                exact ⟨w, .t d :: fp, ⟨fp, rfl, by simp only [hv, Run, hb, if_true]; exact hr⟩, hk⟩
              · simp only [hb, if_false] at h
                exact ⟨skipW, [.t d], ⟨[], rfl, by simp [hv, Run, hb]⟩, h⟩
            | _ => simp [hv] at h
          | _ => simp [hv] at h

end Go.AW
