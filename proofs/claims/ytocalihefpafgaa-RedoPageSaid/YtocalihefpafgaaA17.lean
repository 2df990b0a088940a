/- The walk as a machine with a stack: rules by which a walk is reckoned, one step after the other. -/
import Derived.Test.YtocalihefpafgaaA13m
set_option linter.unusedVariables false
set_option linter.unusedSimpArgs false
namespace Go.AW

inductive It where
  | code (c : Code)
  | blk (id : Nat)
  | ops (ops : Array Oper) (r : List Oper)
  | drw (ops : Array Oper) (r : List Oper) (acc : List (List Loc × List Loc))

section
variable (C : Con) (T : Tab) (L : Code → (Ex → St → Prop) → St → Prop) (Q : Ex → St → Prop)

def den : List It → Ex → St → Prop
  | [], e, σ => Q e σ
  | .code c :: k, e, σ => match e with
    | .normal => cw C T L c (den k) σ
    | .exit j => den k (.exit j) σ
    | .ret => den k .ret σ
  | .blk id :: k, e, σ => match e with
    | .normal => den k .normal σ
    | .exit j => if j = id then den k .normal σ else den k (.exit j) σ
    | .ret => den k .ret σ
  | .ops ops r :: k, e, σ => match e with
    | .normal => opsK C T ops r σ (den k .normal)
    | .exit j => den k (.exit j) σ
    | .ret => den k .ret σ
  | .drw ops r acc :: k, e, σ => match e with
    | .normal => opsD C T ops r σ (fun D σ => drawOk ops (acc.reverse ++ D) = true ∧ den k .normal σ)
    | .exit j => den k (.exit j) σ
    | .ret => den k .ret σ

/-- The machine, going on normally; leaving by an exit; returning. -/
def Go (k : List It) (σ : St) : Prop := den C T L Q k .normal σ
def GoX (j : Nat) (k : List It) (σ : St) : Prop := den C T L Q k (.exit j) σ
def GoT (k : List It) (σ : St) : Prop := den C T L Q k .ret σ
/-- An operation's reckoning, in a text region ('acc' none) or in a drawn one. -/
def GoR (p : Rd Wr) (dst : Option Nat) (ops : Array Oper) (r : List Oper) (acc : Option (List (List Loc × List Loc) × List Loc)) (k : List It) (σ : St) : Prop :=
  match acc with
  | none => runK C p σ fun w _ => den C T L Q (.ops ops r :: k) .normal (σ.app dst w)
  | some (acc, fps) => runK C p σ fun w fp => den C T L Q (.drw ops r ((dst.toList.map .t ++ w.ms.map (fun x => .m x.1), fps.reverse ++ fp) :: acc) :: k) .normal (σ.app dst w)
/-- A guard's word. -/
def GoG (v : V) (want : Bool) (d : Nat) (o : Oper) (ops : Array Oper) (r : List Oper) (acc : Option (List (List Loc × List Loc))) (k : List It) (σ : St) : Prop :=
  match v with
  | .tup [] => GoR C T L Q (.ret skipW) o.dst ops r (acc.map fun a => (a, [.t d])) k σ
  | .one (.p (.bool b)) => splitB b fun b => if b = want then GoR C T L Q (opR T o) o.dst ops r (acc.map fun a => (a, [.t d])) k { σ with t := upd σ.t d (.one (.p (.bool b))) }
      else GoR C T L Q (.ret skipW) o.dst ops r (acc.map fun a => (a, [.t d])) k { σ with t := upd σ.t d (.one (.p (.bool b))) }
  | _ => False
/-- A condition's word. -/
def GoC (v : V) (x y : Code) (k : List It) (σ : St) : Prop :=
  match v with
  | .one (.p (.bool b)) => splitB b fun b => if b = true then Go C T L Q (.code x :: k) σ else Go C T L Q (.code y :: k) σ
  | _ => False
def callS (f : Nat) (args : List V) (M : List (Nat × Obj)) (g : V → List (Nat × Obj) → Rd Wr) (dst : Option Nat) (ops : Array Oper) (r : List Oper) (acc : Option (List (List Loc × List Loc) × List Loc)) (k : List It) (σ : St) : Prop :=
  ∃ v M', C f args M v M' ∧ GoR C T L Q (g v M') dst ops r acc k σ
def elemS (xs : List (List PV)) (i : Nat) (g : List PV → Rd Wr) (dst : Option Nat) (ops : Array Oper) (r : List Oper) (acc : Option (List (List Loc × List Loc) × List Loc)) (k : List It) (σ : St) : Prop :=
  ∃ x, xs[i]? = some x ∧ GoR C T L Q (g x) dst ops r acc k σ
def elemCS (xs : List Ce) (i : Nat) (g : Ce → Rd Wr) (dst : Option Nat) (ops : Array Oper) (r : List Oper) (acc : Option (List (List Loc × List Loc) × List Loc)) (k : List It) (σ : St) : Prop :=
  ∃ x, xs[i]? = some x ∧ GoR C T L Q (g x) dst ops r acc k σ
end

section
variable {C : Con} {T : Tab} {L : Code → (Ex → St → Prop) → St → Prop} {Q : Ex → St → Prop} {k : List It} {σ : St}
variable {ops : Array Oper} {r : List Oper} {dst : Option Nat}

theorem go_start {c : Code} (h : Go C T L Q [.code c] σ) : cw C T L c Q σ := h

theorem go_nil : Go C T L Q [] σ = Q .normal σ := _root_.id rfl
theorem goX_nil {j : Nat} : GoX C T L Q j [] σ = Q (.exit j) σ := _root_.id rfl
theorem goT_all : GoT C T L Q k σ = Q .ret σ := by
  unfold GoT
  induction k with
  | nil => rfl
  | cons i k ih => cases i <;> exact ih
theorem go_skip : Go C T L Q (.code .skip :: k) σ = Go C T L Q k σ := _root_.id rfl
theorem go_seq {a b : Code} : Go C T L Q (.code (.seq a b) :: k) σ = Go C T L Q (.code a :: .code b :: k) σ := by
  show cw C T L a _ σ = cw C T L a _ σ
  congr 1
theorem go_block {id : Nat} {b : Code} : Go C T L Q (.code (.block id b) :: k) σ = Go C T L Q (.code b :: .blk id :: k) σ := by
  show cw C T L b _ σ = cw C T L b _ σ
  congr 1
theorem go_blk {id : Nat} : Go C T L Q (.blk id :: k) σ = Go C T L Q k σ := _root_.id rfl
theorem go_label {l : Nat} : Go C T L Q (.code (.label l) :: k) σ = Go C T L Q k σ := _root_.id rfl
theorem go_exit {id : Nat} : Go C T L Q (.code (.exit id) :: k) σ = GoX C T L Q id k σ := _root_.id rfl
theorem go_ret : Go C T L Q (.code .ret :: k) σ = Q .ret σ := goT_all
theorem go_loop {b : Code} : Go C T L Q (.code (.loop b) :: k) σ = L (.loop b) (den C T L Q k) σ := _root_.id rfl
theorem goX_code {j : Nat} {c : Code} : GoX C T L Q j (.code c :: k) σ = GoX C T L Q j k σ := _root_.id rfl
theorem goX_blk {j id : Nat} : GoX C T L Q j (.blk id :: k) σ = if j = id then Go C T L Q k σ else GoX C T L Q j k σ := _root_.id rfl
theorem den_go : den C T L Q k .normal σ = Go C T L Q k σ := _root_.id rfl
theorem den_exit {j : Nat} : den C T L Q k (.exit j) σ = GoX C T L Q j k σ := _root_.id rfl
theorem den_ret : den C T L Q k .ret σ = Q .ret σ := goT_all
theorem go_text {id : Nat} : Go C T L Q (.code (.region id ops false) :: k) σ = Go C T L Q (.ops ops ops.toList :: k) σ := _root_.id rfl
theorem go_drawn {id : Nat} : Go C T L Q (.code (.region id ops true) :: k) σ = Go C T L Q (.drw ops ops.toList [] :: k) σ := _root_.id rfl
theorem go_ops0 : Go C T L Q (.ops ops [] :: k) σ = Go C T L Q k σ := _root_.id rfl
theorem go_drw0 {acc : List (List Loc × List Loc)} : Go C T L Q (.drw ops [] acc :: k) σ = (drawOk ops acc.reverse = true ∧ Go C T L Q k σ) := by
  show (drawOk ops (acc.reverse ++ []) = true ∧ _) = _
  rw [List.append_nil]; rfl
theorem go_cond {c : Nat} {x y : Code} : Go C T L Q (.code (.cond (.tmp c) x y) :: k) σ = GoC C T L Q (σ.t c) x y k σ := by
  show cw C T L (.cond (.tmp c) x y) _ σ = _
  simp only [cw]
  unfold GoC
  generalize σ.t c = v
  cases v <;> try rfl
theorem goC_true {x y : Code} : GoC C T L Q (.one (.p (.bool true))) x y k σ = Go C T L Q (.code x :: k) σ := by simp [GoC, splitB]
theorem goC_false {x y : Code} : GoC C T L Q (.one (.p (.bool false))) x y k σ = Go C T L Q (.code y :: k) σ := by simp [GoC, splitB]
theorem goC_dec {q : Prop} [Decidable q] {x y : Code} : GoC C T L Q (.one (.p (.bool (decide q)))) x y k σ = ((q → Go C T L Q (.code x :: k) σ) ∧ (¬ q → Go C T L Q (.code y :: k) σ)) := by simp [GoC, splitB]
theorem goC_any {b : Bool} {x y : Code} : GoC C T L Q (.one (.p (.bool b))) x y k σ = ((b = true → Go C T L Q (.code x :: k) σ) ∧ (b = false → Go C T L Q (.code y :: k) σ)) := by simp [GoC, splitB]

theorem go_op {o : Oper} (h : o.guard = none) : Go C T L Q (.ops ops (o :: r) :: k) σ = GoR C T L Q (opR T o) o.dst ops r none k σ := by
  show opsK C T ops (o :: r) σ _ = _
  simp only [opsK, h]; rfl
theorem go_opD {o : Oper} {acc : List (List Loc × List Loc)} (h : o.guard = none) : Go C T L Q (.drw ops (o :: r) acc :: k) σ = GoR C T L Q (opR T o) o.dst ops r (some (acc, [])) k σ := by
  show opsD C T ops (o :: r) σ (fun D σ => drawOk ops (acc.reverse ++ D) = true ∧ den C T L Q k .normal σ) = _
  simp only [opsD, h, GoR, den, List.reverse_nil, List.nil_append, List.reverse_cons, List.append_assoc, List.singleton_append]
theorem go_opG {o : Oper} {j d : Nat} {want : Bool} (h : o.guard = some (j, want)) (hd : (ops[j]?).bind (·.dst) = some d) : Go C T L Q (.ops ops (o :: r) :: k) σ = GoG C T L Q (σ.t d) want d o ops r none k σ := by
  show opsK C T ops (o :: r) σ _ = _
  simp only [opsK, h, hd]
  unfold GoG
  generalize σ.t d = v
  cases v with
  | undef => rfl
  | agg cs => rfl
  | tup xs => cases xs <;> rfl
  | one c =>
    cases c <;> try rfl
theorem go_opGD {o : Oper} {acc : List (List Loc × List Loc)} {j d : Nat} {want : Bool} (h : o.guard = some (j, want)) (hd : (ops[j]?).bind (·.dst) = some d) : Go C T L Q (.drw ops (o :: r) acc :: k) σ = GoG C T L Q (σ.t d) want d o ops r (some acc) k σ := by
  show opsD C T ops (o :: r) σ (fun D σ => drawOk ops (acc.reverse ++ D) = true ∧ den C T L Q k .normal σ) = _
  simp only [opsD, h, hd]
  unfold GoG
  generalize σ.t d = v
  cases v with
  | undef => rfl
  | agg cs => rfl
  | tup xs =>
    cases xs with
    | nil => simp only [GoR, Option.map_some, den, runK, skipW, List.reverse_cons, List.reverse_nil, List.nil_append, List.append_nil, List.append_assoc, List.singleton_append, List.map_nil]
    | cons x xs => rfl
  | one c =>
    cases c <;> try rfl
    rename_i x; cases x <;> try rfl
    simp only [GoR, Option.map_some, den, runK, skipW, List.reverse_cons, List.reverse_nil, List.nil_append, List.append_nil, List.append_assoc, List.singleton_append, List.map_nil, List.cons_append]

/-- Where a guard stands. -/
def dstL : List Oper → Nat → Option Nat
  | [], _ => none
  | o :: _, 0 => o.dst
  | _ :: r, n + 1 => dstL r n
theorem dstL_get : ∀ (l : List Oper) (j : Nat), dstL l j = (l[j]?).bind (·.dst)
  | [], j => by simp [dstL]
  | o :: l, 0 => by simp [dstL]
  | o :: l, n + 1 => by simp [dstL, dstL_get l n]
def GoD (C : Con) (T : Tab) (L : Code → (Ex → St → Prop) → St → Prop) (Q : Ex → St → Prop) (od : Option Nat) (want : Bool) (o : Oper) (ops : Array Oper) (r : List Oper) (acc : Option (List (List Loc × List Loc))) (k : List It) (σ : St) : Prop :=
  match od with
  | some d => GoG C T L Q (σ.t d) want d o ops r acc k σ
  | none => False
theorem goD_some {d : Nat} {want : Bool} {o : Oper} {acc : Option (List (List Loc × List Loc))} : GoD C T L Q (some d) want o ops r acc k σ = GoG C T L Q (σ.t d) want d o ops r acc k σ := _root_.id rfl

/-- The machine's rules for operations as they stand in the text. -/
theorem go_t {op : Op} {ty : TypeId} {ps : String} {af : Array Edge} : Go C T L Q (.ops ops (⟨dst, op, ty, ps, af, none⟩ :: r) :: k) σ = GoR C T L Q (opR T ⟨dst, op, ty, ps, af, none⟩) dst ops r none k σ := go_op rfl
theorem go_tD {op : Op} {ty : TypeId} {ps : String} {af : Array Edge} {acc : List (List Loc × List Loc)} : Go C T L Q (.drw ops (⟨dst, op, ty, ps, af, none⟩ :: r) acc :: k) σ = GoR C T L Q (opR T ⟨dst, op, ty, ps, af, none⟩) dst ops r (some (acc, [])) k σ := go_opD rfl
theorem go_tG {op : Op} {ty : TypeId} {ps : String} {af : Array Edge} {j : Nat} {want : Bool} : Go C T L Q (.ops ops (⟨dst, op, ty, ps, af, some (j, want)⟩ :: r) :: k) σ = GoD C T L Q (dstL ops.toList j) want ⟨dst, op, ty, ps, af, some (j, want)⟩ ops r none k σ := by
  rw [dstL_get, Array.getElem?_toList]
  cases hd : (ops[j]?).bind (·.dst) with
  | some d => exact go_opG rfl hd
  | none => simp only [Go, den, opsK, hd, GoD]
theorem go_tGD {op : Op} {ty : TypeId} {ps : String} {af : Array Edge} {j : Nat} {want : Bool} {acc : List (List Loc × List Loc)} : Go C T L Q (.drw ops (⟨dst, op, ty, ps, af, some (j, want)⟩ :: r) acc :: k) σ = GoD C T L Q (dstL ops.toList j) want ⟨dst, op, ty, ps, af, some (j, want)⟩ ops r (some acc) k σ := by
  rw [dstL_get, Array.getElem?_toList]
  cases hd : (ops[j]?).bind (·.dst) with
  | some d => exact go_opGD rfl hd
  | none => simp only [Go, den, opsD, hd, GoD]

theorem goG_skip {want : Bool} {d : Nat} {o : Oper} {acc : Option (List (List Loc × List Loc))} : GoG C T L Q (.tup []) want d o ops r acc k σ = GoR C T L Q (.ret skipW) o.dst ops r (acc.map fun a => (a, [.t d])) k σ := _root_.id rfl
theorem goG_tt {d : Nat} {o : Oper} {acc : Option (List (List Loc × List Loc))} : GoG C T L Q (.one (.p (.bool true))) true d o ops r acc k σ = GoR C T L Q (opR T o) o.dst ops r (acc.map fun a => (a, [.t d])) k { σ with t := upd σ.t d (.one (.p (.bool true))) } := by simp [GoG, splitB]
theorem goG_ff {d : Nat} {o : Oper} {acc : Option (List (List Loc × List Loc))} : GoG C T L Q (.one (.p (.bool false))) false d o ops r acc k σ = GoR C T L Q (opR T o) o.dst ops r (acc.map fun a => (a, [.t d])) k { σ with t := upd σ.t d (.one (.p (.bool false))) } := by simp [GoG, splitB]
theorem goG_tf {d : Nat} {o : Oper} {acc : Option (List (List Loc × List Loc))} : GoG C T L Q (.one (.p (.bool true))) false d o ops r acc k σ = GoR C T L Q (.ret skipW) o.dst ops r (acc.map fun a => (a, [.t d])) k { σ with t := upd σ.t d (.one (.p (.bool true))) } := by simp [GoG, splitB]
theorem goG_ft {d : Nat} {o : Oper} {acc : Option (List (List Loc × List Loc))} : GoG C T L Q (.one (.p (.bool false))) true d o ops r acc k σ = GoR C T L Q (.ret skipW) o.dst ops r (acc.map fun a => (a, [.t d])) k { σ with t := upd σ.t d (.one (.p (.bool false))) } := by simp [GoG, splitB]
theorem goG_any {b : Bool} {want : Bool} {d : Nat} {o : Oper} {acc : Option (List (List Loc × List Loc))} : GoG C T L Q (.one (.p (.bool b))) want d o ops r acc k σ =
    ((b = true → GoG C T L Q (.one (.p (.bool true))) want d o ops r acc k σ) ∧ (b = false → GoG C T L Q (.one (.p (.bool false))) want d o ops r acc k σ)) := by
  cases b <;> simp
theorem goG_dec {q : Prop} [Decidable q] {want : Bool} {d : Nat} {o : Oper} {acc : Option (List (List Loc × List Loc))} : GoG C T L Q (.one (.p (.bool (decide q)))) want d o ops r acc k σ =
    ((q → GoG C T L Q (.one (.p (.bool true))) want d o ops r acc k σ) ∧ (¬ q → GoG C T L Q (.one (.p (.bool false))) want d o ops r acc k σ)) := by
  by_cases h : q <;> simp [h]

theorem goR_ret {w : Wr} : GoR C T L Q (.ret w) dst ops r none k σ = Go C T L Q (.ops ops r :: k) (σ.app dst w) := _root_.id rfl
theorem goR_retD {w : Wr} {acc : List (List Loc × List Loc)} {fps : List Loc} : GoR C T L Q (.ret w) dst ops r (some (acc, fps)) k σ = Go C T L Q (.drw ops r ((dst.toList.map .t ++ w.ms.map (fun x => .m x.1), fps.reverse) :: acc) :: k) (σ.app dst w) := by
  simp only [GoR, runK, List.append_nil]; rfl
theorem goR_getT {t : Nat} {g : V → Rd Wr} : GoR C T L Q (.getT t g) dst ops r none k σ = GoR C T L Q (g (σ.t t)) dst ops r none k σ := _root_.id rfl
theorem goR_getTD {t : Nat} {g : V → Rd Wr} {acc : List (List Loc × List Loc)} {fps : List Loc} : GoR C T L Q (.getT t g) dst ops r (some (acc, fps)) k σ = GoR C T L Q (g (σ.t t)) dst ops r (some (acc, .t t :: fps)) k σ := by
  simp only [GoR, runK, List.reverse_cons, List.append_assoc, List.singleton_append]
theorem goR_getM {t : Nat} {g : Option Obj → Rd Wr} : GoR C T L Q (.getM t g) dst ops r none k σ = GoR C T L Q (g (σ.m t)) dst ops r none k σ := _root_.id rfl
theorem goR_getMD {t : Nat} {g : Option Obj → Rd Wr} {acc : List (List Loc × List Loc)} {fps : List Loc} : GoR C T L Q (.getM t g) dst ops r (some (acc, fps)) k σ = GoR C T L Q (g (σ.m t)) dst ops r (some (acc, .m t :: fps)) k σ := by
  simp only [GoR, runK, List.reverse_cons, List.append_assoc, List.singleton_append]
theorem goR_fresh {d n : Nat} {p : Rd Wr} : GoR C T L Q (.fresh d n p) dst ops r none k σ = ((∀ i, i < n → σ.m (rowI d i) = none) ∧ GoR C T L Q p dst ops r none k σ) := _root_.id rfl
theorem goR_assert {q : Prop} {p : Rd Wr} {acc : Option (List (List Loc × List Loc) × List Loc)} : GoR C T L Q (.assert q p) dst ops r acc k σ = (q ∧ GoR C T L Q p dst ops r acc k σ) := by
  cases acc <;> rfl
theorem goR_stuck {acc : Option (List (List Loc × List Loc) × List Loc)} : GoR C T L Q .stuck dst ops r acc k σ = False := by cases acc <;> rfl
theorem goR_splT {g : Bool → Rd Wr} {acc : Option (List (List Loc × List Loc) × List Loc)} : GoR C T L Q (.spl true g) dst ops r acc k σ = GoR C T L Q (g true) dst ops r acc k σ := by cases acc <;> simp [GoR, runK, splitB]
theorem goR_splF {g : Bool → Rd Wr} {acc : Option (List (List Loc × List Loc) × List Loc)} : GoR C T L Q (.spl false g) dst ops r acc k σ = GoR C T L Q (g false) dst ops r acc k σ := by cases acc <;> simp [GoR, runK, splitB]
theorem goR_splDec {q : Prop} [Decidable q] {g : Bool → Rd Wr} {acc : Option (List (List Loc × List Loc) × List Loc)} : GoR C T L Q (.spl (decide q) g) dst ops r acc k σ = ((q → GoR C T L Q (g true) dst ops r acc k σ) ∧ (¬ q → GoR C T L Q (g false) dst ops r acc k σ)) := by cases acc <;> simp [GoR, runK, splitB]
theorem goR_splAny {b : Bool} {g : Bool → Rd Wr} {acc : Option (List (List Loc × List Loc) × List Loc)} : GoR C T L Q (.spl b g) dst ops r acc k σ = ((b = true → GoR C T L Q (g true) dst ops r acc k σ) ∧ (b = false → GoR C T L Q (g false) dst ops r acc k σ)) := by cases acc <;> simp [GoR, runK, splitB]
theorem goR_elem {xs : List (List PV)} {i : Nat} {g : List PV → Rd Wr} {acc : Option (List (List Loc × List Loc) × List Loc)} : GoR C T L Q (.elem xs i g) dst ops r acc k σ = elemS C T L Q xs i g dst ops r acc k σ := by cases acc <;> rfl
theorem goR_elemC {xs : List Ce} {i : Nat} {g : Ce → Rd Wr} {acc : Option (List (List Loc × List Loc) × List Loc)} : GoR C T L Q (.elemC xs i g) dst ops r acc k σ = elemCS C T L Q xs i g dst ops r acc k σ := by cases acc <;> rfl
theorem goR_call {f : Nat} {args : List V} {M : List (Nat × Obj)} {g : V → List (Nat × Obj) → Rd Wr} {acc : Option (List (List Loc × List Loc) × List Loc)} : GoR C T L Q (.call f args M g) dst ops r acc k σ = callS C T L Q f args M g dst ops r acc k σ := by cases acc <;> rfl

/-- A call, by its contract. -/
theorem call_by {f : Nat} {args : List V} {M : List (Nat × Obj)} {g : V → List (Nat × Obj) → Rd Wr} {acc : Option (List (List Loc × List Loc) × List Loc)} {v : V} {M' : List (Nat × Obj)} (hc : C f args M v M')
    (h : GoR C T L Q (g v M') dst ops r acc k σ) : callS C T L Q f args M g dst ops r acc k σ := ⟨v, M', hc, h⟩
theorem elem_by {xs : List (List PV)} {i : Nat} {g : List PV → Rd Wr} {acc : Option (List (List Loc × List Loc) × List Loc)} {x : List PV} (hx : xs[i]? = some x) (h : GoR C T L Q (g x) dst ops r acc k σ) :
    elemS C T L Q xs i g dst ops r acc k σ := ⟨x, hx, h⟩
theorem elemC_by {xs : List Ce} {i : Nat} {g : Ce → Rd Wr} {acc : Option (List (List Loc × List Loc) × List Loc)} {x : Ce} (hx : xs[i]? = some x) (h : GoR C T L Q (g x) dst ops r acc k σ) :
    elemCS C T L Q xs i g dst ops r acc k σ := ⟨x, hx, h⟩
theorem goR_elemC_cons {c : Ce} {xs : List Ce} {g : Ce → Rd Wr} {acc : Option (List (List Loc × List Loc) × List Loc)} : elemCS C T L Q (c :: xs) 0 g dst ops r acc k σ = GoR C T L Q (g c) dst ops r acc k σ := by
  simp [elemCS]
theorem goR_elemC_succ {c : Ce} {xs : List Ce} {i : Nat} {g : Ce → Rd Wr} {acc : Option (List (List Loc × List Loc) × List Loc)} : elemCS C T L Q (c :: xs) (i + 1) g dst ops r acc k σ = elemCS C T L Q xs i g dst ops r acc k σ := by
  simp [elemCS]
end

/-! ### States by lists, for what is forgotten -/

def tOf : List (Nat × V) → Nat → V
  | [], _ => .undef
  | (i, v) :: r, j => if j = i then v else tOf r j
theorem tOf_nil {j : Nat} : tOf [] j = .undef := _root_.id rfl
theorem tOf_cons {i j : Nat} {v : V} {r : List (Nat × V)} : tOf ((i, v) :: r) j = if j = i then v else tOf r j := _root_.id rfl

def agreeT (t : Nat → V) : List (Nat × V) → Prop
  | [] => True
  | (i, v) :: r => t i = v ∧ agreeT t r

theorem tOf_agree {t : Nat → V} : ∀ {l : List (Nat × V)}, agreeT t l → ∀ i, tOf l i = .undef ∨ tOf l i = t i
  | [], _, i => .inl rfl
  | (j, v) :: r, h, i => by
    unfold tOf
    split
    · rename_i e; subst e; exact .inr h.1.symm
    · exact tOf_agree h.2 i

/-- All that a list of values refers to is among these. -/
def refsT (ids : List Nat) : List (Nat × V) → Bool
  | [] => true
  | (_, v) :: r => (refsV v).all ids.contains && refsT ids r
theorem refsT_tOf {ids : List Nat} : ∀ {l : List (Nat × V)}, refsT ids l = true → ∀ i, ∀ id ∈ refsV (tOf l i), id ∈ ids
  | [], _, i, id, h => by simp [tOf, refsV] at h
  | (j, v) :: r, hb, i, id, h => by
    simp only [refsT, Bool.and_eq_true] at hb
    unfold tOf at h
    split at h
    · exact List.contains_iff_mem.1 (List.all_eq_true.1 hb.1 id h)
    · exact refsT_tOf hb.2 i id h

/-- Forgetting, down to lists: pure (no memory). -/
theorem weak_pure {E : Env} {σ : St} {l : List (Nat × V)} (h : agreeT σ.t l) (hr : refsT [] l = true) (h0 : E.m0 = fun _ => none) : Weak E σ { t := tOf l, m := fun _ => none } where
  t := tOf_agree h
  m := fun _ => .inl rfl
  rt := fun i id hid => by have := refsT_tOf hr i id hid; simp at this
  rm := fun id o h => by cases h
  m0 := fun id o h => by rw [h0] at h; cases h

theorem weak_mem {E : Env} {σ : St} {l : List (Nat × V)} {M M' : List (Nat × Obj)} (h : agreeT σ.t l) (hm : allIn M' σ.m) (hr : refsT (M'.map (·.1)) l = true) (hM : M'.all (fun x => (refsO x.2).all (M'.map (·.1)).contains) = true)
    (h0 : E.m0 = mOf M) (hsub : M.all (fun x => (M'.map (·.1)).contains x.1) = true) : Weak E σ { t := tOf l, m := mOf M' } := by
  have hk : ∀ id, (M'.map (·.1)).contains id = true → mOf M' id = σ.m id := fun id h => by
    rcases mOf_allIn hm id with ⟨_, h2⟩ | ⟨h1, _⟩
    · rw [h2] at h; cases h
    · exact h1
  refine ⟨tOf_agree h, fun id => ?_, fun i id hid => hk id (List.contains_iff_mem.2 (refsT_tOf hr i id hid)), fun id o h j hj => hk j (List.all_eq_true.1 (List.all_eq_true.1 hM (id, o) (mOf_mem h)) j hj), fun id o h => ?_⟩
  · rcases mOf_allIn hm id with ⟨h1, _⟩ | ⟨h1, _⟩
    · exact .inl h1
    · exact .inr h1
  · rw [h0] at h
    exact hk id (List.all_eq_true.1 hsub (id, o) (mOf_mem h))
end Go.AW
