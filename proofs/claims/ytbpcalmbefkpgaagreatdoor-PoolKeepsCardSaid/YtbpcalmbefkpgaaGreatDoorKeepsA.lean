/- Part 1 of the proof: SxA, SxB, SxC, SxD, SxE, SxF, SxFB, SxG, SxH, SxI, SxS, SxM, SxN, SxT, SxO. -/
import Derived.TacticsIn
import Derived.RangeFuncOwn
import Derived.RangeFuncLeaves
import Derived.OrdersIn
import Derived.Shelf.Abstract
import Derived.IntWalk
import Derived.WalkKit
import Derived.Laws.AppendOwn
import Derived.Maps.AppendAt
import Derived.Laws.OwnMore
import Derived.Laws.BytesString
import Derived.Laws.Tables
import Derived.Laws.IdiomCopy
import Derived.Laws.CopyRow
set_option linter.unusedVariables false
set_option linter.unusedSimpArgs false

section
/- A walk of Go code in continuation-passing form: the weakest precondition of a function's code as a plain proposition over values, and its soundness for the machine. -/
namespace Go.Sx
open Go

/-- A frame as a function of slots. -/
abbrev Fr := Nat → Value

def upd (f : Fr) (k : Nat) (v : Value) : Fr := fun i => bif Nat.beq i k then v else f i

structure St where
  f : Fr
  ds : List Deferred

def St.ev (s : St) : Operand → Value
  | .tmp t => s.f t
  | .const v => v
  | .global g => .pointer (some ⟨g, 0, none⟩)
  | .func f => .func (.func f) #[] #[]

def St.put (s : St) (d : Option Tmp) (v : Value) : St :=
  match d with
  | some d => ⟨upd s.f d v, s.ds⟩
  | none => s

abbrev Post := Exit → St → World → Prop

def isC : Operand → Bool
  | .const _ => true
  | _ => false

def run (P : Program) (s : Sem Value) (K : Value → World → Prop) (w : World) : Prop :=
  match s.run P w with
  | .ok v w' => K v w'
  | .halt _ _ => False

def runU (P : Program) (s : Sem Unit) (K : World → Prop) (w : World) : Prop :=
  match s.run P w with
  | .ok _ w' => K w'
  | .halt _ _ => False

/-- What a call's end must meet: it returns. -/
def RetK (K : Value → World → Prop) : Ending → World → Prop
  | .returned v, w => K v w
  | _, _ => False

/-- Function f is entered, and its call returns as K asks. -/
def callS (P : Program) (f : FuncId) (args : List Value) (K : Value → World → Prop) (w : World) : Prop :=
  (callFunc f args.toArray).run P w = .ok (.enter f args.toArray) w ∧ Calls P f args.toArray w (RetK K)

/-- Whatever an operation comes to. -/
def exec (P : Program) (s : Sem Next) (K : Value → World → Prop) (w : World) : Prop :=
  match s.run P w with
  | .ok (.value v) w' => K v w'
  | .ok .skip w' => K undef w'
  | .ok (.enter f args) w' => Calls P f args w' (RetK K)
  | .ok (.round l f tmps assign body) w' => RoundIn Fence.wide 0 P l f tmps assign body w' (RetK K)
  | _ => False

/-- Function f is called: it has a body, or the machine stands in for it. -/
def call (P : Program) (f : FuncId) (args : List Value) (K : Value → World → Prop) (w : World) : Prop := callS P f args K w ∨ exec P (callFunc f args.toArray) K w

/-- A function value is called. -/
def callV (P : Program) (fv : Value) (args : List Value) (K : Value → World → Prop) (w : World) : Prop :=
  match fv with
  | .func (.func f) ⟨[]⟩ ⟨cap⟩ => call P f (args ++ cap) K w
  | _ => exec P (do let d ← Deferred.ofValue fv args.toArray; invoke d.target d.args) K w

def dummy (c : Bool) : Operand := bif c then .const undef else .tmp 0

def binS (op : BinOp) (t : TypeId) (c : Bool) (a b : Value) : Sem Value := do eqGuard op t (dummy c) (.tmp 0) a b; binOp op t a b

def pickV (c a b : Value) (K : Value → World → Prop) (w : World) : Prop :=
  match c with
  | .bool t => K (bif t then a else b) w
  | _ => False

def partsOf (ρ : Operand → Value) (ps : List (Nat × Operand)) : List (Nat × Value) := ps.map fun p => (p.1, ρ p.2)

def omap (ρ : Operand → Value) : Option Operand → Option Value
  | some x => some (ρ x)
  | none => none

def nilS (x : Value) : Sem Value :=
  match x with
  | .pointer none => runtimePanic .nilDeref
  | .pointer (some a) => pure (.pointer (some a))
  | _ => stuck "Sx.nilS"

/-- An operation, by what it is. -/
def opW (P : Program) (o : Op) (ty : TypeId) (ρ : Operand → Value) (K : Value → World → Prop) (w : World) : Prop :=
  match o with
  | .move x => K (ρ x) w
  | .assign x => K (ρ x) w
  | .pick c a b => pickV (ρ c) (ρ a) (ρ b) K w
  | .alloc e => run P (Instr.alloc e true (.tuple #[])) K w
  | .box e x => run P (Instr.box e (ρ x)) K w
  | .build t ps => run P (Instr.build t ⟨partsOf ρ ps.toList⟩) K w
  | .buildSlice t n ps => run P (Instr.buildSlice t n ⟨partsOf ρ ps.toList⟩) K w
  | .load t x => run P (Instr.loadAt t (ρ x)) K w
  | .store t x y => runU P (Instr.storeAt t (ρ x) (ρ y)) (K undef) w
  | .nilCheck x => run P (nilS (ρ x)) K w
  | .binOp op t x y _ => run P (binS op t (isC x || isC y) (ρ x) (ρ y)) K w
  | .unOp op _ x => run P (Op.unary op (ρ x)) K w
  | .convert s d x => run P (convert s d (ρ x)) K w
  | .makeFunc fn first cap => run P (Instr.makeFunc fn ⟨first.toList.map ρ⟩ ⟨cap.toList.map ρ⟩) K w
  | .makeMap t r => run P (Instr.makeMap t (omap ρ r)) K w
  | .makeSlice t l c => run P (Instr.makeSlice t (ρ l) (ρ c)) K w
  | .slice t x lo hi mx => run P (Instr.sliceAt t (ρ x) (omap ρ lo) (omap ρ hi) (omap ρ mx)) K w
  | .fieldAddr s x f => run P (Instr.fieldAt s (ρ x) f) K w
  | .field t x f => run P (Instr.field t (ρ x) f) K w
  | .indexAddr t x i => run P (Instr.indexAt t (ρ x) (ρ i)) K w
  | .index t x i => run P (Instr.index t (ρ x) (ρ i)) K w
  | .lookup t x i ok => run P (Instr.lookup t (ρ x) (ρ i) ok) K w
  | .mapUpdate t m k x => runU P (Instr.mapUpdate t (ρ m) (ρ k) (ρ x)) (K undef) w
  | .extract t i => run P (Instr.extract (ρ t) i) K w
  | .call c =>
    match c.callee with
    | .value fv => callV P (ρ fv) (c.args.toList.map ρ) K w
    | .builtin .append => run P (Builtin.append_ c.argTypes ty ⟨c.args.toList.map ρ⟩) K w
    | .builtin .len => run P (Builtin.len_ c.argTypes ty ⟨c.args.toList.map ρ⟩) K w
    | .builtin .cap => run P (Builtin.cap_ c.argTypes ty ⟨c.args.toList.map ρ⟩) K w
    | .builtin .max => run P (Builtin.max_ c.argTypes ty ⟨c.args.toList.map ρ⟩) K w
    | .builtin .min => run P (Builtin.min_ c.argTypes ty ⟨c.args.toList.map ρ⟩) K w
    | .builtin .copy => run P (Builtin.copy_ c.argTypes ty ⟨c.args.toList.map ρ⟩) K w
    | .builtin .clear => run P (Builtin.clear_ c.argTypes ty ⟨c.args.toList.map ρ⟩) K w
    | .builtin .delete => run P (Builtin.delete_ c.argTypes ty ⟨c.args.toList.map ρ⟩) K w
    | _ => False
  | _ => False

/-- What a guard looks at. -/
def gval (ops : List Oper) (s : St) (j : Nat) : Value :=
  match ops[j]? with
  | some o => match o.dst with
    | some d => s.f d
    | none => undef
  | none => undef

def gcond (v : Value) (want : Bool) (A B : Prop) : Prop :=
  match v with
  | .bool b => bif b == want then A else B
  | _ => B

/-- One operation, its guard asked. -/
def stepW (P : Program) (ops : List Oper) (o : Oper) (K : St → World → Prop) (s : St) (w : World) : Prop :=
  match o.guard with
  | none => opW P o.op o.type s.ev (fun v w => K (s.put o.dst v) w) w
  | some (j, want) => gcond (gval ops s j) want (opW P o.op o.type s.ev (fun v w => K (s.put o.dst v) w) w) (K (s.put o.dst undef) w)

def opsW (P : Program) (ops : List Oper) : List Oper → (St → World → Prop) → St → World → Prop
  | [], K, s, w => K s w
  | o :: rest, K, s, w => stepW P ops o (opsW P ops rest K) s w

def cnd (v : Value) (A B : Prop) : Prop :=
  match v with
  | .bool b => bif b then A else B
  | _ => False

/-! ### Sem -/
theorem run_iff {P : Program} {s : Sem Value} {K : Value → World → Prop} {w : World} : run P s K w ↔ ∃ v w', s.run P w = .ok v w' ∧ K v w' := by
  unfold run
  split
  · rename_i v w' h; exact ⟨fun k => ⟨v, w', h, k⟩, fun ⟨_, _, e, k⟩ => by rw [h] at e; cases e; exact k⟩
  · rename_i h; exact ⟨False.elim, fun ⟨_, _, e, _⟩ => by rw [h] at e; cases e⟩

theorem runU_iff {P : Program} {s : Sem Unit} {K : World → Prop} {w : World} : runU P s K w ↔ ∃ u w', s.run P w = .ok u w' ∧ K w' := by
  unfold runU
  split
  · rename_i v w' h; exact ⟨fun k => ⟨v, w', h, k⟩, fun ⟨_, _, e, k⟩ => by rw [h] at e; cases e; exact k⟩
  · rename_i h; exact ⟨False.elim, fun ⟨_, _, e, _⟩ => by rw [h] at e; cases e⟩

theorem RetK.mono {K K' : Value → World → Prop} (h : ∀ v w, K v w → K' v w) : ∀ e w, RetK K e w → RetK K' e w := by
  intro e w k
  cases e <;> first | exact h _ _ k | exact k

theorem run_mono {P : Program} {s : Sem Value} {K K' : Value → World → Prop} (h : ∀ v w, K v w → K' v w) {w : World} (k : run P s K w) : run P s K' w := by
  rw [run_iff] at *; obtain ⟨v, w', e, k⟩ := k; exact ⟨v, w', e, h _ _ k⟩
theorem runU_mono {P : Program} {s : Sem Unit} {K K' : World → Prop} (h : ∀ w, K w → K' w) {w : World} (k : runU P s K w) : runU P s K' w := by
  rw [runU_iff] at *; obtain ⟨v, w', e, k⟩ := k; exact ⟨v, w', e, h _ k⟩
theorem callS_mono {P : Program} {f : FuncId} {args : List Value} {K K' : Value → World → Prop} (h : ∀ v w, K v w → K' v w) {w : World} (k : callS P f args K w) : callS P f args K' w :=
  ⟨k.1, k.2.mono (RetK.mono h)⟩
theorem exec_mono {P : Program} {s : Sem Next} {K K' : Value → World → Prop} (h : ∀ v w, K v w → K' v w) {w : World} (k : exec P s K w) : exec P s K' w := by
  unfold exec at *
  split at k
  · exact h _ _ k
  · exact h _ _ k
  · exact k.mono (RetK.mono h)
  · exact k.mono (RetK.mono h)
  · exact k
theorem call_mono {P : Program} {f : FuncId} {args : List Value} {K K' : Value → World → Prop} (h : ∀ v w, K v w → K' v w) {w : World} (k : call P f args K w) : call P f args K' w :=
  k.imp (callS_mono h) (exec_mono h)
theorem callV_mono {P : Program} {fv : Value} {args : List Value} {K K' : Value → World → Prop} (h : ∀ v w, K v w → K' v w) {w : World} (k : callV P fv args K w) : callV P fv args K' w := by
  unfold callV at *
  split at k
  · exact call_mono h k
  · exact exec_mono h k
theorem pickV_mono {c a b : Value} {K K' : Value → World → Prop} (h : ∀ v w, K v w → K' v w) {w : World} (k : pickV c a b K w) : pickV c a b K' w := by
  cases c <;> first | exact h _ _ k | exact k

theorem opW_mono {P : Program} {o : Op} {ty : TypeId} {ρ : Operand → Value} {K K' : Value → World → Prop} (h : ∀ v w, K v w → K' v w) {w : World} (k : opW P o ty ρ K w) : opW P o ty ρ K' w := by
  unfold opW at *
  split at k <;> first
    | exact h _ _ k
    | exact run_mono h k
    | exact runU_mono (h _) k
    | exact pickV_mono h k
    | exact k.elim
    | skip
  split at k <;> first
    | exact run_mono h k
    | exact callV_mono h k
    | exact k.elim

end Go.Sx
end

section
/- The operations of SxA are what the machine does. -/
namespace Go.Sx
open Go

variable {P : Program} {K : Value → World → Prop} {w : World} {ρ : Operand → Value}

theorem run_bindV {α : Type} {s : Sem α} {f : α → Sem Next} {v : α} {w' : World} (e : s.run P w = .ok v w') : (s >>= f).run P w = (f v).run P w' := by
  show (Sem.bind s f).run P w = _
  have h := Sem.run_bind P w s f
  rw [e] at h
  exact h

theorem exec_value {s : Sem Value} (h : run P s K w) : exec P (do pure (.value (← s))) K w := by
  obtain ⟨v, w', e, k⟩ := run_iff.1 h
  unfold exec
  rw [run_bindV e]; exact k

theorem exec_skip {s : Sem Unit} (h : runU P s (K undef) w) : exec P (do s; pure .skip) K w := by
  obtain ⟨v, w', e, k⟩ := runU_iff.1 h
  unfold exec
  rw [run_bindV e]; exact k

theorem eqGuard_eq (op : BinOp) (t : TypeId) (x y : Operand) (a b : Value) : eqGuard op t x y a b = eqGuard op t (dummy (isC x || isC y)) (.tmp 0) a b := by
  cases x <;> cases y <;> simp [isC, dummy, eqGuard]

theorem exec_call {f : FuncId} {args : List Value} (h : call P f args K w) : exec P (callFunc f args.toArray) K w := by
  rcases h with h | h
  · unfold exec; rw [h.1]; exact h.2
  · exact h

theorem exec_callV {fv : Value} {args : List Value} (h : callV P fv args K w) : exec P (do let d ← Deferred.ofValue fv args.toArray; invoke d.target d.args) K w := by
  unfold callV at h
  split at h
  · have := exec_call h
    simpa [Deferred.ofValue, invoke] using this
  · exact h

theorem mapA {α β : Type} (f : α → β) (l : Array α) : (List.map f l.toList).toArray = l.map f := by
  apply Array.ext'; simp

theorem omap_eq (x : Option Operand) : omap ρ x = x.map ρ := by cases x <;> rfl

theorem exec_op (o : Oper) (h : opW P o.op o.type ρ K w) : exec P (execOp ρ o) K w := by
  obtain ⟨dst, op, ty, pos, after, guard⟩ := o
  cases op <;> simp only [opW] at h <;> (try exact h.elim) <;> unfold execOp <;> simp only []
  case move => exact h
  case assign => exact h
  case pick c a b =>
    generalize hc : ρ c = vc at *
    cases vc <;> simp only [pickV] at h <;> try exact h.elim
    rename_i t
    cases t <;> simpa [exec, asBool, Sem.run, pure, bind, Sem.bind] using h
  case store => exact exec_skip h
  case mapUpdate => exact exec_skip h
  case nilCheck x =>
    generalize hc : ρ x = vc at *
    cases vc <;> (try (simp [nilS, run, stuck] at h; done))
    rename_i a
    cases a
    · have : ∀ v w', (runtimePanic (α := Value) .nilDeref).run P w ≠ .ok v w' := by
        intro v w'
        simp [runtimePanic, go_sem]
      obtain ⟨v, w', e, _⟩ := run_iff.1 h
      exact (this v w' e).elim
    · simpa [nilS, run, exec] using h
  case call c =>
    obtain ⟨callee, args, argTypes⟩ := c
    cases callee
    case value fv => have := exec_callV h; simpa [resolve, mapA] using this
    case invoke => exact h.elim
    case builtin b =>
      cases b <;> simp only at h <;> (try exact h.elim) <;> first
        | (have := exec_value h; simpa [resolve, invoke, builtin, mapA] using this)
  case binOp op t x y u =>
    have := exec_value h
    rw [binS, ← eqGuard_eq] at this
    exact this
  all_goals first
    | exact exec_value h
    | (have := exec_value h; simpa [partsOf, omap_eq, mapA] using this)

end Go.Sx
end

section
/- Regions, in whatever order the machine takes their operations; code; functions. -/
namespace Go.Sx
open Go

/-- Every function, every depth; in a round or not. -/
def FR (r : Option Nat) : Fence := { fn := fun _ => True, depth := none, alive := false, round := r }

theorem FR_depth (r : Option Nat) : (FR r).depth = none := rfl

structure Rel (n : Nat) (s : St) (a : Act) : Prop where
  size : a.tmps.size = n
  get : ∀ t, a.tmps.getD t undef = s.f t
  ds : a.defers = s.ds

variable {P : Program} {n : Nat} {r : Option Nat}

theorem Rel.ev {s : St} {a : Act} (h : Rel n s a) : a.eval = s.ev := by
  funext x
  cases x with
  | tmp t => exact h.get t
  | const v => rfl
  | global g => rfl
  | func f => rfl

def dstOk (n : Nat) : Option Tmp → Bool
  | none => true
  | some d => Nat.blt d n

theorem Rel.put {s : St} {a : Act} (h : Rel n s a) {d : Option Tmp} (hd : dstOk n d = true) (v : Value) : Rel n (s.put d v) (a.put d v) := by
  cases d with
  | none => exact h
  | some d =>
    have hlt : d < a.tmps.size := by rw [h.size]; simpa [dstOk] using hd
    refine ⟨by simp [Act.put, h.size], fun t => ?_, h.ds⟩
    simp only [Act.put, St.put, upd]
    by_cases e : t = d
    · subst e; simp [hlt]
    · have : Nat.beq t d = false := by
        cases hb : Nat.beq t d with
        | false => rfl
        | true => exact absurd (Nat.eq_of_beq_eq_true hb) e
      rw [this, cond_false, ← h.get t]
      simp [Ne.symm e]

theorem callsIn_FR {m : Nat} {f : FuncId} {args : Array Value} {w : World} {R : Ending → World → Prop} (h : Calls P f args w R) : CallsIn (FR r) m P f args w R :=
  (callsIn_wide.2 h : CallsIn Fence.wide m P f args w R)

theorem exec_upon {o : Oper} {a : Act} {K : Value → World → Prop} {next : Act → World → Prop} {Q : Exit → Act → World → Prop} {w : World} {ρ : Operand → Value}
    (hk : ∀ v w, K v w → next (a.put o.dst v) w) (h : exec P (execOp ρ o) K w) : o.uponIn (FR r) 0 P a next Q ((execOp ρ o).run P w) := by
  unfold exec at h
  split at h
  · rename_i e; rw [e]; exact hk _ _ h
  · rename_i e; rw [e]; exact hk _ _ h
  · rename_i e; rw [e]
    refine ⟨(fun x => by cases x), (callsIn_FR h).mono ?_⟩
    intro e w' k
    cases e <;> first | exact hk _ _ k | exact k.elim
  · rename_i e; rw [e]
    refine ⟨(fun x => by cases x), ?_⟩
    refine RoundIn.mono (F := FR r) (n := 0 - 1) h ?_
    intro e w' k
    cases e <;> first | exact hk _ _ k | exact k.elim
  · exact h.elim

theorem op_wpIn {o : Oper} {s : St} {a : Act} {K : Value → World → Prop} {next : Act → World → Prop} {Q : Exit → Act → World → Prop} {w : World}
    (ha : a.eval = s.ev) (hk : ∀ v w, K v w → next (a.put o.dst v) w) (h : opW P o.op o.type s.ev K w) : o.wpIn (FR r) 0 P a w next Q := by
  refine ⟨fun _ _ => trivial, ?_⟩
  have hd : ∀ c, o.op ≠ .defer c := by
    intro c e
    rw [e] at h
    exact h.elim
  rw [Oper.semAt_eq _ _ _ hd, ha]
  exact exec_upon hk (exec_op o h)

theorem gval_yielded {ops : List Oper} {s : St} {a : Act} (h : Rel n s a) (j : Nat) (b : Bool) : yielded ops.toArray a.tmps j = some b ↔ gval ops s j = .bool b := by
  unfold yielded gval
  simp only [List.getElem?_toArray]
  cases ops[j]? with
  | none => simp [undef]
  | some o =>
    simp only [Option.bind_some]
    cases o.dst with
    | none => simp [undef]
    | some d =>
      simp only [Option.bind_some]
      rw [← h.get d]
      rw [Array.getD_eq_getD_getElem?]
      cases hd : a.tmps[d]? with
      | none => simp [undef]
      | some v => cases v <;> simp

/-- One operation of a region: the machine's own step. -/
theorem step_wpIn {ops : List Oper} {o : Oper} {s : St} {a : Act} {K : St → World → Prop} {next : Act → World → Prop} {Q : Exit → Act → World → Prop} {w : World} {i : Nat}
    (hi : ops[i]? = some o) (hn : dstOk n o.dst = true) (hr : Rel n s a) (hk : ∀ s a w, Rel n s a → K s w → next a w) (h : stepW P ops o K s w) :
    wpOpIn (FR r) 0 P ops.toArray Q i next a w := by
  unfold wpOpIn
  simp only [List.getElem?_toArray, hi]
  cases hg : o.guard with
  | none =>
    have h : opW P o.op o.type s.ev (fun v w => K (s.put o.dst v) w) w := by unfold stepW at h; rw [hg] at h; exact h
    rw [if_pos (by simp [Region.wanted, hg])]
    exact op_wpIn hr.ev (fun v w k => hk _ _ _ (hr.put hn v) k) h
  | some g =>
    obtain ⟨j, want⟩ := g
    have h : gcond (gval ops s j) want (opW P o.op o.type s.ev (fun v w => K (s.put o.dst v) w) w) (K (s.put o.dst undef) w) := by unfold stepW at h; rw [hg] at h; exact h
    simp only [Region.wanted, hg]
    have hy := gval_yielded (ops := ops) hr j
    generalize hgv : gval ops s j = gv at h hy
    unfold gcond at h
    split at h
    · rename_i b
      have := (hy b).2 rfl
      rw [this]
      by_cases e : b = want
      · subst e
        simp only [BEq.rfl, cond_true] at h
        rw [if_pos (by simp)]
        exact op_wpIn hr.ev (fun v w k => hk _ _ _ (hr.put hn v) k) h
      · have e' : (b == want) = false := by simpa using e
        rw [e', cond_false] at h
        rw [if_neg (by simpa using e)]
        exact ⟨fun _ _ => trivial, hk _ _ _ (hr.put hn _) h⟩
    · rename_i hb
      have : yielded ops.toArray a.tmps j ≠ some want := fun e => hb _ ((hy want).1 e)
      rw [if_neg (by simpa using this)]
      exact ⟨fun _ _ => trivial, hk _ _ _ (hr.put hn _) h⟩

def opsOk (n : Nat) (l : List Oper) : Bool := l.all fun o => dstOk n o.dst

theorem ops_wpIn {ops : List Oper} {K : St → World → Prop} {Q : Exit → Act → World → Prop} (hK : ∀ s a w, Rel n s a → K s w → Q .normal a w) :
    ∀ (l : List Oper) (k : Nat), (∀ j, l[j]? = ops[k + j]?) → opsOk n l = true → ∀ (s : St) (a : Act) (w : World), Rel n s a → opsW P ops l K s w →
      wpOpsIn (FR r) 0 P ops.toArray Q (List.range' k l.length) a w := by
  intro l
  induction l with
  | nil => intro k _ _ s a w hr h; exact hK _ _ _ hr h
  | cons o l ih =>
    intro k hl hok s a w hr h
    simp only [opsOk, List.all_cons, Bool.and_eq_true] at hok
    simp only [List.length_cons, List.range'_succ, wpOpsIn_cons]
    have h0 : ops[k]? = some o := by simpa using (hl 0).symm
    refine step_wpIn h0 hok.1 hr ?_ h
    intro s a w hr h
    exact ih (k + 1) (fun j => by have := hl (j + 1); simpa [Nat.add_assoc, Nat.add_comm 1 j] using this) hok.2 s a w hr h

theorem region_wpIn {id : Nat} {ops : List Oper} {K : St → World → Prop} {Q : Exit → Act → World → Prop} (hK : ∀ s a w, Rel n s a → K s w → Q .normal a w)
    (hok : opsOk n ops = true) {s : St} {a : Act} {w : World} (hr : Rel n s a) (h : opsW P ops ops K s w) : (Code.region id ops.toArray false).wpIn (FR r) 0 P Q a w := by
  refine wpIn_region ?_
  rw [List.range_eq_range']
  have := ops_wpIn (r := r) (Q := Q) hK ops 0 (by simp) hok s a w hr h
  simpa using this

end Go.Sx
end

section
/- A region that draws the order of its operations: where the operations that act are ordered, the order of the text serves for all. -/
namespace Go.Sx
open Go

variable {P : Program}

/-- What an operation that does not act reckons. -/
def semOf (o : Op) (ty : TypeId) (ρ : Operand → Value) : Option (Sem Value) :=
  match o with
  | .build t ps => some (Instr.build t ⟨partsOf ρ ps.toList⟩)
  | .load t x => some (Instr.loadAt t (ρ x))
  | .nilCheck x => some (nilS (ρ x))
  | .binOp op t x y _ => some (binS op t (isC x || isC y) (ρ x) (ρ y))
  | .unOp op _ x => some (Op.unary op (ρ x))
  | .convert s d x => some (convert s d (ρ x))
  | .makeFunc fn first cap => some (Instr.makeFunc fn ⟨first.toList.map ρ⟩ ⟨cap.toList.map ρ⟩)
  | .slice t x lo hi mx => some (Instr.sliceAt t (ρ x) (omap ρ lo) (omap ρ hi) (omap ρ mx))
  | .fieldAddr s x f => some (Instr.fieldAt s (ρ x) f)
  | .field t x f => some (Instr.field t (ρ x) f)
  | .indexAddr t x i => some (Instr.indexAt t (ρ x) (ρ i))
  | .index t x i => some (Instr.index t (ρ x) (ρ i))
  | .lookup t x i ok => some (Instr.lookup t (ρ x) (ρ i) ok)
  | .extract t i => some (Instr.extract (ρ t) i)
  | .call c =>
    match c.callee with
    | .builtin .len => some (Builtin.len_ c.argTypes ty ⟨c.args.toList.map ρ⟩)
    | .builtin .cap => some (Builtin.cap_ c.argTypes ty ⟨c.args.toList.map ρ⟩)
    | .builtin .max => some (Builtin.max_ c.argTypes ty ⟨c.args.toList.map ρ⟩)
    | .builtin .min => some (Builtin.min_ c.argTypes ty ⟨c.args.toList.map ρ⟩)
    | _ => none
  | _ => none

inductive Cl where
  | calm | read | float | eff | fin
  deriving DecidableEq

def Cl.isEff : Cl → Bool
  | .eff => true
  | .fin => true
  | _ => false

def Cl.isFin : Cl → Bool
  | .fin => true
  | _ => false

def Cl.isFloat : Cl → Bool
  | .float => true
  | _ => false

def Cl.isRead : Cl → Bool
  | .read => true
  | _ => false

/-- What must have S where it stands. -/
def Cl.needs : Cl → Bool
  | .eff => true
  | .float => true
  | _ => false

def cls0 (o : Op) : Cl :=
  match o with
  | .move _ | .assign _ | .pick _ _ _ | .build _ _ | .nilCheck _ | .binOp _ _ _ _ _ | .unOp _ _ _ | .convert _ _ _ | .makeFunc _ _ _ | .slice _ _ _ _ _ | .fieldAddr _ _ _ | .field _ _ _ | .indexAddr _ _ _ | .index _ _ _ | .extract _ _ => .calm
  | .load _ _ | .lookup _ _ _ _ => .read
  | .call c =>
    match c.callee with
    | .builtin .len | .builtin .cap | .builtin .max | .builtin .min => .calm
    | _ => .eff
  | _ => .eff

/-! ### What must come first -/
def maskOf (acc : List Nat) (o : Oper) : Nat :=
  o.after.toList.foldl (fun m e => bif Region.binds .any e then m ||| (1 <<< e.on) ||| acc.getD e.on 0 else m) 0

def masksFrom (acc : List Nat) : List Oper → List Nat
  | [] => acc
  | o :: l => masksFrom (acc ++ [maskOf acc o]) l

def masks (ops : List Oper) : List Nat := masksFrom [] ops

/-- Is j before i whatever the order? (j < i) -/
def first (ms : List Nat) (j i : Nat) : Bool := (ms.getD i 0).testBit j

/-- A read that may come on either side of an operation that acts. -/
def floats (ms : List Nat) (ops : List Oper) (i : Nat) : Bool :=
  (List.range ops.length).any fun j =>
    match ops[j]? with
    | some o => (cls0 o.op).isEff && (bif Nat.blt j i then !first ms j i else (bif Nat.blt i j then !first ms i j else false))
    | none => false

/-- Does operation j float? -/
def floatAt (ms : List Nat) (ops : List Oper) (j : Nat) : Bool :=
  match ops[j]? with
  | some o => (cls0 o.op).isRead && floats ms ops j
  | none => false

/-- All that floats comes ahead of it. -/
def behind (ms : List Nat) (ops : List Oper) (i : Nat) : Bool :=
  ((List.range ops.length).any fun j => floatAt ms ops j) && (List.range ops.length).all fun j => !floatAt ms ops j || first ms j i

def cls (ms : List Nat) (ops : List Oper) (i : Nat) (o : Oper) : Cl :=
  match cls0 o.op with
  | .read => bif floats ms ops i then .float else .read
  | .eff => bif behind ms ops i then .fin else .eff
  | c => c

/-- May the two change places? -/
def comm (ops : List Oper) (c d : Cl) (x y : Oper) : Bool :=
  x.apart ops.toArray y && !(c.isEff && (d.isEff || d.isRead)) && !(d.isEff && (c.isEff || c.isRead)) && !(c.isFin && d.isFloat) && !(d.isFin && c.isFloat)

def edgesOk (i : Nat) (o : Oper) : Bool := o.after.toList.all fun e => !Region.binds .any e || Nat.blt e.on i

def okDrawL (ops : List Oper) : Bool :=
  let ms := masks ops
  (List.range ops.length).all fun i =>
    match ops[i]? with
    | some y => edgesOk i y && (List.range i).all fun j =>
      match ops[j]? with
      | some x => (first ms j i || comm ops (cls ms ops j x) (cls ms ops i y) x y) && !((cls ms ops j x).isFin && (cls ms ops i y).needs)
      | none => true
    | none => true

/-! ### The run in the order of the text -/
def rn (P : Program) (M : World → Prop) (s : Sem Value) (K : Value → World → Prop) (w : World) : Prop :=
  ∃ v, (∀ w', M w' → s.run P w' = .ok v w') ∧ K v w

def rno (P : Program) (M : World → Prop) (s : Option (Sem Value)) (K : Value → World → Prop) (w : World) : Prop :=
  match s with
  | some s => rn P M s K w
  | none => False

def opM (P : Program) (M : World → Prop) (o : Op) (ty : TypeId) (ρ : Operand → Value) (K : Value → World → Prop) (w : World) : Prop :=
  match o with
  | .move x => K (ρ x) w
  | .assign x => K (ρ x) w
  | .pick c a b => pickV (ρ c) (ρ a) (ρ b) K w
  | _ => rno P M (semOf o ty ρ) K w

def opT (P : Program) (S : World → Prop) (c : Cl) (o : Op) (ty : TypeId) (ρ : Operand → Value) (K : Value → World → Prop) (w : World) : Prop :=
  match c with
  | .calm => opM P (fun _ => True) o ty ρ K w
  | .read => opM P (fun w' => w' = w) o ty ρ K w
  | .float => opM P S o ty ρ K w
  | .eff => opW P o ty ρ (fun v w' => S w' ∧ K v w') w
  | .fin => opW P o ty ρ K w

def stepT (P : Program) (S : World → Prop) (ops : List Oper) (c : Cl) (o : Oper) (K : St → World → Prop) (s : St) (w : World) : Prop :=
  match o.guard with
  | none => opT P S c o.op o.type s.ev (fun v w => K (s.put o.dst v) w) w
  | some (j, want) => gcond (gval ops s j) want (opT P S c o.op o.type s.ev (fun v w => K (s.put o.dst v) w) w) (K (s.put o.dst undef) w)

def opsT (P : Program) (S : World → Prop) (ops : List Oper) (ms : List Nat) : List Oper → Nat → (St → World → Prop) → St → World → Prop
  | [], _, K, s, w => K s w
  | o :: rest, i, K, s, w => stepT P S ops (cls ms ops i o) o (opsT P S ops ms rest (i + 1) K) s w

def anyFloat (ms : List Nat) (ops : List Oper) : Bool :=
  (List.range ops.length).any fun i =>
    match ops[i]? with
    | some o => match cls ms ops i o with
      | .float => true
      | _ => false
    | none => false

/-- A region that draws. -/
def drawL (P : Program) (ops : List Oper) (K : St → World → Prop) (s : St) (w : World) : Prop :=
  bif anyFloat (masks ops) ops then ∃ S : World → Prop, S w.drew ∧ opsT P S ops (masks ops) ops 0 K s w.drew
  else opsT P (fun _ => True) ops (masks ops) ops 0 K s w.drew

/-! ### Values that an operation yields wherever it stands -/
def opVal (P : Program) (M : World → Prop) (o : Op) (ty : TypeId) (ρ : Operand → Value) (u : Value) : Prop :=
  match o with
  | .move x => u = ρ x
  | .assign x => u = ρ x
  | .pick c a b => ∃ t, ρ c = .bool t ∧ u = (bif t then ρ a else ρ b)
  | _ => ∃ s, semOf o ty ρ = some s ∧ ∀ w', M w' → s.run P w' = .ok u w'

def valG (P : Program) (M : World → Prop) (ops : List Oper) (o : Oper) (s : St) (u : Value) : Prop :=
  match o.guard with
  | none => opVal P M o.op o.type s.ev u
  | some (j, want) => gcond (gval ops s j) want (opVal P M o.op o.type s.ev u) (u = undef)

theorem opM_val {M : World → Prop} {o : Op} {ty : TypeId} {ρ : Operand → Value} {K : Value → World → Prop} {w : World} (h : opM P M o ty ρ K w) :
    ∃ u, opVal P M o ty ρ u ∧ K u w := by
  unfold opM at h
  unfold opVal
  split at h
  · exact ⟨_, rfl, h⟩
  · exact ⟨_, rfl, h⟩
  · rename_i c a b
    generalize hc : ρ c = vc at *
    cases vc <;> first | exact h.elim | exact ⟨_, ⟨_, rfl, rfl⟩, h⟩
  · cases hs : semOf o ty ρ with
    | none => rw [hs] at h; exact h.elim
    | some s =>
      rw [hs] at h
      obtain ⟨v, hv, k⟩ := h
      exact ⟨v, ⟨s, rfl, hv⟩, k⟩

theorem semOf_run {o : Op} {ty : TypeId} {ρ : Operand → Value} {s : Sem Value} (hs : semOf o ty ρ = some s) {K : Value → World → Prop} {w : World} (h : run P s K w) : opW P o ty ρ K w := by
  unfold semOf at hs
  split at hs <;> first
    | (cases hs; exact h)
    | skip
  · split at hs <;> first
      | (rename_i e; cases hs; simp only [opW, e]; exact h)
      | cases hs
  · cases hs

theorem opVal_W {M : World → Prop} {o : Op} {ty : TypeId} {ρ : Operand → Value} {u : Value} (h : opVal P M o ty ρ u) {K : Value → World → Prop} {w : World} (hm : M w) (k : K u w) : opW P o ty ρ K w := by
  unfold opVal at h
  split at h
  · subst h; exact k
  · subst h; exact k
  · obtain ⟨t, e, rfl⟩ := h
    simp only [opW, pickV, e]; exact k
  · obtain ⟨s, hs, hv⟩ := h
    exact semOf_run hs (run_iff.2 ⟨u, w, hv w hm, k⟩)

theorem opVal_unique {M : World → Prop} {o : Op} {ty : TypeId} {ρ : Operand → Value} {u u' : Value} (h : opVal P M o ty ρ u) (h' : opVal P M o ty ρ u') {w : World} (hm : M w) : u = u' := by
  have key : (∃ s, semOf o ty ρ = some s ∧ ∀ w', M w' → s.run P w' = .ok u w') → (∃ s, semOf o ty ρ = some s ∧ ∀ w', M w' → s.run P w' = .ok u' w') → u = u' := by
    rintro ⟨s, hs, hv⟩ ⟨s', hs', hv'⟩
    rw [hs] at hs'; cases hs'
    have h1 := hv w hm
    have h2 := hv' w hm
    rw [h1] at h2; cases h2; rfl
  cases o <;> simp only [opVal] at h h' <;> first
    | exact key h h'
    | (rw [h, h'])
    | (obtain ⟨t, e, rfl⟩ := h; obtain ⟨t', e', rfl⟩ := h'; rw [e] at e'; cases e'; rfl)

/-! ### What an operation looks at -/
theorem opW_congr {o : Op} {ty : TypeId} {ρ ρ' : Operand → Value} (h : ∀ x ∈ o.operands, ρ x = ρ' x) (K : Value → World → Prop) (w : World) : opW P o ty ρ K w = opW P o ty ρ' K w := by
  have hm : ∀ (l : Array Operand), (∀ x ∈ l, ρ x = ρ' x) → List.map ρ l.toList = List.map ρ' l.toList := fun l hl => List.map_congr_left fun x hx => hl x (by simpa using hx)
  have hp : ∀ (l : Array (Nat × Operand)), (∀ x ∈ l.toList.map (·.2), ρ x = ρ' x) → partsOf ρ l.toList = partsOf ρ' l.toList := fun l hl => List.map_congr_left fun x hx => by rw [hl x.2 (List.mem_map.2 ⟨x, hx, rfl⟩)]
  have ho : ∀ (l : Option Operand), (∀ x ∈ l.toArray, ρ x = ρ' x) → omap ρ l = omap ρ' l := fun l hl => by
    cases l with
    | none => rfl
    | some x => simp only [omap]; rw [hl x (by simp)]
  cases o with
  | call c =>
    obtain ⟨callee, args, argTypes⟩ := c
    simp only [Op.operands, Call.operands] at h
    have ha := hm args (fun x hx => h x (by simp [hx]))
    cases callee with
    | value f => simp only [opW, ha]; rw [h f (by simp)]
    | invoke r m => rfl
    | builtin b => cases b <;> simp only [opW, ha]
  | build t ps => simp only [opW]; rw [hp ps (fun x hx => h x (by simpa [Op.operands] using hx))]
  | buildSlice t n ps => simp only [opW]; rw [hp ps (fun x hx => h x (by simpa [Op.operands] using hx))]
  | makeFunc fn first cap => simp only [opW]; rw [hm first (fun x hx => h x (by simp [Op.operands, hx])), hm cap (fun x hx => h x (by simp [Op.operands, hx]))]
  | makeMap t rr => simp only [opW]; rw [ho rr (fun x hx => h x (by simpa [Op.operands] using hx))]
  | slice t x l hh m => simp only [opW]; rw [h x (by simp [Op.operands]), ho l (fun x hx => h x (by simp only [Op.operands, Array.mem_append]; simp [hx])), ho hh (fun x hx => h x (by simp only [Op.operands, Array.mem_append]; simp [hx])), ho m (fun x hx => h x (by simp only [Op.operands, Array.mem_append]; simp [hx]))]
  | _ => first
    | (simp only [opW]; done)
    | (simp only [Op.operands, List.mem_toArray, List.mem_cons, List.not_mem_nil, or_false, forall_eq_or_imp, forall_eq] at h; simp only [opW, h])

theorem semOf_congr {o : Op} {ty : TypeId} {ρ ρ' : Operand → Value} (h : ∀ x ∈ o.operands, ρ x = ρ' x) : semOf o ty ρ = semOf o ty ρ' := by
  have hm : ∀ (l : Array Operand), (∀ x ∈ l, ρ x = ρ' x) → List.map ρ l.toList = List.map ρ' l.toList := fun l hl => List.map_congr_left fun x hx => hl x (by simpa using hx)
  have hp : ∀ (l : Array (Nat × Operand)), (∀ x ∈ l.toList.map (·.2), ρ x = ρ' x) → partsOf ρ l.toList = partsOf ρ' l.toList := fun l hl => List.map_congr_left fun x hx => by rw [hl x.2 (List.mem_map.2 ⟨x, hx, rfl⟩)]
  have ho : ∀ (l : Option Operand), (∀ x ∈ l.toArray, ρ x = ρ' x) → omap ρ l = omap ρ' l := fun l hl => by
    cases l with
    | none => rfl
    | some x => simp only [omap]; rw [hl x (by simp)]
  cases o with
  | call c =>
    obtain ⟨callee, args, argTypes⟩ := c
    simp only [Op.operands, Call.operands] at h
    have ha := hm args (fun x hx => h x (by simp [hx]))
    cases callee with
    | value f => rfl
    | invoke r m => rfl
    | builtin b => cases b <;> simp only [semOf, ha]
  | build t ps => simp only [semOf]; rw [hp ps (fun x hx => h x (by simpa [Op.operands] using hx))]
  | makeFunc fn first cap => simp only [semOf]; rw [hm first (fun x hx => h x (by simp [Op.operands, hx])), hm cap (fun x hx => h x (by simp [Op.operands, hx]))]
  | slice t x l hh m => simp only [semOf]; rw [h x (by simp [Op.operands]), ho l (fun x hx => h x (by simp only [Op.operands, Array.mem_append]; simp [hx])), ho hh (fun x hx => h x (by simp only [Op.operands, Array.mem_append]; simp [hx])), ho m (fun x hx => h x (by simp only [Op.operands, Array.mem_append]; simp [hx]))]
  | _ => first
    | (simp only [semOf]; done)
    | (simp only [Op.operands, List.mem_toArray, List.mem_cons, List.not_mem_nil, or_false, forall_eq_or_imp, forall_eq] at h; simp only [semOf, h])

theorem opVal_congr {M : World → Prop} {o : Op} {ty : TypeId} {ρ ρ' : Operand → Value} (h : ∀ x ∈ o.operands, ρ x = ρ' x) (u : Value) : opVal P M o ty ρ u = opVal P M o ty ρ' u := by
  have hs := semOf_congr (ty := ty) h
  cases o <;> simp only [opVal, hs] <;>
    (simp only [Op.operands, List.mem_toArray, List.mem_cons, List.not_mem_nil, or_false, forall_eq_or_imp, forall_eq] at h; simp only [h])

/-- Of two frames: they agree at what an operation looks at. -/
def Alike (ops : List Oper) (o : Oper) (s s' : St) : Prop := ∀ t ∈ o.looksAt ops.toArray, s.f t = s'.f t

theorem Alike.ev {ops : List Oper} {o : Oper} {s s' : St} (h : Alike ops o s s') : ∀ x ∈ o.op.operands, s.ev x = s'.ev x := by
  intro x hx
  cases x with
  | tmp t =>
    refine h t ?_
    simp only [Oper.looksAt, List.mem_append, List.mem_filterMap]
    exact .inl ⟨.tmp t, by simpa using hx, rfl⟩
  | const v => rfl
  | global g => rfl
  | func f => rfl

theorem Alike.gval {ops : List Oper} {o : Oper} {s s' : St} (h : Alike ops o s s') {j : Nat} {want : Bool} (hg : o.guard = some (j, want)) : gval ops s j = gval ops s' j := by
  unfold Sx.gval
  cases hj : ops[j]? with
  | none => rfl
  | some oj =>
    simp only []
    cases hd : oj.dst with
    | none => rfl
    | some d =>
      refine h d ?_
      simp [Oper.looksAt, hg, hj, hd]

/-- A step, its value handed on. -/
def stepV (P : Program) (ops : List Oper) (o : Oper) (K : Value → World → Prop) (s : St) (w : World) : Prop :=
  match o.guard with
  | none => opW P o.op o.type s.ev K w
  | some (j, want) => gcond (gval ops s j) want (opW P o.op o.type s.ev K w) (K undef w)

theorem stepW_eq {ops : List Oper} {o : Oper} {K : St → World → Prop} {s : St} {w : World} : stepW P ops o K s w = stepV P ops o (fun v w => K (s.put o.dst v) w) s w := rfl

theorem stepV_congr {ops : List Oper} {o : Oper} {K : Value → World → Prop} {s s' : St} {w : World} (h : Alike ops o s s') : stepV P ops o K s w = stepV P ops o K s' w := by
  unfold stepV
  cases hg : o.guard with
  | none => simp only []; exact opW_congr h.ev K w
  | some g => obtain ⟨j, want⟩ := g; simp only []; rw [h.gval hg, opW_congr h.ev K w]

theorem valG_congr {M : World → Prop} {ops : List Oper} {o : Oper} {s s' : St} {u : Value} (h : Alike ops o s s') : valG P M ops o s u = valG P M ops o s' u := by
  unfold valG
  cases hg : o.guard with
  | none => simp only []; exact opVal_congr h.ev u
  | some g => obtain ⟨j, want⟩ := g; simp only []; rw [h.gval hg, opVal_congr h.ev u]

theorem gcond_mono {v : Value} {want : Bool} {A A' B B' : Prop} (ha : A → A') (hb : B → B') (h : gcond v want A B) : gcond v want A' B' := by
  unfold gcond at *
  split
  · rename_i b; simp only at h; cases hh : (b == want) <;> simp only [hh, cond_true, cond_false] at h ⊢ <;> first | exact ha h | exact hb h
  · rename_i hn; split at h
    · rename_i b; exact (hn b rfl).elim
    · exact hb h

theorem stepV_mono {ops : List Oper} {o : Oper} {K K' : Value → World → Prop} {s : St} {w : World} (hk : ∀ v w, K v w → K' v w) (h : stepV P ops o K s w) : stepV P ops o K' s w := by
  unfold stepV at *
  cases hg : o.guard with
  | none => rw [hg] at h; exact opW_mono hk h
  | some g => obtain ⟨j, want⟩ := g; rw [hg] at h; exact gcond_mono (opW_mono hk) (hk _ _) h

theorem opW_ex {o : Op} {ty : TypeId} {ρ : Operand → Value} {K : Value → World → Prop} {w : World} (h : opW P o ty ρ K w) : ∃ v w', K v w' := by
  have hr : ∀ {s : Sem Value}, run P s K w → ∃ v w', K v w' := fun h => by obtain ⟨v, w', _, k⟩ := run_iff.1 h; exact ⟨v, w', k⟩
  have hu : ∀ {s : Sem Unit}, runU P s (K undef) w → ∃ v w', K v w' := fun h => by obtain ⟨v, w', _, k⟩ := runU_iff.1 h; exact ⟨_, w', k⟩
  have hcall : ∀ {f : FuncId} {args : Array Value} {w : World}, Calls P f args w (RetK K) → ∃ v w', K v w' := fun h => by
    obtain ⟨e, w', fr, hR, _⟩ := h []
    cases e <;> first | exact ⟨_, _, hR⟩ | exact hR.elim
  have hround : ∀ {l : Nat} {f : FuncId} {tmps : Array Value} {x y : Code} {w : World}, RoundIn Fence.wide 0 P l f tmps x y w (RetK K) → ∃ v w', K v w' := fun h => by
    obtain ⟨e, w', hR, _⟩ := h.2 default [] (room_wide _)
    cases e <;> first | exact ⟨_, _, hR⟩ | exact hR.elim
  have hx : ∀ {s : Sem Next} {w : World}, exec P s K w → ∃ v w', K v w' := fun h => by
    unfold exec at h
    split at h <;> first | exact ⟨_, _, h⟩ | exact hcall h | exact hround h | exact h.elim
  cases o with
  | pick c a b => simp only [opW] at h; generalize ρ c = vc at h; cases vc <;> first | exact h.elim | exact ⟨_, _, h⟩
  | call c =>
    obtain ⟨callee, args, argTypes⟩ := c
    cases callee with
    | value f =>
      simp only [opW, callV] at h
      split at h
      · rcases h with h | h
        · exact hcall h.2
        · exact hx h
      · exact hx h
    | invoke r m => exact h.elim
    | builtin b => cases b <;> simp only [opW] at h <;> first | exact h.elim | exact hr h
  | _ => simp only [opW] at h <;> first | exact h.elim | exact hr h | exact hu h | exact ⟨_, _, h⟩

theorem stepV_ex {ops : List Oper} {o : Oper} {K : Value → World → Prop} {s : St} {w : World} (h : stepV P ops o K s w) : ∃ v w', K v w' := by
  unfold stepV at h
  cases hg : o.guard with
  | none => rw [hg] at h; exact opW_ex h
  | some g =>
    obtain ⟨j, want⟩ := g
    rw [hg] at h
    simp only [gcond] at h
    split at h
    · cases hh : (_ == want) <;> rw [hh] at h <;> first | exact ⟨_, _, h⟩ | exact opW_ex h
    · exact ⟨_, _, h⟩

end Go.Sx
end

section
/- Regions that draw: the order of the text serves for every order. -/
namespace Go.Sx
open Go

variable {P : Program} {S : World → Prop} {ops : List Oper}

/-- What the worlds are of which an operation of a class speaks. -/
def mdW (S : World → Prop) : Cl → World → World → Prop
  | .calm, _ => fun _ => True
  | .read, w => fun w' => w' = w
  | .float, _ => S
  | .eff, _ => fun _ => False
  | .fin, _ => fun _ => False

theorem stepT_val {c : Cl} (hc : c.isEff = false) {o : Oper} {K : St → World → Prop} {s : St} {w : World} (h : stepT P S ops c o K s w) :
    ∃ u, valG P (mdW S c w) ops o s u ∧ K (s.put o.dst u) w := by
  have ho : ∀ {K : Value → World → Prop}, opT P S c o.op o.type s.ev K w → ∃ u, opVal P (mdW S c w) o.op o.type s.ev u ∧ K u w := fun h => by
    cases c <;> first | exact opM_val h | cases hc
  unfold stepT at h
  unfold valG
  cases hg : o.guard with
  | none => rw [hg] at h; exact ho h
  | some g =>
    obtain ⟨j, want⟩ := g
    rw [hg] at h
    simp only [gcond] at h ⊢
    split at h
    · cases hh : (_ == want) <;> rw [hh] at h <;> simp only [cond_true, cond_false] at h ⊢
      · exact ⟨undef, rfl, h⟩
      · exact ho h
    · exact ⟨undef, rfl, h⟩

theorem valG_stepV {M : World → Prop} {o : Oper} {s : St} {u : Value} (h : valG P M ops o s u) {K : Value → World → Prop} {w : World} (hm : M w) (k : K u w) : stepV P ops o K s w := by
  unfold valG at h
  unfold stepV
  cases hg : o.guard with
  | none => rw [hg] at h; exact opVal_W h hm k
  | some g =>
    obtain ⟨j, want⟩ := g
    rw [hg] at h
    simp only [gcond] at h ⊢
    split at h
    · cases hh : (_ == want) <;> rw [hh] at h <;> simp only [cond_true, cond_false] at h ⊢
      · rw [h] at k; exact k
      · exact opVal_W h hm k
    · rw [h] at k; exact k

theorem valG_unique {M : World → Prop} {o : Oper} {s : St} {u u' : Value} (h : valG P M ops o s u) (h' : valG P M ops o s u') {w : World} (hm : M w) : u = u' := by
  unfold valG at h h'
  cases hg : o.guard with
  | none => rw [hg] at h h'; exact opVal_unique h h' hm
  | some g =>
    obtain ⟨j, want⟩ := g
    rw [hg] at h h'
    simp only [gcond] at h h'
    generalize gval ops s j = gv at h h'
    cases gv with
    | bool b =>
      simp only at h h'
      cases hh : (b == want) <;> simp only [hh, cond_true, cond_false] at h h'
      · rw [h, h']
      · exact opVal_unique h h' hm
    | _ => simp only at h h'; rw [h, h']

/-- One step, as the order may have it: acting, or yielding. -/
def stepS (P : Program) (S : World → Prop) (ops : List Oper) (c : Cl) (o : Oper) (K : St → World → Prop) (s : St) (w : World) : Prop :=
  match c with
  | .eff => stepV P ops o (fun v w' => S w' ∧ K (s.put o.dst v) w') s w
  | .fin => stepV P ops o (fun v w' => K (s.put o.dst v) w') s w
  | c => ∃ u, valG P (mdW S c w) ops o s u ∧ K (s.put o.dst u) w

theorem stepT_S {c : Cl} {o : Oper} {K : St → World → Prop} {s : St} {w : World} (hs : c = .eff → S w) (h : stepT P S ops c o K s w) : stepS P S ops c o K s w := by
  cases c <;> first | exact stepT_val rfl h | skip
  · unfold stepT at h
    simp only [stepS, stepV]
    cases hg : o.guard with
    | none => rw [hg] at h; exact h
    | some g => obtain ⟨j, want⟩ := g; rw [hg] at h; exact gcond_mono id (fun k => ⟨hs rfl, k⟩) h
  · unfold stepT at h
    simp only [stepS, stepV]
    cases hg : o.guard with
    | none => rw [hg] at h; exact h
    | some g => obtain ⟨j, want⟩ := g; rw [hg] at h; exact h

theorem stepS_mono {c : Cl} {o : Oper} {K K' : St → World → Prop} {s : St} {w : World} (hk : ∀ s w, K s w → K' s w) (h : stepS P S ops c o K s w) : stepS P S ops c o K' s w := by
  cases c with
  | eff => exact stepV_mono (fun v w ⟨h1, h2⟩ => ⟨h1, hk _ _ h2⟩) h
  | fin => exact stepV_mono (fun v w h2 => hk _ _ h2) h
  | _ => obtain ⟨u, hu, k⟩ := h; exact ⟨u, hu, hk _ _ k⟩

/-- ... where what is behind it may ask for what holds of the world. -/
theorem stepS_mono' {c : Cl} {o : Oper} {K K' : St → World → Prop} {s : St} {w : World} (hk : ∀ s w', (c = .eff → S w') → (c.isEff = false → w' = w) → K s w' → K' s w') (h : stepS P S ops c o K s w) : stepS P S ops c o K' s w := by
  cases c with
  | eff => exact stepV_mono (fun v w ⟨h1, h2⟩ => ⟨h1, hk _ _ (fun _ => h1) (fun h => by cases h) h2⟩) h
  | fin => exact stepV_mono (fun v w h2 => hk _ _ (fun h => by cases h) (fun h => by cases h) h2) h
  | _ => obtain ⟨u, hu, k⟩ := h; exact ⟨u, hu, hk _ _ (fun h => by cases h) (fun _ => rfl) k⟩

/-- The step as the machine takes it. -/
theorem stepS_W {c : Cl} {o : Oper} {K : St → World → Prop} {s : St} {w : World} (hs : c = .float → S w) (h : stepS P S ops c o K s w) : stepW P ops o (fun s w' => (c = .eff → S w') ∧ (c.isEff = false → w' = w) ∧ K s w') s w := by
  rw [stepW_eq]
  cases c with
  | eff => exact stepV_mono (fun v w ⟨h1, h2⟩ => ⟨fun _ => h1, (fun h => by cases h), h2⟩) h
  | fin => exact stepV_mono (fun v w h2 => ⟨(fun h => by cases h), (fun h => by cases h), h2⟩) h
  | calm => obtain ⟨u, hu, k⟩ := h; exact valG_stepV hu trivial ⟨(fun h => by cases h), fun _ => rfl, k⟩
  | read => obtain ⟨u, hu, k⟩ := h; exact valG_stepV hu rfl ⟨(fun h => by cases h), fun _ => rfl, k⟩
  | float => obtain ⟨u, hu, k⟩ := h; exact valG_stepV hu (hs rfl) ⟨(fun h => by cases h), fun _ => rfl, k⟩

theorem upd_ne {f : Fr} {k t : Nat} {v : Value} (h : t ≠ k) : upd f k v t = f t := by
  unfold upd
  have : Nat.beq t k = false := by
    cases hb : Nat.beq t k with
    | false => rfl
    | true => exact absurd (Nat.eq_of_beq_eq_true hb) h
  rw [this]; rfl

theorem put_comm {s : St} {a b : Option Tmp} {u v : Value} (h : ∀ d, a = some d → b ≠ some d) : (s.put a u).put b v = (s.put b v).put a u := by
  cases a with
  | none => rfl
  | some a =>
    cases b with
    | none => rfl
    | some b =>
      have hne : a ≠ b := fun e => h a rfl (by rw [e])
      simp only [St.put, St.mk.injEq, and_true]
      funext t
      by_cases h1 : t = a
      · subst h1
        rw [upd_ne hne]
        simp [upd]
      · by_cases h2 : t = b
        · subst h2
          rw [upd_ne (f := upd s.f t v) h1]
          simp [upd]
        · rw [upd_ne h2, upd_ne h1, upd_ne h1, upd_ne h2]

theorem alike_put {x y : Oper} {s : St} (h : ∀ d, x.dst = some d → d ∉ y.looksAt ops.toArray) (v : Value) : Alike ops y (s.put x.dst v) s := by
  intro t ht
  cases hd : x.dst with
  | none => rfl
  | some d =>
    have : t ≠ d := fun e => h d hd (e ▸ ht)
    exact upd_ne this

theorem swap {c d : Cl} {x y : Oper} (hc : comm ops c d x y = true) {M : St → World → Prop} {s : St} {w : World}
    (h : stepS P S ops c x (stepS P S ops d y M) s w) : stepS P S ops d y (stepS P S ops c x M) s w := by
  simp only [comm, Bool.and_eq_true, Bool.not_eq_true', Bool.and_eq_false_iff, Bool.or_eq_false_iff] at hc
  obtain ⟨⟨⟨⟨hap, h1⟩, h2⟩, h3⟩, h4⟩ := hc
  obtain ⟨a1, a2, a3⟩ := Oper.apart_spec hap
  have ay : ∀ v, Alike ops y (s.put x.dst v) s := fun v => alike_put a1 v
  have ax : ∀ v, Alike ops x (s.put y.dst v) s := fun v => alike_put a3 v
  have pc : ∀ u v, (s.put x.dst u).put y.dst v = (s.put y.dst v).put x.dst u := fun u v => put_comm a2
  by_cases hce : c.isEff = true
  · have hde : d ≠ .eff ∧ d ≠ .read ∧ d ≠ .fin ∧ (c = .fin → d ≠ .float) := by
      rcases h1 with h1 | h1
      · rw [hce] at h1; cases h1
      · refine ⟨?_, ?_, ?_, ?_⟩
        · intro e; subst e; simp [Cl.isEff, Cl.isRead] at h1
        · intro e; subst e; simp [Cl.isEff, Cl.isRead] at h1
        · intro e; subst e; simp [Cl.isEff, Cl.isRead] at h1
        · intro e e'; subst e e'; simp [Cl.isFin, Cl.isFloat] at h3
    have hM : ∀ w w', mdW S d w = mdW S d w' := fun w w' => by cases d <;> first | rfl | exact absurd rfl hde.1 | exact absurd rfl hde.2.1 | exact absurd rfl hde.2.2.1
    have hMs : ∀ w w', (c = .eff → S w') → mdW S d w w' := fun w w' hw' => by
      cases d <;> first | trivial | exact absurd rfl hde.1 | exact absurd rfl hde.2.1 | exact absurd rfl hde.2.2.1 | skip
      cases c <;> first | exact hw' rfl | exact absurd rfl (hde.2.2.2 rfl) | (cases hce; done)
    have hd : ∀ (M : St → World → Prop) (s : St) (w : World), stepS P S ops d y M s w ↔ ∃ u, valG P (mdW S d w) ops y s u ∧ M (s.put y.dst u) w := fun M s w => by
      cases d <;> first | exact Iff.rfl | exact absurd rfl hde.1 | exact absurd rfl hde.2.2.1
    have hx : ∀ (M : St → World → Prop) (s : St) (w : World), stepS P S ops c x M s w ↔ stepV P ops x (fun v w' => (c = .eff → S w') ∧ M (s.put x.dst v) w') s w := fun M s w => by
      cases c with
      | eff => exact ⟨fun h => stepV_mono (fun v w ⟨h1, h2⟩ => ⟨fun _ => h1, h2⟩) h, fun h => stepV_mono (fun v w ⟨h1, h2⟩ => ⟨h1 rfl, h2⟩) h⟩
      | fin => exact ⟨fun h => stepV_mono (fun v w h2 => ⟨(fun h => by cases h), h2⟩) h, fun h => stepV_mono (fun v w h2 => h2.2) h⟩
      | calm => cases hce
      | read => cases hce
      | float => cases hce
    have h' : stepV P ops x (fun v w' => (c = .eff → S w') ∧ ∃ u, valG P (mdW S d w) ops y s u ∧ M ((s.put x.dst v).put y.dst u) w') s w := by
      refine stepV_mono ?_ ((hx _ _ _).1 h)
      rintro v w' ⟨hs', k⟩
      obtain ⟨u, hu, k⟩ := (hd _ _ _).1 k
      rw [valG_congr (ay v), hM w' w] at hu
      exact ⟨hs', u, hu, k⟩
    obtain ⟨v0, w0, hs0, u0, hu0, _⟩ := stepV_ex h'
    refine (hd _ _ _).2 ⟨u0, hu0, (hx _ _ _).2 ?_⟩
    rw [stepV_congr (ax u0)]
    refine stepV_mono ?_ h'
    rintro v w' ⟨hs', u, hu, k⟩
    have : u = u0 := valG_unique hu hu0 (hMs w w' hs')
    subst this
    rw [← pc]
    exact ⟨hs', k⟩
  · have hx : ∀ (M : St → World → Prop) (s : St) (w : World), stepS P S ops c x M s w ↔ ∃ u, valG P (mdW S c w) ops x s u ∧ M (s.put x.dst u) w := fun M s w => by
      cases c <;> first | exact Iff.rfl | exact absurd rfl hce
    obtain ⟨u, hu, k⟩ := (hx _ _ _).1 h
    by_cases hde : d.isEff = true
    · have hcr : c ≠ .read := by
        rcases h2 with h2 | h2
        · rw [hde] at h2; cases h2
        · intro e; subst e; simp [Cl.isRead] at h2
      have hne : c ≠ .eff ∧ c ≠ .fin := ⟨fun e => hce (by rw [e]; rfl), fun e => hce (by rw [e]; rfl)⟩
      have hM : ∀ w w', mdW S c w = mdW S c w' := fun w w' => by cases c <;> first | rfl | exact absurd rfl hcr | exact absurd rfl hne.1 | exact absurd rfl hne.2
      have hy : ∀ (M : St → World → Prop) (s : St) (w : World), stepS P S ops d y M s w ↔ stepV P ops y (fun v w' => (d = .eff → S w') ∧ M (s.put y.dst v) w') s w := fun M s w => by
        cases d with
        | eff => exact ⟨fun h => stepV_mono (fun v w ⟨h1, h2⟩ => ⟨fun _ => h1, h2⟩) h, fun h => stepV_mono (fun v w ⟨h1, h2⟩ => ⟨h1 rfl, h2⟩) h⟩
        | fin => exact ⟨fun h => stepV_mono (fun v w h2 => ⟨(fun h => by cases h), h2⟩) h, fun h => stepV_mono (fun v w h2 => h2.2) h⟩
        | calm => cases hde
        | read => cases hde
        | float => cases hde
      have k := (hy _ _ _).1 k
      rw [stepV_congr (ay u)] at k
      refine (hy _ _ _).2 (stepV_mono ?_ k)
      rintro v w' ⟨hs', k⟩
      refine ⟨hs', (hx _ _ _).2 ⟨u, ?_, ?_⟩⟩
      · rw [valG_congr (ax v), hM w' w]; exact hu
      · rw [← pc]; exact k
    · have hy : ∀ (M : St → World → Prop) (s : St) (w : World), stepS P S ops d y M s w ↔ ∃ u, valG P (mdW S d w) ops y s u ∧ M (s.put y.dst u) w := fun M s w => by
        cases d <;> first | exact Iff.rfl | exact absurd rfl hde
      obtain ⟨v, hv, k⟩ := (hy _ _ _).1 k
      rw [valG_congr (ay u)] at hv
      refine (hy _ _ _).2 ⟨v, hv, (hx _ _ _).2 ⟨u, ?_, ?_⟩⟩
      · rw [valG_congr (ax v)]; exact hu
      · rw [← pc]; exact k

/-- What is left of a region, in the order of the text. -/
def opsS (P : Program) (S : World → Prop) (ops : List Oper) (ms : List Nat) (K : St → World → Prop) : List Nat → St → World → Prop
  | [] => K
  | i :: l =>
    match ops[i]? with
    | some o => stepS P S ops (cls ms ops i o) o (opsS P S ops ms K l)
    | none => fun _ _ => False

/-- Is there one among these for which S must hold? -/
def Need (ops : List Oper) (ms : List Nat) (l : List Nat) : Prop := ∃ i ∈ l, ∃ o, ops[i]? = some o ∧ (cls ms ops i o).needs = true

theorem opsT_S {ms : List Nat} {K : St → World → Prop} (hfin : ∀ i j x y, j < i → ops[j]? = some x → ops[i]? = some y → (cls ms ops j x).isFin = true → (cls ms ops i y).needs = false) :
    ∀ (l : List Oper) (k : Nat), (∀ j, l[j]? = ops[k + j]?) → ∀ (s : St) (w : World), (Need ops ms (List.range' k l.length) → S w) → opsT P S ops ms l k K s w → opsS P S ops ms K (List.range' k l.length) s w := by
  intro l
  induction l with
  | nil => intro k _ s w _ h; exact h
  | cons o l ih =>
    intro k hl s w hs h
    have h0 : ops[k]? = some o := by simpa using (hl 0).symm
    simp only [List.length_cons, List.range'_succ, opsS, h0] at hs ⊢
    refine stepS_mono' ?_ (stepT_S (fun e => hs ⟨k, by simp, o, h0, by rw [e]; rfl⟩) h)
    intro s w' he hw h
    refine ih (k + 1) (fun j => by have := hl (j + 1); simpa [Nat.add_assoc, Nat.add_comm 1 j] using this) s w' ?_ h
    rintro ⟨i, hi, oi, hoi, hn⟩
    cases hc : cls ms ops k o with
    | eff => exact he hc
    | fin =>
      have hki : k < i := by
        have := (List.mem_range'_1.1 hi).1; omega
      have := hfin i k o oi hki h0 hoi (by rw [hc]; rfl)
      rw [this] at hn; cases hn
    | calm => rw [hw (by rw [hc]; rfl)]; exact hs ⟨i, List.mem_cons_of_mem _ hi, oi, hoi, hn⟩
    | read => rw [hw (by rw [hc]; rfl)]; exact hs ⟨i, List.mem_cons_of_mem _ hi, oi, hoi, hn⟩
    | float => rw [hw (by rw [hc]; rfl)]; exact hs ⟨i, List.mem_cons_of_mem _ hi, oi, hoi, hn⟩

/-- An operation that nothing ahead of it holds back is taken first. -/
theorem front {ms : List Nat} {K : St → World → Prop} {i : Nat} {y : Oper} (hy : ops[i]? = some y) (post : List Nat) :
    ∀ (pre : List Nat), (∀ j ∈ pre, ∀ x, ops[j]? = some x → comm ops (cls ms ops j x) (cls ms ops i y) x y = true) → ∀ (s : St) (w : World),
      opsS P S ops ms K (pre ++ i :: post) s w → stepS P S ops (cls ms ops i y) y (opsS P S ops ms K (pre ++ post)) s w := by
  intro pre
  induction pre with
  | nil => intro _ s w h; simpa [opsS, hy] using h
  | cons j pre ih =>
    intro hj s w h
    cases hx : ops[j]? with
    | none => simp [opsS, hx] at h
    | some x =>
      simp only [List.cons_append, opsS, hx] at h ⊢
      have := stepS_mono (fun s w h => ih (fun j hj' => hj j (List.mem_cons_of_mem _ hj')) s w h) h
      exact swap (hj j (List.mem_cons_self ..) x hx) this

end Go.Sx
end

section
/- Regions that draw, for the machine. -/
namespace Go.Sx
open Go

variable {P : Program} {n : Nat} {r : Option Nat}

theorem foldl_bit (acc : List Nat) (j : Nat) : ∀ (l : List Edge) (m : Nat),
    (l.foldl (fun m e => bif Region.binds .any e then m ||| (1 <<< e.on) ||| acc.getD e.on 0 else m) m).testBit j = true →
      m.testBit j = true ∨ ∃ e ∈ l, Region.binds .any e = true ∧ (e.on = j ∨ (acc.getD e.on 0).testBit j = true) := by
  intro l
  induction l with
  | nil => intro m h; exact .inl h
  | cons e l ih =>
    intro m h
    rw [List.foldl_cons] at h
    rcases ih _ h with h | ⟨e', he', h⟩
    · cases hb : Region.binds .any e with
      | false => rw [hb] at h; exact .inl h
      | true =>
        rw [hb] at h
        simp only [cond_true, Nat.testBit_or, Bool.or_eq_true] at h
        rcases h with (h | h) | h
        · exact .inl h
        · refine .inr ⟨e, List.mem_cons_self .., hb, .inl ?_⟩
          rw [Nat.one_shiftLeft] at h
          by_cases hej : e.on = j
          · exact hej
          · rw [Nat.testBit_two_pow_of_ne hej] at h; cases h
        · exact .inr ⟨e, List.mem_cons_self .., hb, .inr h⟩
    · exact .inr ⟨e', List.mem_cons_of_mem _ he', h⟩

theorem maskOf_spec {acc : List Nat} {o : Oper} {j : Nat} (h : (maskOf acc o).testBit j = true) :
    ∃ e ∈ o.after, Region.binds .any e = true ∧ (e.on = j ∨ (acc.getD e.on 0).testBit j = true) := by
  rcases foldl_bit acc j _ _ h with h | ⟨e, he, h⟩
  · simp at h
  · exact ⟨e, by simpa using he, h⟩

theorem masksFrom_spec : ∀ (l : List Oper) (acc : List Nat), ∃ more, masksFrom acc l = acc ++ more ∧ more.length = l.length ∧
    ∀ i o, l[i]? = some o → more[i]? = some (maskOf (acc ++ more.take i) o) := by
  intro l
  induction l with
  | nil => intro acc; exact ⟨[], by simp [masksFrom], rfl, fun i o h => by simp at h⟩
  | cons o l ih =>
    intro acc
    obtain ⟨more, h1, h2, h3⟩ := ih (acc ++ [maskOf acc o])
    refine ⟨maskOf acc o :: more, by simp [masksFrom, h1], by simp [h2], ?_⟩
    intro i o' hi
    cases i with
    | zero => simp at hi; subst hi; simp
    | succ i => simp at hi; have := h3 i o' hi; simpa using this

theorem masks_spec {ops : List Oper} {i j : Nat} {o : Oper} (hi : ops[i]? = some o) (h : first (masks ops) j i = true) :
    ∃ e ∈ o.after, Region.binds .any e = true ∧ (e.on = j ∨ (e.on < i ∧ first (masks ops) j e.on = true)) := by
  obtain ⟨more, h1, h2, h3⟩ := masksFrom_spec ops []
  have hm : masks ops = more := by simpa [masks] using h1
  have h4 := h3 i o hi
  unfold first at h ⊢
  rw [hm] at h ⊢
  rw [List.getD_eq_getElem?_getD, h4, Option.getD_some] at h
  obtain ⟨e, he, hb, hj⟩ := maskOf_spec h
  refine ⟨e, he, hb, ?_⟩
  rcases hj with hj | hj
  · exact .inl hj
  · right
    rw [List.nil_append, List.getD_eq_getElem?_getD, List.getElem?_take] at hj
    split at hj
    · rename_i hlt; exact ⟨hlt, by rw [List.getD_eq_getElem?_getD]; exact hj⟩
    · simp at hj

/-- What is listed has all that it hangs on listed. -/
def Closed (ops : List Oper) (listed : Array Bool) : Prop :=
  ∀ i o, ops[i]? = some o → listed.getD i false = true → ∀ e ∈ o.after, Region.binds .any e = true → listed.getD e.on false = true

theorem closed_first {ops : List Oper} {listed : Array Bool} (hc : Closed ops listed) {j : Nat} : ∀ (i : Nat) (o : Oper), ops[i]? = some o →
    (∀ e ∈ o.after, Region.binds .any e = true → listed.getD e.on false = true) → first (masks ops) j i = true → listed.getD j false = true := by
  intro i
  induction i using Nat.strongRecOn with
  | _ i ih =>
    intro o hi hd h
    obtain ⟨e, he, hb, hj⟩ := masks_spec hi h
    have hl := hd e he hb
    rcases hj with rfl | ⟨hlt, hj⟩
    · exact hl
    · cases ho : ops[e.on]? with
      | none =>
        exfalso
        have hlen := (List.getElem?_eq_some_iff.1 hi).1
        have := List.getElem?_eq_none_iff.1 ho
        omega
      | some o' => exact ih e.on hlt o' ho (fun e' he' hb' => hc _ _ ho hl e' he' hb') hj

theorem okDrawL_spec {ops : List Oper} (h : okDrawL ops = true) {i : Nat} {y : Oper} (hi : ops[i]? = some y) :
    edgesOk i y = true ∧ ∀ j x, j < i → ops[j]? = some x → (first (masks ops) j i = true ∨ comm ops (cls (masks ops) ops j x) (cls (masks ops) ops i y) x y = true) ∧
      ((cls (masks ops) ops j x).isFin = true → (cls (masks ops) ops i y).needs = false) := by
  simp only [okDrawL, List.all_eq_true, List.mem_range] at h
  have h1 := h i (List.getElem?_eq_some_iff.1 hi).1
  rw [hi] at h1
  simp only [Bool.and_eq_true, List.all_eq_true, List.mem_range] at h1
  refine ⟨h1.1, fun j x hj hx => ?_⟩
  have h2 := h1.2 j hj
  rw [hx] at h2
  simp only [Bool.and_eq_true, Bool.or_eq_true, Bool.not_eq_true', Bool.and_eq_false_iff] at h2
  refine ⟨h2.1, fun h3 => ?_⟩
  rcases h2.2 with h4 | h4
  · rw [h3] at h4; cases h4
  · exact h4

/-- what floats comes ahead of what needs nothing. -/
theorem fin_first {ops : List Oper} {i j : Nat} {x y : Oper} (hy : ops[i]? = some y) (hx : ops[j]? = some x) (h1 : (cls (masks ops) ops i y).isFin = true) (h2 : (cls (masks ops) ops j x).isFloat = true) : first (masks ops) j i = true := by
  have hb : behind (masks ops) ops i = true := by
    unfold cls at h1
    cases hc : cls0 y.op with
    | eff => rw [hc] at h1; cases hb : behind (masks ops) ops i with
      | true => rfl
      | false => rw [hb] at h1; cases h1
    | read => rw [hc] at h1; cases hf : floats (masks ops) ops i <;> rw [hf] at h1 <;> cases h1
    | fin =>
      exfalso
      unfold cls0 at hc
      split at hc <;> first | cases hc | (split at hc <;> cases hc)
    | calm => rw [hc] at h1; cases h1
    | float => rw [hc] at h1; cases h1
  have hf : floatAt (masks ops) ops j = true := by
    unfold floatAt
    rw [hx]
    unfold cls at h2
    cases hc : cls0 x.op with
    | read => rw [hc] at h2; cases hf : floats (masks ops) ops j <;> rw [hf] at h2 <;> first | (cases h2; done) | (show ((cls0 x.op).isRead && true) = true; rw [hc]; rfl)
    | eff => rw [hc] at h2; cases hb : behind (masks ops) ops j <;> rw [hb] at h2 <;> cases h2
    | fin => rw [hc] at h2; cases h2
    | calm => rw [hc] at h2; cases h2
    | float =>
      exfalso
      unfold cls0 at hc
      split at hc <;> first | cases hc | (split at hc <;> cases hc)
  simp only [behind, Bool.and_eq_true, List.all_eq_true, List.mem_range] at hb
  have := hb.2 j (List.getElem?_eq_some_iff.1 hx).1
  rw [hf] at this
  simpa using this

theorem any_of_opsS {ops : List Oper} {S : World → Prop} {K : St → World → Prop} {Q : Exit → Act → World → Prop} (hok : okDrawL ops = true) (hn : opsOk n ops = true)
    (hK : ∀ s a w, Rel n s a → K s w → Q .normal a w) :
    ∀ (fuel : Nat) (l : List Nat) (listed : Array Bool) (s : St) (a : Act) (w : World), listed.size = ops.length → (∀ i, i ∈ l ↔ i < ops.length ∧ listed.getD i false = false) →
      l.Pairwise (· < ·) → Closed ops listed → l.length ≤ fuel → Rel n s a → (Need ops (masks ops) l → S w) → opsS P S ops (masks ops) K l s w →
      wpAnyIn (FR r) 0 P .any ops.toArray Q fuel listed a w := by
  have hready : ∀ (listed : Array Bool) (i : Nat), listed.size = ops.length → i ∈ Region.ready .any ops.toArray listed →
      (i < ops.length ∧ listed.getD i false = false) ∧ ∃ o, ops[i]? = some o ∧ ∀ e ∈ o.after, Region.binds .any e = true → listed.getD e.on false = true := by
    intro listed i hs hi
    obtain ⟨h1, o, ho, hall⟩ := mem_ready.1 hi
    have ho : ops[i]? = some o := by simpa using ho
    have hlt := (List.getElem?_eq_some_iff.1 ho).1
    have hlt' : i < listed.size := by omega
    refine ⟨⟨hlt, ?_⟩, o, ho, hall⟩
    simpa [hlt'] using h1
  intro fuel
  induction fuel with
  | zero =>
    intro l listed s a w hsz hl _ _ hlen hr _ h
    have hl0 : l = [] := by simpa using hlen
    subst hl0
    refine ⟨?_, hK _ _ _ hr h⟩
    cases hrd : Region.ready .any ops.toArray listed with
    | nil => rfl
    | cons i rest =>
      have := (hready listed i hsz (by rw [hrd]; exact List.mem_cons_self ..)).1
      exact absurd ((hl i).2 this) (by simp)
  | succ fuel ih =>
    intro l listed s a w hsz hl hsort hcl hlen hr hS h
    refine ⟨fun hnil => ?_, fun i hi => ?_⟩
    · cases l with
      | nil => exact hK _ _ _ hr h
      | cons i l =>
        exfalso
        obtain ⟨hlt, hun⟩ := (hl i).1 (List.mem_cons_self ..)
        obtain ⟨o, ho⟩ : ∃ o, ops[i]? = some o := ⟨_, List.getElem?_eq_getElem hlt⟩
        have hedge := (okDrawL_spec hok ho).1
        have : i ∈ Region.ready .any ops.toArray listed := by
          refine mem_ready.2 ⟨?_, o, by simpa using ho, ?_⟩
          · have hlt' : i < listed.size := by omega
            simpa [hlt'] using hun
          · intro e he hb
            simp only [edgesOk, List.all_eq_true] at hedge
            have h1 := hedge e (by simpa using he)
            rw [hb] at h1
            have h2 : e.on < i := by simpa using h1
            cases hx : listed.getD e.on false with
            | true => rfl
            | false =>
              have hm := (hl e.on).2 ⟨by omega, hx⟩
              rcases List.mem_cons.1 hm with rfl | hm
              · omega
              · have := (List.pairwise_cons.1 hsort).1 _ hm; omega
        rw [hnil] at this
        cases this
    · obtain ⟨hun, o, ho, hdeps⟩ := hready listed i hsz hi
      have hmem := (hl i).2 hun
      obtain ⟨pre, post, rfl⟩ := List.append_of_mem hmem
      have hpre : ∀ j ∈ pre, j < i := fun j hj => by
        have := List.pairwise_append.1 hsort
        exact this.2.2 j hj i (List.mem_cons_self ..)
      have hfront := front (P := P) (S := S) (K := K) ho post pre (fun j hj x hx => by
        rcases ((okDrawL_spec hok ho).2 j x (hpre j hj) hx).1 with h1 | h1
        · have := closed_first hcl i o ho hdeps h1
          have h2 := ((hl j).1 (by simp [hj])).2
          rw [this] at h2; cases h2
        · exact h1) s w h
      have hst := stepS_W (fun e => hS ⟨i, by simp, o, ho, by rw [e]; rfl⟩) hfront
      have hdst : dstOk n o.dst = true := by
        simp only [opsOk, List.all_eq_true] at hn
        exact hn o (List.mem_of_getElem? ho)
      refine step_wpIn ho hdst hr ?_ hst
      rintro s' a' w' hr' ⟨hSe, hSw, h'⟩
      have hS' : Need ops (masks ops) (pre ++ post) → S w' := by
        rintro ⟨k, hk, x, hx, hn⟩
        have hkm : k ∈ pre ++ i :: post := by
          rcases List.mem_append.1 hk with h1 | h1
          · exact List.mem_append_left _ h1
          · exact List.mem_append_right _ (List.mem_cons_of_mem _ h1)
        have hunk := ((hl k).1 hkm).2
        cases hc : cls (masks ops) ops i o with
        | eff => exact hSe hc
        | fin =>
          exfalso
          have hfi : (cls (masks ops) ops i o).isFin = true := by rw [hc]; rfl
          cases hck : cls (masks ops) ops k x with
          | float =>
            have := closed_first hcl i o ho hdeps (fin_first ho hx hfi (by rw [hck]; rfl))
            rw [this] at hunk; cases hunk
          | eff =>
            rcases Nat.lt_trichotomy k i with h1 | h1 | h1
            · rcases ((okDrawL_spec hok ho).2 k x h1 hx).1 with h2 | h2
              · have := closed_first hcl i o ho hdeps h2
                rw [this] at hunk; cases hunk
              · rw [hc, hck] at h2
                simp [comm, Cl.isEff] at h2
            · subst h1
              rw [ho] at hx; cases hx
              rw [hc] at hck; cases hck
            · have := ((okDrawL_spec hok hx).2 i o h1 ho).2 hfi
              rw [hck] at this; cases this
          | fin => rw [hck] at hn; cases hn
          | calm => rw [hck] at hn; cases hn
          | read => rw [hck] at hn; cases hn
        | calm => rw [hSw (by rw [hc]; rfl)]; exact hS ⟨k, hkm, x, hx, hn⟩
        | read => rw [hSw (by rw [hc]; rfl)]; exact hS ⟨k, hkm, x, hx, hn⟩
        | float => rw [hSw (by rw [hc]; rfl)]; exact hS ⟨k, hkm, x, hx, hn⟩
      have hnd : (pre ++ i :: post).Nodup := hsort.imp (fun h => Nat.ne_of_lt h)
      refine ih (pre ++ post) (listed.setIfInBounds i true) s' a' w' (by simp [hsz]) ?_ ?_ ?_ (by simp at hlen ⊢; omega) hr' hS' h'
      · intro j
        have h1 := hl j
        by_cases hji : j = i
        · subst hji
          have hlt' : j < listed.size := by omega
          have : j ∉ pre ++ post := by
            have := List.nodup_append.1 hnd
            have h3 := List.nodup_cons.1 this.2.1
            simp only [List.mem_append, not_or]
            exact ⟨fun hj => this.2.2 j hj j (List.mem_cons_self ..) rfl, h3.1⟩
          simp only [this, false_iff]
          simp [hlt']
        · have e1 : (listed.setIfInBounds i true).getD j false = listed.getD j false := getD_set_ne false (Ne.symm hji)
          rw [e1, ← h1]
          simp [hji]
      · exact hsort.sublist (List.Sublist.append_left (List.sublist_cons_self i post) pre)
      · intro k ok hk hkl e he hb
        by_cases hki : k = i
        · subst hki
          rw [ho] at hk; cases hk
          exact getD_set_true (hdeps e he hb)
        · rw [getD_set_ne false (Ne.symm hki)] at hkl
          exact getD_set_true (hcl k ok hk hkl e he hb)

theorem drawL_wpIn {id : Nat} {ops : List Oper} {K : St → World → Prop} {Q : Exit → Act → World → Prop} (hm : P.follows .mixedOrders = true) (hK : ∀ s a w, Rel n s a → K s w → Q .normal a w)
    (hok : okDrawL ops = true) (hn : opsOk n ops = true) {s : St} {a : Act} {w : World} (hr : Rel n s a) (h : drawL P ops K s w) : (Code.region id ops.toArray true).wpIn (FR r) 0 P Q a w := by
  refine wpIn_region_any hm ?_
  have key : ∀ S : World → Prop, S w.drew → opsT P S ops (masks ops) ops 0 K s w.drew → wpAnyIn (FR r) 0 P .any ops.toArray Q ops.toArray.size (Array.replicate ops.toArray.size false) a { w with drawn := w.drawn + 1 } := by
    intro S hS h
    have h2 := opsT_S (ms := masks ops) (fun i j x y hj hx hy h1 => ((okDrawL_spec hok hy).2 j x hj hx).2 h1) ops 0 (by simp) s w.drew (fun _ => hS) h
    refine any_of_opsS (S := S) hok hn hK _ (List.range' 0 ops.length) _ s a _ (by simp) ?_ ?_ ?_ (by simp) hr (fun _ => hS) h2
    · intro i
      simp only [List.mem_range'_1, Nat.zero_le, true_and, Nat.zero_add, List.size_toArray]
      constructor
      · intro hi; exact ⟨hi, by simp [hi]⟩
      · exact fun h => h.1
    · exact List.pairwise_lt_range'
    · intro i o hi hl
      exfalso
      have := (List.getElem?_eq_some_iff.1 hi).1
      simp [this] at hl
  unfold drawL at h
  cases hf : anyFloat (masks ops) ops with
  | true =>
    rw [hf] at h
    obtain ⟨S, hS, h⟩ := h
    exact key S hS h
  | false => rw [hf] at h; exact key _ trivial h

end Go.Sx
end

section
/- Regions in which operations that act come in any order: one text for each. -/
set_option linter.unusedVariables false
namespace Go.Sx
open Go

variable {P : Program} {n : Nat} {r : Option Nat}

/-- In such a region a conversion may read. -/
def cls0B (o : Op) : Cl :=
  match o with
  | .convert _ _ _ => .read
  | o => cls0 o

def floatAtB (ms : List Nat) (ops : List Oper) (j : Nat) : Bool :=
  match ops[j]? with
  | some o => (cls0B o.op).isRead && floats ms ops j
  | none => false

def behindB (ms : List Nat) (ops : List Oper) (i : Nat) : Bool :=
  ((List.range ops.length).any fun j => floatAtB ms ops j) && (List.range ops.length).all fun j => !floatAtB ms ops j || first ms j i

def clsB (ms : List Nat) (ops : List Oper) (i : Nat) (o : Oper) : Cl :=
  match cls0B o.op with
  | .read => bif floats ms ops i then .float else .read
  | .eff => bif behindB ms ops i then .fin else .eff
  | c => c

/-- What the worlds are of which an operation of a class speaks: a read that floats may come later. -/
def mdR (R : World → World → Prop) : Cl → World → World → Prop
  | .calm, _ => fun _ => True
  | .read, w => fun w' => w' = w
  | .float, w => R w
  | .eff, _ => fun _ => False
  | .fin, _ => fun _ => False

def opR (P : Program) (R : World → World → Prop) (c : Cl) (o : Op) (ty : TypeId) (ρ : Operand → Value) (K : Value → World → Prop) (w : World) : Prop :=
  match c with
  | .calm => opM P (fun _ => True) o ty ρ K w
  | .read => opM P (fun w' => w' = w) o ty ρ K w
  | .float => opM P (R w) o ty ρ K w
  | .eff => opW P o ty ρ (fun v w' => R w w' ∧ K v w') w
  | .fin => opW P o ty ρ K w

def stepRT (P : Program) (R : World → World → Prop) (ops : List Oper) (c : Cl) (o : Oper) (K : St → World → Prop) (s : St) (w : World) : Prop :=
  match o.guard with
  | none => opR P R c o.op o.type s.ev (fun v w => K (s.put o.dst v) w) w
  | some (j, want) => gcond (gval ops s j) want (opR P R c o.op o.type s.ev (fun v w => K (s.put o.dst v) w) w) (K (s.put o.dst undef) w)

def stepR (P : Program) (R : World → World → Prop) (ops : List Oper) (c : Cl) (o : Oper) (K : St → World → Prop) (s : St) (w : World) : Prop :=
  match c with
  | .eff => stepV P ops o (fun v w' => R w w' ∧ K (s.put o.dst v) w') s w
  | .fin => stepV P ops o (fun v w' => K (s.put o.dst v) w') s w
  | c => ∃ u, valG P (mdR R c w) ops o s u ∧ K (s.put o.dst u) w

theorem opR_val {R : World → World → Prop} {c : Cl} (hc : c.isEff = false) {o : Op} {ty : TypeId} {ρ : Operand → Value} {K : Value → World → Prop} {w : World} (h : opR P R c o ty ρ K w) : ∃ u, opVal P (mdR R c w) o ty ρ u ∧ K u w := by
  cases c <;> first | exact opM_val h | cases hc

theorem stepRT_R {R : World → World → Prop} (hr : ∀ a, R a a) {ops : List Oper} {c : Cl} {o : Oper} {K : St → World → Prop} {s : St} {w : World} (h : stepRT P R ops c o K s w) : stepR P R ops c o K s w := by
  unfold stepRT at h
  cases hc : c.isEff with
  | false =>
    have key : ∃ u, valG P (mdR R c w) ops o s u ∧ K (s.put o.dst u) w := by
      unfold valG
      cases hg : o.guard with
      | none => rw [hg] at h; exact opR_val hc h
      | some g =>
        obtain ⟨j, want⟩ := g
        rw [hg] at h
        simp only [gcond] at h ⊢
        split at h
        · cases hh : (_ == want) <;> rw [hh] at h <;> simp only [cond_true, cond_false] at h ⊢
          · exact ⟨undef, rfl, h⟩
          · exact opR_val hc h
        · exact ⟨undef, rfl, h⟩
    cases c <;> first | exact key | cases hc
  | true =>
    cases c <;> first | (cases hc; done) | skip
    · simp only [stepR, stepV]
      cases hg : o.guard with
      | none => rw [hg] at h; exact h
      | some g => obtain ⟨j, want⟩ := g; rw [hg] at h; exact gcond_mono id (fun k => ⟨hr _, k⟩) h
    · simp only [stepR, stepV]
      cases hg : o.guard with
      | none => rw [hg] at h; exact h
      | some g => obtain ⟨j, want⟩ := g; rw [hg] at h; exact h

theorem stepR_mono {R : World → World → Prop} {ops : List Oper} {c : Cl} {o : Oper} {K K' : St → World → Prop} {s : St} {w : World} (hk : ∀ s w', (c.isEff = false → w' = w) → K s w' → K' s w') (h : stepR P R ops c o K s w) : stepR P R ops c o K' s w := by
  cases c with
  | eff => exact stepV_mono (fun v w ⟨h1, h2⟩ => ⟨h1, hk _ _ (fun h => by cases h) h2⟩) h
  | fin => exact stepV_mono (fun v w h2 => hk _ _ (fun h => by cases h) h2) h
  | _ => obtain ⟨u, hu, k⟩ := h; exact ⟨u, hu, hk _ _ (fun _ => rfl) k⟩

theorem stepR_W {R : World → World → Prop} (hr : ∀ a, R a a) {ops : List Oper} {c : Cl} {o : Oper} {K : St → World → Prop} {s : St} {w : World} (h : stepR P R ops c o K s w) : stepW P ops o K s w := by
  rw [stepW_eq]
  cases c with
  | eff => exact stepV_mono (fun v w ⟨_, h2⟩ => h2) h
  | fin => exact h
  | calm => obtain ⟨u, hu, k⟩ := h; exact valG_stepV hu trivial k
  | read => obtain ⟨u, hu, k⟩ := h; exact valG_stepV hu rfl k
  | float => obtain ⟨u, hu, k⟩ := h; exact valG_stepV hu (hr w) k

theorem valG_sub {M M' : World → Prop} {ops : List Oper} {o : Oper} {s : St} {u : Value} (hM : ∀ w, M' w → M w) (h : valG P M ops o s u) : valG P M' ops o s u := by
  have key : ∀ {ty : TypeId} {ρ : Operand → Value}, opVal P M o.op ty ρ u → opVal P M' o.op ty ρ u := by
    intro ty ρ h
    unfold opVal at *
    split <;> simp_all only
    · obtain ⟨s, h1, h2⟩ := h
      exact ⟨s, h1, fun w hw => h2 w (hM w hw)⟩
  unfold valG at *
  cases hg : o.guard with
  | none => rw [hg] at h; exact key h
  | some g => obtain ⟨j, want⟩ := g; rw [hg] at h; exact gcond_mono key id h

/-- What only yields may come behind. -/
theorem swapR {R : World → World → Prop} (ht : ∀ a b c, R a b → R b c → R a c) {ops : List Oper} {c d : Cl} {x y : Oper} (hc : comm ops c d x y = true) (hx : c.isEff = false) {M : St → World → Prop} {s : St} {w : World}
    (h : stepR P R ops c x (stepR P R ops d y M) s w) : stepR P R ops d y (stepR P R ops c x M) s w := by
  simp only [comm, Bool.and_eq_true, Bool.not_eq_true', Bool.and_eq_false_iff, Bool.or_eq_false_iff] at hc
  obtain ⟨⟨⟨⟨hap, h1⟩, h2⟩, h3⟩, h4⟩ := hc
  obtain ⟨a1, a2, a3⟩ := Oper.apart_spec hap
  have ay : ∀ v, Alike ops y (s.put x.dst v) s := fun v => alike_put a1 v
  have ax : ∀ v, Alike ops x (s.put y.dst v) s := fun v => alike_put a3 v
  have pc : ∀ u v, (s.put x.dst u).put y.dst v = (s.put y.dst v).put x.dst u := fun u v => put_comm a2
  have hxx : ∀ (M : St → World → Prop) (s : St) (w : World), stepR P R ops c x M s w ↔ ∃ u, valG P (mdR R c w) ops x s u ∧ M (s.put x.dst u) w := fun M s w => by
    cases c <;> first | exact Iff.rfl | cases hx
  obtain ⟨u, hu, k⟩ := (hxx _ _ _).1 h
  by_cases hde : d.isEff = true
  · have hcr : c ≠ .read := by
      rcases h2 with h2 | h2
      · rw [hde] at h2; cases h2
      · intro e; subst e; simp [Cl.isRead] at h2
    have hcf : d = .fin → c ≠ .float := fun e e' => by subst e e'; simp [Cl.isFin, Cl.isFloat] at h4
    have hM : ∀ w', (d = .eff → R w w') → ∀ w'', mdR R c w' w'' → mdR R c w w'' := fun w' hR w'' => by
      cases c with
      | calm => exact fun _ => trivial
      | read => exact absurd rfl hcr
      | float =>
        cases d with
        | eff => exact fun h => ht _ _ _ (hR rfl) h
        | fin => exact absurd rfl (hcf rfl)
        | calm => cases hde
        | read => cases hde
        | float => cases hde
      | eff => cases hx
      | fin => cases hx
    have hy : ∀ (M : St → World → Prop) (s : St) (w : World), stepR P R ops d y M s w ↔ stepV P ops y (fun v w' => (d = .eff → R w w') ∧ M (s.put y.dst v) w') s w := fun M s w => by
      cases d with
      | eff => exact ⟨fun h => stepV_mono (fun v w ⟨h1, h2⟩ => ⟨fun _ => h1, h2⟩) h, fun h => stepV_mono (fun v w ⟨h1, h2⟩ => ⟨h1 rfl, h2⟩) h⟩
      | fin => exact ⟨fun h => stepV_mono (fun v w h2 => ⟨(fun h => by cases h), h2⟩) h, fun h => stepV_mono (fun v w h2 => h2.2) h⟩
      | calm => cases hde
      | read => cases hde
      | float => cases hde
    have k := (hy _ _ _).1 k
    rw [stepV_congr (ay u)] at k
    refine (hy _ _ _).2 (stepV_mono ?_ k)
    rintro v w' ⟨hs', k⟩
    refine ⟨hs', (hxx _ _ _).2 ⟨u, ?_, ?_⟩⟩
    · rw [valG_congr (ax v)]
      exact valG_sub (hM w' hs') hu
    · rw [← pc]; exact k
  · have hy : ∀ (M : St → World → Prop) (s : St) (w : World), stepR P R ops d y M s w ↔ ∃ u, valG P (mdR R d w) ops y s u ∧ M (s.put y.dst u) w := fun M s w => by
      cases d <;> first | exact Iff.rfl | exact absurd rfl hde
    obtain ⟨v, hv, k⟩ := (hy _ _ _).1 k
    rw [valG_congr (ay u)] at hv
    refine (hy _ _ _).2 ⟨v, hv, (hxx _ _ _).2 ⟨u, ?_, ?_⟩⟩
    · rw [valG_congr (ax v)]; exact hu
    · rw [← pc]; exact k

def effAt (ms : List Nat) (ops : List Oper) (i : Nat) : Bool :=
  match ops[i]? with
  | some o => (clsB ms ops i o).isEff
  | none => false

/-- Is there one among these that acts and comes first? -/
def hasPre (ms : List Nat) (ops : List Oper) (l : List Nat) (i : Nat) : Bool := l.any fun j => effAt ms ops j && first ms j i

def calmOf (ms : List Nat) (ops : List Oper) (l : List Nat) : List Nat := l.filter fun i => !effAt ms ops i && !hasPre ms ops l i
def restOf (ms : List Nat) (ops : List Oper) (l : List Nat) : List Nat := l.filter fun i => effAt ms ops i || hasPre ms ops l i
def headsOf (ms : List Nat) (ops : List Oper) (l : List Nat) : List Nat := l.filter fun i => effAt ms ops i && !hasPre ms ops l i

abbrev KT := St → World → Prop

def seqX (f : Nat → KT → KT) : List Nat → KT → KT
  | [], K => K
  | i :: l, K => f i (seqX f l K)

def allX : List KT → KT
  | [] => fun _ _ => True
  | [p] => p
  | p :: q :: l => fun s w => p s w ∧ allX (q :: l) s w

def treeX (ms : List Nat) (ops : List Oper) (f : Nat → KT → KT) : Nat → List Nat → KT → KT
  | 0, _, K => K
  | n + 1, l, K => seqX f (calmOf ms ops l) (match restOf ms ops l with
    | [] => K
    | i :: l' => allX ((headsOf ms ops (i :: l')).map fun e => f e (treeX ms ops f n ((i :: l').filter fun j => !Nat.beq j e) K)))

def fT (P : Program) (R : World → World → Prop) (ms : List Nat) (ops : List Oper) (i : Nat) (K : KT) : KT :=
  match ops[i]? with
  | some o => stepRT P R ops (clsB ms ops i o) o K
  | none => fun _ _ => False
def fS (P : Program) (R : World → World → Prop) (ms : List Nat) (ops : List Oper) (i : Nat) (K : KT) : KT :=
  match ops[i]? with
  | some o => stepR P R ops (clsB ms ops i o) o K
  | none => fun _ _ => False

/-- Do two that act come in either order? -/
def parts (ops : List Oper) : Bool :=
  (List.range ops.length).any fun i => effAt (masks ops) ops i && (List.range i).any fun j => effAt (masks ops) ops j && !first (masks ops) j i

def okDrawB (ops : List Oper) : Bool :=
  let ms := masks ops
  (List.range ops.length).all fun i =>
    match ops[i]? with
    | some y => edgesOk i y && (List.range ops.length).all fun j =>
      match ops[j]? with
      | some x => Nat.beq i j || first ms j i || first ms i j || ((clsB ms ops i y).isEff && (clsB ms ops j x).isEff) || comm ops (clsB ms ops j x) (clsB ms ops i y) x y
      | none => true
    | none => true

def okDraw (ops : List Oper) : Bool := bif parts ops then okDrawB ops else okDrawL ops

/-- A region that draws. -/
def drawW (P : Program) (ops : List Oper) (K : KT) (s : St) (w : World) : Prop :=
  bif parts ops then ∃ R : World → World → Prop, (∀ a, R a a) ∧ (∀ a b c, R a b → R b c → R a c) ∧ treeX (masks ops) ops (fT P R (masks ops) ops) (ops.length + 1) (List.range ops.length) K s w.drew
  else drawL P ops K s w

/-! ### What must come first, by steps -/
theorem foldl_le (acc : List Nat) (j : Nat) : ∀ (l : List Edge) (m : Nat), m.testBit j = true → (l.foldl (fun m e => bif Region.binds .any e then m ||| (1 <<< e.on) ||| acc.getD e.on 0 else m) m).testBit j = true := by
  intro l
  induction l with
  | nil => intro m h; exact h
  | cons e l ih =>
    intro m h
    rw [List.foldl_cons]
    refine ih _ ?_
    cases Region.binds .any e with
    | true => simp [Nat.testBit_or, h]
    | false => exact h
theorem foldl_mem (acc : List Nat) (j : Nat) : ∀ (l : List Edge) (m : Nat) (e : Edge), e ∈ l → Region.binds .any e = true → (e.on = j ∨ (acc.getD e.on 0).testBit j = true) →
    (l.foldl (fun m e => bif Region.binds .any e then m ||| (1 <<< e.on) ||| acc.getD e.on 0 else m) m).testBit j = true := by
  intro l
  induction l with
  | nil => intro m e h; cases h
  | cons e l ih =>
    intro m e' he hb hj
    rw [List.foldl_cons]
    rcases List.mem_cons.1 he with rfl | he
    · refine foldl_le acc j l _ ?_
      rw [hb]
      simp only [cond_true, Nat.testBit_or, Bool.or_eq_true]
      rcases hj with rfl | hj
      · left; right
        rw [Nat.one_shiftLeft, Nat.testBit_two_pow_self]
      · right; exact hj
    · exact ih _ _ he hb hj

theorem masks_edge {ops : List Oper} {i : Nat} {o : Oper} {e : Edge} (hi : ops[i]? = some o) (he : e ∈ o.after) (hb : Region.binds .any e = true) (hlt : e.on < i) {j : Nat} (hj : e.on = j ∨ first (masks ops) j e.on = true) : first (masks ops) j i = true := by
  obtain ⟨more, h1, h2, h3⟩ := masksFrom_spec ops []
  have hm : masks ops = more := by simpa [masks] using h1
  have h4 := h3 i o hi
  unfold first at hj ⊢
  rw [hm] at hj ⊢
  rw [List.getD_eq_getElem?_getD, h4, Option.getD_some]
  unfold maskOf
  refine foldl_mem _ j _ _ e (by simpa using he) hb ?_
  rcases hj with h | h
  · exact .inl h
  · right
    rw [List.nil_append, List.getD_eq_getElem?_getD, List.getElem?_take, if_pos hlt, ← List.getD_eq_getElem?_getD]
    exact h

theorem first_trans {ops : List Oper} (hok : ∀ i o, ops[i]? = some o → edgesOk i o = true) {j k : Nat} (h1 : first (masks ops) j k = true) : ∀ (i : Nat) (o : Oper), ops[i]? = some o → first (masks ops) k i = true → first (masks ops) j i = true := by
  intro i
  induction i using Nat.strongRecOn with
  | _ i ih =>
    intro o hi h
    obtain ⟨e, he, hb, hj⟩ := masks_spec hi h
    have hedge := hok i o hi
    simp only [edgesOk, List.all_eq_true] at hedge
    have h2 := hedge e (by simpa using he)
    rw [hb] at h2
    have hlt : e.on < i := by simpa using h2
    refine masks_edge hi he hb hlt (.inr ?_)
    rcases hj with rfl | ⟨_, hj⟩
    · exact h1
    · cases ho : ops[e.on]? with
      | none =>
        exfalso
        have hlen := (List.getElem?_eq_some_iff.1 hi).1
        have := List.getElem?_eq_none_iff.1 ho
        omega
      | some o' => exact ih e.on hlt o' ho hj

theorem first_lt {ops : List Oper} (hok : ∀ i o, ops[i]? = some o → edgesOk i o = true) {j i : Nat} {o : Oper} (hi : ops[i]? = some o) (h : first (masks ops) j i = true) : j < i := by
  induction i using Nat.strongRecOn generalizing o with
  | _ i ih =>
    obtain ⟨e, he, hb, hj⟩ := masks_spec hi h
    have hedge := hok i o hi
    simp only [edgesOk, List.all_eq_true] at hedge
    have h2 := hedge e (by simpa using he)
    rw [hb] at h2
    have hlt : e.on < i := by simpa using h2
    rcases hj with rfl | ⟨_, hj⟩
    · exact hlt
    · cases ho : ops[e.on]? with
      | none =>
        exfalso
        have hlen := (List.getElem?_eq_some_iff.1 hi).1
        have := List.getElem?_eq_none_iff.1 ho
        omega
      | some o' => have := ih e.on hlt ho hj; omega

/-! ### More may hold behind -/
theorem seqX_mono {f g : Nat → KT → KT} (h : ∀ i (K K' : KT), (∀ s w, K s w → K' s w) → ∀ s w, f i K s w → g i K' s w) : ∀ (l : List Nat) (K K' : KT), (∀ s w, K s w → K' s w) → ∀ s w, seqX f l K s w → seqX g l K' s w := by
  intro l
  induction l with
  | nil => intro K K' hk; exact hk
  | cons i l ih => intro K K' hk; exact h i _ _ (ih K K' hk)
theorem allX_map {α : Type} {p q : α → KT} (h : ∀ a s w, p a s w → q a s w) : ∀ (l : List α) s w, allX (l.map p) s w → allX (l.map q) s w := by
  intro l
  induction l with
  | nil => intro s w _; exact trivial
  | cons a l ih =>
    intro s w k
    cases l with
    | nil => exact h a s w k
    | cons b l => exact ⟨h a s w k.1, ih s w k.2⟩
theorem allX_mem {α : Type} {p : α → KT} : ∀ (l : List α) s w, allX (l.map p) s w → ∀ a ∈ l, p a s w := by
  intro l
  induction l with
  | nil => intro s w _ a ha; cases ha
  | cons a l ih =>
    intro s w k b hb
    cases l with
    | nil =>
      rcases List.mem_cons.1 hb with rfl | hb
      · exact k
      · cases hb
    | cons c l =>
      rcases List.mem_cons.1 hb with rfl | hb
      · exact k.1
      · exact ih s w k.2 b hb
theorem treeX_mono {ms : List Nat} {ops : List Oper} {f g : Nat → KT → KT} (h : ∀ i (K K' : KT), (∀ s w, K s w → K' s w) → ∀ s w, f i K s w → g i K' s w) : ∀ (n : Nat) (l : List Nat) (K K' : KT), (∀ s w, K s w → K' s w) → ∀ s w, treeX ms ops f n l K s w → treeX ms ops g n l K' s w := by
  intro n
  induction n with
  | zero => intro l K K' hk; exact hk
  | succ n ih =>
    intro l K K' hk
    unfold treeX
    refine seqX_mono h _ _ _ ?_
    intro s w
    cases e : restOf ms ops l with
    | nil => exact hk s w
    | cons i l' => exact fun k => allX_map (fun e s w k => h e _ _ (ih _ K K' hk) s w k) _ s w k

theorem opM_mono' {M : World → Prop} {o : Op} {ty : TypeId} {ρ : Operand → Value} {K K' : Value → World → Prop} (h : ∀ v w, K v w → K' v w) {w : World} (k : opM P M o ty ρ K w) : opM P M o ty ρ K' w := by
  unfold opM at *
  split at k
  · exact h _ _ k
  · exact h _ _ k
  · exact pickV_mono h k
  · cases hs : semOf o ty ρ with
    | none => rw [hs] at k; exact k.elim
    | some s => rw [hs] at k; obtain ⟨v, hv, k⟩ := k; exact ⟨v, hv, h _ _ k⟩
theorem opR_mono {R : World → World → Prop} {c : Cl} {o : Op} {ty : TypeId} {ρ : Operand → Value} {K K' : Value → World → Prop} (h : ∀ v w, K v w → K' v w) {w : World} (k : opR P R c o ty ρ K w) : opR P R c o ty ρ K' w := by
  cases c
  · exact opM_mono' h k
  · exact opM_mono' h k
  · exact opM_mono' h k
  · simp only [opR] at k ⊢
    exact opW_mono (fun v w ⟨a, b⟩ => ⟨a, h _ _ b⟩) k
  · exact opW_mono h k
theorem fT_mono {S : World → World → Prop} {ms : List Nat} {ops : List Oper}
    (i : Nat) (K K' : KT) (h : ∀ s w, K s w → K' s w) (s : St) (w : World) (k : fT P S ms ops i K s w) : fT P S ms ops i K' s w := by
  unfold fT at *
  cases ho : ops[i]? with
  | none => rw [ho] at k; exact k.elim
  | some o =>
    rw [ho] at k
    simp only [stepRT] at k ⊢
    cases hg : o.guard with
    | none => rw [hg] at k; exact opR_mono (fun _ _ => h _ _) k
    | some g => obtain ⟨j, want⟩ := g; rw [hg] at k; exact gcond_mono (opR_mono (fun _ _ => h _ _)) (h _ _) k

/-! ### Soundness -/
section
variable {S : World → World → Prop} {ops : List Oper} {ms : List Nat}

theorem fS_mono (i : Nat) (K K' : KT) (h : ∀ s w, K s w → K' s w) (s : St) (w : World) (k : fS P S ms ops i K s w) : fS P S ms ops i K' s w := by
  unfold fS at *
  cases ho : ops[i]? with
  | none => rw [ho] at k; exact k.elim
  | some o => rw [ho] at k; exact stepR_mono (fun s w _ => h s w) k

/-- what does not act leaves the world. -/
theorem calm_conv (hrf : ∀ a, S a a) : ∀ (C : List Nat), (∀ i ∈ C, effAt ms ops i = false) → ∀ (K K' : KT) (s : St) (w : World), (∀ s, K s w → K' s w) → seqX (fT P S ms ops) C K s w → seqX (fS P S ms ops) C K' s w := by
  intro C
  induction C with
  | nil => intro _ K K' s w h k; exact h s k
  | cons i C ih =>
    intro hC K K' s w h k
    simp only [seqX, fT, fS] at k ⊢
    cases ho : ops[i]? with
    | none => rw [ho] at k; exact k.elim
    | some o =>
      rw [ho] at k
      have he : (clsB ms ops i o).isEff = false := by
        have := hC i (by simp)
        unfold effAt at this
        rw [ho] at this; exact this
      refine stepR_mono ?_ (stepRT_R hrf k)
      intro s' w' hw k'
      have := hw he
      subst this
      exact ih (fun j hj => hC j (by simp [hj])) K K' s' _ h k'

theorem calm_monoS : ∀ (C : List Nat), (∀ i ∈ C, effAt ms ops i = false) → ∀ (K K' : KT) (s : St) (w : World), (∀ s, K s w → K' s w) → seqX (fS P S ms ops) C K s w → seqX (fS P S ms ops) C K' s w := by
  intro C
  induction C with
  | nil => intro _ K K' s w h k; exact h s k
  | cons i C ih =>
    intro hC K K' s w h k
    simp only [seqX, fS] at k ⊢
    cases ho : ops[i]? with
    | none => rw [ho] at k; exact k.elim
    | some o =>
      rw [ho] at k
      have he : (clsB ms ops i o).isEff = false := by
        have := hC i (by simp)
        unfold effAt at this
        rw [ho] at this; exact this
      refine stepR_mono ?_ k
      intro s' w' hw k'
      have := hw he
      subst this
      exact ih (fun j hj => hC j (by simp [hj])) K K' s' _ h k'

/-- one is taken ahead of others. -/
theorem pull (htr : ∀ a b c, S a b → S b c → S a c) {i : Nat} {y : Oper} (hy : ops[i]? = some y) {M : KT} : ∀ (pre : List Nat), (∀ j ∈ pre, effAt ms ops j = false) → (∀ j ∈ pre, ∀ x, ops[j]? = some x → comm ops (clsB ms ops j x) (clsB ms ops i y) x y = true) → ∀ (s : St) (w : World),
    seqX (fS P S ms ops) pre (fS P S ms ops i M) s w → fS P S ms ops i (seqX (fS P S ms ops) pre M) s w := by
  intro pre
  induction pre with
  | nil => intro _ _ s w h; exact h
  | cons j pre ih =>
    intro hne hj s w h
    simp only [seqX] at h ⊢
    have h2 := fS_mono j _ _ (ih (fun j hj' => hne j (by simp [hj'])) (fun j hj' => hj j (by simp [hj']))) s w h
    cases hx : ops[j]? with
    | none => simp [fS, hx] at h2
    | some x =>
      simp only [fS, hx, hy] at h2 ⊢
      have he : (clsB ms ops j x).isEff = false := by
        have := hne j (by simp)
        unfold effAt at this
        rw [hx] at this; exact this
      exact swapR htr (hj j (by simp) x hx) he h2

theorem seqX_app (f : Nat → KT → KT) (a b : List Nat) (K : KT) : seqX f (a ++ b) K = seqX f a (seqX f b K) := by
  induction a with
  | nil => rfl
  | cons i a ih => simp only [List.cons_append, seqX, ih]

end

theorem okDrawB_spec {ops : List Oper} (h : okDrawB ops = true) {i : Nat} {y : Oper} (hi : ops[i]? = some y) :
    edgesOk i y = true ∧ ∀ j x, ops[j]? = some x → i ≠ j → first (masks ops) j i = false → first (masks ops) i j = false → ((clsB (masks ops) ops i y).isEff = true → (clsB (masks ops) ops j x).isEff = false) →
      comm ops (clsB (masks ops) ops j x) (clsB (masks ops) ops i y) x y = true := by
  simp only [okDrawB, List.all_eq_true, List.mem_range] at h
  have h1 := h i (List.getElem?_eq_some_iff.1 hi).1
  rw [hi] at h1
  simp only [Bool.and_eq_true, List.all_eq_true, List.mem_range] at h1
  refine ⟨h1.1, fun j x hx hne a1 a2 a3 => ?_⟩
  have h2 := h1.2 j (List.getElem?_eq_some_iff.1 hx).1
  rw [hx] at h2
  simp only [Bool.or_eq_true, Bool.and_eq_true] at h2
  rcases h2 with (((h2 | h2) | h2) | h2) | h2
  · exact absurd (Nat.eq_of_beq_eq_true h2) hne
  · rw [a1] at h2; cases h2
  · rw [a2] at h2; cases h2
  · rw [a3 h2.1] at h2; cases h2.2
  · exact h2

theorem least {p : Nat → Prop} : ∀ i, p i → ∃ j, p j ∧ ∀ k, p k → j ≤ k := by
  intro i
  induction i using Nat.strongRecOn with
  | _ i ih =>
    intro hp
    by_cases h : ∃ k, k < i ∧ p k
    · obtain ⟨k, hk, hpk⟩ := h
      exact ih k hk hpk
    · refine ⟨i, hp, fun k hk => ?_⟩
      by_cases hlt : k < i
      · exact absurd ⟨k, hlt, hk⟩ h
      · omega

/-- what is to be done, and what is known of it -/
structure Left (ops : List Oper) (fuel : Nat) (C l : List Nat) (listed : Array Bool) : Prop where
  sz : listed.size = ops.length
  mem : ∀ i, i ∈ C ++ l ↔ i < ops.length ∧ listed.getD i false = false
  nodup : (C ++ l).Nodup
  calm : ∀ i ∈ C, effAt (masks ops) ops i = false
  ord : (C ++ l).Pairwise (fun a b => first (masks ops) b a = false)
  closed : Closed ops listed
  len : (C ++ l).length ≤ fuel

theorem restOf_mem {ms : List Nat} {ops : List Oper} {l : List Nat} {i : Nat} : i ∈ restOf ms ops l ↔ i ∈ l ∧ (effAt ms ops i = true ∨ hasPre ms ops l i = true) := by
  simp [restOf]
theorem calmOf_mem {ms : List Nat} {ops : List Oper} {l : List Nat} {i : Nat} : i ∈ calmOf ms ops l ↔ i ∈ l ∧ effAt ms ops i = false ∧ hasPre ms ops l i = false := by
  simp [calmOf]
theorem hasPre_iff {ms : List Nat} {ops : List Oper} {l : List Nat} {i : Nat} : hasPre ms ops l i = true ↔ ∃ j ∈ l, effAt ms ops j = true ∧ first ms j i = true := by
  simp [hasPre]
theorem hasPre_rest (ms : List Nat) (ops : List Oper) (l : List Nat) (i : Nat) : hasPre ms ops (restOf ms ops l) i = hasPre ms ops l i := by
  rw [Bool.eq_iff_iff, hasPre_iff, hasPre_iff]
  constructor
  · rintro ⟨j, hj, h1, h2⟩
    exact ⟨j, (restOf_mem.1 hj).1, h1, h2⟩
  · rintro ⟨j, hj, h1, h2⟩
    exact ⟨j, restOf_mem.2 ⟨hj, .inl h1⟩, h1, h2⟩
theorem rest_rest (ms : List Nat) (ops : List Oper) (l : List Nat) : restOf ms ops (restOf ms ops l) = restOf ms ops l := by
  show (restOf ms ops l).filter (fun i => effAt ms ops i || hasPre ms ops (restOf ms ops l) i) = restOf ms ops l
  rw [List.filter_eq_self]
  intro i hi
  rw [hasPre_rest]
  simpa using (restOf_mem.1 hi).2
theorem calm_rest (ms : List Nat) (ops : List Oper) (l : List Nat) : calmOf ms ops (restOf ms ops l) = [] := by
  unfold calmOf
  rw [List.filter_eq_nil_iff]
  intro i hi
  rw [hasPre_rest]
  have := (restOf_mem.1 hi).2
  rcases this with h | h <;> simp [h]
theorem split_len (ms : List Nat) (ops : List Oper) (l : List Nat) : (calmOf ms ops l).length + (restOf ms ops l).length = l.length := by
  induction l with
  | nil => rfl
  | cons a l ih =>
    have key : ∀ (p q : Nat → Bool), (∀ i, q i = !p i) → ∀ l : List Nat, (l.filter p).length + (l.filter q).length = l.length := by
      intro p q hpq l
      induction l with
      | nil => rfl
      | cons a l ih =>
        simp only [List.filter_cons, hpq]
        cases p a <;> simp <;> omega
    exact key _ _ (fun i => by cases effAt ms ops i <;> cases hasPre ms ops (a :: l) i <;> rfl) _

theorem Left.expand {ops : List Oper} {fuel : Nat} {C l : List Nat} {listed : Array Bool} (hok : okDrawB ops = true) (h : Left ops fuel C l listed) :
    Left ops fuel (C ++ calmOf (masks ops) ops l) (restOf (masks ops) ops l) listed := by
  have hsub : ∀ i, i ∈ (C ++ calmOf (masks ops) ops l) ++ restOf (masks ops) ops l ↔ i ∈ C ++ l := by
    intro i
    simp only [List.mem_append, calmOf_mem, restOf_mem]
    constructor
    · rintro ((h | h) | h)
      · exact .inl h
      · exact .inr h.1
      · exact .inr h.1
    · rintro (h | h)
      · exact .inl (.inl h)
      · cases h1 : effAt (masks ops) ops i with
        | true => exact .inr ⟨h, .inl rfl⟩
        | false =>
          cases h2 : hasPre (masks ops) ops l i with
          | true => exact .inr ⟨h, .inr rfl⟩
          | false => exact .inl (.inr ⟨h, rfl, rfl⟩)
  have nd := List.nodup_append.1 h.nodup
  have od := List.pairwise_append.1 h.ord
  refine ⟨h.sz, fun i => (hsub i).trans (h.mem i), ?_, ?_, ?_, h.closed, ?_⟩
  · rw [List.append_assoc, List.nodup_append]
    refine ⟨nd.1, ?_, fun a ha b hb => ?_⟩
    · rw [List.nodup_append]
      refine ⟨nd.2.1.filter _, nd.2.1.filter _, fun a ha b hb e => ?_⟩
      subst e
      have h1 := calmOf_mem.1 ha
      have h2 := restOf_mem.1 hb
      rcases h2.2 with h2 | h2
      · rw [h1.2.1] at h2; cases h2
      · rw [h1.2.2] at h2; cases h2
    · refine nd.2.2 a ha b ?_
      rcases List.mem_append.1 hb with hb | hb
      · exact (calmOf_mem.1 hb).1
      · exact (restOf_mem.1 hb).1
  · intro i hi
    rcases List.mem_append.1 hi with hi | hi
    · exact h.calm i hi
    · exact (calmOf_mem.1 hi).2.1
  · rw [List.append_assoc, List.pairwise_append]
    refine ⟨od.1, ?_, fun a ha b hb => od.2.2 a ha b ?_⟩
    · rw [List.pairwise_append]
      refine ⟨od.2.1.sublist List.filter_sublist, od.2.1.sublist List.filter_sublist, fun a ha b hb => ?_⟩
      have h1 := calmOf_mem.1 ha
      have h2 := restOf_mem.1 hb
      cases hf : first (masks ops) b a with
      | false => rfl
      | true =>
        exfalso
        have hed : ∀ i o, ops[i]? = some o → edgesOk i o = true := fun i o hi => (okDrawB_spec hok hi).1
        have hal : a < ops.length := ((h.mem a).1 (List.mem_append_right _ h1.1)).1
        rcases h2.2 with h3 | h3
        · have : hasPre (masks ops) ops l a = true := hasPre_iff.2 ⟨b, h2.1, h3, hf⟩
          rw [h1.2.2] at this; cases this
        · obtain ⟨j, hj, hje, hjb⟩ := hasPre_iff.1 h3
          have : hasPre (masks ops) ops l a = true := hasPre_iff.2 ⟨j, hj, hje, first_trans hed hjb a _ (List.getElem?_eq_getElem hal) hf⟩
          rw [h1.2.2] at this; cases this
    · rcases List.mem_append.1 hb with hb | hb
      · exact (calmOf_mem.1 hb).1
      · exact (restOf_mem.1 hb).1
  · have h1 := h.len
    have h2 := split_len (masks ops) ops l
    simp only [List.length_append] at h1 ⊢
    omega

/-- behind one step -/
theorem Left.step {ops : List Oper} {fuel : Nat} {C l C' l' : List Nat} {listed : Array Bool} {i : Nat} {o : Oper} (h : Left ops (fuel + 1) C l listed) (ho : ops[i]? = some o)
    (hdeps : ∀ e ∈ o.after, Region.binds .any e = true → listed.getD e.on false = true)
    (hC : C'.Sublist C) (hl : l'.Sublist l) (hm : ∀ k, k ∈ C' ++ l' ↔ k ∈ C ++ l ∧ k ≠ i) (hlen : (C' ++ l').length < (C ++ l).length) : Left ops fuel C' l' (listed.setIfInBounds i true) := by
  have hsub := hC.append hl
  have hil : i < ops.length := (List.getElem?_eq_some_iff.1 ho).1
  refine ⟨by simp [h.sz], ?_, h.nodup.sublist hsub, fun k hk => h.calm k (hC.subset hk), h.ord.sublist hsub, ?_, ?_⟩
  · intro k
    rw [hm]
    have h1 := h.mem k
    by_cases hki : k = i
    · subst hki
      have hlt' : k < listed.size := by rw [h.sz]; exact hil
      simp [hlt']
    · have e1 : (listed.setIfInBounds i true).getD k false = listed.getD k false := getD_set_ne false (Ne.symm hki)
      rw [e1, ← h1]
      simp [hki]
  · intro k ok hk hkl e he hb
    by_cases hki : k = i
    · subst hki
      rw [ho] at hk; cases hk
      exact getD_set_true (hdeps e he hb)
    · rw [getD_set_ne false (Ne.symm hki)] at hkl
      exact getD_set_true (h.closed k ok hk hkl e he hb)
  · have := h.len
    omega

theorem any_of_tree {ops : List Oper} {S : World → World → Prop} (hrf : ∀ a, S a a) (htr : ∀ a b c, S a b → S b c → S a c) {K : KT} {Q : Exit → Act → World → Prop} (hok : okDrawB ops = true) (hn : opsOk n ops = true)
    (hK : ∀ s a w, Rel n s a → K s w → Q .normal a w) :
    ∀ (fuel : Nat) (C l : List Nat) (m : Nat) (listed : Array Bool) (s : St) (a : Act) (w : World), Left ops fuel C l listed → l.length < m → Rel n s a →
      seqX (fS P S (masks ops) ops) C (treeX (masks ops) ops (fT P S (masks ops) ops) m l K) s w → wpAnyIn (FR r) 0 P .any ops.toArray Q fuel listed a w := by
  have hready : ∀ (listed : Array Bool) (i : Nat), listed.size = ops.length → i ∈ Region.ready .any ops.toArray listed →
      (i < ops.length ∧ listed.getD i false = false) ∧ ∃ o, ops[i]? = some o ∧ ∀ e ∈ o.after, Region.binds .any e = true → listed.getD e.on false = true := by
    intro listed i hs hi
    obtain ⟨h1, o, ho, hall⟩ := mem_ready.1 hi
    have ho : ops[i]? = some o := by simpa using ho
    have hlt := (List.getElem?_eq_some_iff.1 ho).1
    have hlt' : i < listed.size := by omega
    refine ⟨⟨hlt, ?_⟩, o, ho, hall⟩
    simpa [hlt'] using h1
  have hdone : ∀ (C l : List Nat) (m : Nat) (s : St) (w : World), C ++ l = [] → l.length < m → seqX (fS P S (masks ops) ops) C (treeX (masks ops) ops (fT P S (masks ops) ops) m l K) s w → K s w := by
    intro C l m s w he hm h
    obtain ⟨rfl, rfl⟩ := List.append_eq_nil_iff.1 he
    obtain ⟨m, rfl⟩ : ∃ k, m = k + 1 := ⟨m - 1, by simp at hm; omega⟩
    exact h
  intro fuel
  induction fuel with
  | zero =>
    intro C l m listed s a w hL hm hr h
    have he : C ++ l = [] := List.eq_nil_of_length_eq_zero (by have := hL.len; omega)
    refine ⟨?_, hK _ _ _ hr (hdone C l m s w he hm h)⟩
    cases hrd : Region.ready .any ops.toArray listed with
    | nil => rfl
    | cons i rest =>
      have := (hready listed i hL.sz (by rw [hrd]; exact List.mem_cons_self ..)).1
      have := (hL.mem i).2 this
      rw [he] at this
      cases this
  | succ fuel ih =>
    intro C l m listed s a w hL hm hr h
    refine ⟨fun hnil => ?_, fun i hi => ?_⟩
    · refine hK _ _ _ hr (hdone C l m s w ?_ hm h)
      refine List.eq_nil_iff_forall_not_mem.2 (fun i hi => ?_)
      obtain ⟨i, hi, hmin⟩ := least (p := fun i => i ∈ C ++ l) i hi
      obtain ⟨hlt, hun⟩ := (hL.mem i).1 hi
      obtain ⟨o, ho⟩ : ∃ o, ops[i]? = some o := ⟨_, List.getElem?_eq_getElem hlt⟩
      have hedge := (okDrawB_spec hok ho).1
      have : i ∈ Region.ready .any ops.toArray listed := by
        refine mem_ready.2 ⟨?_, o, by simpa using ho, ?_⟩
        · have hlt' : i < listed.size := by rw [hL.sz]; exact hlt
          simpa [hlt'] using hun
        · intro e he hb
          simp only [edgesOk, List.all_eq_true] at hedge
          have h1 := hedge e (by simpa using he)
          rw [hb] at h1
          have h2 : e.on < i := by simpa using h1
          cases hx : listed.getD e.on false with
          | true => rfl
          | false =>
            have := hmin e.on ((hL.mem e.on).2 ⟨by omega, hx⟩)
            omega
      rw [hnil] at this
      cases this
    · obtain ⟨hun, o, ho, hdeps⟩ := hready listed i hL.sz hi
      have hdst : dstOk n o.dst = true := by
        simp only [opsOk, List.all_eq_true] at hn
        exact hn o (List.mem_of_getElem? ho)
      have hL2 := hL.expand hok
      obtain ⟨m, rfl⟩ : ∃ k, m = k + 1 := ⟨m - 1, by omega⟩
      have hlen2 := split_len (masks ops) ops l
      -- all that only yields is put ahead
      have h2 : seqX (fS P S (masks ops) ops) (C ++ calmOf (masks ops) ops l) (treeX (masks ops) ops (fT P S (masks ops) ops) (m + 1) (restOf (masks ops) ops l) K) s w := by
        rw [seqX_app]
        refine calm_monoS C hL.calm _ _ s w (fun s k => ?_) h
        unfold treeX at k ⊢
        rw [calm_rest, rest_rest]
        refine calm_conv hrf _ (fun i hi => (calmOf_mem.1 hi).2.1) _ _ s w (fun s k => ?_) k
        exact k
      obtain ⟨C2, hC2⟩ : ∃ C2, C2 = C ++ calmOf (masks ops) ops l := ⟨_, rfl⟩
      obtain ⟨l2, hl2⟩ : ∃ l2, l2 = restOf (masks ops) ops l := ⟨_, rfl⟩
      have hcr : calmOf (masks ops) ops l2 = [] := by rw [hl2]; exact calm_rest _ _ _
      have hrr : restOf (masks ops) ops l2 = l2 := by rw [hl2]; exact rest_rest _ _ _
      rw [← hC2, ← hl2] at h2 hL2
      rw [← hl2] at hlen2
      clear hC2 hl2 h hL
      have hmem := (hL2.mem i).2 hun
      have nofirst : ∀ j, j ∈ C2 ++ l2 → first (masks ops) j i = false := fun j hj => by
        cases hf : first (masks ops) j i with
        | false => rfl
        | true =>
          have := closed_first hL2.closed i o ho hdeps hf
          rw [((hL2.mem j).1 hj).2] at this; cases this
      have nd := List.nodup_append.1 hL2.nodup
      cases he : effAt (masks ops) ops i with
      | true =>
        have hil : i ∈ l2 := by
          rcases List.mem_append.1 hmem with h1 | h1
          · have := hL2.calm i h1; rw [he] at this; cases this
          · exact h1
        have hnp : hasPre (masks ops) ops l2 i = false := by
          cases hp : hasPre (masks ops) ops l2 i with
          | false => rfl
          | true =>
            obtain ⟨j, hj, _, hf⟩ := hasPre_iff.1 hp
            rw [nofirst j (List.mem_append_right _ hj)] at hf; cases hf
        have hce : (clsB (masks ops) ops i o).isEff = true := by
          unfold effAt at he
          rw [ho] at he; exact he
        have h3 : seqX (fS P S (masks ops) ops) C2 (fS P S (masks ops) ops i (treeX (masks ops) ops (fT P S (masks ops) ops) m (l2.filter fun j => !Nat.beq j i) K)) s w := by
          refine calm_monoS C2 hL2.calm _ _ s w (fun s k => ?_) h2
          unfold treeX at k
          rw [hcr, hrr] at k
          cases hl2 : l2 with
          | nil => rw [hl2] at hil; cases hil
          | cons i0 l' =>
            rw [hl2] at k
            have k2 := allX_mem _ _ _ k i (by
              unfold headsOf
              rw [List.mem_filter, ← hl2]
              exact ⟨hil, by rw [he, hnp]; rfl⟩)
            simp only [fT, fS, ho] at k2 ⊢
            exact stepRT_R hrf k2
        have h4 := pull htr ho C2 hL2.calm (fun j hj x hx => (okDrawB_spec hok ho).2 j x hx (fun e => nd.2.2 j hj i hil e.symm) (nofirst j (List.mem_append_left _ hj))
          ((List.pairwise_append.1 hL2.ord).2.2 j hj i hil) (fun _ => by
            have := hL2.calm j hj
            unfold effAt at this
            rw [hx] at this; exact this)) s w h3
        have h5 : stepR P S ops (clsB (masks ops) ops i o) o (seqX (fS P S (masks ops) ops) C2 (treeX (masks ops) ops (fT P S (masks ops) ops) m (l2.filter fun j => !Nat.beq j i) K)) s w := by
          simpa only [fS, ho] using h4
        refine step_wpIn ho hdst hr ?_ (stepR_W hrf h5)
        intro s' a' w' hr' h'
        have hbeq : ∀ a b : Nat, (!Nat.beq a b) = true ↔ a ≠ b := fun a b => by
          cases hb : Nat.beq a b with
          | true => simp [Nat.eq_of_beq_eq_true hb]
          | false => simp; intro e; subst e; simp at hb
        have hfl : (l2.filter fun j => !Nat.beq j i).length < l2.length := by
          rw [List.length_filter_lt_length_iff_exists]
          exact ⟨i, hil, by simp⟩
        refine ih C2 _ m _ s' a' w' (hL2.step ho hdeps (List.Sublist.refl _) List.filter_sublist (fun k => ?_) ?_) (by omega) hr' h'
        · simp only [List.mem_append, List.mem_filter, hbeq]
          constructor
          · rintro (h1 | h1)
            · exact ⟨.inl h1, fun e => nd.2.2 k h1 i hil e⟩
            · exact ⟨.inr h1.1, h1.2⟩
          · rintro ⟨h1 | h1, h2⟩
            · exact .inl h1
            · exact .inr ⟨h1, h2⟩
        · simp only [List.length_append]; omega
      | false =>
        have hic : i ∈ C2 := by
          rcases List.mem_append.1 hmem with h1 | h1
          · exact h1
          · exfalso
            rw [← hrr] at h1
            rcases (restOf_mem.1 h1).2 with h3 | h3
            · rw [he] at h3; cases h3
            · obtain ⟨j, hj, _, hf⟩ := hasPre_iff.1 h3
              rw [nofirst j (List.mem_append_right _ hj)] at hf; cases hf
        obtain ⟨pre, post, rfl⟩ := List.append_of_mem hic
        have hce : (clsB (masks ops) ops i o).isEff = false := by
          unfold effAt at he
          rw [ho] at he; exact he
        rw [seqX_app] at h2
        have oc := (List.pairwise_append.1 hL2.ord).1
        have nc := nd.1
        have hpn : ∀ j ∈ pre, j ≠ i := fun j hj e => by
          have := (List.nodup_append.1 nc).2.2 j hj i (List.mem_cons_self ..)
          exact this e
        have h4 := pull htr ho pre (fun j hj => hL2.calm j (by simp [hj])) (fun j hj x hx => (okDrawB_spec hok ho).2 j x hx (fun e => hpn j hj e.symm) (nofirst j (by simp [hj]))
          ((List.pairwise_append.1 oc).2.2 j hj i (List.mem_cons_self ..)) (fun e => by rw [hce] at e; cases e)) s w h2
        rw [← seqX_app] at h4
        have h5 : stepR P S ops (clsB (masks ops) ops i o) o (seqX (fS P S (masks ops) ops) (pre ++ post) (treeX (masks ops) ops (fT P S (masks ops) ops) (m + 1) l2 K)) s w := by
          simpa only [fS, ho] using h4
        refine step_wpIn ho hdst hr ?_ (stepR_W hrf h5)
        intro s' a' w' hr' h'
        refine ih (pre ++ post) l2 (m + 1) _ s' a' w' (hL2.step ho hdeps (List.Sublist.append_left (List.sublist_cons_self i post) pre) (List.Sublist.refl _) (fun k => ?_) ?_) (by omega) hr' h'
        · have hdisj := nd.2.2
          have hpo : i ∉ post := (List.nodup_cons.1 (List.nodup_append.1 nc).2.1).1
          simp only [List.mem_append, List.mem_cons] at hdisj ⊢
          constructor
          · rintro ((h1 | h1) | h1)
            · exact ⟨.inl (.inl h1), hpn k h1⟩
            · exact ⟨.inl (.inr (.inr h1)), fun e => hpo (e ▸ h1)⟩
            · exact ⟨.inr h1, fun e => hdisj i (.inr (.inl rfl)) i (e ▸ h1) rfl⟩
          · rintro ⟨(h1 | h1 | h1) | h1, h2⟩
            · exact .inl (.inl h1)
            · exact absurd h1 h2
            · exact .inl (.inr h1)
            · exact .inr h1
        · simp only [List.length_append, List.length_cons]; omega

theorem draw_wpIn {id : Nat} {ops : List Oper} {K : KT} {Q : Exit → Act → World → Prop} (hm : P.follows .mixedOrders = true) (hK : ∀ s a w, Rel n s a → K s w → Q .normal a w)
    (hok : okDraw ops = true) (hn : opsOk n ops = true) {s : St} {a : Act} {w : World} (hr : Rel n s a) (h : drawW P ops K s w) : (Code.region id ops.toArray true).wpIn (FR r) 0 P Q a w := by
  unfold drawW at h
  unfold okDraw at hok
  cases hp : parts ops with
  | false =>
    rw [hp] at h hok
    exact drawL_wpIn hm hK hok hn hr h
  | true =>
    rw [hp] at h hok
    obtain ⟨S, hrf, htr, h⟩ := h
    refine wpIn_region_any hm ?_
    refine any_of_tree (S := S) hrf htr hok hn hK _ [] (List.range ops.length) (ops.length + 1) _ s a _ ⟨by simp, ?_, ?_, ?_, ?_, ?_, ?_⟩ (by simp) hr h
    · intro i
      simp only [List.nil_append, List.mem_range, List.size_toArray]
      constructor
      · intro hi; exact ⟨hi, by simp [hi]⟩
      · exact fun h => h.1
    · simpa using List.nodup_range
    · intro i hi; cases hi
    · have hed : ∀ i o, ops[i]? = some o → edgesOk i o = true := fun i o hi => (okDrawB_spec hok hi).1
      rw [List.nil_append]
      refine List.Pairwise.imp_of_mem ?_ (List.pairwise_lt_range (n := ops.length))
      intro a b ha hb hab
      cases hf : first (masks ops) b a with
      | false => rfl
      | true =>
        have := first_lt hed (List.getElem?_eq_getElem (List.mem_range.1 ha)) hf
        omega
    · intro i o hi hl
      exfalso
      have := (List.getElem?_eq_some_iff.1 hi).1
      simp [this] at hl
    · simp
end Go.Sx
end

section
/- Code, loops, functions. -/
namespace Go.Sx
open Go

variable {P : Program} {n : Nat}

/-- A loop: so many rounds serve. -/
def itr {σ : Type} (Φ : (σ → World → Prop) → σ → World → Prop) : Nat → σ → World → Prop
  | 0, _, _ => False
  | k + 1, s, w => Φ (itr Φ k) s w

def Lp {σ : Type} (Φ : (σ → World → Prop) → σ → World → Prop) (s : σ) (w : World) : Prop := ∃ k, itr Φ k s w

theorem itr_map {σ τ : Type} {Φ : (σ → World → Prop) → σ → World → Prop} {Ψ : (τ → World → Prop) → τ → World → Prop} (π : σ → τ)
    (h : ∀ X s w, Φ (fun s w => X (π s) w) s w = Ψ X (π s) w) : ∀ k s w, itr Φ k s w = itr Ψ k (π s) w := by
  intro k
  induction k with
  | zero => intro s w; rfl
  | succ k ih =>
    intro s w
    have : itr Φ k = fun s w => itr Ψ k (π s) w := by funext s w; exact ih s w
    show Φ (itr Φ k) s w = Ψ (itr Ψ k) (π s) w
    rw [this, h]

theorem Lp_map {σ τ : Type} {Φ : (σ → World → Prop) → σ → World → Prop} {Ψ : (τ → World → Prop) → τ → World → Prop} (π : σ → τ)
    (h : ∀ X s w, Φ (fun s w => X (π s) w) s w = Ψ X (π s) w) : (fun s w => Lp Φ s w) = fun s w => Lp Ψ (π s) w := by
  funext s w
  unfold Lp
  simp only [itr_map π h]

/-- The rule of a loop: what holds at every round's head, and what falls. -/
theorem Lp_inv {σ : Type} {Φ : (σ → World → Prop) → σ → World → Prop} (hm : ∀ X Y : σ → World → Prop, (∀ s w, X s w → Y s w) → ∀ s w, Φ X s w → Φ Y s w)
    (I : σ → World → Prop) (μ : σ → World → Nat) {s : σ} {w : World} (h0 : I s w) (hr : ∀ s w, I s w → Φ (fun s' w' => I s' w' ∧ μ s' w' < μ s w) s w) : Lp Φ s w := by
  have key : ∀ k s w, I s w → μ s w < k → itr Φ k s w := by
    intro k
    induction k with
    | zero => intro s w _ h; exact absurd h (Nat.not_lt_zero _)
    | succ k ih =>
      intro s w hI hlt
      refine hm _ _ ?_ s w (hr s w hI)
      rintro s' w' ⟨hI', hlt'⟩
      exact ih s' w' hI' (by omega)
  exact ⟨_, key (μ s w + 1) s w h0 (Nat.lt_succ_self _)⟩

def thenP (next : St → World → Prop) (Q : Post) : Post := fun e s w =>
  match e with
  | .normal => next s w
  | e => Q e s w

def blockP (id : Nat) (Q : Post) : Post := fun e s w =>
  match e with
  | .exit i => bif Nat.beq i id then Q .normal s w else Q (.exit i) s w
  | e => Q e s w

/-- The record of a loop over a function, by its state and what is pending. -/
def LoopObj (lp : LoopState → Option Code → Obj) : Prop := ∃ rec : Loop, ∀ st j, lp st j = .loop { rec with state := st, pending := j }

/-- A range over a function: whatever its record is, the function is called with a 'yield' that runs the body. -/
def Rng (P : Program) (fv : Value) (np : Nat) (body : List Value → ((World → Prop) → World → Prop) → (Option Code → World → Prop) → World → Prop)
    (after : Option Code → List Deferred → World → Prop) (ds : List Deferred) (w : World) : Prop :=
  ∃ gf cap, fv = .func (.func gf) ⟨[]⟩ ⟨cap⟩ ∧ ∀ lp, LoopObj lp → ∀ y, y = .func (.yield (w.heap.size + 1)) #[] #[] →
    (∀ args K w', args.length = np → w'.heap[w.heap.size + 1]? = some (lp .ready none) →
      body args (fun k w'' => w''.heap[w.heap.size + 1]? = some (lp .ready none) ∧ k (w''.putObj (w.heap.size + 1) (lp .busy none)))
        (fun j w'' => w''.heap[w.heap.size + 1]? = some (lp .busy none) ∧ K (.bool j.isNone) (w''.putObj (w.heap.size + 1) (lp (bif j.isNone then .ready else .done) j))) w' →
      callV P y args K w') →
    callS P gf (y :: cap) (fun _ w₃ => ∃ st j, st ≠ .busy ∧ w₃.heap[w.heap.size + 1]? = some (lp st j) ∧
      after j ({ target := .collected w.heap.size, args := #[] } :: ds) (w₃.putObj (w.heap.size + 1) (lp .exhausted j)))
      ((w.alloc (.deferred (some []))).alloc (lp .ready none))

def updL (f : Fr) : List Tmp → List Value → Fr
  | [], _ => f
  | p :: ps, vs => updL (upd f p (vs.headD undef)) ps vs.tail

def rdPost (B : Option Code → World → Prop) : Post := fun e _ w =>
  match e with
  | .normal => B none w
  | .ret => B (some .ret) w
  | .exit id => B (some (.exit id)) w
  | _ => False

def begP (beg : (World → Prop) → World → Prop) (next : St → World → Prop) : Post := fun e s w =>
  match e with
  | .normal => beg (next s) w
  | _ => False

def jumpN (n r : List Deferred → World → Prop) (x : Nat → List Deferred → World → Prop) : Option Code → List Deferred → World → Prop := fun j ds w =>
  match j with
  | none => n ds w
  | some .ret => r ds w
  | some (.exit id) => x id ds w
  | _ => False

def jumpP (Q : Post) (f : Fr) : Option Code → List Deferred → World → Prop :=
  jumpN (fun ds w => Q .normal ⟨f, ds⟩ w) (fun ds w => Q .ret ⟨f, ds⟩ w) (fun id ds w => Q (.exit id) ⟨f, ds⟩ w)

def W (P : Program) : Code → Bool → Post → St → World → Prop
  | .skip, _, Q => Q .normal
  | .region _ ops draw, _, Q => bif draw then drawW P ops.toList (Q .normal) else opsW P ops.toList ops.toList (Q .normal)
  | .seq x y, rd, Q => W P x rd (thenP (W P y rd Q) Q)
  | .cond c x y, rd, Q => fun s w => cnd (s.ev c) (W P x rd Q s w) (W P y rd Q s w)
  | .block id c, rd, Q => W P c rd (blockP id Q)
  | .loop c, rd, Q => fun s w => Lp (fun X s w => W P c rd (thenP X Q) s w) s w
  | .rangeFunc g ps asg body, rd, Q => fun s w => bif rd then False else
      Rng P (s.ev g) ps.toList.length (fun args beg B => W P asg true (begP beg (W P body true (rdPost B))) ⟨updL s.f ps.toList args, []⟩) (jumpP Q s.f) s.ds w
  | .exit id, _, Q => Q (.exit id)
  | .ret, _, Q => Q .ret
  | _, _, _ => fun _ _ => False

def okC (n : Nat) : Code → Bool
  | .skip => true
  | .region _ ops draw => opsOk n ops.toList && (!draw || okDraw ops.toList)
  | .seq x y => okC n x && okC n y
  | .cond _ x y => okC n x && okC n y
  | .block _ c => okC n c
  | .loop c => okC n c
  | .rangeFunc _ ps asg body => okC n asg && okC n body && ps.toList.all fun p => Nat.blt p n
  | _ => true

theorem cnd_iff {v : Value} {A B : Prop} (h : cnd v A B) : ∃ t, v = .bool t ∧ (t = true → A) ∧ (t = false → B) := by
  unfold cnd at h
  split at h
  · rename_i b
    cases b
    · exact ⟨false, rfl, fun h => (by cases h), fun _ => h⟩
    · exact ⟨true, rfl, fun _ => h, fun h => (by cases h)⟩
  · exact h.elim

/-- The state of a frame. -/
def ofAct (a : Act) : St := ⟨fun t => a.tmps.getD t undef, a.defers⟩

theorem Rel.of {s : St} {a : Act} (h : Rel n s a) : s = ofAct a := by
  obtain ⟨f, ds⟩ := s
  have h1 : f = fun t => a.tmps.getD t undef := by funext t; exact (h.get t).symm
  have h2 : ds = a.defers := h.ds.symm
  rw [h1, h2]; rfl

theorem rel_ofAct (a : Act) : Rel a.tmps.size (ofAct a) a := ⟨rfl, fun _ => rfl, rfl⟩

theorem exists_min (p : Nat → Prop) (h : ∃ k, p k) : ∃ k, p k ∧ ∀ j, p j → k ≤ j := by
  obtain ⟨k, hk⟩ := h
  induction k using Nat.strongRecOn with
  | _ k ih =>
    by_cases hl : ∃ j, j < k ∧ p j
    · obtain ⟨j, hj, hp⟩ := hl; exact ih j hj hp
    · exact ⟨k, hk, fun j hj => Nat.not_lt.1 fun hlt => hl ⟨j, hlt, hj⟩⟩

theorem updL_rel : ∀ (ps : List Tmp) (vs : List Value) (f : Fr) (tmps : Array Value), vs.length = ps.length → tmps.size = n → (∀ t, tmps.getD t undef = f t) → (ps.all fun p => Nat.blt p n) = true →
    Rel n ⟨updL f ps vs, []⟩ { tmps := (ps.zip vs).foldl (fun t (x : Tmp × Value) => t.setIfInBounds x.1 x.2) tmps, defers := [] } := by
  intro ps
  induction ps with
  | nil => intro vs f tmps _ hs hf _; exact ⟨by simpa using hs, by simpa [updL] using hf, rfl⟩
  | cons p ps ih =>
    intro vs f tmps hlen hs hf hp
    cases vs with
    | nil => simp at hlen
    | cons v vs =>
      simp only [List.all_cons, Bool.and_eq_true] at hp
      simp only [List.zip_cons_cons, List.foldl_cons, updL, List.headD_cons, List.tail_cons]
      refine ih vs _ _ (by simpa using hlen) (by simpa using hs) ?_ hp.2
      have hr : Rel n ⟨f, []⟩ { tmps := tmps, defers := [] } := ⟨hs, hf, rfl⟩
      exact (hr.put (d := some p) (by simpa [dstOk] using hp.1) v).get

theorem range_sound {g : Operand} {ps : Array Tmp} {asg body : Code} {Q : Post} {Q' : Exit → Act → World → Prop}
    (iha : ∀ (l : Nat) (Q : Post) (Q' : Exit → Act → World → Prop), (∀ e s a w, Rel n s a → Q e s w → Q' e a w) → ∀ (s : St) (a : Act) (w : World), Rel n s a → W P asg true Q s w → asg.wpIn (FR (some l)) 0 P Q' a w)
    (ihb : ∀ (l : Nat) (Q : Post) (Q' : Exit → Act → World → Prop), (∀ e s a w, Rel n s a → Q e s w → Q' e a w) → ∀ (s : St) (a : Act) (w : World), Rel n s a → W P body true Q s w → body.wpIn (FR (some l)) 0 P Q' a w)
    (hp : (ps.toList.all fun p => Nat.blt p n) = true) (hQ : ∀ e s a w, Rel n s a → Q e s w → Q' e a w) {s : St} {a : Act} {w : World} (hr : Rel n s a)
    (h : W P (.rangeFunc g ps asg body) false Q s w) : (Code.rangeFunc g ps asg body).wpIn (FR none) 0 P Q' a w := by
  obtain ⟨gf, cap, hfv, h⟩ := h
  refine wpIn_rangeFunc ?_
  intro fn _
  obtain ⟨rec, hrec⟩ : ∃ rec : Loop, rec = { state := .ready, pending := none, fn, tmps := a.tmps, params := ps, assign := asg, body, defers := w.heap.size } := ⟨_, rfl⟩
  obtain ⟨lp, hlp⟩ : ∃ lp : LoopState → Option Code → Obj, lp = fun st j => .loop { rec with state := st, pending := j } := ⟨_, rfl⟩
  have hl : ∀ st j, lp st j = .loop { rec with state := st, pending := j } := fun st j => by rw [hlp]
  have h := h lp ⟨rec, hl⟩ _ rfl ?_
  · obtain ⟨henter, hcall⟩ := h
    have hev : a.eval g = .func (.func gf) #[] ⟨cap⟩ := by rw [hr.ev]; exact hfv
    refine ⟨w.heap.size + 1, [{ target := .collected w.heap.size, args := #[] }], (w.alloc (.deferred (some []))).alloc (lp .ready none), { target := .fn (.func gf) ⟨cap⟩, args := #[.func (.yield (w.heap.size + 1)) #[] #[]] },
      (w.alloc (.deferred (some []))).alloc (lp .ready none), gf, (.func (.yield (w.heap.size + 1)) #[] #[] :: cap).toArray, (w.alloc (.deferred (some []))).alloc (lp .ready none), ?_, ?_, fun _ _ => trivial, ?_, (fun x => by cases x), (callsIn_FR hcall).mono ?_⟩
    · rw [hl, hrec]; exact run_enterLoop_outer _ _ _ _ _
    · simp only [resolve, hev]
      simp [go_sem]
    · have e : #[Value.func (.yield (w.heap.size + 1)) #[] #[]] ++ (⟨cap⟩ : Array Value) = (Value.func (.yield (w.heap.size + 1)) #[] #[] :: cap).toArray := by simp
      simp only [invoke]
      rw [e]
      exact henter
    · intro e w3 k
      cases e <;> first | exact k.elim | skip
      obtain ⟨st, j, hst, h3, k⟩ := k
      rw [hl] at h3
      refine ⟨j, _, run_endLoop h3 hst, ?_⟩
      rw [hl] at k
      have hr' : Rel n ⟨s.f, { target := .collected w.heap.size, args := #[] } :: s.ds⟩ { a with defers := [{ target := .collected w.heap.size, args := #[] }] ++ a.defers } := ⟨hr.size, hr.get, by simp [hr.ds]⟩
      cases j with
      | none => exact hQ _ _ _ _ hr' k
      | some c =>
        cases c <;> first | exact k.elim | skip
        · exact wpIn_exit (hQ _ _ _ _ hr' k)
        · exact wpIn_ret (hQ _ _ _ _ hr' k)
  · intro args K w' hlen hw' k
    unfold callV
    split
    · rename_i heq; cases heq
    · rw [hl] at hw'
      have hy := run_yield (P := P) (args := args.toArray) hw' (by rw [hrec]; simpa using hlen)
      have e1 : (do let d ← Deferred.ofValue (.func (.yield (w.heap.size + 1)) #[] #[]) args.toArray; invoke d.target d.args : Sem Next) = Instr.yield (w.heap.size + 1) args.toArray := by
        simp [Deferred.ofValue, invoke]
      unfold exec
      rw [e1, hy]
      refine roundIn_of_wpIn (F := FR none) trivial ?_
      have hrel := updL_rel (n := n) ps.toList args s.f a.tmps hlen hr.size hr.get hp
      have e2 : ((ps.zip args.toArray).foldl (fun t (x : Tmp × Value) => t.setIfInBounds x.1 x.2) a.tmps) = (ps.toList.zip args).foldl (fun t (x : Tmp × Value) => t.setIfInBounds x.1 x.2) a.tmps := by
        rw [← Array.foldl_toList, Array.toList_zip]
      have e3 : ({ tmps := ((ps.zip args.toArray).foldl (fun t (x : Tmp × Value) => t.setIfInBounds x.1 x.2) a.tmps), defers := [] } : Act) = { tmps := (ps.toList.zip args).foldl (fun t (x : Tmp × Value) => t.setIfInBounds x.1 x.2) a.tmps, defers := [] } := by rw [e2]
      rw [← e3] at hrel
      have goal := iha (w.heap.size + 1) _ (Exit.then (fun a₁ w₁ => ∃ w₂, (Instr.beginRound (w.heap.size + 1)).run P w₁ = .ok () w₂ ∧ body.wpIn (FR (some (w.heap.size + 1))) 0 P (roundPost P (w.heap.size + 1) (RetK K)) a₁ w₂) (fun _ _ _ => False)) ?_ _ _ w' hrel k
      · have goal' : asg.wpIn ((FR none).inRound (w.heap.size + 1)) 0 P (Exit.then (fun a₁ w₁ => ∃ w₂, (Instr.beginRound (w.heap.size + 1)).run P w₁ = .ok () w₂ ∧ body.wpIn ((FR none).inRound (w.heap.size + 1)) 0 P (roundPost P (w.heap.size + 1) (RetK K)) a₁ w₂) (fun _ _ _ => False)) { tmps := ((ps.zip args.toArray).foldl (fun t (x : Tmp × Value) => t.setIfInBounds x.1 x.2) a.tmps), defers := [] } w' := goal
        simpa [hrec] using goal'
      · intro e s1 a1 w1 hr1 k1
        cases e <;> first | exact k1.elim | skip
        obtain ⟨h1, k1⟩ := k1
        have hb : (Instr.beginRound (w.heap.size + 1)).run P w1 = .ok () (w1.putObj (w.heap.size + 1) (lp .busy none)) := by
          rw [hl] at h1 ⊢; exact run_beginRound h1 rfl
        refine ⟨_, hb, ihb _ _ _ ?_ _ _ _ hr1 k1⟩
        intro e s2 a2 w2 hr2 k2
        have fin : ∀ j : Option Code, (w2.heap[w.heap.size + 1]? = some (lp .busy none) ∧ K (.bool j.isNone) (w2.putObj (w.heap.size + 1) (lp (bif j.isNone then .ready else .done) j))) →
            ∃ v w4, (Instr.endRound (w.heap.size + 1) j).run P w2 = .ok v w4 ∧ RetK K (.returned v) w4 := by
          intro j ⟨h2, k2⟩
          rw [hl] at h2 k2
          refine ⟨_, _, run_endRound j h2, ?_⟩
          cases j <;> exact k2
        cases e with
        | normal => exact fin none k2
        | ret => exact fin (some .ret) k2
        | exit id => exact fin (some (.exit id)) k2
        | goto l => exact k2.elim
        | panic c => exact k2.elim
        | outgrown => exact k2.elim

open Classical in
theorem W_sound (hm : P.follows .mixedOrders = true) : ∀ (c : Code), okC n c = true → ∀ (r : Option Nat) (Q : Post) (Q' : Exit → Act → World → Prop), (∀ e s a w, Rel n s a → Q e s w → Q' e a w) →
    ∀ (s : St) (a : Act) (w : World), Rel n s a → W P c r.isSome Q s w → c.wpIn (FR r) 0 P Q' a w := by
  intro c
  induction c with
  | skip => intro _ r Q Q' hQ s a w hr h; exact wpIn_skip (hQ _ _ _ _ hr h)
  | region id ops draw =>
    intro hok r Q Q' hQ s a w hr h
    simp only [okC, Bool.and_eq_true, Bool.or_eq_true, Bool.not_eq_true'] at hok
    have e : ops = ops.toList.toArray := by simp
    rw [e]
    cases draw with
    | true => exact draw_wpIn hm (fun s a w hr h => hQ _ _ _ _ hr h) (hok.2.resolve_left (by simp)) hok.1 hr h
    | false => exact region_wpIn (fun s a w hr h => hQ _ _ _ _ hr h) hok.1 hr h
  | seq x y ihx ihy =>
    intro hok r Q Q' hQ s a w hr h
    simp only [okC, Bool.and_eq_true] at hok
    refine wpIn_seq (ihx hok.1 r _ _ ?_ s a w hr h)
    intro e s a w hr h
    cases e <;> first | exact ihy hok.2 r _ _ hQ _ _ _ hr h | exact hQ _ _ _ _ hr h
  | cond c x y ihx ihy =>
    intro hok r Q Q' hQ s a w hr h
    simp only [okC, Bool.and_eq_true] at hok
    obtain ⟨t, ht, h1, h2⟩ := cnd_iff h
    rw [← hr.ev] at ht
    refine wpIn_cond ht ?_
    cases t
    · exact ihy hok.2 r _ _ hQ _ _ _ hr (h2 rfl)
    · exact ihx hok.1 r _ _ hQ _ _ _ hr (h1 rfl)
  | block id c ih =>
    intro hok r Q Q' hQ s a w hr h
    refine wpIn_block (ih hok r _ _ ?_ s a w hr h)
    intro e s a w hr h
    cases e <;> first | exact hQ _ _ _ _ hr h | skip
    rename_i i
    simp only [blockP] at h
    simp only [Exit.inBlock]
    by_cases hi : i = id
    · subst hi; simp only [Nat.beq_refl, cond_true] at h; rw [if_pos rfl]; exact hQ _ _ _ _ hr h
    · have : Nat.beq i id = false := by
        cases hb : Nat.beq i id with
        | false => rfl
        | true => exact absurd (Nat.eq_of_beq_eq_true hb) hi
      rw [this] at h
      rw [if_neg hi]
      exact hQ _ _ _ _ hr h
  | loop c ih =>
    intro hok r Q Q' hQ s a w hr h
    have hs := hr.of
    subst hs
    have hsz := hr.size
    let Φ : (St → World → Prop) → St → World → Prop := fun X s w => W P c r.isSome (thenP X Q) s w
    let μ : Act → World → Nat := fun a w => if h : ∃ k, itr Φ k (ofAct a) w then Classical.choose (exists_min _ h) else 0
    refine wpIn_loop (fun a w => a.tmps.size = n ∧ ∃ k, itr Φ k (ofAct a) w) μ ⟨hsz, h⟩ ?_
    rintro a w ⟨hsz, hk⟩
    have hmu : μ a w = Classical.choose (exists_min _ hk) := dif_pos hk
    have hspec := (Classical.choose_spec (exists_min _ hk)).1
    have hr : Rel n (ofAct a) a := hsz ▸ rel_ofAct a
    generalize hfk : Classical.choose (exists_min _ hk) = k at hspec hmu
    cases k with
    | zero => exact hspec.elim
    | succ k =>
      refine ih hok r _ _ ?_ _ a w hr hspec
      intro e s a' w' hr' h
      cases e <;> first | exact hQ _ _ _ _ hr' h | skip
      have hs := hr'.of
      subst hs
      have hk' : ∃ k, itr Φ k (ofAct a') w' := ⟨k, h⟩
      refine ⟨⟨hr'.size, hk'⟩, ?_⟩
      have h1 : μ a' w' = Classical.choose (exists_min _ hk') := dif_pos hk'
      have h2 := (Classical.choose_spec (exists_min _ hk')).2 _ h
      omega
  | rangeFunc g ps asg body iha ihb =>
    intro hok r Q Q' hQ s a w hr h
    cases r with
    | some l => exact h.elim
    | none =>
      simp only [okC, Bool.and_eq_true] at hok
      exact range_sound (iha := fun l Q Q' hQ s a w hr h => iha hok.1.1 (some l) Q Q' hQ s a w hr h) (ihb := fun l Q Q' hQ s a w hr h => ihb hok.1.2 (some l) Q Q' hQ s a w hr h) hok.2 hQ hr h
  | exit id => intro _ r Q Q' hQ s a w hr h; exact wpIn_exit (hQ _ _ _ _ hr h)
  | ret => intro _ r Q Q' hQ s a w hr h; exact wpIn_ret (hQ _ _ _ _ hr h)
  | _ => intro _ r Q Q' hQ s a w hr h; exact h.elim

end Go.Sx
end

section
/- Functions: from a body to a call; deferred calls; results. -/
namespace Go.Sx
open Go

variable {P : Program} {n : Nat}

def loadS (t : TypeId) (x : Value) : Sem Value := do loadVar t (← asAddr x)

/-- The results, read one by one. -/
def resL (P : Program) (f : Fr) : List ResultVar → List Value → (List Value → World → Prop) → World → Prop
  | [], acc, K => K acc
  | .tmp t :: rs, acc, K => resL P f rs (acc ++ [f t]) K
  | .cell a t :: rs, acc, K => fun w => rn P (fun w' => w' = w) (loadS t (f a)) (fun v w => resL P f rs (acc ++ [v]) K w) w

def tup : List Value → Value
  | [v] => v
  | vs => .tuple vs.toArray

def resW (P : Program) (rs : List ResultVar) (f : Fr) (K : Value → World → Prop) (w : World) : Prop := resL P f rs [] (fun vs => K (tup vs)) w

def resS (tmps : Array Value) : ResultVar → Sem Value
  | .tmp t => pure (tmps.getD t undef)
  | .cell a t => loadS t (tmps.getD a undef)

theorem results_eq (fn : Func) (tmps : Array Value) : results fn tmps = (do
    let vs ← fn.results.mapM (resS tmps)
    pure (if h : vs.size = 1 then vs[0] else .tuple vs)) := by
  unfold results
  congr 1

theorem mapM_loop {tmps : Array Value} {f : Fr} (hf : ∀ t, tmps.getD t undef = f t) {K : List Value → World → Prop} : ∀ (rs : List ResultVar) (acc : List Value) (w : World), resL P f rs acc K w →
    ∃ vs, (List.mapM.loop (resS tmps) rs acc.reverse).run P w = .ok vs w ∧ K vs w := by
  intro rs
  induction rs with
  | nil => intro acc w h; exact ⟨acc, by simp [List.mapM.loop], h⟩
  | cons x rs ih =>
    intro acc w h
    have step : ∀ v, (resS tmps x).run P w = .ok v w → resL P f rs (acc ++ [v]) K w → ∃ vs, (List.mapM.loop (resS tmps) (x :: rs) acc.reverse).run P w = .ok vs w ∧ K vs w := by
      intro v hv h
      obtain ⟨vs, h1, h2⟩ := ih (acc ++ [v]) w h
      refine ⟨vs, ?_, h2⟩
      simp only [List.mapM.loop]
      show ((resS tmps x).bind _).run P w = _
      have hb := Sem.run_bind P w (resS tmps x) (fun b => List.mapM.loop (resS tmps) rs (b :: acc.reverse))
      rw [hv] at hb
      refine Eq.trans hb ?_
      simpa using h1
    cases x with
    | tmp t => exact step _ (by simp [resS, hf]) h
    | cell a t =>
      obtain ⟨v, hv, k⟩ := h
      exact step v (by rw [resS, hf]; exact hv w rfl) k

theorem res_run {fn : Func} {tmps : Array Value} {f : Fr} (hf : ∀ t, tmps.getD t undef = f t) {K : Value → World → Prop} {w : World} (h : resW P fn.results.toList f K w) :
    ∃ v, (results fn tmps).run P w = .ok v w ∧ K v w := by
  obtain ⟨vs, h1, h2⟩ := mapM_loop hf fn.results.toList [] w h
  refine ⟨_, ?_, h2⟩
  rw [results_eq]
  have h3 : (fn.results.mapM (resS tmps)).run P w = .ok vs.toArray w := by
    have e : fn.results = fn.results.toList.toArray := by simp
    rw [e, List.mapM_toArray]
    show (Sem.bind (List.mapM (resS tmps) fn.results.toList) _).run P w = _
    have hb := Sem.run_bind P w (List.mapM (resS tmps) fn.results.toList) (fun l => (pure l.toArray : Sem (Array Value)))
    have h1' : (List.mapM (resS tmps) fn.results.toList).run P w = .ok vs w := h1
    rw [h1'] at hb
    exact hb
  show (Sem.bind (fn.results.mapM (resS tmps)) _).run P w = _
  have hb := Sem.run_bind P w (fn.results.mapM (resS tmps)) (fun vs => (pure (if h : vs.size = 1 then vs[0] else .tuple vs) : Sem Value))
  rw [h3] at hb
  refine Eq.trans hb ?_
  match vs with
  | [] => rfl
  | [v] => rfl
  | a :: b :: l => simp [tup, Result.andThen, pure]

/-- A deferred call of function f. -/
def callD (P : Program) (f : FuncId) (args : List Value) (K : World → Prop) (w : World) : Prop :=
  (callFunc f args.toArray).run P w = .ok (.enter f args.toArray) w ∧ CallsDIn (FR none) 0 P f args.toArray .returning w (fun e u w' => match e with | .returned _ => u = .returning ∧ K w' | _ => False)

/-- A function leaves: what was deferred is done. -/
def leaveW (P : Program) : List Deferred → (World → Prop) → World → Prop
  | [], K => K
  | d :: ds, K => fun w =>
    match d.target with
    | .collected b => w.heap[b]? = some (.deferred (some [])) ∧ leaveW P ds K (w.putObj b (.deferred none))
    | .fn (.func f) ⟨cap⟩ => callD P f (d.args.toList ++ cap) (leaveW P ds K) w
    | _ => False

/-- What a function's body must come to. -/
def retQ (P : Program) (rs : List ResultVar) (K : Value → World → Prop) : Post := fun e s w =>
  match e with
  | .normal => leaveW P s.ds (resW P rs s.f K) w
  | .ret => leaveW P s.ds (resW P rs s.f K) w
  | _ => False

theorem leave_sound {fn : Func} {tmps : Array Value} {f : Fr} (hf : ∀ t, tmps.getD t undef = f t) {K : Value → World → Prop} : ∀ (ds : List Deferred) (w : World), leaveW P ds (resW P fn.results.toList f K) w →
    LeavesInM (FR none) 0 P fn tmps (RetK K) ds .returning w := by
  intro ds
  induction ds with
  | nil => intro w h; exact res_run hf h
  | cons d ds ih =>
    intro w h
    obtain ⟨target, args⟩ := d
    refine ⟨by simp, ?_⟩
    unfold leaveW at h
    cases target with
    | collected b => exact .inl ⟨b, _, rfl, run_takeDeferred h.1, ih _ h.2⟩
    | fn fv cap =>
      cases fv <;> simp only at h <;> try exact h.elim
      rename_i g
      right
      obtain ⟨h1, h2⟩ := h
      refine ⟨(fun x => by cases x), .func g, cap, g, _, rfl, ?_, fun _ _ => trivial, h2.mono ?_⟩
      · have e : (args.toList ++ cap.toList).toArray = args ++ cap := by simp
        rw [e] at h1 ⊢
        exact h1
      · intro e u w' k
        cases e <;> simp only at k <;> try exact k.elim
        obtain ⟨rfl, k⟩ := k
        exact ih w' k
    | _ => simp only at h

def argFr (args : List Value) : Fr := fun t => args.getD t undef

theorem rel_args {args : List Value} {m : Nat} (h : args.length ≤ m) : Rel m ⟨argFr args, []⟩ { tmps := args.toArray ++ Array.replicate (m - args.length) undef, defers := [] } := by
  refine ⟨by simp; omega, fun t => ?_, rfl⟩
  simp only [argFr]
  rw [Array.getD_eq_getD_getElem?, Array.getElem?_append]
  by_cases ht : t < args.length
  · simp [ht, List.getD]
  · simp only [List.size_toArray, ht, if_false]
    rw [Array.getElem?_replicate]
    have : args.getD t undef = undef := by simp [List.getD, List.getElem?_eq_none (Nat.le_of_not_lt ht)]
    rw [this]
    split <;> rfl

/-- What a walk of a function asks of the program's tables. -/
structure FnOk (P : Program) (f : FuncId) (fn : Func) (c : Code) (k : Nat) : Prop where
  at_ : P.funcs[f]? = some fn
  name : (fn.name == "runtime.NumGoroutine") = false
  body : fn.body = some c
  mixed : P.follows .mixedOrders = true
  ok : okC fn.ntmps c = true
  args : Nat.ble k fn.ntmps = true

theorem call_of_W {f : FuncId} {fn : Func} {c : Code} {args : List Value} {K : Value → World → Prop} {w : World} (hf : FnOk P f fn c args.length)
    (h : W P c false (retQ P fn.results.toList K) ⟨argFr args, []⟩ w) : callS P f args K w := by
  have hle : args.length ≤ fn.ntmps := by simpa using hf.args
  refine ⟨Go.Proofs.enters_of hf.at_ hf.name hf.body _ _, ?_⟩
  have key : CallsIn (FR none) 0 P f args.toArray w (RetK K) := by
    refine callsIn_of_wp_marks hf.at_ hf.body trivial ?_ rfl
    have hr := rel_args (args := args) hle
    simp only [List.size_toArray]
    refine W_sound hf.mixed c hf.ok none _ _ ?_ _ _ _ hr h
    intro e s a w hr h
    cases e <;> simp only [retQ] at h <;> first
      | exact h.elim
      | (simp only [bodyPostM]; rw [hr.ds]; exact leave_sound hr.get _ _ h)
  exact callsIn_wide.1 (key : CallsIn Fence.wide 0 P f args.toArray w (RetK K))

end Go.Sx
end

section
/- Regions by groups of one guard; the equations by which a printed proposition is a walk. -/
namespace Go.Sx
open Go

variable {P : Program} {rd : Bool}

abbrev Op1 := Nat → Oper → (Value → World → Prop) → St → World → Prop

def gstep (ops : List Oper) (g : Option (Nat × Bool)) (s : St) (A B : Prop) : Prop :=
  match g with
  | none => A
  | some (j, want) => gcond (gval ops s j) want A B

def opsBy (op1 : Op1) (ops : List Oper) : List Oper → Nat → (St → World → Prop) → St → World → Prop
  | [], _, K, s, w => K s w
  | o :: rest, i, K, s, w => gstep ops o.guard s (op1 i o (fun v w => opsBy op1 ops rest (i + 1) K (s.put o.dst v) w) s w) (opsBy op1 ops rest (i + 1) K (s.put o.dst undef) w)

def op1W (P : Program) : Op1 := fun _ o K s w => opW P o.op o.type s.ev K w
def op1T (P : Program) (S : World → Prop) (ms : List Nat) (ops : List Oper) : Op1 := fun i o K s w => opT P S (cls ms ops i o) o.op o.type s.ev K w

theorem opsW_by (ops : List Oper) (K : St → World → Prop) : ∀ (l : List Oper) (i : Nat), opsW P ops l K = opsBy (op1W P) ops l i K := by
  intro l
  induction l with
  | nil => intro i; rfl
  | cons o l ih =>
    intro i
    funext s w
    simp only [opsW, opsBy, stepW, ih (i + 1)]
    cases o.guard <;> rfl

theorem opsT_by (S : World → Prop) (ms : List Nat) (ops : List Oper) (K : St → World → Prop) : ∀ (l : List Oper) (i : Nat), opsT P S ops ms l i K = opsBy (op1T P S ms ops) ops l i K := by
  intro l
  induction l with
  | nil => intro i; rfl
  | cons o l ih =>
    intro i
    funext s w
    simp only [opsT, opsBy, stepT, ih (i + 1)]
    cases o.guard <;> rfl

def plain (op1 : Op1) : List Oper → Nat → (St → World → Prop) → St → World → Prop
  | [], _, K, s, w => K s w
  | o :: rest, i, K, s, w => op1 i o (fun v w => plain op1 rest (i + 1) K (s.put o.dst v) w) s w

def undefs : List Oper → St → St
  | [], s => s
  | o :: l, s => undefs l (s.put o.dst undef)

def eqGuard' (a b : Option (Nat × Bool)) : Bool :=
  match a, b with
  | none, none => true
  | some (i, x), some (j, y) => Nat.beq i j && (x == y)
  | _, _ => false

def groups : List Oper → List (Option (Nat × Bool) × List Oper)
  | [] => []
  | o :: l =>
    match groups l with
    | (g, os) :: rest => bif eqGuard' o.guard g then (g, o :: os) :: rest else (o.guard, [o]) :: (g, os) :: rest
    | [] => [(o.guard, [o])]

def opsG (op1 : Op1) (ops : List Oper) : List (Option (Nat × Bool) × List Oper) → Nat → (St → World → Prop) → St → World → Prop
  | [], _, K => K
  | (none, g) :: rest, i, K => plain op1 g i (opsG op1 ops rest (i + g.length) K)
  | (some (j, want), g) :: rest, i, K => fun s w => gcond (gval ops s j) want (plain op1 g i (opsG op1 ops rest (i + g.length) K) s w) (opsG op1 ops rest (i + g.length) K (undefs g s) w)

/-- A group leaves its guard alone. -/
def grpOk (ops : List Oper) (gs : List (Option (Nat × Bool) × List Oper)) : Bool := gs.all fun (g, os) =>
  match g with
  | none => true
  | some (j, _) => match (ops[j]?).bind (·.dst) with
    | some d => os.all fun o => match o.dst with
      | some d' => !Nat.beq d' d
      | none => true
    | none => true

theorem eqGuard'_eq {a b : Option (Nat × Bool)} (h : eqGuard' a b = true) : a = b := by
  unfold eqGuard' at h
  split at h
  · rfl
  · simp only [Bool.and_eq_true, beq_iff_eq] at h
    rw [Nat.eq_of_beq_eq_true h.1, h.2]
  · cases h

theorem gcond_gcond {v : Value} {want : Bool} {A B C : Prop} (hA : ∀ b, v = .bool b → (b == want) = true → A = B) : gcond v want A C = gcond v want B C := by
  unfold gcond
  split
  · rename_i b
    cases h : (b == want)
    · rfl
    · simp only [cond_true]; exact hA b rfl h
  · rfl

theorem gval_put {ops : List Oper} {j : Nat} {o : Oper} {s : St} {v : Value}
    (h : ∀ d d', (ops[j]?).bind (·.dst) = some d → o.dst = some d' → d' ≠ d) : gval ops (s.put o.dst v) j = gval ops s j := by
  unfold gval
  cases hj : ops[j]? with
  | none => rfl
  | some oj =>
    simp only []
    cases hd : oj.dst with
    | none => rfl
    | some d =>
      simp only []
      cases ho : o.dst with
      | none => rfl
      | some d' => exact upd_ne (Ne.symm (h d d' (by simp [hj, hd]) ho))

theorem opsBy_G (op1 : Op1) (hop : ∀ i o K K' s w, (∀ v w, K v w = K' v w) → op1 i o K s w = op1 i o K' s w) (ops : List Oper) (K : St → World → Prop) :
    ∀ (l : List Oper) (i : Nat), grpOk ops (groups l) = true → opsBy op1 ops l i K = opsG op1 ops (groups l) i K := by
  intro l
  induction l with
  | nil => intro i _; rfl
  | cons o l ih =>
    intro i hok
    simp only [groups] at hok ⊢
    cases hg : groups l with
    | nil =>
      rw [hg] at hok ih
      have ih := ih (i + 1) (by simp [grpOk])
      funext s w
      simp only [opsBy, ih]
      cases hgo : o.guard with
      | none => simp only [gstep, opsG, plain]
      | some g => obtain ⟨j, want⟩ := g; simp only [gstep, opsG, plain, undefs]
    | cons gos rest =>
      obtain ⟨g, os⟩ := gos
      rw [hg] at hok ih
      simp only at hok ⊢
      cases he : eqGuard' o.guard g with
      | false =>
        rw [he] at hok
        simp only [cond_false] at hok ⊢
        have ih := ih (i + 1) (by simp only [grpOk, List.all_cons, Bool.and_eq_true] at hok ⊢; exact hok.2)
        funext s w
        simp only [opsBy, ih]
        cases hgo : o.guard with
        | none => simp only [gstep, opsG, plain, List.length_cons, List.length_nil]
        | some gg => obtain ⟨j, want⟩ := gg; simp only [gstep, opsG, plain, undefs, List.length_cons, List.length_nil]
      | true =>
        rw [he] at hok
        simp only [cond_true] at hok ⊢
        have hgo := eqGuard'_eq he
        have hok' : grpOk ops ((g, os) :: rest) = true := by
          simp only [grpOk, List.all_cons, Bool.and_eq_true] at hok ⊢
          refine ⟨?_, hok.2⟩
          have h1 := hok.1
          cases g with
          | none => rfl
          | some gg =>
            obtain ⟨j, want⟩ := gg
            simp only at h1 ⊢
            cases hb : (ops[j]?).bind (·.dst) with
            | none => rfl
            | some d => rw [hb] at h1; simp only [Bool.and_eq_true] at h1 ⊢; exact h1.2
        have ih := ih (i + 1) hok'
        funext s w
        simp only [opsBy, ih, hgo]
        have hlen : i + (os.length + 1) = i + 1 + os.length := by omega
        cases hg2 : g with
        | none => subst hg2; simp only [gstep, opsG, plain, List.length_cons, hlen]
        | some gg =>
          obtain ⟨j, want⟩ := gg
          subst hg2
          simp only [gstep, opsG, plain, undefs, List.length_cons, hlen]
          have hput : ∀ v, gval ops (s.put o.dst v) j = gval ops s j := fun v => gval_put (by
            intro d d' hd hd' e
            simp only [grpOk, List.all_cons, Bool.and_eq_true] at hok
            have h1 := hok.1
            rw [hd] at h1
            simp only [Bool.and_eq_true, hd'] at h1
            rw [e] at h1
            simp at h1)
          rw [hput]
          have hB : ∀ v, gcond (gval ops s j) want (plain op1 os (i + 1) (opsG op1 ops rest (i + 1 + os.length) K) (s.put o.dst v) w) (opsG op1 ops rest (i + 1 + os.length) K (undefs os (s.put o.dst v)) w) =
              gcond (gval ops (s.put o.dst v) j) want (plain op1 os (i + 1) (opsG op1 ops rest (i + 1 + os.length) K) (s.put o.dst v) w) (opsG op1 ops rest (i + 1 + os.length) K (undefs os (s.put o.dst v)) w) := fun v => by rw [hput]
          generalize gval ops s j = gv at *
          unfold gcond
          cases gv with
          | bool b =>
            simp only []
            cases hb : (b == want)
            · simp only [cond_false]
            · simp only [cond_true]
              refine hop _ _ _ _ _ _ ?_
              intro v w
              simp only [hput, cond_true, hb]
          | _ => simp only []

theorem op1W_ext (i : Nat) (o : Oper) (K K' : Value → World → Prop) (s : St) (w : World) (h : ∀ v w, K v w = K' v w) : op1W P i o K s w = op1W P i o K' s w := by
  have : K = K' := by funext v w; exact h v w
  rw [this]
theorem op1T_ext (S : World → Prop) (ms : List Nat) (ops : List Oper) (i : Nat) (o : Oper) (K K' : Value → World → Prop) (s : St) (w : World) (h : ∀ v w, K v w = K' v w) : op1T P S ms ops i o K s w = op1T P S ms ops i o K' s w := by
  have : K = K' := by funext v w; exact h v w
  rw [this]

/-! ### The equations -/
variable {Q : Post}

theorem eqSeq {x y : Code} {G : St → World → Prop} (e : W P y rd Q = G) : W P (.seq x y) rd Q = W P x rd (thenP G Q) := congrArg (fun k => W P x rd (thenP k Q)) e
theorem eqSeqL {x y : Code} {G : St → World → Prop} (e : W P x rd (thenP (W P y rd Q) Q) = G) : W P (.seq x y) rd Q = G := e
theorem eqCond {c : Operand} {x y : Code} {A B : St → World → Prop} (ea : W P x rd Q = A) (eb : W P y rd Q = B) : W P (.cond c x y) rd Q = fun s w => cnd (s.ev c) (A s w) (B s w) := by
  subst ea; subst eb; rfl
theorem eqBlock {id : Nat} {c : Code} {G : St → World → Prop} (e : W P c rd (blockP id Q) = G) : W P (.block id c) rd Q = G := e
theorem eqLoop {c : Code} {τ : Type} {Ψ : (τ → World → Prop) → τ → World → Prop} (π : St → τ) (h : ∀ X, W P c rd (thenP (fun s w => X (π s) w) Q) = fun s w => Ψ X (π s) w) :
    W P (.loop c) rd Q = fun s w => Lp Ψ (π s) w :=
  Lp_map π (fun X s w => congrFun (congrFun (h X) s) w)
theorem eqRng {g : Operand} {ps : Array Tmp} {asg body : Code} {G : ((World → Prop) → World → Prop) → (Option Code → World → Prop) → St → World → Prop} (e : ∀ beg B, W P asg true (begP beg (W P body true (rdPost B))) = G beg B) :
    W P (.rangeFunc g ps asg body) false Q = fun s w => Rng P (s.ev g) ps.toList.length (fun args beg B => G beg B ⟨updL s.f ps.toList args, []⟩) (jumpP Q s.f) s.ds w := by
  have : G = fun beg B => W P asg true (begP beg (W P body true (rdPost B))) := by funext beg B; exact (e beg B).symm
  subst this; rfl
theorem eqBeg {asg body : Code} {beg : (World → Prop) → World → Prop} {B : Option Code → World → Prop} {G : St → World → Prop} (e : W P body true (rdPost B) = G) :
    W P asg true (begP beg (W P body true (rdPost B))) = W P asg true (begP beg G) := by rw [e]
theorem eqPlain {op1 : Op1} {ops g : List Oper} {rest : List (Option (Nat × Bool) × List Oper)} {i : Nat} {K G : St → World → Prop} (e : opsG op1 ops rest (i + g.length) K = G) :
    opsG op1 ops ((none, g) :: rest) i K = plain op1 g i G := congrArg (plain op1 g i) e
theorem eqGrd {op1 : Op1} {ops g : List Oper} {rest : List (Option (Nat × Bool) × List Oper)} {i j : Nat} {want : Bool} {K G : St → World → Prop} (e : opsG op1 ops rest (i + g.length) K = G) :
    opsG op1 ops ((some (j, want), g) :: rest) i K = fun s w => gcond (gval ops s j) want (plain op1 g i G s w) (G (undefs g s) w) := by
  subst e; rfl
theorem eqReg {id : Nat} {ops : Array Oper} {G : St → World → Prop} (ok : grpOk ops.toList (groups ops.toList) = true) (e : opsG (op1W P) ops.toList (groups ops.toList) 0 (Q .normal) = G) :
    W P (.region id ops false) rd Q = G := by
  rw [← e, ← opsBy_G (op1W P) op1W_ext ops.toList _ ops.toList 0 ok, ← opsW_by]; rfl
theorem eqDraw0 {id : Nat} {ops : Array Oper} {G : St → World → Prop} (hp : parts ops.toList = false) (hf : anyFloat (masks ops.toList) ops.toList = false) (ok : grpOk ops.toList (groups ops.toList) = true)
    (e : opsG (op1T P (fun _ => True) (masks ops.toList) ops.toList) ops.toList (groups ops.toList) 0 (Q .normal) = G) : W P (.region id ops true) rd Q = fun s w => G s w.drew := by
  rw [← e, ← opsBy_G _ (op1T_ext _ _ _) ops.toList _ ops.toList 0 ok, ← opsT_by]
  funext s w
  simp only [W, cond_true, drawW, hp, drawL, hf, cond_false]
theorem eqDrawS {id : Nat} {ops : Array Oper} {G : (World → Prop) → St → World → Prop} (hp : parts ops.toList = false) (hf : anyFloat (masks ops.toList) ops.toList = true) (ok : grpOk ops.toList (groups ops.toList) = true)
    (e : ∀ S, opsG (op1T P S (masks ops.toList) ops.toList) ops.toList (groups ops.toList) 0 (Q .normal) = G S) : W P (.region id ops true) rd Q = fun s w => ∃ S : World → Prop, S w.drew ∧ G S s w.drew := by
  funext s w
  simp only [W, cond_true, drawW, hp, drawL, hf, cond_false]
  simp only [← e, ← opsBy_G _ (op1T_ext _ _ _) ops.toList _ ops.toList 0 ok, ← opsT_by]

/-! ### More may hold behind -/
theorem stepW_mono {ops : List Oper} {o : Oper} {K K' : St → World → Prop} (h : ∀ s w, K s w → K' s w) {s : St} {w : World} (k : stepW P ops o K s w) : stepW P ops o K' s w := by
  rw [stepW_eq] at *; exact stepV_mono (fun _ _ => h _ _) k
theorem opsW_mono {ops : List Oper} {K K' : St → World → Prop} (h : ∀ s w, K s w → K' s w) : ∀ (l : List Oper) (s : St) (w : World), opsW P ops l K s w → opsW P ops l K' s w := by
  intro l
  induction l with
  | nil => exact h
  | cons o l ih => intro s w k; exact stepW_mono ih k
theorem rn_mono {M : World → Prop} {s : Sem Value} {K K' : Value → World → Prop} (h : ∀ v w, K v w → K' v w) {w : World} (k : rn P M s K w) : rn P M s K' w := by
  obtain ⟨v, hv, k⟩ := k; exact ⟨v, hv, h _ _ k⟩
theorem opM_mono {M : World → Prop} {o : Op} {ty : TypeId} {ρ : Operand → Value} {K K' : Value → World → Prop} (h : ∀ v w, K v w → K' v w) {w : World} (k : opM P M o ty ρ K w) : opM P M o ty ρ K' w := by
  have hr : rno P M (semOf o ty ρ) K w → rno P M (semOf o ty ρ) K' w := fun k => by
    cases hs : semOf o ty ρ with
    | none => rw [hs] at k; exact k.elim
    | some s => rw [hs] at k; exact rn_mono h k
  cases o <;> simp only [opM] at k ⊢ <;> first
    | exact hr k
    | exact h _ _ k
    | exact pickV_mono h k
theorem opT_mono {S : World → Prop} {c : Cl} {o : Op} {ty : TypeId} {ρ : Operand → Value} {K K' : Value → World → Prop} (h : ∀ v w, K v w → K' v w) {w : World} (k : opT P S c o ty ρ K w) : opT P S c o ty ρ K' w := by
  cases c
  · exact opM_mono h k
  · exact opM_mono h k
  · exact opM_mono h k
  · simp only [opT] at k ⊢
    exact opW_mono (fun v w ⟨a, b⟩ => ⟨a, h _ _ b⟩) k
  · exact opW_mono h k
theorem opsT_mono {S : World → Prop} {ops : List Oper} {ms : List Nat} {K K' : St → World → Prop} (h : ∀ s w, K s w → K' s w) : ∀ (l : List Oper) (i : Nat) (s : St) (w : World), opsT P S ops ms l i K s w → opsT P S ops ms l i K' s w := by
  intro l
  induction l with
  | nil => intro _; exact h
  | cons o l ih =>
    intro i s w k
    simp only [opsT, stepT] at k ⊢
    cases hg : o.guard with
    | none => rw [hg] at k; exact opT_mono (fun _ _ => ih _ _ _) k
    | some g => obtain ⟨j, want⟩ := g; rw [hg] at k; exact gcond_mono (opT_mono (fun _ _ => ih _ _ _)) (ih _ _ _) k
theorem drawL_mono {ops : List Oper} {K K' : St → World → Prop} (h : ∀ s w, K s w → K' s w) (s : St) (w : World) (k : drawL P ops K s w) : drawL P ops K' s w := by
  unfold drawL at *
  cases hf : anyFloat (masks ops) ops with
  | true => rw [hf] at k; obtain ⟨S, hS, k⟩ := k; exact ⟨S, hS, opsT_mono h _ _ _ _ k⟩
  | false => rw [hf] at k; exact opsT_mono h _ _ _ _ k
theorem drawW_mono {ops : List Oper} {K K' : St → World → Prop} (h : ∀ s w, K s w → K' s w) (s : St) (w : World) (k : drawW P ops K s w) : drawW P ops K' s w := by
  unfold drawW at *
  cases hp : parts ops with
  | true =>
    rw [hp] at k
    obtain ⟨S, h1, h2, k⟩ := k
    exact ⟨S, h1, h2, treeX_mono (fun i K K' h s w => fT_mono i K K' h s w) _ _ _ _ h _ _ k⟩
  | false => rw [hp] at k; exact drawL_mono h _ _ k
theorem itr_mono {σ : Type} {Φ Φ' : (σ → World → Prop) → σ → World → Prop} (h : ∀ X X' : σ → World → Prop, (∀ s w, X s w → X' s w) → ∀ s w, Φ X s w → Φ' X' s w) : ∀ k s w, itr Φ k s w → itr Φ' k s w := by
  intro k
  induction k with
  | zero => intro s w h; exact h
  | succ k ih => intro s w hk; exact h _ _ ih s w hk

theorem W_mono : ∀ (c : Code) (rd : Bool) (Q Q' : Post), (∀ e s w, Q e s w → Q' e s w) → ∀ s w, W P c rd Q s w → W P c rd Q' s w := by
  intro c
  induction c with
  | skip => intro rd Q Q' h s w k; exact h _ _ _ k
  | region id ops draw =>
    intro rd Q Q' h s w k
    cases draw
    · exact opsW_mono (h _) _ s w k
    · exact drawW_mono (h _) s w k
  | seq x y ihx ihy =>
    intro rd Q Q' h s w k
    refine ihx _ _ _ ?_ s w k
    intro e s w k
    cases e <;> first | exact ihy _ _ _ h s w k | exact h _ _ _ k
  | cond c x y ihx ihy =>
    intro rd Q Q' h s w k
    simp only [W, cnd] at k ⊢
    split at k
    · rename_i b _
      cases b
      · exact ihy _ _ _ h s w k
      · exact ihx _ _ _ h s w k
    · exact k.elim
  | block id c ih =>
    intro rd Q Q' h s w k
    refine ih _ _ _ ?_ s w k
    intro e s w k
    cases e <;> first | exact h _ _ _ k | skip
    rename_i i
    simp only [blockP] at k ⊢
    cases hb : Nat.beq i id
    · rw [hb] at k; exact h _ _ _ k
    · rw [hb] at k; exact h _ _ _ k
  | loop c ih =>
    intro rd Q Q' h s w ⟨k, hk⟩
    refine ⟨k, itr_mono ?_ k s w hk⟩
    intro X X' hX s w hk
    refine ih _ _ _ ?_ s w hk
    intro e s w k
    cases e <;> first | exact hX _ _ k | exact h _ _ _ k
  | rangeFunc g ps asg body iha ihb =>
    intro rd Q Q' h s w k
    cases rd
    · obtain ⟨gf, cap, hfv, k⟩ := k
      refine ⟨gf, cap, hfv, fun lp hlp y hy hr => ?_⟩
      refine callS_mono ?_ (k lp hlp y hy hr)
      rintro v w3 ⟨st, j, h1, h2, k⟩
      refine ⟨st, j, h1, h2, ?_⟩
      cases j with
      | none => exact h _ _ _ k
      | some c => cases c <;> first | exact h _ _ _ k | exact k.elim
    · exact k.elim
  | exit id => intro rd Q Q' h s w k; exact h _ _ _ k
  | ret => intro rd Q Q' h s w k; exact h _ _ _ k
  | _ => intro rd Q Q' h s w k; exact k.elim

/-- A printed loop's body asks no more where more is known behind. -/
theorem loop_mono {c : Code} {τ : Type} {Ψ : (τ → World → Prop) → τ → World → Prop} (π : St → τ) (h : ∀ X, W P c rd (thenP (fun s w => X (π s) w) Q) = fun s w => Ψ X (π s) w) (mk : τ → St) (hmk : ∀ t, π (mk t) = t) :
    ∀ X Y : τ → World → Prop, (∀ t w, X t w → Y t w) → ∀ t w, Ψ X t w → Ψ Y t w := by
  intro X Y hXY t w k
  have hx := congrFun (congrFun (h X) (mk t)) w
  have hy := congrFun (congrFun (h Y) (mk t)) w
  simp only [hmk] at hx hy
  rw [← hx] at k
  rw [← hy]
  refine W_mono c _ _ _ ?_ _ _ k
  intro e s w k
  cases e <;> first | exact hXY _ _ k | exact k

end Go.Sx
end

section
/- Steps: what single operations come to. -/
namespace Go.Sx
open Go Go.RowKit

variable {P : Program} {K : Value → World → Prop} {w : World}

theorem run_of {s : Sem Value} {v : Value} {w' : World} (h : s.run P w = .ok v w') : run P s K w = K v w' := by
  unfold run; rw [h]
theorem runU_of {s : Sem Unit} {K : World → Prop} {u : Unit} {w' : World} (h : s.run P w = .ok u w') : runU P s K w = K w' := by
  unfold runU; rw [h]
theorem rnT_of {s : Sem Value} {v : Value} (h : ∀ w, s.run P w = .ok v w) : rn P (fun _ => True) s K w = K v w := by
  unfold rn
  apply propext
  constructor
  · rintro ⟨u, hu, k⟩
    have := hu w trivial
    rw [h w] at this; cases this; exact k
  · exact fun k => ⟨v, fun w' _ => h w', k⟩
theorem rnR_of {s : Sem Value} {v : Value} (h : s.run P w = .ok v w) : rn P (fun w' => w' = w) s K w = K v w := by
  unfold rn
  apply propext
  constructor
  · rintro ⟨u, hu, k⟩
    have := hu w rfl
    rw [h] at this; cases this; exact k
  · exact fun k => ⟨v, fun w' e => by rw [e]; exact h, k⟩
theorem rnS_of {S : World → Prop} {s : Sem Value} {v : Value} (h : ∀ w, S w → s.run P w = .ok v w) (k : K v w) : rn P S s K w := ⟨v, h, k⟩

/-- A text. -/
def str (l : List UInt8) : Value := .string ⟨l.toArray⟩
abbrev int (n : Int) : Value := .int .i64 n

theorem str_of (s : ByteArray) : Value.string s = str s.data.toList := by cases s; rfl

/-! ### whole numbers, truth values -/
theorem p_guard_int (op : BinOp) (t : TypeId) (c : Bool) (k k' : IntKind) (a b : Int) : (eqGuard op t (dummy c) (.tmp 0) (.int k a) (.int k' b)).run P w = .ok () w := by
  cases op <;> rfl
theorem p_bin {op : BinOp} {t : TypeId} {c : Bool} {x y v : Value} (hg : ∀ w, (eqGuard op t (dummy c) (.tmp 0) x y).run P w = .ok () w) (h : ∀ w, (binOp op t x y).run P w = .ok v w) (w : World) : (binS op t c x y).run P w = .ok v w := by
  have hb := Sem.run_bind P w (eqGuard op t (dummy c) (.tmp 0) x y) (fun _ => binOp op t x y)
  rw [hg w] at hb
  exact hb.trans (h w)

theorem pI {op : BinOp} {t : TypeId} {c : Bool} {k : IntKind} {a b : Int} {v : Value} (h : ∀ w, (binOp op t (.int k a) (.int k b)).run P w = .ok v w) (w : World) : (binS op t c (.int k a) (.int k b)).run P w = .ok v w :=
  p_bin (fun _ => p_guard_int _ _ _ _ _ _ _) h w

section
variable {t : TypeId} {c : Bool} {k : IntKind} {a b : Int}
theorem p_add (w : World) : (binS .add t c (.int k a) (.int k b)).run P w = .ok (.int k (k.wrap (a + b))) w := pI (fun w => by simp [binOp, Op.intArith, pure]) w
theorem p_sub (w : World) : (binS .sub t c (.int k a) (.int k b)).run P w = .ok (.int k (k.wrap (a - b))) w := pI (fun w => by simp [binOp, Op.intArith, pure]) w
theorem p_mul (w : World) : (binS .mul t c (.int k a) (.int k b)).run P w = .ok (.int k (k.wrap (a * b))) w := pI (fun w => by simp [binOp, Op.intArith, pure]) w
theorem p_lss (w : World) : (binS .lss t c (.int k a) (.int k b)).run P w = .ok (.bool (decide (a < b))) w := pI (fun w => by simp [binOp, Op.intCmp, pure]) w
theorem p_leq (w : World) : (binS .leq t c (.int k a) (.int k b)).run P w = .ok (.bool (decide (a ≤ b))) w := pI (fun w => by simp [binOp, Op.intCmp, pure]) w
theorem p_gtr (w : World) : (binS .gtr t c (.int k a) (.int k b)).run P w = .ok (.bool (decide (b < a))) w := pI (fun w => by simp [binOp, Op.intCmp, pure]) w
theorem p_geq (w : World) : (binS .geq t c (.int k a) (.int k b)).run P w = .ok (.bool (decide (b ≤ a))) w := pI (fun w => by simp [binOp, Op.intCmp, pure]) w
theorem p_eql (w : World) : (binS .eql t c (.int k a) (.int k b)).run P w = .ok (.bool (decide (a = b))) w := pI (fun w => by simp [binOp, Op.intCmp, pure]; rfl) w
theorem p_neq (w : World) : (binS .neq t c (.int k a) (.int k b)).run P w = .ok (.bool (!decide (a = b))) w := pI (fun w => by simp [binOp, Op.intCmp, pure]; rfl) w
theorem p_quo (h : ¬ b = 0) (w : World) : (binS .quo t c (.int k a) (.int k b)).run P w = .ok (.int k (k.wrap (a.tdiv b))) w := pI (fun w => by simp [binOp, Op.intDiv, h, pure]) w
theorem p_rem (h : ¬ b = 0) (w : World) : (binS .rem t c (.int k a) (.int k b)).run P w = .ok (.int k (a.tmod b)) w := pI (fun w => by simp [binOp, Op.intDiv, h, pure]) w
/-- What a bit operation makes of two numbers. -/
def bitv (f : (n : Nat) → BitVec n → BitVec n → BitVec n) (k : IntKind) (a b : Int) : Int := k.wrap (f k.bits (BitVec.ofInt k.bits a) (BitVec.ofInt k.bits b)).toNat
theorem p_and (w : World) : (binS .and t c (.int k a) (.int k b)).run P w = .ok (.int k (bitv (fun _ x y => x &&& y) k a b)) w := pI (fun w => by simp [binOp, Op.intBits, pure, bitv]) w
theorem p_or (w : World) : (binS .or t c (.int k a) (.int k b)).run P w = .ok (.int k (bitv (fun _ x y => x ||| y) k a b)) w := pI (fun w => by simp [binOp, Op.intBits, pure, bitv]) w
theorem p_xor (w : World) : (binS .xor t c (.int k a) (.int k b)).run P w = .ok (.int k (bitv (fun _ x y => x ^^^ y) k a b)) w := pI (fun w => by simp [binOp, Op.intBits, pure, bitv]) w
theorem p_guard_shift (op : BinOp) (h : op = .shl ∨ op = .shr) (x y : Value) : (eqGuard op t (dummy c) (.tmp 0) x y).run P w = .ok () w := by
  rcases h with rfl | rfl <;> rfl
theorem p_shl {k' : IntKind} (h : ¬ b < 0) (w : World) : (binS .shl t c (.int k a) (.int k' b)).run P w = .ok (.int k (k.wrap (a * 2 ^ (min b.toNat k.bits)))) w :=
  p_bin (fun _ => p_guard_shift _ (.inl rfl) _ _) (fun w => by simp [binOp, Op.shift, h, pure]) w
theorem p_shr {k' : IntKind} (h : ¬ b < 0) (w : World) : (binS .shr t c (.int k a) (.int k' b)).run P w = .ok (.int k (a.fdiv (2 ^ (min b.toNat k.bits)))) w :=
  p_bin (fun _ => p_guard_shift _ (.inr rfl) _ _) (fun w => by simp [binOp, Op.shift, h, pure]) w
theorem p_not {x : Bool} (w : World) : (Op.unary .not (.bool x)).run P w = .ok (.bool (!x)) w := rfl
theorem p_neg (w : World) : (Op.unary .neg (.int k a)).run P w = .ok (.int k (k.wrap (0 - a))) w := rfl
theorem p_unxor (w : World) : (Op.unary .xor (.int k a)).run P w = .ok (.int k (bitv (fun _ x y => x ^^^ y) k (if k.signed then -1 else k.max) a)) w := by
  simp [Op.unary, Op.intBits, pure, bitv]
theorem p_conv {s d : TypeId} {k' : IntKind} {ks : TypeDesc} (hs : P.underlying s = some ks) (hd : P.underlying d = some (.int k')) (w : World) : (convert s d (.int k a)).run P w = .ok (.int k' (k'.wrap a)) w := by
  simp [convert, run_underlying hs, run_underlying hd, Conv.intToInt, pure]
end

/-! ### texts -/
theorem p_str (op : BinOp) (t : TypeId) (c : Bool) (x y : ByteArray) {v : Value} (h : ∀ w, (Op.stringOp op x y).run P w = .ok v w) (hop : op ≠ .shl ∧ op ≠ .shr) (w : World) : (binS op t c (.string x) (.string y)).run P w = .ok v w :=
  p_bin (fun _ => by cases op <;> rfl) (fun w => by cases op <;> first | exact h w | exact absurd rfl hop.1 | exact absurd rfl hop.2) w

section
variable {t : TypeId} {c : Bool} {l m : List UInt8}
theorem toList_mk (l : List UInt8) : (ByteArray.mk l.toArray).toList = l := by simp
theorem p_cat (h : l.length + m.length ≤ 9223372036854775807) (w : World) : (binS .add t c (str l) (str m)).run P w = .ok (str (l ++ m)) w := by
  refine p_str .add t c _ _ (fun w => ?_) (by simp) w
  have h1 : ¬ ((((ByteArray.mk l.toArray).size + (ByteArray.mk m.toArray).size : Nat) : Int) > IntKind.i64.max) := by
    have : IntKind.i64.max = 9223372036854775807 := rfl
    rw [this]
    simp [ByteArray.size]; omega
  simp only [Op.stringOp, h1, if_false]
  have : (ByteArray.mk l.toArray) ++ (ByteArray.mk m.toArray) = ByteArray.mk (l ++ m).toArray := by
    apply ByteArray.ext
    simp
  rw [this]; rfl
theorem p_seq (w : World) : (binS .eql t c (str l) (str m)).run P w = .ok (.bool (decide (l = m))) w := by
  refine p_str .eql t c _ _ (fun w => ?_) (by simp) w
  simp only [Op.stringOp, toList_mk]
  show Result.ok (Value.bool (l == m)) w = _
  congr 2
  by_cases e : l = m
  · subst e; simp
  · simp [e]
theorem p_sne (w : World) : (binS .neq t c (str l) (str m)).run P w = .ok (.bool (!decide (l = m))) w := by
  refine p_str .neq t c _ _ (fun w => ?_) (by simp) w
  simp only [Op.stringOp, toList_mk]
  show Result.ok (Value.bool (!(l == m))) w = _
  congr 3
  by_cases e : l = m
  · subst e; simp
  · simp [e]
theorem p_len_str {ty : TypeId} (ht : P.underlying t = some .string) (w : World) : (Builtin.len_ #[t] ty #[str l]).run P w = .ok (int l.length) w := by
  have e : (ByteArray.mk l.toArray).size = l.length := by simp [ByteArray.size]
  simp only [Builtin.len_, str]
  simp [run_underlying ht, goInt, e]
theorem p_index_str {i : Int} (ht : P.underlying t = some .string) (h0 : 0 ≤ i) (h1 : i < l.length) (w : World) : (Instr.index t (str l) (int i)).run P w = .ok (.int .u8 ((l.getD i.toNat 0).toNat : Int)) w := by
  have hlt : i.toNat < l.length := by omega
  simp only [Instr.index, str]
  have e : (ByteArray.mk l.toArray)[i.toNat]? = some (l.getD i.toNat 0) := by
    rw [getElem?_pos _ _ (by simpa [ByteArray.size] using hlt)]
    simp [ByteArray.getElem_eq_getElem_data, List.getD, hlt]
  simp [go_sem, asIntOf, run_underlying ht, h0, e]
theorem size_mk (l : List UInt8) : (ByteArray.mk l.toArray).size = l.length := by simp [ByteArray.size]
theorem ext_mk (l : List UInt8) (a b : Nat) : (ByteArray.mk l.toArray).extract a b = ByteArray.mk ((l.drop a).take (b - a)).toArray := by
  apply ByteArray.ext
  simp [ByteArray.data_extract]
theorem p_sliceS {lo hi : Option Value} {a b c : Nat} (ht : P.underlying t = some .string) (h : ∀ w, (Instr.sliceBounds false l.length l.length lo hi none).run P w = .ok (a, b, c) w) (w : World) :
    (Instr.sliceAt t (str l) lo hi none).run P w = .ok (str ((l.drop a).take (b - a))) w := by
  have h1 := h w
  rw [← size_mk] at h1
  rw [run_sliceAt_string w t (str l) lo hi none ht]
  unfold Instr.slice str
  simp only [Sem.run_bind, run_underlying ht, Result.andThen_ok, Option.isSome_none, Bool.false_eq_true, if_false]
  rw [h1]
  simp only [Result.andThen_ok, ext_mk]
  rfl
theorem p_slice_str {a b : Int} (ht : P.underlying t = some .string) (h0 : 0 ≤ a) (h1 : a ≤ b) (h2 : b ≤ l.length) (w : World) : (Instr.sliceAt t (str l) (some (int a)) (some (int b)) none).run P w = .ok (str ((l.drop a.toNat).take (b.toNat - a.toNat))) w :=
  p_sliceS (c := l.length) ht (by
    intro w
    have h4 : 0 ≤ b := by omega
    have h3 : a ≤ max b 0 := by omega
    simp [Instr.sliceBounds, Instr.sliceBound, asIntOf, go_sem, h0, h2, h4, h3]) w
theorem p_slice_to {b : Int} (ht : P.underlying t = some .string) (h1 : 0 ≤ b) (h2 : b ≤ l.length) (w : World) : (Instr.sliceAt t (str l) none (some (int b)) none).run P w = .ok (str (l.take b.toNat)) w := by
  have := p_sliceS (a := 0) (b := b.toNat) (c := l.length) (lo := none) (hi := some (int b)) (l := l) ht (fun w => by simp [Instr.sliceBounds, Instr.sliceBound, asIntOf, go_sem, h1, h2]) w
  simpa using this
theorem p_slice_from {a : Int} (ht : P.underlying t = some .string) (h0 : 0 ≤ a) (h1 : a ≤ l.length) (w : World) : (Instr.sliceAt t (str l) (some (int a)) none none).run P w = .ok (str (l.drop a.toNat)) w := by
  have := p_sliceS (a := a.toNat) (b := l.length) (c := l.length) (lo := some (int a)) (hi := none) (l := l) ht (fun w => by simp [Instr.sliceBounds, Instr.sliceBound, asIntOf, go_sem, h0, h1]) w
  rw [this, List.take_of_length_le (by simp)]
end
end Go.Sx
end

section
/- Memory: blocks, what is kept, single operations on memory. -/
set_option linter.unusedVariables false
namespace Go.Sx
open Go Go.RowKit

variable {P : Program} {K : Value → World → Prop} {w : World}

/-! ### The heap behind a change -/
theorem hp_alloc_old {k : Nat} {o : Obj} (h : k < w.heap.size) : (w.alloc o).heap[k]? = w.heap[k]? := Below.heap_alloc w o k h
theorem hp_alloc_new {o : Obj} : (w.alloc o).heap[w.heap.size]? = some o := World.alloc_heap_new w o
theorem hp_put_same {b : Nat} {o : Obj} (h : b < w.heap.size) : (w.putObj b o).heap[b]? = some o := World.putObj_heap_same h
theorem hp_put_other {b k : Nat} {o : Obj} (h : k ≠ b) : (w.putObj b o).heap[k]? = w.heap[k]? := World.putObj_heap_other h
theorem hp_drew {k : Nat} : w.drew.heap[k]? = w.heap[k]? := rfl
theorem sz_alloc {o : Obj} : (w.alloc o).heap.size = w.heap.size + 1 := World.size_alloc ..
theorem sz_put {b : Nat} {o : Obj} : (w.putObj b o).heap.size = w.heap.size := by simp [World.putObj]
theorem sz_drew : w.drew.heap.size = w.heap.size := rfl
theorem lt_of {b : Nat} {o : Obj} (h : w.heap[b]? = some o) : b < w.heap.size := (Array.getElem?_eq_some_iff.1 h).1
theorem old {b : Nat} {o o' : Obj} (h : w.heap[b]? = some o) : (w.alloc o').heap[b]? = some o := (hp_alloc_old (lt_of h)).trans h

/-! ### What is kept -/
def tag : Obj → Option TypeId
  | .cells _ T _ => some T
  | _ => none

/-- All that was there stands, but for what A names. -/
structure Frm (A : Nat → Obj → Prop) (w w' : World) : Prop where
  os : w'.os = w.os
  tape : w'.tape = w.tape
  output : w'.output = w.output
  size : w.heap.size ≤ w'.heap.size
  keep : ∀ k o, w.heap[k]? = some o → ¬ A k o → w'.heap[k]? = some o

/-- Nothing that was there has turned. -/
abbrev Qt (w w' : World) : Prop := Frm (fun _ _ => False) w w'

section
variable {A A' : Nat → Obj → Prop} {w w' w'' : World}
theorem Frm.refl (w : World) : Frm A w w := ⟨rfl, rfl, rfl, Nat.le_refl _, fun _ _ h _ => h⟩
theorem Frm.trans' (h : Frm A w w') (h' : Frm A' w' w'') (hA : ∀ k o, w.heap[k]? = some o → ¬ A k o → ¬ A' k o) : Frm A w w'' :=
  ⟨h'.os.trans h.os, h'.tape.trans h.tape, h'.output.trans h.output, Nat.le_trans h.size h'.size, fun k o hk hm => h'.keep k o (h.keep k o hk hm) (hA k o hk hm)⟩
theorem Frm.trans (h : Frm A w w') (h' : Frm A w' w'') : Frm A w w'' := h.trans' h' fun _ _ _ h => h
theorem Frm.all (h : Qt w w') {k : Nat} {o : Obj} (hk : w.heap[k]? = some o) : w'.heap[k]? = some o := h.keep k o hk id
theorem Frm.mono (h : Frm A w w') (hA : ∀ k o, w.heap[k]? = some o → A k o → A' k o) : Frm A' w w' :=
  ⟨h.os, h.tape, h.output, h.size, fun k o hk hm => h.keep k o hk fun ha => hm (hA k o hk ha)⟩
theorem Frm.of_qt (h : Qt w w') : Frm A w w' := h.mono fun _ _ _ h => h.elim
theorem Frm.alloc (h : Frm A w w') (o : Obj) : Frm A w (w'.alloc o) :=
  ⟨h.os, h.tape, h.output, by rw [sz_alloc]; have := h.size; omega, fun k o' hk hm => old (h.keep k o' hk hm)⟩
theorem Frm.drew (h : Frm A w w') : Frm A w w'.drew := ⟨h.os, h.tape, h.output, h.size, h.keep⟩
theorem Frm.put_new (h : Frm A w w') {b : Nat} (o : Obj) (hb : w.heap.size ≤ b) : Frm A w (w'.putObj b o) :=
  ⟨h.os, h.tape, h.output, by rw [sz_put]; exact h.size, fun k o' hk hm => by
    have := lt_of hk
    rw [hp_put_other (by omega)]; exact h.keep k o' hk hm⟩
theorem Frm.put_may (h : Frm A w w') {b : Nat} (o : Obj) (hm : ∀ ob, w.heap[b]? = some ob → A b ob) : Frm A w (w'.putObj b o) :=
  ⟨h.os, h.tape, h.output, by rw [sz_put]; exact h.size, fun k o' hk hm' => by
    by_cases e : k = b
    · subst e; exact absurd (hm _ hk) hm'
    · rw [hp_put_other e]; exact h.keep k o' hk hm'⟩
theorem Frm.below (h : Frm A w w') {B : Nat} (hB : ∀ k o, k < B → ¬ A k o) (hs : B ≤ w.heap.size) : Below B w w' :=
  ⟨h.os, h.tape, h.output, h.size, fun k hk => by
    have hlt : k < w.heap.size := by omega
    rw [Array.getElem?_eq_getElem hlt]
    exact h.keep k _ (Array.getElem?_eq_getElem hlt) (hB k _ hk)⟩
theorem Frm.of_below (h : Below w.heap.size w w') : Frm A w w' :=
  ⟨h.os, h.tape, h.output, h.size, fun k o hk _ => (h.block k (lt_of hk)).trans hk⟩
theorem Frm.of_drew_or (h : w' = w ∨ w' = w.drew) : Frm A w w' := by
  rcases h with rfl | rfl
  · exact .refl _
  · exact (Frm.refl _).drew
end

/-! ### Cells -/
def cellAt (o : Option Obj) (i : Nat) : Option Value :=
  match o with
  | some (.cells c _ _) => c[i]?
  | _ => none

theorem cell_at (w : World) (b i : Nat) : w.cell? ⟨b, i, none⟩ = cellAt (w.heap[b]?) i := by
  unfold World.cell? cellAt
  cases w.heap[b]? with
  | none => rfl
  | some o => cases o <;> rfl

theorem p_nil {a : Addr} (w : World) : (nilS (.pointer (some a))).run P w = .ok (.pointer (some a)) w := rfl
theorem p_extract {vs : Array Value} {i : Nat} {v : Value} (h : vs[i]? = some v) (w : World) : (Instr.extract (.tuple vs) i).run P w = .ok v w := by
  simp only [Instr.extract, h]; rfl

/-- A type of one cell. -/
structure Plain (P : Program) (t : TypeId) : Prop where
  agg : ∀ w, (isAgg t).run P w = .ok false w
  size : ∀ w, (sizeOf t).run P w = .ok 1 w

theorem r_load {t : TypeId} (ht : Plain P t) {b i : Nat} {v : Value} (h : cellAt (w.heap[b]?) i = some v) : (Instr.loadAt t (.pointer (some ⟨b, i, none⟩))).run P w = .ok v w := by
  have hc : w.cell? ⟨b, i, none⟩ = some v := (cell_at w b i).trans h
  simp only [Instr.loadAt, Instr.sureAddr, loadVar]
  simp [Sem.run_bind, ht.agg w, Result.andThen, run_load, hc]

/-- A type of n cells that is a struct or an array. -/
structure Agg (P : Program) (t : TypeId) (n : Nat) : Prop where
  agg : ∀ w, (isAgg t).run P w = .ok true w
  size : ∀ w, (sizeOf t).run P w = .ok n w

theorem add_mk (b o n : Nat) : (⟨b, o, none⟩ : Addr).add n = ⟨b, o + n, none⟩ := by unfold Addr.add; split <;> simp_all

theorem r_load_agg {t : TypeId} {n : Nat} (ht : Agg P t n) {b i : Nat} {l : List Value} {T : TypeId} {fz : Nat × Nat} (h : w.heap[b]? = some (.cells l.toArray T fz)) (hi : i + n ≤ l.length) :
    (Instr.loadAt t (.pointer (some ⟨b, i, none⟩))).run P w = .ok (.agg ((l.drop i).take n).toArray) w := by
  have hc : (loadCells ⟨b, i, none⟩ ((l.drop i).take n).length).run P w = .ok ((l.drop i).take n).toArray w := by
    refine run_loadCells_list w ⟨b, i, none⟩ ((l.drop i).take n) ?_
    intro j v hv
    rw [add_mk, cell_at, h]
    have hj : j < n := by
      have := (List.getElem?_eq_some_iff.1 hv).1
      simp at this; omega
    simp only [cellAt, List.getElem?_toArray]
    rw [List.getElem?_take, if_pos hj, List.getElem?_drop] at hv
    exact hv
  have hlen : ((l.drop i).take n).length = n := by simp; omega
  rw [hlen] at hc
  simp only [Instr.loadAt, Instr.sureAddr, loadVar]
  simp [Sem.run_bind, ht.agg w, ht.size w, Result.andThen, hc]

theorem setRow_put {b : Nat} {c c' : Array Value} {T : TypeId} {fz : Nat × Nat} (h : w.heap[b]? = some (.cells c T fz)) : w.setRow b c' = w.putObj b (.cells c' T fz) := by
  unfold World.setRow World.putObj
  congr 1
  apply Array.ext_getElem?
  intro k
  rw [Array.getElem?_modify, Array.getElem?_setIfInBounds]
  split
  · rename_i e
    subst e
    rw [h]
    simp [lt_of h]
  · rfl

theorem r_store {t : TypeId} {n : Nat} (hsz : ∀ w, (sizeOf t).run P w = .ok n w) {b i : Nat} {l vs : List Value} {v : Value} {T : TypeId} (h : w.heap[b]? = some (.cells l.toArray T (0, 0)))
    (hv : v.cells = vs.toArray) (hn : vs.length = n) (h1 : ∀ v ∈ vs, v.oneCell' = true) (hi : i + n ≤ l.length) :
    (Instr.storeAt t (.pointer (some ⟨b, i, none⟩)) v).run P w = .ok () (w.putObj b (.cells (l.take i ++ vs ++ l.drop (i + n)).toArray T (0, 0))) := by
  have hs := run_storeCells_at P b i T vs 0 l.toArray w h (by simp; omega) h1
  simp only [Nat.add_zero] at hs
  rw [setRow_put h, hn] at hs
  simp only [Instr.storeAt, Instr.sureAddr, storeVar]
  have hvs : v.cells.size = n := by rw [hv]; simpa using hn
  simp [Sem.run_bind, hsz w, Result.andThen, hvs]
  rw [hv]
  simpa using hs

theorem r_store1 {t : TypeId} (ht : Plain P t) {b i : Nat} {l : List Value} {v : Value} {T : TypeId} (h : w.heap[b]? = some (.cells l.toArray T (0, 0))) (h1 : v.oneCell' = true) (hi : i < l.length) :
    (Instr.storeAt t (.pointer (some ⟨b, i, none⟩)) v).run P w = .ok () (w.putObj b (.cells (l.set i v).toArray T (0, 0))) := by
  have hv : v.cells = [v].toArray := by cases v <;> first | rfl | cases h1
  have := r_store (P := P) (i := i) ht.size h hv rfl (by simpa using h1) (by omega)
  rw [this, List.set_eq_take_append_cons_drop, if_pos hi]
  simp

theorem r_box {e : TypeId} {v : Value} : (Instr.box e v).run P w = .ok (.pointer (some ⟨w.heap.size, 0, none⟩)) (w.alloc (.cells v.cells e)) := by
  simp [Instr.box, newVar, newRow, go_sem]

theorem r_alloc {e : TypeId} {z : Value} (hz : ∀ w, (zeroValue e).run P w = .ok z w) : (Instr.alloc e true (.tuple #[])).run P w = .ok (.pointer (some ⟨w.heap.size, 0, none⟩)) (w.alloc (.cells z.cells e)) := by
  simp [Instr.alloc, newVar, newRow, go_sem, hz w]

/-- A slice type, its elements of n cells. -/
structure SliceT (P : Program) (t e : TypeId) (n : Nat) : Prop where
  und : P.underlying t = some (.slice e)
  size : ∀ w, (sizeOf e).run P w = .ok n w

theorem p_index {t e : TypeId} {n : Nat} (ht : SliceT P t e n) {b o len cap : Nat} {i : Int} (h0 : 0 ≤ i) (h1 : i < len) (w : World) :
    (Instr.indexAt t (.slice (some ⟨b, o, none⟩) len cap) (int i)).run P w = .ok (.pointer (some ⟨b, o + i.toNat * n, none⟩)) w := by
  simp [Instr.indexAt, asIntOf, go_sem, run_underlying ht.und, h0, h1, ht.size w, add_mk]

theorem p_len_slice {t e ty : TypeId} {n : Nat} (ht : SliceT P t e n) {a : Option Addr} {len cap : Nat} (w : World) : (Builtin.len_ #[t] ty #[.slice a len cap]).run P w = .ok (int len) w := by
  simp [Builtin.len_, run_underlying ht.und, goInt]

end Go.Sx
end

section
/- Memory, second part: fields, slices that grow, maps by numbers, bytes and texts. -/
set_option linter.unusedSimpArgs false
set_option linter.unusedVariables false
namespace Go.Sx
open Go Go.RowKit

variable {P : Program} {K : Value → World → Prop} {w : World}

def fieldOf (P : Program) (s : TypeId) (i : Nat) : Option (Nat × TypeId) :=
  match P.underlying s with
  | some (.struct fs) => (fs[i]?).map fun f => (f.offset, f.type)
  | _ => none

theorem fieldAt_of {s ty : TypeId} {i off n : Nat} (hf : fieldOf P s i = some (off, ty)) (hs : ∀ w, (sizeOf ty).run P w = .ok n w) (hn : Nat.beq n 0 = false) {b o : Nat} (w : World) :
    (Instr.fieldAt s (.pointer (some ⟨b, o, none⟩)) i).run P w = .ok (.pointer (some ⟨b, o + off, none⟩)) w := by
  have hn' : n ≠ 0 := by rintro rfl; cases hn
  unfold fieldOf at hf
  split at hf
  · rename_i fs hu
    cases hg : fs[i]? with
    | none => rw [hg] at hf; cases hf
    | some f =>
      rw [hg] at hf; cases hf
      simp [Instr.fieldAt, go_sem, run_underlying hu, hg, Instr.sureAddr, fieldPlace, hs w, hn', add_mk]
  · cases hf

/-! ### Own slices -/
/-- What a type of elements is. -/
def El (P : Program) (e : TypeId) (size bytes : Nat) (z : Value) : Prop := (P.info? e).map (fun i => (i.zero, i.size, i.bytes)) = some (some z, size, bytes) ∧ z.cells.size = size

theorem El.get {e : TypeId} {size bytes : Nat} {z : Value} (h : El P e size bytes z) : ∃ i : TypeInfo, P.info? e = some i ∧ i.zero = some z ∧ i.size = size ∧ i.bytes = bytes ∧ z.cells.size = size := by
  obtain ⟨h, hz⟩ := h
  cases hi : P.info? e with
  | none => rw [hi] at h; cases h
  | some i => rw [hi] at h; simp at h; exact ⟨i, rfl, h.1, h.2.1, h.2.2, hz⟩

def Own (w : World) (e : TypeId) (size : Nat) (v : Value) (n : Nat) (xs : List Value) : Prop :=
  xs.length = n * size ∧ ((v = .slice none 0 0 ∧ n = 0) ∨
    ∃ g cap rest, v = .slice (some ⟨g, 0, none⟩) n cap ∧ w.heap[g]? = some (.cells (xs ++ rest).toArray e (0, 0)) ∧ n ≤ cap ∧ cap ≤ maxLen ∧ (xs ++ rest).length = cap * size)

theorem Own.rows {e size n : Nat} {v : Value} {xs : List Value} (h : Own w e size v n xs) : w.ownsRow 0 e size v n xs := by
  obtain ⟨h0, h⟩ := h
  refine ⟨h0, h.imp id ?_⟩
  rintro ⟨g, cap, rest, h1, h2, h3, h4, h5⟩
  refine ⟨g, cap, _, h1, Nat.zero_le _, h2, h3, h4, by simpa using h5, ?_⟩
  rw [← h0]; simp
theorem Own.of_rows {e size n : Nat} {base : Nat} {v : Value} {xs : List Value} (h : w.ownsRow base e size v n xs) : Own w e size v n xs := by
  obtain ⟨h0, h⟩ := h
  refine ⟨h0, h.imp id ?_⟩
  rintro ⟨g, cap, cur, h1, _, h2, h3, h4, h5, h6⟩
  have e1 : xs ++ cur.toList.drop (n * size) = cur.toList := by rw [← h6]; exact List.take_append_drop ..
  refine ⟨g, cap, cur.toList.drop (n * size), h1, ?_, h3, h4, ?_⟩
  · rw [e1]; simpa using h2
  · rw [e1]; simpa using h5

theorem Own.nil {e size : Nat} : Own w e size (.slice none 0 0) 0 [] := ⟨by simp, .inl ⟨rfl, rfl⟩⟩

theorem Own.block {e size n : Nat} {v : Value} {xs : List Value} (h : Own w e size v n xs) {g : Nat} (hg : v.ownBlock = some g) : ∃ l, w.heap[g]? = some (.cells l e (0, 0)) := by
  obtain ⟨_, ⟨rfl, _⟩ | ⟨g', cap, rest, rfl, h2, _⟩⟩ := h
  · cases hg
  · cases hg; exact ⟨_, h2⟩

theorem Own.keep {w' : World} {e size n : Nat} {v : Value} {xs : List Value} (h : Own w e size v n xs) (hk : ∀ g l, v.ownBlock = some g → w.heap[g]? = some (.cells l e (0, 0)) → w'.heap[g]? = some (.cells l e (0, 0))) : Own w' e size v n xs := by
  obtain ⟨h0, h⟩ := h
  refine ⟨h0, h.imp id ?_⟩
  rintro ⟨g, cap, rest, rfl, h2, h3⟩
  exact ⟨g, cap, rest, rfl, hk g _ rfl h2, h3⟩

theorem Own.frm {w' : World} {A : Nat → Obj → Prop} {e size n : Nat} {v : Value} {xs : List Value} (h : Own w e size v n xs) (f : Frm A w w') (hM : ∀ g l, v.ownBlock = some g → ¬ A g (.cells l e (0, 0))) : Own w' e size v n xs :=
  h.keep fun g l hg hl => f.keep g _ hl (hM g l hg)
theorem Own.qt {w' : World} {e size n : Nat} {v : Value} {xs : List Value} (h : Own w e size v n xs) (f : Qt w w') : Own w' e size v n xs := h.frm f fun _ _ _ h => h

theorem Frm.of_grown {A : Nat → Obj → Prop} {w' : World} {row : Option Nat} (h : w.grownBy w' row) (hr : ∀ g o, row = some g → w.heap[g]? = some o → A g o) : Frm A w w' :=
  ⟨h.os, h.tape, h.output, h.size, fun k o hk hm => by
    rw [← hk]
    exact h.block k (lt_of hk) (fun e => hm (hr k o e.symm hk))⟩

/-- append: news of an own slice's cells behind. -/
theorem r_append {t e ty : TypeId} {size bytes : Nat} {z : Value} (ht : P.underlying t = some (.slice e)) (he : El P e size bytes z) (hsz : Nat.ble 1 size = true)
    {v : Value} {n : Nat} {xs : List Value} (hown : Own w e size v n xs) {a : Addr} {m c : Nat} {news : List Value} (hl : news.length = m * size)
    (hnews : ∀ j u, news[j]? = some u → w.cell? (a.add j) = some u) (h1 : ∀ u ∈ news, u.oneCell' = true) (h63 : n + m ≤ maxLen) (hb : (n + m) * bytes ≤ 140737488355328)
    (k : ∀ v' w', Own w' e size v' (n + m) (xs ++ news) → w.grownBy w' v.ownBlock → (v' = .slice none 0 0 ↔ v = .slice none 0 0 ∧ m = 0) → (v'.ownBlock = v.ownBlock ∨ v'.ownBlock = some w.heap.size) → K v' w') :
    run P (Builtin.append_ #[t, t] ty #[v, .slice (some a) m c]) K w := by
  obtain ⟨i, hi, hz, hs, hby, hzs⟩ := he.get
  have hsz' : 0 < size := Nat.le_of_ble_eq_true hsz
  obtain ⟨v', w', hr, h1, h2, h3, h4⟩ := run_append_own_at (P := P) w 0 t ty e i z size bytes ht hi hz hs hby hzs hsz' v n xs hown.rows a m c news hl hnews h1 h63 hb (Nat.zero_le _)
  rw [run_of hr]
  exact k v' w' (.of_rows h1) h2 h3 h4

theorem Own.own {w' : World} {e size n : Nat} {v v' : Value} {xs ys : List Value} {m : Nat} (_h : Own w e size v n xs) (hb : v'.ownBlock = v.ownBlock ∨ v'.ownBlock = some w.heap.size) (_h' : Own w' e size v' m ys) {B : Nat} (hB : ∀ g, v.ownBlock = some g → B ≤ g) (hw : B ≤ w.heap.size) : ∀ g, v'.ownBlock = some g → B ≤ g := by
  intro g hg
  rcases hb with hb | hb
  · exact hB g (hb ▸ hg)
  · rw [hb] at hg; cases hg; exact hw

/-- make: so many noughts. -/
theorem r_make {t e : TypeId} {size bytes : Nat} {z : Value} (ht : P.underlying t = some (.slice e)) (he : El P e size bytes z) (kl kc : IntKind) (n : Nat) (hb : bytes * n ≤ 281474976710656) (h63 : n ≤ maxLen)
    (k : ∀ w', Own w' e size (.slice (some ⟨w.heap.size, 0, none⟩) n n) n (madeCells z.cells (n * size)).toList → Qt w w' → K (.slice (some ⟨w.heap.size, 0, none⟩) n n) w') :
    run P (Instr.makeSlice t (.int kl (n : Int)) (.int kc (n : Int))) K w := by
  obtain ⟨i, hi, hz, hs, hby, hzs⟩ := he.get
  subst hby
  obtain ⟨w', hr, h1, h2⟩ := run_make_full (P := P) w 0 t e i z size ht hi hz hs kl kc n hb h63 (Nat.zero_le _)
  rw [run_of hr]
  exact k w' (.of_rows h1) (.of_grown h2 (fun g _ hg => by cases hg))

theorem p_sl {t e : TypeId} (h : P.underlying t = some (.slice e)) {v : Value} {lo hi mx : Option Value} {u : Value} (hs : ∀ w, (Instr.slice t v lo hi mx).run P w = .ok u w) (w : World) : (Instr.sliceAt t v lo hi mx).run P w = .ok u w := by
  have he : P.elem t = e := by simp [Program.elem, h]
  rw [run_sliceAt_slice w t v lo hi mx (by rw [he]; exact h)]
  exact hs w

section
variable {t e : TypeId} {n : Nat} {b o len cap : Nat}
theorem p_sliceSl {a : Option Addr} {lo hi mx : Option Value} {l h m : Nat} (ht : SliceT P t e n) (hb : ∀ w, (Instr.sliceBounds true len cap lo hi mx).run P w = .ok (l, h, m) w) (w : World) :
    (Instr.sliceAt t (.slice a len cap) lo hi mx).run P w = .ok (sliced a l h m n) w := by
  have he : P.elem t = e := by simp [Program.elem, ht.und]
  have hu : P.underlying t = some (.slice (P.elem t)) := by rw [he]; exact ht.und
  rw [run_sliceAt_slice w t _ lo hi mx hu, run_slice_any w t a len cap hu, hb w]
  simp [Result.andThen, he, ht.size w]
theorem sliced_at {l h m : Nat} (hm : l < m) : sliced (some ⟨b, o, none⟩) l h m n = .slice (some ⟨b, o + l * n, none⟩) (h - l) (m - l) := by
  have : m ≠ l := by omega
  simp [sliced, this, add_mk]
theorem sliced_end {a : Option Addr} {h m : Nat} : sliced a m h m n = .slice a (h - m) 0 := by simp [sliced]
theorem p_sl_lh {a : Option Addr} {l h : Int} (ht : SliceT P t e n) (h0 : 0 ≤ l) (h1 : l ≤ h) (h2 : h ≤ cap) (w : World) :
    (Instr.sliceAt t (.slice a len cap) (some (int l)) (some (int h)) none).run P w = .ok (sliced a l.toNat h.toNat cap n) w :=
  p_sliceSl ht (fun w => by
    have h4 : 0 ≤ h := by omega
    have h3 : l ≤ max h 0 := by omega
    simp [Instr.sliceBounds, Instr.sliceBound, asIntOf, go_sem, h0, h2, h4, h3]) w
theorem p_sl_h {a : Option Addr} {h : Int} (ht : SliceT P t e n) (h1 : 0 ≤ h) (h2 : h ≤ cap) (w : World) :
    (Instr.sliceAt t (.slice a len cap) none (some (int h)) none).run P w = .ok (sliced a 0 h.toNat cap n) w :=
  p_sliceSl ht (fun w => by simp [Instr.sliceBounds, Instr.sliceBound, asIntOf, go_sem, h1, h2]) w
theorem p_sl_l {a : Option Addr} {l : Int} (ht : SliceT P t e n) (h0 : 0 ≤ l) (h1 : l ≤ len) (w : World) :
    (Instr.sliceAt t (.slice a len cap) (some (int l)) none none).run P w = .ok (sliced a l.toNat len cap n) w :=
  p_sliceSl ht (fun w => by simp [Instr.sliceBounds, Instr.sliceBound, asIntOf, go_sem, h0, h1]) w
theorem p_sl_lhm {a : Option Addr} {l h m : Int} (ht : SliceT P t e n) (h0 : 0 ≤ l) (h1 : l ≤ h) (h2 : h ≤ m) (h3 : m ≤ cap) (w : World) :
    (Instr.sliceAt t (.slice a len cap) (some (int l)) (some (int h)) (some (int m))).run P w = .ok (sliced a l.toNat h.toNat m.toNat n) w :=
  p_sliceSl ht (fun w => by
    have e1 : 0 ≤ h := by omega
    have e2 : 0 ≤ m := by omega
    have e3 : h ≤ max m 0 := by omega
    have e4 : l ≤ max h 0 := by omega
    simp [Instr.sliceBounds, Instr.sliceBound, asIntOf, go_sem, h0, h3, e1, e2, e3, e4]) w
end

/-! ### Maps by whole numbers -/
open Classical in
noncomputable def mget : List MapEntry → Int → Option Value
  | [], _ => none
  | e :: es, k => if e.key = .int .i64 k then some e.val else mget es k

/-- A map whose keys are ints is this function. -/
def MapI (o : Option Obj) (f : Int → Option Value) : Prop :=
  ∃ es clock, o = some (.map es clock) ∧ (∀ x ∈ es.toList, ∃ k, x.key = .int .i64 k) ∧ ∀ k, mget es.toList k = f k

theorem findNow_int {k : Int} : ∀ (es : List MapEntry) (i : Nat), (∀ x ∈ es, ∃ k, x.key = .int .i64 k) →
    (mget es k = none ∧ Instr.findNow (.int .i64) (int k) es i = some none) ∨
    ∃ j x, es[j]? = some x ∧ x.key = .int .i64 k ∧ mget es k = some x.val ∧ Instr.findNow (.int .i64) (int k) es i = some (some (i + j, x.val)) ∧ ∀ j', j' < j → ∀ y, es[j']? = some y → y.key ≠ .int .i64 k := by
  intro es
  induction es with
  | nil => intro i _; exact .inl ⟨rfl, rfl⟩
  | cons x es ih =>
    intro i h
    obtain ⟨k', hk'⟩ := h x (by simp)
    by_cases e : k' = k
    · subst e
      exact .inr ⟨0, x, rfl, hk', by simp [mget, hk'], by simp [Instr.findNow, Instr.sameNow, hk'], by omega⟩
    · have hne : x.key ≠ .int .i64 k := by rw [hk']; intro e'; cases e'; exact e rfl
      have e' : (k == k') = false := by simp; exact fun h => e h.symm
      rcases ih (i + 1) (fun y hy => h y (by simp [hy])) with ⟨h1, h2⟩ | ⟨j, y, h1, h2, h3, h4, h5⟩
      · exact .inl ⟨by simp [mget, hne, h1], by simp [Instr.findNow, Instr.sameNow, hk', e', h2]⟩
      · refine .inr ⟨j + 1, y, by simpa using h1, h2, by simp [mget, hne, h3], by simp [Instr.findNow, Instr.sameNow, hk', e', h4]; omega, ?_⟩
        intro j' hj' z hz
        cases j' with
        | zero => simp at hz; subst hz; exact hne
        | succ j' => exact h5 j' (by omega) z (by simpa using hz)

theorem mget_push {k k' : Int} {v : Value} {b : Nat} : ∀ (es : List MapEntry), mget (es ++ [{ key := int k, val := v, born := b }]) k' = (mget es k').or (if k = k' then some v else none)
  | [] => by simp [mget]
  | e :: es => by
    simp only [List.cons_append, mget]
    split
    · rfl
    · exact mget_push es
theorem mget_mod {k k' : Int} {v : Value} {x : MapEntry} : ∀ (es : List MapEntry) (j : Nat), es[j]? = some x → x.key = int k → (∀ j', j' < j → ∀ y, es[j']? = some y → y.key ≠ int k) →
    mget (es.modify j fun e => { e with key := int k, val := v }) k' = if k = k' then some v else mget es k'
  | [], j, h, _, _ => by simp at h
  | e :: es, 0, h, hk, _ => by
    simp at h; subst h
    by_cases e' : k = k'
    · subst e'; simp [mget]
    · simp [mget, e', hk]
  | e :: es, j + 1, h, hk, hn => by
    have h0 := hn 0 (by omega) e rfl
    have ih := mget_mod (k' := k') (v := v) es j (by simpa using h) hk (fun j' hj' y hy => hn (j' + 1) (by omega) y (by simpa using hy))
    simp only [List.modify_succ_cons, mget, ih]
    by_cases e' : k = k'
    · subst e'; simp [h0]
    · simp [e']

theorem checkKey_int {b : Bool} {n : Nat} {t : TypeId} (ht : P.underlying t = some (.int .i64)) {k : Int} (w : World) : (Instr.checkKey b (n + 1) t (int k)).run P w = .ok () w := by
  simp [Instr.checkKey, run_underlying ht]

theorem r_getObj {r : Nat} {o : Obj} (h : w.heap[r]? = some o) (hc : o.isCells = false := by rfl) : (getObj r).run P w = .ok o w := by cases o <;> first | (simp [getObj, Sem.run, h]; done) | cases hc
theorem r_setObj {r : Nat} {o o' : Obj} (h : w.heap[r]? = some o) (hc : o.isCells = false := by rfl) : (setObj r o').run P w = .ok () (w.putObj r o') := by cases o <;> first | (simp [setObj, Sem.run, h, World.putObj]; done) | cases hc

theorem r_makeMap {t : TypeId} : (Instr.makeMap t none).run P w = .ok (.map (some w.heap.size)) (w.alloc (.map #[] 0)) := rfl
theorem MapI.new : MapI (some (.map #[] 0)) (fun _ => none) := ⟨#[], 0, rfl, by simp, fun _ => rfl⟩

theorem r_lookup {t kt et : TypeId} {z : Value} (ht : P.underlying t = some (.map kt et)) (hk : P.underlying kt = some (.int .i64)) (hz : ∀ w, (zeroValue et).run P w = .ok z w) {b : Nat} {f : Int → Option Value} (h : MapI (w.heap[b]?) f) {k : Int} :
    (Instr.lookup t (.map (some b)) (int k) true).run P w = .ok (.tuple #[(f k).getD z, .bool (f k).isSome]) w := by
  obtain ⟨es, clock, he, hi, hf⟩ := h
  simp only [Instr.lookup]
  rw [← hf k]
  rcases findNow_int (k := k) es.toList 0 hi with ⟨h1, h2⟩ | ⟨j, x, h1, h2, h3, h4, h5⟩
  · simp [run_underlying ht, run_underlying hk, go_sem, r_getObj he, r_setObj he, checkKey_int hk, Instr.findKey, h2, h1, hz]
  · simp [run_underlying ht, run_underlying hk, go_sem, r_getObj he, r_setObj he, checkKey_int hk, Instr.findKey, h4, h3]

theorem r_mapSet {t kt et : TypeId} (ht : P.underlying t = some (.map kt et)) (hk : P.underlying kt = some (.int .i64)) {b : Nat} {f : Int → Option Value} (h : MapI (w.heap[b]?) f) {k : Int} {v : Value} :
    ∃ es clock, (Instr.mapUpdate t (.map (some b)) (int k) v).run P w = .ok () (w.putObj b (.map es clock)) ∧ MapI (some (.map es clock)) (fun k' => if k = k' then some v else f k') := by
  obtain ⟨es, clock, he, hi, hf⟩ := h
  simp only [Instr.mapUpdate]
  rcases findNow_int (k := k) es.toList 0 hi with ⟨h1, h2⟩ | ⟨j, x, h1, h2, h3, h4, h5⟩
  · refine ⟨es.push { key := int k, val := v, born := clock }, clock + 1, ?_, ?_⟩
    · simp [run_underlying ht, run_underlying hk, go_sem, r_getObj he, r_setObj he, checkKey_int hk, Instr.findKey, h2]
    · refine ⟨_, _, rfl, ?_, fun k' => ?_⟩
      · intro x hx
        simp at hx
        rcases hx with hx | rfl
        · exact hi x (by simpa using hx)
        · exact ⟨k, rfl⟩
      · simp only [Array.toList_push]
        rw [mget_push, hf]
        have := hf k
        rw [h1] at this
        by_cases e : k = k'
        · subst e; simp [← this]
        · simp [e]
  · have hx : es[j]? = some x := by simpa using h1
    refine ⟨es.modify j fun e => { e with key := int k, val := v }, clock, ?_, ?_⟩
    · simp [run_underlying ht, run_underlying hk, go_sem, r_getObj he, r_setObj he, checkKey_int hk, Instr.findKey, h4, Instr.keyThatStays, hx, h2, Instr.sameBits]
    · refine ⟨_, _, rfl, ?_, fun k' => ?_⟩
      · intro y hy
        rw [Array.toList_modify] at hy
        obtain ⟨i, hi', rfl⟩ := List.mem_iff_getElem.1 hy
        rw [List.getElem_modify]
        split
        · exact ⟨k, rfl⟩
        · exact hi _ (List.getElem_mem _)
      · rw [Array.toList_modify, mget_mod es.toList j h1 h2 h5, hf]
end Go.Sx
end

section
/- Steps by instances: a tactic that walks. -/
set_option linter.unusedVariables false
namespace Go.Sx
open Go Go.RowKit

variable {P : Program} {K : Value → World → Prop} {w : World}

class PlainC (P : Program) (t : TypeId) : Prop where get : Plain P t
class AggC (P : Program) (t : TypeId) (n : outParam Nat) : Prop where get : Agg P t n
class SliceC (P : Program) (t : TypeId) (e n : outParam Nat) : Prop where get : SliceT P t e n
class FieldC (P : Program) (s : TypeId) (i : Nat) (off : outParam Nat) : Prop where get : ∀ (b o : Nat) (w : World), (Instr.fieldAt s (.pointer (some ⟨b, o, none⟩)) i).run P w = .ok (.pointer (some ⟨b, o + off, none⟩)) w
class StrC (P : Program) (t : TypeId) : Prop where get : P.underlying t = some .string
class IntC (P : Program) (t : TypeId) (k : outParam IntKind) : Prop where get : P.underlying t = some (.int k)
class MapC (P : Program) (t : TypeId) (k e : outParam Nat) : Prop where get : P.underlying t = some (.map k e)
class ZeroC (P : Program) (t : TypeId) (z : outParam Value) : Prop where get : ∀ w : World, (zeroValue t).run P w = .ok z w
class ElC (P : Program) (e : TypeId) (size bytes : outParam Nat) (z : outParam Value) : Prop where get : El P e size bytes z

class CellsC (v : Value) (l : outParam (List Value)) : Prop where get : v.cells = l.toArray
instance (l : List Value) : CellsC (.agg l.toArray) l := ⟨rfl⟩
instance (k : IntKind) (n : Int) : CellsC (.int k n) [.int k n] := ⟨rfl⟩
instance (b : Bool) : CellsC (.bool b) [.bool b] := ⟨rfl⟩
instance (l : List UInt8) : CellsC (str l) [str l] := ⟨rfl⟩
instance (l : ByteArray) : CellsC (.string l) [.string l] := ⟨rfl⟩
instance (p : Option Addr) : CellsC (.pointer p) [.pointer p] := ⟨rfl⟩
instance (a : Option Addr) (n c : Nat) : CellsC (.slice a n c) [.slice a n c] := ⟨rfl⟩
instance (m : Option Nat) : CellsC (.map m) [.map m] := ⟨rfl⟩
instance (f : Fn) (a b : Array Value) : CellsC (.func f a b) [.func f a b] := ⟨rfl⟩
instance : CellsC .nilFunc [.nilFunc] := ⟨rfl⟩

def isPtr (P : Program) (t : TypeId) : Bool := match P.underlying t with | some (.pointer _) => true | _ => false
def isFun (P : Program) (t : TypeId) : Bool := match P.underlying t with | some (.func _ _ _) => true | _ => false
class PtrC (P : Program) (t : TypeId) : Prop where is : isPtr P t = true
class FuncC (P : Program) (t : TypeId) : Prop where is : isFun P t = true
theorem PtrC.get {P : Program} {t : TypeId} (h : PtrC P t) : ∃ d, P.underlying t = some (.pointer d) := by
  have := h.is
  unfold isPtr at this
  split at this
  · rename_i d e; exact ⟨_, e⟩
  · cases this
theorem FuncC.get {P : Program} {t : TypeId} (h : FuncC P t) : ∃ a b c, P.underlying t = some (.func a b c) := by
  have := h.is
  unfold isFun at this
  split at this
  · rename_i e; exact ⟨_, _, _, e⟩
  · cases this
class BoolC (P : Program) (t : TypeId) : Prop where get : P.underlying t = some .bool

theorem run_i {s : Sem Value} {v : Value} {w' : World} (h : s.run P w = .ok v w') (k : K v w') : run P s K w := by rw [run_of h]; exact k
theorem runU_i {s : Sem Unit} {K : World → Prop} {u : Unit} {w' : World} (h : s.run P w = .ok u w') (k : K w') : runU P s K w := by rw [runU_of h]; exact k
theorem rn_i {M : World → Prop} {s : Sem Value} {v : Value} (h : ∀ w', M w' → s.run P w' = .ok v w') (k : K v w) : rn P M s K w := ⟨v, h, k⟩
theorem rnT_i {s : Sem Value} {v : Value} (h : ∀ w, s.run P w = .ok v w) (k : K v w) : rn P (fun _ => True) s K w := ⟨v, fun w _ => h w, k⟩
theorem rnR_i {s : Sem Value} {v : Value} (h : s.run P w = .ok v w) (k : K v w) : rn P (fun w' => w' = w) s K w := by rw [rnR_of h]; exact k
theorem rnD_i {s : Sem Value} {v : Value} (h : s.run P w.drew = .ok v w.drew) (k : K v w) : rn P (fun w' => w' = w.drew) s K w := ⟨v, fun w' e => by rw [e]; exact h, k⟩
theorem cnd_i {b : Bool} {A B : Prop} (h1 : b = true → A) (h2 : b = false → B) : cnd (.bool b) A B := by
  cases b
  · exact h2 rfl
  · exact h1 rfl
theorem cnd_dec {p : Prop} [Decidable p] {A B : Prop} (h1 : p → A) (h2 : ¬ p → B) : cnd (.bool (decide p)) A B := cnd_i (fun h => h1 (of_decide_eq_true h)) (fun h => h2 (of_decide_eq_false h))
theorem cnd_not {p : Prop} [Decidable p] {A B : Prop} (h1 : ¬ p → A) (h2 : p → B) : cnd (.bool (!decide p)) A B := cnd_i (fun h => h1 (by simpa using h)) (fun h => h2 (by simpa using h))

section
variable {b o len cap n e off : Nat} {t : TypeId}
theorem s_field [h : FieldC P t n off] {w : World} : (Instr.fieldAt t (.pointer (some ⟨b, o, none⟩)) n).run P w = .ok (.pointer (some ⟨b, o + off, none⟩)) w := h.get _ _ _
theorem s_load [ht : PlainC P t] {v : Value} (h : cellAt (w.heap[b]?) o = some v) : (Instr.loadAt t (.pointer (some ⟨b, o, none⟩))).run P w = .ok v w := r_load ht.get h
theorem s_loadS [ht : PlainC P t] {v : Value} (h : cellAt (w.heap[b]?) o = some v) : (loadS t (.pointer (some ⟨b, o, none⟩))).run P w = .ok v w := by
  have := r_load (w := w) ht.get h
  simp only [Instr.loadAt, Instr.sureAddr] at this
  simpa [loadS, asAddr] using this
theorem s_loadA [ht : AggC P t n] {l : List Value} {T : TypeId} {fz : Nat × Nat} (h : w.heap[b]? = some (.cells l.toArray T fz)) (hi : o + n ≤ l.length) : (Instr.loadAt t (.pointer (some ⟨b, o, none⟩))).run P w = .ok (.agg ((l.drop o).take n).toArray) w := r_load_agg ht.get h hi
theorem s_store [ht : PlainC P t] {l : List Value} {v : Value} {T : TypeId} (h : w.heap[b]? = some (.cells l.toArray T (0, 0))) (h1 : v.oneCell' = true) (hi : o < l.length) : (Instr.storeAt t (.pointer (some ⟨b, o, none⟩)) v).run P w = .ok () (w.putObj b (.cells (l.set o v).toArray T (0, 0))) := r_store1 ht.get h h1 hi
theorem s_storeA [ht : AggC P t n] {l vs : List Value} {T : TypeId} (h : w.heap[b]? = some (.cells l.toArray T (0, 0))) (hn : vs.length = n) (h1 : ∀ v ∈ vs, v.oneCell' = true) (hi : o + n ≤ l.length) :
    (Instr.storeAt t (.pointer (some ⟨b, o, none⟩)) (.agg vs.toArray)).run P w = .ok () (w.putObj b (.cells (l.take o ++ vs ++ l.drop (o + n)).toArray T (0, 0))) := r_store ht.get.size h rfl hn h1 hi
theorem s_extract {l : List Value} {i : Nat} {v : Value} (h : l[i]? = some v) {w : World} : (Instr.extract (.tuple l.toArray) i).run P w = .ok v w := p_extract (by simpa using h) w
theorem s_alloc {z : Value} {l : List Value} [h : ZeroC P t z] [hz : CellsC z l] : (Instr.alloc t true (.tuple #[])).run P w = .ok (.pointer (some ⟨w.heap.size, 0, none⟩)) (w.alloc (.cells l.toArray t)) := by rw [← hz.get]; exact r_alloc h.get
theorem s_box {e : TypeId} {v : Value} {l : List Value} [hz : CellsC v l] : (Instr.box e v).run P w = .ok (.pointer (some ⟨w.heap.size, 0, none⟩)) (w.alloc (.cells l.toArray e)) := by rw [← hz.get]; exact r_box
theorem s_storeW [ht : AggC P t n] {l vs : List Value} {T : TypeId} (h : w.heap[b]? = some (.cells l.toArray T (0, 0))) (hn : vs.length = n) (h1 : ∀ v ∈ vs, v.oneCell' = true) (hi : l.length = n) :
    (Instr.storeAt t (.pointer (some ⟨b, 0, none⟩)) (.agg vs.toArray)).run P w = .ok () (w.putObj b (.cells vs.toArray T (0, 0))) := by
  have := s_storeA (P := P) (w := w) (t := t) (o := 0) h hn h1 (by omega)
  rw [this]
  have e : l.drop (0 + n) = [] := by rw [List.drop_eq_nil_iff]; omega
  rw [e]; simp
theorem s_index [h : SliceC P t e n] {i : Int} (h0 : 0 ≤ i) (h1 : i < len) {w : World} : (Instr.indexAt t (.slice (some ⟨b, o, none⟩) len cap) (int i)).run P w = .ok (.pointer (some ⟨b, o + i.toNat * n, none⟩)) w := p_index h.get h0 h1 w
theorem s_len_sl [h : SliceC P t e n] {ty : TypeId} {a : Option Addr} {w : World} : (Builtin.len_ #[t] ty #[.slice a len cap]).run P w = .ok (int len) w := p_len_slice h.get w
theorem s_cap_sl [h : SliceC P t e n] {ty : TypeId} {a : Option Addr} {w : World} : (Builtin.cap_ #[t] ty #[.slice a len cap]).run P w = .ok (int cap) w := by
  have he : P.elem t = e := by simp [Program.elem, h.get.und]
  exact run_cap_slice w t ty a len cap (by rw [he]; exact h.get.und)
theorem s_len_str [h : StrC P t] {ty : TypeId} {l : List UInt8} {w : World} : (Builtin.len_ #[t] ty #[str l]).run P w = .ok (int l.length) w := p_len_str h.get w
theorem s_index_str [h : StrC P t] {l : List UInt8} {i : Int} (h0 : 0 ≤ i) (h1 : i < l.length) {w : World} : (Instr.index t (str l) (int i)).run P w = .ok (.int .u8 ((l.getD i.toNat 0).toNat : Int)) w := p_index_str h.get h0 h1 w
theorem s_str_lh [h : StrC P t] {l : List UInt8} {i j : Int} (h0 : 0 ≤ i) (h1 : i ≤ j) (h2 : j ≤ l.length) {w : World} : (Instr.sliceAt t (str l) (some (int i)) (some (int j)) none).run P w = .ok (str ((l.drop i.toNat).take (j.toNat - i.toNat))) w := p_slice_str h.get h0 h1 h2 w
theorem s_str_h [h : StrC P t] {l : List UInt8} {j : Int} (h1 : 0 ≤ j) (h2 : j ≤ l.length) {w : World} : (Instr.sliceAt t (str l) none (some (int j)) none).run P w = .ok (str (l.take j.toNat)) w := p_slice_to h.get h1 h2 w
theorem s_str_l [h : StrC P t] {l : List UInt8} {i : Int} (h1 : 0 ≤ i) (h2 : i ≤ l.length) {w : World} : (Instr.sliceAt t (str l) (some (int i)) none none).run P w = .ok (str (l.drop i.toNat)) w := p_slice_from h.get h1 h2 w
theorem s_conv {s d : TypeId} {k k' : IntKind} [hs : IntC P s k] [hd : IntC P d k'] {a : Int} {w : World} : (convert s d (.int k a)).run P w = .ok (.int k' (k'.wrap a)) w := p_conv hs.get hd.get w
theorem s_lookup {kt et : TypeId} {z : Value} [ht : MapC P t kt et] [hk : IntC P kt .i64] [hz : ZeroC P et z] {f : Int → Option Value} (h : MapI (w.heap[b]?) f) {k : Int} : (Instr.lookup t (.map (some b)) (int k) true).run P w = .ok (.tuple #[(f k).getD z, .bool (f k).isSome]) w := r_lookup ht.get hk.get hz.get h
theorem eq_of {x y : Value} {r : Bool} (h : ∀ (d : Nat) (w : World), (Op.equalIn (d + 1) t x y).run P w = .ok r w) (w : World) :
    (do pure (Value.bool (← Op.equal t x y)) : Sem Value).run P w = .ok (.bool r) w := by
  have hb := Sem.run_bind P w (Op.equal t x y) (fun b => (pure (Value.bool b) : Sem Value))
  have h1 : (Op.equal t x y).run P w = .ok r w := h 9999 w
  rw [h1] at hb
  exact hb
theorem ne_of {x y : Value} {r : Bool} (h : ∀ (d : Nat) (w : World), (Op.equalIn (d + 1) t x y).run P w = .ok r w) (w : World) :
    (do pure (Value.bool (!(← Op.equal t x y))) : Sem Value).run P w = .ok (.bool (!r)) w := by
  have hb := Sem.run_bind P w (Op.equal t x y) (fun b => (pure (Value.bool (!b)) : Sem Value))
  have h1 : (Op.equal t x y).run P w = .ok r w := h 9999 w
  rw [h1] at hb
  exact hb
theorem eqIn_ptr [h : PtrC P t] {x : Option Addr} (d : Nat) (w : World) : (Op.equalIn (d + 1) t (.pointer x) (.pointer none)).run P w = .ok x.isNone w := by
  obtain ⟨e, hd⟩ := h.get
  cases x <;> simp [Op.equalIn, run_underlying hd]
theorem eqIn_func [h : FuncC P t] {f : Fn} {a b : Array Value} (d : Nat) (w : World) : (Op.equalIn (d + 1) t (.func f a b) .nilFunc).run P w = .ok false w := by
  obtain ⟨d1, e, g, hd⟩ := h.get
  simp [Op.equalIn, run_underlying hd]
theorem eqIn_funcN [h : FuncC P t] (d : Nat) (w : World) : (Op.equalIn (d + 1) t .nilFunc .nilFunc).run P w = .ok true w := by
  obtain ⟨d1, e, g, hd⟩ := h.get
  simp [Op.equalIn, run_underlying hd]
theorem eqIn_bool [h : BoolC P t] {x y : Bool} (d : Nat) (w : World) : (Op.equalIn (d + 1) t (.bool x) (.bool y)).run P w = .ok (x == y) w := run_equalIn_bool w d t x y h.get
theorem s_ptr_eql [h : PtrC P t] {x : Option Addr} {c : Bool} {w : World} : (binS .eql t c (.pointer x) (.pointer none)).run P w = .ok (.bool x.isNone) w :=
  p_bin (fun _ => rfl) (fun w => eq_of eqIn_ptr w) w
theorem s_ptr_neq [h : PtrC P t] {x : Option Addr} {c : Bool} {w : World} : (binS .neq t c (.pointer x) (.pointer none)).run P w = .ok (.bool !x.isNone) w :=
  p_bin (fun _ => rfl) (fun w => ne_of eqIn_ptr w) w
theorem s_fun_eql [h : FuncC P t] {f : Fn} {a b : Array Value} {c : Bool} {w : World} : (binS .eql t c (.func f a b) .nilFunc).run P w = .ok (.bool false) w :=
  p_bin (fun _ => rfl) (fun w => eq_of eqIn_func w) w
theorem s_fun_nil [h : FuncC P t] {c : Bool} {w : World} : (binS .eql t c .nilFunc .nilFunc).run P w = .ok (.bool true) w :=
  p_bin (fun _ => rfl) (fun w => eq_of eqIn_funcN w) w
theorem s_bool_eql [h : BoolC P t] {x y : Bool} {c : Bool} {w : World} : (binS .eql t c (.bool x) (.bool y)).run P w = .ok (.bool (x == y)) w :=
  p_bin (fun _ => rfl) (fun w => eq_of eqIn_bool w) w
theorem s_bool_neq [h : BoolC P t] {x y : Bool} {c : Bool} {w : World} : (binS .neq t c (.bool x) (.bool y)).run P w = .ok (.bool (x != y)) w :=
  p_bin (fun _ => rfl) (fun w => ne_of eqIn_bool w) w
end

theorem lt_put {b k : Nat} {o : Obj} (h : k < w.heap.size) : k < (w.putObj b o).heap.size := by rw [sz_put]; exact h
theorem lt_alloc {k : Nat} {o : Obj} (h : k < w.heap.size) : k < (w.alloc o).heap.size := by rw [sz_alloc]; omega
theorem lt_alloc_new {o : Obj} : w.heap.size < (w.alloc o).heap.size := by rw [sz_alloc]; omega
theorem put_other {b k : Nat} {o o' : Obj} (h : w.heap[k]? = some o) (hk : k ≠ b) : (w.putObj b o').heap[k]? = some o := (hp_put_other hk).trans h
theorem drew_at {k : Nat} {o : Obj} (h : w.heap[k]? = some o) : w.drew.heap[k]? = some o := h
theorem cellAt_i {k i : Nat} {c : Array Value} {T : TypeId} {fz : Nat × Nat} {v : Value} (h : w.heap[k]? = some (.cells c T fz)) (hv : c[i]? = some v) : cellAt (w.heap[k]?) i = some v := by rw [h]; exact hv

theorem cellAt_l {k i : Nat} {l : List Value} {T : TypeId} {fz : Nat × Nat} {v : Value} (h : w.heap[k]? = some (.cells l.toArray T fz)) (hv : l[i]? = some v) : cellAt (w.heap[k]?) i = some v := by rw [h]; simpa [cellAt] using hv

theorem str_lit (l : List UInt8) : Value.string { data := l.toArray } = str l := rfl
theorem gc_tt {A B : Prop} : gcond (.bool true) true A B = A := rfl
theorem gc_tf {A B : Prop} : gcond (.bool true) false A B = B := rfl
theorem gc_ft {A B : Prop} : gcond (.bool false) true A B = B := rfl
theorem gc_ff {A B : Prop} : gcond (.bool false) false A B = A := rfl
theorem pk_t {x y : Value} {K : Value → World → Prop} {w : World} : pickV (.bool true) x y K w = K x w := rfl
theorem pk_f {x y : Value} {K : Value → World → Prop} {w : World} : pickV (.bool false) x y K w = K y w := rfl
theorem cn_t {A B : Prop} : cnd (.bool true) A B = A := rfl
theorem cn_f {A B : Prop} : cnd (.bool false) A B = B := rfl
theorem gc_tti {A B : Prop} (h : A) : gcond (.bool true) true A B := h
theorem gc_tfi {A B : Prop} (h : B) : gcond (.bool true) false A B := h
theorem gc_fti {A B : Prop} (h : B) : gcond (.bool false) true A B := h
theorem gc_ffi {A B : Prop} (h : A) : gcond (.bool false) false A B := h
theorem pk_ti {x y : Value} {K : Value → World → Prop} {w : World} (h : K x w) : pickV (.bool true) x y K w := h
theorem pk_fi {x y : Value} {K : Value → World → Prop} {w : World} (h : K y w) : pickV (.bool false) x y K w := h
theorem cn_ti {A B : Prop} (h : A) : cnd (.bool true) A B := h
theorem cn_fi {A B : Prop} (h : B) : cnd (.bool false) A B := h
theorem lv_i {K : World → Prop} (h : K w) : leaveW P [] K w := h
theorem tr_i {A : Prop} {w : World} (h : A) : (fun _ : World => True) w ∧ A := ⟨trivial, h⟩
/-- both sides of a question about p. -/
theorem gc_dec {p : Prop} [Decidable p] {A B : Bool → Prop} {x : Bool} (h1 : p → gcond (.bool true) x (A true) (B true)) (h2 : ¬ p → gcond (.bool false) x (A false) (B false)) : gcond (.bool (decide p)) x (A (decide p)) (B (decide p)) := by
  by_cases h : p
  · rw [decide_eq_true h]; exact h1 h
  · rw [decide_eq_false h]; exact h2 h

/-! ### steps whose questions are answered -/
section
variable {t : TypeId} {c : Bool} {k : IntKind} {a b : Int}
theorem wrapI {a : Int} (h0 : -9223372036854775808 ≤ a) (h1 : a < 9223372036854775808) : IntKind.i64.wrap a = a := by
  unfold IntKind.wrap; simp [IntKind.bits, IntKind.signed]; omega
theorem p_addI (h0 : -9223372036854775808 ≤ a + b) (h1 : a + b < 9223372036854775808) (w : World) : (binS .add t c (.int .i64 a) (.int .i64 b)).run P w = .ok (int (a + b)) w := by
  have := p_add (P := P) (t := t) (c := c) (k := .i64) (a := a) (b := b) w
  rw [wrapI h0 h1] at this; exact this
theorem p_subI (h0 : -9223372036854775808 ≤ a - b) (h1 : a - b < 9223372036854775808) (w : World) : (binS .sub t c (.int .i64 a) (.int .i64 b)).run P w = .ok (int (a - b)) w := by
  have := p_sub (P := P) (t := t) (c := c) (k := .i64) (a := a) (b := b) w
  rw [wrapI h0 h1] at this; exact this
theorem p_mulI (h0 : -9223372036854775808 ≤ a * b) (h1 : a * b < 9223372036854775808) (w : World) : (binS .mul t c (.int .i64 a) (.int .i64 b)).run P w = .ok (int (a * b)) w := by
  have := p_mul (P := P) (t := t) (c := c) (k := .i64) (a := a) (b := b) w
  rw [wrapI h0 h1] at this; exact this
theorem p_quoI (h0 : 0 ≤ a) (h1 : a < 9223372036854775808) (h : 0 < b) (w : World) : (binS .quo t c (.int .i64 a) (.int .i64 b)).run P w = .ok (int (a / b)) w := by
  have := p_quo (P := P) (t := t) (c := c) (k := .i64) (a := a) (b := b) (by omega) w
  have e : a.tdiv b = a / b := Int.tdiv_eq_ediv_of_nonneg h0
  have e1 : a / b ≤ a := Int.ediv_le_self _ h0
  have e2 : 0 ≤ a / b := Int.ediv_nonneg h0 (by omega)
  rw [e, wrapI (by omega) (by omega)] at this; exact this
theorem p_remI (h0 : 0 ≤ a) (h : 0 < b) (w : World) : (binS .rem t c (.int .i64 a) (.int .i64 b)).run P w = .ok (int (a % b)) w := by
  have := p_rem (P := P) (t := t) (c := c) (k := .i64) (a := a) (b := b) (by omega) w
  rw [Int.tmod_eq_emod_of_nonneg h0] at this; exact this
theorem p_lssT (h : a < b) (w : World) : (binS .lss t c (.int k a) (.int k b)).run P w = .ok (.bool true) w := by rw [p_lss, decide_eq_true h]
theorem p_lssF (h : ¬ a < b) (w : World) : (binS .lss t c (.int k a) (.int k b)).run P w = .ok (.bool false) w := by rw [p_lss, decide_eq_false h]
theorem p_leqT (h : a ≤ b) (w : World) : (binS .leq t c (.int k a) (.int k b)).run P w = .ok (.bool true) w := by rw [p_leq, decide_eq_true h]
theorem p_leqF (h : ¬ a ≤ b) (w : World) : (binS .leq t c (.int k a) (.int k b)).run P w = .ok (.bool false) w := by rw [p_leq, decide_eq_false h]
theorem p_gtrT (h : b < a) (w : World) : (binS .gtr t c (.int k a) (.int k b)).run P w = .ok (.bool true) w := by rw [p_gtr, decide_eq_true h]
theorem p_gtrF (h : ¬ b < a) (w : World) : (binS .gtr t c (.int k a) (.int k b)).run P w = .ok (.bool false) w := by rw [p_gtr, decide_eq_false h]
theorem p_geqT (h : b ≤ a) (w : World) : (binS .geq t c (.int k a) (.int k b)).run P w = .ok (.bool true) w := by rw [p_geq, decide_eq_true h]
theorem p_geqF (h : ¬ b ≤ a) (w : World) : (binS .geq t c (.int k a) (.int k b)).run P w = .ok (.bool false) w := by rw [p_geq, decide_eq_false h]
theorem p_eqlT (h : a = b) (w : World) : (binS .eql t c (.int k a) (.int k b)).run P w = .ok (.bool true) w := by rw [p_eql, decide_eq_true h]
theorem p_eqlF (h : ¬ a = b) (w : World) : (binS .eql t c (.int k a) (.int k b)).run P w = .ok (.bool false) w := by rw [p_eql, decide_eq_false h]
theorem p_neqT (h : ¬ a = b) (w : World) : (binS .neq t c (.int k a) (.int k b)).run P w = .ok (.bool true) w := by rw [p_neq, decide_eq_false h]; rfl
theorem p_neqF (h : a = b) (w : World) : (binS .neq t c (.int k a) (.int k b)).run P w = .ok (.bool false) w := by rw [p_neq, decide_eq_true h]; rfl
theorem s_convI {s d : TypeId} {k : IntKind} [hs : IntC P s k] [hd : IntC P d .i64] {a : Int} (h0 : -9223372036854775808 ≤ a) (h1 : a < 9223372036854775808) {w : World} : (convert s d (.int k a)).run P w = .ok (int a) w := by
  have := s_conv (P := P) (s := s) (d := d) (k := k) (k' := .i64) (a := a) (w := w)
  rw [wrapI h0 h1] at this; exact this
theorem s_convB {s d : TypeId} {k : IntKind} [hs : IntC P s k] [hd : IntC P d .u8] {a : Int} (h0 : 0 ≤ a) (h1 : a < 256) {w : World} : (convert s d (.int k a)).run P w = .ok (.int .u8 a) w := by
  have := s_conv (P := P) (s := s) (d := d) (k := k) (k' := .u8) (a := a) (w := w)
  have e : IntKind.u8.wrap a = a := by unfold IntKind.wrap; simp [IntKind.bits, IntKind.signed]; omega
  rw [e] at this; exact this
end
theorem put_other2 {b k : Nat} {o o' : Obj} (h : w.heap[k]? = some o) (hk : k < w.heap.size → k ≠ b) : (w.putObj b o').heap[k]? = some o := put_other h (hk (lt_of h))
theorem s_max {ts : Array TypeId} {ty : TypeId} {a b : Int} : (Builtin.max_ ts ty #[int a, int b]).run P w = .ok (int (max a b)) w := by
  have : (if b > a then b else a) = max a b := by split <;> omega
  simp [Builtin.max_, Builtin.max2, this, pure]
theorem s_min {ts : Array TypeId} {ty : TypeId} {a b : Int} : (Builtin.min_ ts ty #[int a, int b]).run P w = .ok (int (min a b)) w := by
  have : (if b < a then b else a) = min a b := by split <;> omega
  simp [Builtin.min_, Builtin.min2, this, pure]
end Go.Sx
end

section
/- Rows of cells: parts of them are written. -/
set_option linter.unusedVariables false
set_option linter.unusedSimpArgs false
namespace Go.Sx
open Go Go.RowKit
variable {P : Program} {K : Value → World → Prop} {w : World}

/-- A row whose cells from o on are others. -/
def upd' (l : List Value) (o : Nat) (vs : List Value) : List Value := l.take o ++ vs ++ l.drop (o + vs.length)

theorem upd'_len {l vs : List Value} {o : Nat} (h : o + vs.length ≤ l.length) : (upd' l o vs).length = l.length := by
  simp [upd']; omega
theorem upd'_get {l vs : List Value} {o k : Nat} (h : o + vs.length ≤ l.length) : (upd' l o vs)[k]? = if k < o then l[k]? else if k < o + vs.length then vs[k - o]? else l[k]? := by
  unfold upd'
  have e1 : (l.take o).length = o := by simp; omega
  by_cases h1 : k < o
  · rw [if_pos h1, List.append_assoc, List.getElem?_append_left (by omega), List.getElem?_take, if_pos h1]
  · rw [if_neg h1]
    by_cases h2 : k < o + vs.length
    · rw [if_pos h2, List.append_assoc, List.getElem?_append_right (by omega), e1, List.getElem?_append_left (by omega)]
    · rw [if_neg h2, List.append_assoc, List.getElem?_append_right (by omega), e1, List.getElem?_append_right (by omega), List.getElem?_drop]
      congr 1; omega

theorem r_storeCells {g o : Nat} {l vs : List Value} {e : TypeId} (h : w.heap[g]? = some (.cells l.toArray e (0, 0))) (hf : o + vs.length ≤ l.length) (h1 : ∀ v ∈ vs, v.oneCell' = true) :
    (storeCells ⟨g, o, none⟩ vs).run P w = .ok () (w.putObj g (.cells (upd' l o vs).toArray e (0, 0))) := by
  have hs := run_storeCells_at P g o e vs 0 l.toArray w h (by simpa using hf) h1
  simp only [Nat.add_zero] at hs
  rw [setRow_put h] at hs
  exact hs

/-- so many cells from a place on. -/
def CellsAt (w : World) (b o : Nat) (vs : List Value) : Prop := ∃ l T fz, w.heap[b]? = some (.cells (List.toArray l) T fz) ∧ (l.drop o).take vs.length = vs

theorem CellsAt.cell {b o : Nat} {vs : List Value} (h : CellsAt w b o vs) : ∀ j u, vs[j]? = some u → w.cell? ((⟨b, o, none⟩ : Addr).add j) = some u := by
  obtain ⟨l, T, fz, hl, ht⟩ := h
  intro j u hu
  rw [add_mk, cell_at, hl]
  rw [← ht, List.getElem?_take] at hu
  split at hu
  · rw [List.getElem?_drop] at hu
    simpa [cellAt] using hu
  · cases hu

theorem CellsAt.load {b o : Nat} {vs : List Value} (h : CellsAt w b o vs) {n : Nat} (hn : n = vs.length) : (loadCells ⟨b, o, none⟩ n).run P w = .ok vs.toArray w := by
  subst hn
  exact run_loadCells_list w ⟨b, o, none⟩ vs h.cell

theorem r_appendR {t e ty : TypeId} {size bytes : Nat} {z : Value} [ht : SliceC P t e size] [he : ElC P e size bytes z]
    {g n cap : Nat} {l : List Value} (hl : w.heap[g]? = some (.cells l.toArray e (0, 0))) {b o m c : Nat} {news : List Value} (hnews : CellsAt w b o news) (hm : news.length = m * size)
    (h1 : ∀ u ∈ news, u.oneCell' = true) (hroom : n + m ≤ cap) (hfit : n * size + news.length ≤ l.length) :
    (Builtin.append_ #[t, t] ty #[.slice (some ⟨g, 0, none⟩) n cap, .slice (some ⟨b, o, none⟩) m c]).run P w =
      .ok (.slice (some ⟨g, 0, none⟩) (n + m) cap) (w.putObj g (.cells (upd' l (n * size) news).toArray e (0, 0))) := by
  obtain ⟨i, hi, hz, hs, hby, hzs⟩ := he.get.get
  subst hs
  have := run_append_room (P := P) w t ty e i ht.get.und hi g n cap l.toArray hl ⟨b, o, none⟩ m c news hm hnews.cell h1 hroom (by simpa using hfit)
  rw [this, setRow_put hl]
  rfl

theorem r_copy {t t' e ty : TypeId} {size : Nat} [ht : SliceC P t e size] {g o dl dc : Nat} {l : List Value} (hl : w.heap[g]? = some (.cells l.toArray e (0, 0))) {b o' sl sc n : Nat} {cs : List Value}
    (hn : n = min sl dl) (hc : CellsAt w b o' cs) (hm : cs.length = n * size) (h1 : ∀ u ∈ cs, u.oneCell' = true) (hfit : o + cs.length ≤ l.length) :
    (Builtin.copy_ #[t, t'] ty #[.slice (some ⟨g, o, none⟩) dl dc, .slice (some ⟨b, o', none⟩) sl sc]).run P w = .ok (int n) (w.putObj g (.cells (upd' l o cs).toArray e (0, 0))) := by
  have h2 := hc.load (P := P) hm.symm
  have h3 := r_storeCells (P := P) (o := o) hl hfit h1
  have hmin : Nat.min sl dl = n := hn.symm
  simp [Builtin.copy_, run_underlying ht.get.und, Builtin.lenOf, Builtin.firstCells, ht.get.size w, hmin, h2, Result.andThen, h3, goInt]

theorem r_clear {t e ty : TypeId} {size bytes : Nat} {z : Value} [ht : SliceC P t e size] [he : ElC P e size bytes z] {g o n c : Nat} {l : List Value} (hl : w.heap[g]? = some (.cells l.toArray e (0, 0))) (hn : 0 < n)
    (h1 : ∀ u ∈ (Builtin.zeroCells z.cells n).toList, u.oneCell' = true) (hfit : o + n * size ≤ l.length) :
    (Builtin.clear_ #[t] ty #[.slice (some ⟨g, o, none⟩) n c]).run P w = .ok (.tuple #[]) (w.putObj g (.cells (upd' l o (Builtin.zeroCells z.cells n).toList).toArray e (0, 0))) := by
  obtain ⟨i, hi, hz, hs, hby, hzs⟩ := he.get.get
  have hlen : (Builtin.zeroCells z.cells n).toList.length = n * size := by simp [size_zeroCells, hzs]
  have h3 := r_storeCells (P := P) (o := o) hl (by omega) h1
  have hzv : ∀ w, (zeroValue e).run P w = .ok z w := fun w => by simp [zeroValue, typeInfo, hi, hz]
  obtain ⟨n, rfl⟩ : ∃ k, n = k + 1 := ⟨n - 1, by omega⟩
  simp only [Builtin.clear_]
  simp [run_underlying ht.get.und, hzv w, Result.andThen, h3]

theorem Own.pre {e size n cap g i : Nat} {xs : List Value} (h : Own w e size (.slice (some ⟨g, 0, none⟩) n cap) n xs) (hi : i ≤ n) : Own w e size (.slice (some ⟨g, 0, none⟩) i cap) i (xs.take (i * size)) := by
  obtain ⟨h0, ⟨hv, _⟩ | ⟨g', cap', rest, hv, h2, h3, h4, h5⟩⟩ := h
  · cases hv
  · cases hv
    have hle : i * size ≤ n * size := Nat.mul_le_mul_right _ hi
    refine ⟨by rw [List.length_take]; omega, .inr ⟨g, cap, xs.drop (i * size) ++ rest, rfl, ?_, by omega, h4, ?_⟩⟩
    · rw [← List.append_assoc, List.take_append_drop]; exact h2
    · rw [← List.append_assoc, List.take_append_drop]; exact h5

theorem r_appendMake {t it e ty : TypeId} {size bytes : Nat} {z : Value} {k : IntKind} [ht : SliceC P t e size] [hit : IntC P it k] [he : ElC P e size bytes z]
    {b o sLen sCap n : Nat} {olds : List Value} (ho : CellsAt w b o olds) (hlo : olds.length = sLen * size) (hg : sCap < sLen + n) (h63 : sLen + n ≤ 1000000000) (hb : bytes ≤ 1000) :
    ∃ cap L, (Builtin.append_ #[t, it] ty #[.slice (some ⟨b, o, none⟩) sLen sCap, int n]).run P w = .ok (.slice (some ⟨w.heap.size, 0, none⟩) (sLen + n) cap) (w.drew.alloc (.cells (List.toArray L) e)) ∧
      sLen + n ≤ cap ∧ cap ≤ maxLen ∧ L.length = cap * size ∧ L.take (sLen * size) = olds := by
  obtain ⟨i, hi, hz, hs, hby, hzs⟩ := he.get.get
  subst hs
  subst hby
  have hn : ¬ (sLen + n ≤ sCap) := by omega
  have h63' : ¬ (9223372036854775807 < ((sLen : Int) + (n : Int))) := by omega
  have hprod : (sLen + n) * i.bytes ≤ 140737488355328 := by
    have h1 := Nat.mul_le_mul h63 hb
    omega
  have hfit := growslice_fits (bytes := i.bytes) hg hprod
  have h48' : ¬ (281474976710656 < Builtin.nextslicecap (sLen + n) sCap * i.bytes) := by omega
  have hfo := run_firstCells_some (P := P) w.drew i.size sLen ⟨b, o, none⟩ sLen sCap olds hlo (by simpa using ho.cell)
  have hw : IntKind.i64.wrap (n : Int) = n := by
    unfold IntKind.wrap; simp [IntKind.bits, IntKind.signed]; omega
  have hnn : ¬ (281474976710656 : Int) < (n : Int) * (i.bytes : Int) := by
    have h1 : n * i.bytes ≤ (sLen + n) * i.bytes := Nat.mul_le_mul_right _ (by omega)
    have h2 : ((n * i.bytes : Nat) : Int) ≤ 140737488355328 := by omega
    rw [Int.natCast_mul] at h2
    omega
  have hai : ∀ w, (asIntOf (int n)).run P w = .ok (.i64, (n : Int)) w := fun _ => rfl
  have hneg : ¬ (n : Int) < 0 := by omega
  have hge := grownCap_ge w (sLen + n) sCap e
  refine ⟨grownCap w (sLen + n) sCap e, olds ++ ((if n * i.size = 0 then #[] else Builtin.zeroCells z.cells n).toList ++ (Builtin.zeroCells z.cells (grownCap w (sLen + n) sCap e - (sLen + n))).toList), ?_, hge, grownCap_le_maxLen w _ _ e (by simp [maxLen]; omega), ?_, ?_⟩
  · by_cases h0 : n * i.size = 0
    · simp [Builtin.append_, run_underlying ht.get.und, run_underlying hit.get, sizeOf, typeInfo, zeroValue, hi, hz, Builtin.lenOf, hn, h63', h48', Question.forced, hfo, newRow, grownCap, hw, hnn, h0, asInt, hai, hneg]
      congr 2
      apply Array.ext'
      simp [List.append_assoc]
    · simp [Builtin.append_, run_underlying ht.get.und, run_underlying hit.get, sizeOf, typeInfo, zeroValue, hi, hz, Builtin.lenOf, hn, h63', h48', Question.forced, hfo, newRow, grownCap, hw, hnn, h0, asInt, hai, hneg]
      congr 2
      apply Array.ext'
      simp [List.append_assoc]
  · simp only [List.length_append, Array.length_toList, size_zeroCells, hlo, hzs]
    split
    · rename_i h0
      have e0 : n * i.size = 0 := h0
      simp only [List.size_toArray, List.length_nil, Nat.zero_add]
      have : (grownCap w (sLen + n) sCap e) = sLen + n + (grownCap w (sLen + n) sCap e - (sLen + n)) := by omega
      generalize grownCap w (sLen + n) sCap e - (sLen + n) = q at this ⊢
      rw [this, Nat.add_mul, Nat.add_mul]; omega
    · simp only [size_zeroCells, hzs]
      have : (grownCap w (sLen + n) sCap e) = sLen + n + (grownCap w (sLen + n) sCap e - (sLen + n)) := by omega
      generalize grownCap w (sLen + n) sCap e - (sLen + n) = q at this ⊢
      rw [this, Nat.add_mul, Nat.add_mul]; omega
  · rw [← hlo, List.take_left]
end Go.Sx
end
