/-  Regions that draw their order: what has to be shown of one order. -/
import Derived.Test.YtkdjikplcliijaaGreatV4
namespace Go.Vd

/-- What an operation that only looks comes to, in state a and world W. -/
def StepNow (P : Program) (ops : Array Oper) (o : Oper) (a : Act) (W : World) (v : Value) : Prop :=
  (Region.wanted o (yielded ops a.tmps) = true ∧ (execOp a.eval o).run P W = .ok (.value v) W) ∨ (Region.wanted o (yielded ops a.tmps) = false ∧ v = undef)
/-- the same, whatever else is laid -/
def StepX (P : Program) (ops : Array Oper) (o : Oper) (a : Act) (w : World) (v : Value) : Prop := ∀ W', Ext w [] W' → StepNow P ops o a W' v
/-- behind operation i: those that have been done, and that i does not wait for, may as well come now -/
def ChkP (P : Program) (ops : Array Oper) (i : Nat) (dn : List Nat) (a : Act) (w : World) : Prop :=
  ∀ q ∈ dn, ∀ o d m, ops[q]? = some o → o.dst = some d → (masks ops.toList [])[i]? = some m → m.testBit q = false → StepX P ops o a w (a.tmps.getD d undef)
/-- an operation that lays the block ob -/
def laysB (P : Program) (o : Oper) (a : Act) (mk : Nat → Value) (ob : Obj) : Prop := ∀ W : World, (execOp a.eval o).run P W = .ok (.value (mk W.heap.size)) { W with heap := W.heap.push ob }

def GapStep (P : Program) (ops : Array Oper) (X : Exit → Act → World → Prop) (i : Nat) (dn : List Nat) (K : List Nat → Act → World → Prop) (a : Act) (w : World) : Prop :=
  ∃ o, ops[i]? = some o ∧ match cls o with
    | .q => ∃ d v, o.dst = some d ∧ d < a.tmps.size ∧ StepX P ops o a w v ∧ K (i :: dn) (a.put (some d) v) w
    | .a => ∃ d mk ob, o.dst = some d ∧ d < a.tmps.size ∧ laysB P o a mk ob ∧ K dn (a.put (some d) (mk w.heap.size)) { w with heap := w.heap.push ob }
    | .e => wpOp P ops X i (fun a' w' => ChkP P ops i dn a' w' ∧ K dn a' w') a w

def GapZ (P : Program) (ops : Array Oper) (X : Exit → Act → World → Prop) : List Nat → List Nat → Act → World → Prop
  | [], _, a, w => X .normal a w
  | i :: l, dn, a, w => GapStep P ops X i dn (fun dn a w => GapZ P ops X l dn a w) a w
/-- operation f has come up already, and has laid B -/
def GapF (P : Program) (ops : Array Oper) (X : Exit → Act → World → Prop) (f B : Nat) (ob : Obj) : List Nat → List Nat → Act → World → Prop
  | [], _, _, _ => False
  | i :: l, dn, a, w => (i = f ∧ ∀ o d mk, ops[f]? = some o → o.dst = some d → laysB P o a mk ob → GapZ P ops X l dn (a.put (some d) (mk B)) w) ∨
      (i ≠ f ∧ GapStep P ops X i dn (fun dn a w => GapF P ops X f B ob l dn a w) a w)
def GapN (P : Program) (ops : Array Oper) (X : Exit → Act → World → Prop) (f : Nat) : List Nat → List Nat → Act → World → Prop
  | [], _, _, _ => False
  | i :: l, dn, a, w => (i = f ∧ GapStep P ops X i dn (fun dn a w => GapZ P ops X l dn a w) a w) ∨
      (i ≠ f ∧ GapStep P ops X i dn (fun dn a w => GapN P ops X f l dn a w) a w ∧
        ((∀ o, ops[i]? = some o → (cls o).isQ = false) → ∀ o, ops[f]? = some o → waitsOut (i :: l) o.after.toList = true →
          ∃ d mk ob, o.dst = some d ∧ d < a.tmps.size ∧ (cls o).isA = true ∧ laysB P o a mk ob ∧ GapF P ops X f w.heap.size ob (i :: l) dn a { w with heap := w.heap.push ob }))
/-- all of it -/
def GapM (P : Program) (ops : Array Oper) (X : Exit → Act → World → Prop) : Option Nat → List Nat → List Nat → Act → World → Prop
  | none => GapZ P ops X
  | some f => GapN P ops X f

theorem Ext.push (w : World) (ob : Obj) : Ext w [] { w with heap := w.heap.push ob } :=
  ⟨rfl, rfl, rfl, by simp, fun b hb _ => by simp [Array.getElem?_push, Nat.ne_of_lt hb]⟩
theorem Ext.tr {w0 w1 w2 : World} (h1 : Ext w0 [] w1) (h2 : Ext w1 [] w2) : Ext w0 [] w2 :=
  ⟨h2.os.trans h1.os, h2.tape.trans h1.tape, h2.output.trans h1.output, Nat.le_trans h1.size h2.size, fun b hb hn => by
    rw [h2.block b (Nat.lt_of_lt_of_le hb h1.size) hn, h1.block b hb hn]⟩
theorem Ext.rfl' (w : World) : Ext w [] w := ⟨rfl, rfl, rfl, Nat.le_refl _, fun _ _ _ => rfl⟩
end Go.Vd
