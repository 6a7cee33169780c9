/-  The symbolic evaluator: values, states, evaluation of operations and code. -/
import Derived.Calls
import Derived.Orders
import Derived.Tactics
namespace Go.Vd
noncomputable section

/-- How much room is behind a slice's elements: a number, or what an append has left there. -/
inductive Ex where
  | lit (n : Nat)
  | sym (x : Nat)
def Ex.val : Ex → Nat
  | .lit n => n
  | .sym x => x

/-- A symbolic value. -/
inductive SV where
  | raw (x : Value)
  | it (k : IntKind) (n : Int)
  | tt | ff
  | bo (p : Bool)
  | str (x : ByteArray)
  | nilp
  | pt (bk c off : Nat)
  | pv (ad : Addr) (c : Nat) (ix : Int) (off : Nat)
  | nils
  | sl (A : Option Addr) (c : Nat) (len cap : Nat)
  | sc (bk c off len : Nat) (ex : Ex)
  | mp (bk c : Nat)
  | fn (f : FuncId) (caps : List SV)
  | nilf
  | agg (l : List SV)
  | tup (l : List SV)
  | ifc (t : TypeId) (x : SV)
  | nili
  | gd (j : Nat) (pol : Bool) (p : Bool) (x : SV)
  | und

mutual
def SV.den : SV → Value
  | .raw x => x
  | .it k n => .int k n
  | .tt => .bool true
  | .ff => .bool false
  | .bo p => .bool p
  | .str x => .string x
  | .nilp => .pointer none
  | .pt bk _ off => .pointer (some ⟨bk, off, none⟩)
  | .pv ad _ _ off => .pointer (some (ad.add off))
  | .nils => .slice none 0 0
  | .sl A _ len cap => .slice A len cap
  | .sc bk _ off len ex => .slice (some ⟨bk, off, none⟩) len (len + ex.val)
  | .mp bk _ => .map (some bk)
  | .fn f caps => .func (.func f) #[] (SV.dens caps).toArray
  | .nilf => .nilFunc
  | .agg l => .agg (SV.dens l).toArray
  | .tup l => .tuple (SV.dens l).toArray
  | .ifc t x => .iface t x.den
  | .nili => .nilIface
  | .gd _ pol p x => if p == pol then x.den else undef
  | .und => undef
def SV.dens : List SV → List Value
  | [] => []
  | x :: l => x.den :: SV.dens l
end

/-- Is it the value of one cell? (looked at by its shape alone) -/
def SV.one : SV → Bool
  | .agg _ | .tup _ | .raw _ | .gd .. | .und => false
  | _ => true

/-- A read-only view of memory: a family of rows of cells. -/
structure MV where
  ad : Int → Addr
  dom : Int → Prop
  rd : Int → List SV

/-- What a type is. -/
inductive TK where
  | plain
  | ptr
  | bl
  | int (k : IntKind)
  | struct (offs : List (Nat × Nat))
  | array (len es : Nat) (one : Bool)
  | slice (es et : Nat)
  | map (kt vt : Nat)
  | str
structure TI where
  size : Nat
  agg : Bool
  kind : TK
  zero : List SV
  bytes : Nat
  flat : Bool      -- a struct or array of ints and bools alone: compared cell by cell
  meths : List (String × Nat) := []   -- a pointer's methods

inductive BT where
  | nil
  | node (l : BT) (k : Nat) (v : TI) (r : BT)
def BT.find (T : BT) (t : Nat) : Option TI :=
  BT.rec (motive := fun _ => Option TI) none (fun _ k v _ l r => Bool.rec (motive := fun _ => Option TI) (Bool.rec (motive := fun _ => Option TI) r l (Nat.blt t k)) (some v) (Nat.beq t k)) T
theorem BT.find_nil {t : Nat} : BT.nil.find t = none := rfl
theorem BT.find_node {l r : BT} {k : Nat} {v : TI} {t : Nat} : (BT.node l k v r).find t = match Nat.beq t k with
    | true => some v
    | false => match Nat.blt t k with
      | true => l.find t
      | false => r.find t := by
  show Bool.rec (motive := fun _ => Option TI) (Bool.rec (motive := fun _ => Option TI) (r.find t) (l.find t) (Nat.blt t k)) (some v) (Nat.beq t k) = _
  cases Nat.beq t k <;> cases Nat.blt t k <;> rfl

/-- what is known of a block: its first cells, and how many there are behind; a map's entries -/
inductive Ch where
  | cells (l : List SV) (r : Nat)
  | map (l : List (SV × SV))
/-- chunks: key, block, what is known -/
abbrev Hp := List (Nat × Nat × Ch)
/-- what has to hold -/
inductive Sd where
  | eq (a b : Nat)
  | ei (a b : Int)
  | eb (a b : Bool)
  | pr (p : Prop)
  | node (r : Nat) (x y : Sd)
def Sd.holds : Sd → Prop
  | .eq a b => a = b
  | .ei a b => a = b
  | .eb a b => a = b
  | .pr p => p
  | .node _ x y => x.holds ∧ y.holds
def Sd.rank : Sd → Nat
  | .node r _ _ => r
  | _ => 0
abbrev Env := List (Nat × SV)
structure St where
  env : Env
  hp : Hp
  vs : List MV
  sides : List Sd
  nk : Nat

def look (env : Env) (t : Nat) : Option SV :=
  List.rec (motive := fun _ => Option SV) none (fun p _ ih => Bool.rec (motive := fun _ => Option SV) ih (Prod.rec (motive := fun _ => Option SV) (fun _ v => some v) p) (Nat.beq p.1 t)) env
theorem look_nil {t : Nat} : look [] t = none := rfl
theorem look_cons {k : Nat} {v : SV} {l : Env} {t : Nat} : look ((k, v) :: l) t = match Nat.beq k t with
    | true => some v
    | false => look l t := by
  show Bool.rec (motive := fun _ => Option SV) (look l t) (some v) (Nat.beq k t) = _
  cases Nat.beq k t <;> rfl

def constSV : Value → Option SV
  | .bool true => some .tt
  | .bool false => some .ff
  | .int k n => some (.it k n)
  | .pointer none => some .nilp
  | .slice none 0 0 => some .nils
  | .string s => some (.str s)
  | .nilFunc => some .nilf
  | .nilIface => some .nili
  | v => some (.raw v)

/-- what stands under the guard that holds -/
def ungdV (j' : Nat) (pol' : Bool) : Option SV → Option SV
  | some (.gd j pol p x) => match Nat.beq j j' && pol == pol' with
    | true => some x
    | false => some (.gd j pol p x)
  | r => r
def ev (env : Env) (gd : Option (Nat × Bool)) : Operand → Option SV
  | .const v => constSV v
  | .func f => some (.fn f [])
  | .global _ => none
  | .tmp t => match gd with
    | none => look env t
    | some (j', pol') => ungdV j' pol' (look env t)

def evs (env : Env) (gd : Option (Nat × Bool)) (l : List Operand) : Option (List SV) :=
  List.rec (motive := fun _ => Option (List SV)) (some []) (fun x _ ih => Option.rec (motive := fun _ => Option (List SV)) none (fun v => Option.rec (motive := fun _ => Option (List SV)) none (fun vs => some (v :: vs)) ih) (ev env gd x)) l
theorem evs_nil {env : Env} {gd : Option (Nat × Bool)} : evs env gd [] = some [] := rfl
theorem evs_cons {env : Env} {gd : Option (Nat × Bool)} {x : Operand} {l : List Operand} : evs env gd (x :: l) = match ev env gd x with
    | some v => match evs env gd l with
      | some vs => some (v :: vs)
      | none => none
    | none => none := by
  show Option.rec (motive := fun _ => Option (List SV)) none (fun v => Option.rec (motive := fun _ => Option (List SV)) none (fun vs => some (v :: vs)) (evs env gd l)) (ev env gd x) = _
  cases ev env gd x <;> first | rfl | (cases evs env gd l <;> rfl)

/-- n cells from place off on. -/
def takeN (n : Nat) (l : List SV) : Option (List SV) :=
  Nat.rec (motive := fun _ => List SV → Option (List SV)) (fun _ => some []) (fun _ ih l => List.rec (motive := fun _ => Option (List SV)) none (fun x l' _ => Option.rec (motive := fun _ => Option (List SV)) none (fun r => some (x :: r)) (ih l')) l) n l
theorem takeN_zero {l : List SV} : takeN 0 l = some [] := rfl
theorem takeN_cons {n : Nat} {x : SV} {l : List SV} : takeN (n + 1) (x :: l) = match takeN n l with
    | some r => some (x :: r)
    | none => none := by
  show Option.rec (motive := fun _ => Option (List SV)) none (fun r => some (x :: r)) (takeN n l) = _
  cases takeN n l <;> rfl
theorem takeN_nil {n : Nat} : takeN (n + 1) [] = none := rfl
def dropN (n : Nat) (l : List SV) : List SV :=
  Nat.rec (motive := fun _ => List SV → List SV) (fun l => l) (fun _ ih l => List.rec (motive := fun _ => List SV) [] (fun _ l' _ => ih l') l) n l
theorem dropN_zero {l : List SV} : dropN 0 l = l := rfl
theorem dropN_nil {n : Nat} : dropN (n + 1) [] = [] := rfl
theorem dropN_cons {n : Nat} {x : SV} {l : List SV} : dropN (n + 1) (x :: l) = dropN n l := rfl
/-- the cells of a value that is laid down -/
def SV.cells : SV → Option (List SV)
  | .agg l => some l
  | .raw _ | .tup _ | .gd .. | .und => none
  | v => some [v]
def allOne : List SV → Bool
  | [] => true
  | x :: l => match x.one with
    | true => allOne l
    | false => false
/-- put cells at a place -/
def putN : Nat → List SV → List SV → Option (List SV)
  | 0, [], l => some l
  | 0, v :: vs, _ :: l => match putN 0 vs l with
    | some r => some (v :: r)
    | none => none
  | 0, _ :: _, [] => none
  | n + 1, vs, x :: l => match putN n vs l with
    | some r => some (x :: r)
    | none => none
  | _ + 1, _, [] => none
def nth {α : Type} (l : List α) (n : Nat) : Option α :=
  List.rec (motive := fun _ => Nat → Option α) (fun _ => none) (fun x _ ih n => Nat.rec (motive := fun _ => Option α) (some x) (fun m _ => ih m) n) l n
theorem nth_nil {α : Type} {n : Nat} : nth ([] : List α) n = none := rfl
theorem nth_zero {α : Type} {x : α} {l : List α} : nth (x :: l) 0 = some x := rfl
theorem nth_succ {α : Type} {x : α} {l : List α} {n : Nat} : nth (x :: l) (n + 1) = nth l n := rfl
def getK (hp : Hp) (c : Nat) : Option (Nat × Ch) :=
  List.rec (motive := fun _ => Option (Nat × Ch)) none (fun p _ ih => Bool.rec (motive := fun _ => Option (Nat × Ch)) ih (Prod.rec (motive := fun _ => Option (Nat × Ch)) (fun _ q => some q) p) (Nat.beq p.1 c)) hp
theorem getK_nil {c : Nat} : getK [] c = none := rfl
theorem getK_cons {k bk : Nat} {cs : Ch} {l : Hp} {c : Nat} : getK ((k, bk, cs) :: l) c = match Nat.beq k c with
    | true => some (bk, cs)
    | false => getK l c := by
  show Bool.rec (motive := fun _ => Option (Nat × Ch)) (getK l c) (some (bk, cs)) (Nat.beq k c) = _
  cases Nat.beq k c <;> rfl
def setK (hp : Hp) (c : Nat) (cs' : Ch) : Option Hp :=
  List.rec (motive := fun _ => Option Hp) none (fun p l ih => Bool.rec (motive := fun _ => Option Hp) (Option.rec (motive := fun _ => Option Hp) none (fun r => some (p :: r)) ih)
    (Prod.rec (motive := fun _ => Option Hp) (fun k q => Prod.rec (motive := fun _ => Option Hp) (fun bk _ => some ((k, bk, cs') :: l)) q) p) (Nat.beq p.1 c)) hp
theorem setK_nil {c : Nat} {cs' : Ch} : setK [] c cs' = none := rfl
theorem setK_cons {k bk : Nat} {cs cs' : Ch} {l : Hp} {c : Nat} : setK ((k, bk, cs) :: l) c cs' = match Nat.beq k c with
    | true => some ((k, bk, cs') :: l)
    | false => match setK l c cs' with
      | some r => some ((k, bk, cs) :: r)
      | none => none := by
  show Bool.rec (motive := fun _ => Option Hp) (Option.rec (motive := fun _ => Option Hp) none (fun r => some ((k, bk, cs) :: r)) (setK l c cs')) (some ((k, bk, cs') :: l)) (Nat.beq k c) = _
  cases Nat.beq k c <;> cases setK l c cs' <;> rfl
def dropK : Hp → Nat → Hp
  | [], _ => []
  | (k, bk, cs) :: l, c => match Nat.beq k c with
    | true => l
    | false => (k, bk, cs) :: dropK l c
def appL {α : Type} : List α → List α → Option (List α)
  | [], m => some m
  | x :: l, m => match appL l m with
    | some r => some (x :: r)
    | none => none
/-- one more, those of the same rank put together -/
def pushS (x : Sd) : List Sd → List Sd
  | [] => [x]
  | y :: l => match Nat.beq x.rank y.rank with
    | true => pushS (.node (Nat.succ x.rank) x y) l
    | false => x :: y :: l
def joinT : List Sd → List Sd → Option (List Sd)
  | [], l => some l
  | x :: m, l => match pushS x l with
    | [] => none
    | z :: r => joinT m (z :: r)
def joinS (cm : Bool) (s1 sd : List Sd) : Option (List Sd) :=
  List.rec (motive := fun _ => Option (List Sd)) (some sd) (fun x l _ => Bool.rec (motive := fun _ => Option (List Sd)) (appL (x :: l) sd) (joinT (x :: l) sd) cm) s1
def addO (a b : Nat) : Option Nat :=
  match Nat.beq a 0 with
  | true => some b
  | false => match Nat.beq b 0 with
    | true => some a
    | false => some (a + b)

def packAs (agg : Bool) (l : List SV) : Option SV :=
  match agg with
  | true => some (.agg l)
  | false => match l with
    | [x] => some x
    | _ => none

/-- What an operation comes to: a value and what has to hold; a value and another heap; a call. -/
inductive OR where
  | val (v : SV) (sd : List Sd)
  | eff (v : SV) (hp : Hp) (sd : List Sd)
  | call (f : FuncId) (args : List SV)
  | stop

def bitsI (op : BinOp) (k : IntKind) (x y : Int) : Int :=
  match op with
  | .and => k.wrap (BitVec.ofInt k.bits x &&& BitVec.ofInt k.bits y).toNat
  | .or => k.wrap (BitVec.ofInt k.bits x ||| BitVec.ofInt k.bits y).toNat
  | .xor => k.wrap (BitVec.ofInt k.bits x ^^^ BitVec.ofInt k.bits y).toNat
  | _ => k.wrap (BitVec.ofInt k.bits x &&& ~~~ BitVec.ofInt k.bits y).toNat
def intBin (op : BinOp) (k : IntKind) (x y : Int) : Option SV :=
  match op with
  | .eql => some (.bo (x == y))
  | .neq => some (.bo (x != y))
  | .lss => some (.bo (decide (x < y)))
  | .leq => some (.bo (decide (x ≤ y)))
  | .gtr => some (.bo (decide (x > y)))
  | .geq => some (.bo (decide (x ≥ y)))
  | .add => some (.it k (k.wrap (x + y)))
  | .sub => some (.it k (k.wrap (x - y)))
  | .mul => some (.it k (k.wrap (x * y)))
  | .quo => match y with
    | .ofNat (_ + 1) => some (.it k (k.wrap (x.tdiv y)))
    | _ => none
  | .rem => match y with
    | .ofNat (_ + 1) => some (.it k (x.tmod y))
    | _ => none
  | .and => some (.it k (bitsI .and k x y))
  | .or => some (.it k (bitsI .or k x y))
  | .xor => some (.it k (bitsI .xor k x y))
  | .andNot => some (.it k (bitsI .andNot k x y))
  | _ => none
def eqCells : List SV → List SV → Option Bool
  | [], [] => some true
  | .it k x :: l, .it k' y :: m => match decide (k = k') with
    | true => match eqCells l m with
      | some r => some (x == y && r)
      | none => none
    | false => none
  | _, _ => none
/-- as a symbolic bool's Lean Bool -/
def SV.asB : SV → Option Bool
  | .tt => some true
  | .ff => some false
  | .bo p => some p
  | _ => none
def isPtr (T : BT) (t : TypeId) : Bool :=
  match T.find t with
  | some ti => match ti.kind with
    | .ptr => true
    | _ => false
  | none => false
def isSl (T : BT) (t : TypeId) : Bool :=
  match T.find t with
  | some ti => match ti.kind with
    | .slice .. => true
    | _ => false
  | none => false
def isBl (T : BT) (t : TypeId) : Bool :=
  match T.find t with
  | some ti => match ti.kind with
    | .bl => true
    | _ => false
  | none => false
def isMap (T : BT) (t : TypeId) : Bool :=
  match T.find t with
  | some ti => match ti.kind with
    | .map .. => true
    | _ => false
  | none => false
def isStr (T : BT) (t : TypeId) : Bool :=
  match T.find t with
  | some ti => match ti.kind with
    | .str => true
    | _ => false
  | none => false
/-- is it nil? (where that is to be seen) -/
def SV.nilOf : SV → Option Bool
  | .nilp => some true
  | .pt .. => some false
  | .pv .. => some false
  | .raw (.pointer (some _)) => some false
  | _ => none
def SV.nilSl : SV → Option Bool
  | .nils => some true
  | .sc .. => some false
  | .sl (some _) .. => some false
  | .raw (.slice (some _) ..) => some false
  | _ => none
def eqSV (T : BT) (t : TypeId) (x y : SV) : Option SV :=
  match x, y with
  | .agg l, .agg m => match T.find t with
    | some ti => match ti.flat && Nat.beq l.length ti.size with
      | true => match eqCells l m with
        | some r => some (.bo r)
        | none => none
      | false => none
    | none => none
  | .bo p, .bo q => match isBl T t with
    | true => some (.bo (p == q))
    | false => none
  | .mp _ _, .raw (.map none) => match isMap T t with
    | true => some .ff
    | false => none
  | .nilp, y => match isPtr T t with
    | true => match y.nilOf with
      | some true => some .tt
      | some false => some .ff
      | none => none
    | false => none
  | x, .nilp => match isPtr T t with
    | true => match x.nilOf with
      | some true => some .tt
      | some false => some .ff
      | none => none
    | false => none
  | .nils, y => match isSl T t with
    | true => match y.nilSl with
      | some true => some .tt
      | some false => some .ff
      | none => none
    | false => none
  | x, .nils => match isSl T t with
    | true => match x.nilSl with
      | some true => some .tt
      | some false => some .ff
      | none => none
    | false => none
  | _, _ => none
def notSV : SV → Option SV
  | .tt => some .ff
  | .ff => some .tt
  | .bo p => some (.bo (!p))
  | _ => none

def evBin (T : BT) (op : BinOp) (t : TypeId) (x y : SV) : Option SV :=
  match op, x, y with
  | .shl, .it k a, .it _ (.ofNat m) => some (.it k (k.wrap (a * 2 ^ (min m k.bits))))
  | .shr, .it k a, .it _ (.ofNat m) => some (.it k (a.fdiv (2 ^ (min m k.bits))))
  | .shl, _, _ => none
  | .shr, _, _ => none
  | op, .it k a, .it k' b => match decide (k = k') with
    | true => intBin op k a b
    | false => none
  | .eql, x, y => eqSV T t x y
  | .neq, x, y => match eqSV T t x y with
    | some r => notSV r
    | none => none
  | _, _, _ => none

def evPick (c a b : SV) : Option SV :=
  match c with
  | .tt => some a
  | .ff => some b
  | .bo p => match a, b with
    | .gd _ pol q x, y =>
      -- a is only there where p holds
      match pol with
      | true => match x.asB, y.asB with
        | some u, some v => match y with
          | .ff => some (.bo (p && u))
          | _ => some (.bo (if p then u else v))
        | _, _ => none
      | false => none
    | x, .gd _ pol q y =>
      match pol with
      | false => match x.asB, y.asB with
        | some u, some v => match x with
          | .tt => some (.bo (p || v))
          | _ => some (.bo (if p then u else v))
        | _, _ => none
      | true => none
    | x, y => match x.asB, y.asB with
      | some u, some v => some (.bo (if p then u else v))
      | _, _ => none
  | _ => none
/-- the Bool that stands behind a guarded operand of a pick, which has to be the picker's own -/
def pickEq (c a b : SV) : Option (Bool × Bool) :=
  match c with
  | .bo p => match a with
    | .gd _ _ q _ => some (p, q)
    | _ => match b with
      | .gd _ _ q _ => some (p, q)
      | _ => none
  | _ => none

def loadSV (T : BT) (hp : Hp) (vs : List MV) (t : TypeId) (x : SV) : OR :=
  match T.find t with
  | none => .stop
  | some ti =>
    match x with
    | .pt bk c off => match getK hp c with
      | some (bk', .cells cs _) => match takeN ti.size (dropN off cs) with
        | some l => match packAs ti.agg l with
          | some v => .val v [.eq bk bk']
          | none => .stop
        | none => .stop
      | _ => .stop
    | .pv ad c ix off => match nth vs c with
      | some V => match takeN ti.size (dropN off (V.rd ix)) with
        | some l => match packAs ti.agg l with
          | some v => .val v [.pr (ad = V.ad ix), .pr (V.dom ix)]
          | none => .stop
        | none => .stop
      | none => .stop
    | _ => .stop

def storeSV (T : BT) (hp : Hp) (t : TypeId) (x v : SV) : OR :=
  match T.find t with
  | none => .stop
  | some ti =>
    match x with
    | .pt bk c off => match getK hp c with
      | some (bk', .cells cs r) => match v.cells with
        | some vs => match allOne vs with
          | true => match Nat.beq vs.length ti.size with
            | true => match putN off vs cs with
              | some cs' => match setK hp c (.cells cs' r) with
                | some hp' => .eff .und hp' [.eq bk bk']
                | none => .stop
              | none => .stop
            | false => .stop
          | false => .stop
        | none => .stop
      | _ => .stop
    | _ => .stop

/-- a new block of memory, under the key nk; 'len': a slice with so much room behind -/
def newChunk (fr : Nat → Nat × Nat) (nk : Nat) (hp : Hp) (cs : List SV) (len : Option (Nat × Nat)) : OR :=
  match len with
  | none => .eff (.pt (fr nk).1 nk 0) ((nk, (fr nk).1, .cells cs 0) :: hp) []
  | some (n, m) => .eff (.sc (fr nk).1 nk 0 n (.lit m)) ((nk, (fr nk).1, .cells cs 0) :: hp) []

def fieldSV (T : BT) (t : TypeId) (x : SV) (f : Nat) : OR :=
  match T.find t with
  | some ti => match ti.kind with
    | .struct offs => match nth offs f with
      | some (o, _) => match x with
        | .pt bk c off => match addO off o with
          | some q => .val (.pt bk c q) []
          | none => .stop
        | .pv ad c ix off => match addO off o with
          | some q => .val (.pv ad c ix q) []
          | none => .stop
        | _ => .stop
      | none => .stop
    | _ => .stop
  | none => .stop

def indexSV (T : BT) (t : TypeId) (x i : SV) : OR :=
  match T.find t with
  | some ti => match ti.kind with
    | .slice es _ => match x, i with
      | .sl A c len _, .it _ n => .val (.pv ((A.getD ⟨0, 0, none⟩).add (n.toNat * es)) c n 0) [.pr (0 ≤ n ∧ n < (len : Int)), .pr (A.isSome = true)]
      | .sc bk c off len _, .it _ (.ofNat m) => match Nat.blt m len with
        | true => match addO off (m * es) with
          | some q => .val (.pt bk c q) []
          | none => .stop
        | false => .stop
      | _, _ => .stop
    | .array len es _ => match x, i with
      | .pt bk c off, .it _ (.ofNat m) => match Nat.blt m len with
        | true => match addO off (m * es) with
          | some q => .val (.pt bk c q) []
          | none => .stop
        | false => .stop
      | _, _ => .stop
    | _ => .stop
  | none => .stop

/-- parts laid into cells -/
def fillSV (es : Nat → Option (Nat × Nat)) : List (Nat × SV) → List SV → Option (List SV)
  | [], cs => some cs
  | (i, v) :: rest, cs => match es i with
    | none => none
    | some (off, size) => match v.cells with
      | some vs => match allOne vs with
        | true => match Nat.beq vs.length size with
          | true => match putN off vs cs with
            | some cs' => fillSV es rest cs'
            | none => none
          | false => none
        | false => none
      | none => none

def evO (env : Env) (gd : Option (Nat × Bool)) : Option Operand → Option (Option SV)
  | none => some none
  | some x => match ev env gd x with
    | some v => some (some v)
    | none => none
def evParts (env : Env) (gd : Option (Nat × Bool)) : List (Nat × Operand) → Option (List (Nat × SV))
  | [] => some []
  | (j, x) :: l => match ev env gd x with
    | some v => match evParts env gd l with
      | some vs => some ((j, v) :: vs)
      | none => none
    | none => none

def zerosN (z : List SV) : Nat → Option (List SV)
  | 0 => some []
  | n + 1 => match zerosN z n with
    | some r => appL z r
    | none => none

/-- a bound of a slice that is told as a number -/
def bndSV : Option SV → Nat → Option Nat
  | none, d => some d
  | some (.it _ (.ofNat m)), _ => some m
  | some _, _ => none
def nilBnd : Option SV → Bool
  | none => true
  | some (.it _ (.ofNat 0)) => true
  | _ => false
def cutSV (es bk c off len : Nat) (ex : Ex) (l h : Nat) : OR :=
  match Nat.ble l h with
  | true => match ex with
    | .lit n => match Nat.ble h (len + n) with
      | true => match Nat.beq (len + n) l with
        | true => .val (.sc bk c off 0 (.lit 0)) []
        | false => match addO off (l * es) with
          | some q => .val (.sc bk c q (h - l) (.lit (len + n - h))) []
          | none => .stop
      | false => .stop
    | .sym x => match Nat.ble h len with
      | true => match Nat.beq len l with
        | true => .val (.sl (some (if x = 0 then ⟨bk, off, none⟩ else ⟨bk, off + l * es, none⟩)) 0 0 x) []
        | false => match addO off (l * es) with
          | some q => match Nat.beq h len with
            | true => .val (.sc bk c q (h - l) (.sym x)) []
            | false => .val (.sc bk c q (h - l) (.sym (len - h + x))) []
          | none => .stop
      | false => .stop
  | false => .stop
def cut3SV (es bk c off len : Nat) (l h m : Nat) : OR :=
  match Nat.ble l h with
  | true => match Nat.ble h m with
    | true => match Nat.ble m len with
      | true => match Nat.beq m l with
        | true => .val (.sc bk c off 0 (.lit 0)) []
        | false => match addO off (l * es) with
          | some q => .val (.sc bk c q (h - l) (.lit (m - h))) []
          | none => .stop
      | false => .stop
    | false => .stop
  | false => .stop
def sliceSV (T : BT) (t : TypeId) (x : SV) (lo hi mx : Option SV) : OR :=
  match T.find t with
  | some ti => match ti.kind with
    | .slice es _ => match x with
      | .nils => match mx with
        | none => match nilBnd lo && nilBnd hi with
          | true => .val .nils []
          | false => .stop
        | some _ => .stop
      | .sc bk c off len ex => match bndSV lo 0 with
        | some l => match bndSV hi len with
          | some h => match mx with
            | none => cutSV es bk c off len ex l h
            | some (.it _ (.ofNat m)) => match hi with
              | some _ => cut3SV es bk c off len l h m
              | none => .stop
            | some _ => .stop
          | none => .stop
        | none => .stop
      | .sl A c len cap => match lo with
        | none => match mx with
          | none => match hi with
            | none => .val (.sl A c len cap) []
            | some (.it _ n) => .val (.sl A c n.toNat cap) [.pr (0 ≤ n ∧ n ≤ (cap : Int))]
            | some _ => .stop
          | some _ => .stop
        | some _ => .stop
      | _ => .stop
    | _ => .stop
  | none => .stop
/-- the elements of a slice -/
def elemsOf (hp : Hp) (es : Nat) : SV → Option (Nat × List SV × List Sd)
  | .nils => some (0, [], [])
  | .sc bk c off len _ => match getK hp c with
    | some (bk', .cells cs _) => match takeN (len * es) (dropN off cs) with
      | some l => some (len, l, [.eq bk bk'])
      | none => none
    | _ => none
  | _ => none
def fitsB (n bytes : Nat) : Bool :=
  match Nat.blt 0 bytes with
  | true => Nat.ble ((2 * n + 192) * bytes) 140737488355328
  | false => false
/-- what an append comes to: nothing new; a write in place; a row that is laid anew, or that is gone on with -/
inductive AP where
  | stop
  | val (v : SV) (sd : List Sd)
  | put (v : SV) (hp : Hp) (sd : List Sd)
  | lay (n es : Nat) (l : List SV) (hp : Hp) (sd : List Sd)
def appTo (es bytes n : Nat) (news : List SV) (sd : List Sd) (hp : Hp) : SV → AP
  | .nils => match fitsB n bytes with
    | true => .lay n es news hp sd
    | false => .stop
  | .sc bk c off len ex => match getK hp c with
    | some (bk', .cells cs r) => match fitsB (len + n) bytes with
      | true => match ex with
        | .lit m => match Nat.ble n m with
          | true => match addO off (len * es) with
            | some q => match putN q news cs with
              | some cs' => match setK hp c (.cells cs' r) with
                | some hp' => .put (.sc bk c off (len + n) (.lit (m - n))) hp' (.eq bk bk' :: sd)
                | none => .stop
              | none => .stop
            | none => .stop
          | false => match takeN (len * es) (dropN off cs) with
            | some olds => match appL olds news with
              | some l => .lay (len + n) es l hp (.eq bk bk' :: sd)
              | none => .stop
            | none => .stop
        | .sym x => match Nat.beq off 0 with
          | true => match Nat.beq (len * es) cs.length with
            | true => match appL cs news with
              | some l => .lay (len + n) es l (dropK hp c) (.eq bk bk' :: .eq r (x * es) :: sd)
              | none => .stop
            | false => .stop
          | false => .stop
      | false => .stop
    | _ => .stop
  | _ => .stop
def appPlan (T : BT) (hp : Hp) (t : TypeId) (s y : SV) : AP :=
  match T.find t with
  | some ti => match ti.kind with
    | .slice es et => match T.find et with
      | some te => match Nat.beq te.size es with
        | true => match elemsOf hp es y with
          | some (n, news, sd) => match allOne news with
            | true => match Nat.beq n 0 with
              | true => match s with
                | .nils => .val .nils sd
                | .sc bk c off len ex => .val (.sc bk c off len ex) sd
                | _ => .stop
              | false => appTo es te.bytes n news sd hp s
            | false => .stop
          | none => .stop
        | false => .stop
      | none => .stop
    | _ => .stop
  | none => .stop
def appSV (fr : Nat → Nat × Nat) (nk : Nat) : AP → OR
  | .stop => .stop
  | .val v sd => .val v sd
  | .put v hp sd => .eff v hp sd
  | .lay n es l hp sd => .eff (.sc (fr nk).1 nk 0 n (.sym (fr nk).2)) ((nk, (fr nk).1, .cells l ((fr nk).2 * es)) :: hp) sd
def copySV (T : BT) (hp : Hp) (t : TypeId) (d y : SV) : OR :=
  match T.find t with
  | some ti => match ti.kind with
    | .slice es _ => match elemsOf hp es y with
      | some (n, news, sd) => match d with
        | .nils => .val (.it .i64 0) sd
        | .sc bk c off len _ => match Nat.ble n len with
          | true => match getK hp c with
            | some (bk', .cells cs r) => match allOne news with
              | true => match putN off news cs with
                | some cs' => match setK hp c (.cells cs' r) with
                  | some hp' => .eff (.it .i64 (n : Int)) hp' (.eq bk bk' :: sd)
                  | none => .stop
                | none => .stop
              | false => .stop
            | _ => .stop
          | false => match takeN (len * es) news with
            | some news' => match getK hp c with
              | some (bk', .cells cs r) => match allOne news' with
                | true => match putN off news' cs with
                  | some cs' => match setK hp c (.cells cs' r) with
                    | some hp' => .eff (.it .i64 (len : Int)) hp' (.eq bk bk' :: sd)
                    | none => .stop
                  | none => .stop
                | false => .stop
              | _ => .stop
            | none => .stop
        | _ => .stop
      | none => .stop
    | _ => .stop
  | none => .stop
def clearSV (T : BT) (hp : Hp) (t : TypeId) (d : SV) : OR :=
  match T.find t with
  | some ti => match ti.kind with
    | .slice _ et => match d with
      | .nils => .val (.tup []) []
      | .sc bk c off len _ => match T.find et with
        | some te => match zerosN te.zero len with
          | some z => match allOne z with
            | true => match getK hp c with
              | some (bk', .cells cs r) => match putN off z cs with
                | some cs' => match setK hp c (.cells cs' r) with
                  | some hp' => .eff (.tup []) hp' [.eq bk bk']
                  | none => .stop
                | none => .stop
              | _ => .stop
            | false => .stop
          | none => .stop
        | none => .stop
      | _ => .stop
    | _ => .stop
  | none => .stop
def makeSlSV (T : BT) (fr : Nat → Nat × Nat) (nk : Nat) (hp : Hp) (t : TypeId) (len cap : SV) : OR :=
  match T.find t with
  | some ti => match ti.kind with
    | .slice es et => match T.find et with
      | some te => match Nat.beq te.size es with
        | true => match len, cap with
          | .it _ (.ofNat l), .it _ (.ofNat c) => match Nat.ble l c with
            | true => match fitsB c te.bytes with
              | true => match zerosN te.zero c with
                | some z => newChunk fr nk hp z (some (l, c - l))
                | none => .stop
              | false => .stop
            | false => .stop
          | _, _ => .stop
        | false => .stop
      | none => .stop
    | _ => .stop
  | none => .stop
def ifaceSV (T : BT) (t : TypeId) (v : SV) : OR :=
  match T.find t with
  | some ti => match ti.kind with
    | .ptr => .val (.ifc t v) []
    | _ => .stop
  | none => .stop
def idxSV (T : BT) (t : TypeId) (x i : SV) : OR :=
  match T.find t with
  | some ti => match ti.kind with
    | .str => match x, i with
      | .str b, .it _ (.ofNat m) => match nth b.data.toList m with
        | some c => .val (.it .u8 (.ofNat c.toNat)) []
        | none => .stop
      | _, _ => .stop
    | .array len es one => match x, i with
      | .agg l, .it _ (.ofNat m) => match Nat.blt m len with
        | true => match takeN es (dropN (m * es) l) with
          | some r => match packAs (!one) r with
            | some v => .val v []
            | none => .stop
          | none => .stop
        | false => .stop
      | _, _ => .stop
    | _ => .stop
  | none => .stop

/-- two keys of a map: are they alike? -/
def keyEq (T : BT) (kt : Nat) (x y : SV) : Option Bool :=
  match x with
  | .it k a => match y with
    | .it k' b => match decide (k = k') with
      | true => some (a == b)
      | false => none
    | _ => none
  | .agg l => match y with
    | .agg m => match eqSV T kt (.agg l) (.agg m) with
      | some r => r.asB
      | none => none
    | _ => none
  | _ => none
/-- keys of these types are compared: an int, or a struct of ints -/
def keyKind (T : BT) (kt : Nat) (x : SV) : Bool :=
  match T.find kt with
  | some ti => match x with
    | .it k _ => match ti.kind with
      | .int k' => decide (k = k')
      | _ => false
    | .agg l => match ti.flat with
      | true => match Nat.beq l.length ti.size with
        | true => match eqCells l l with
          | some _ => true
          | none => false
        | false => false
      | false => false
    | _ => false
  | none => false
def findKS (T : BT) (kt : Nat) (k : SV) : List (SV × SV) → Option (Option SV)
  | [] => some none
  | (k', v) :: l => match keyEq T kt k k' with
    | some true => some (some v)
    | some false => findKS T kt k l
    | none => none
def setKS (T : BT) (kt : Nat) (k v : SV) : List (SV × SV) → Option (List (SV × SV))
  | [] => some [(k, v)]
  | (k', v') :: l => match keyEq T kt k k' with
    | some true => some ((k, v) :: l)
    | some false => match setKS T kt k v l with
      | some r => some ((k', v') :: r)
      | none => none
    | none => none
def delKS (T : BT) (kt : Nat) (k : SV) : List (SV × SV) → Option (List (SV × SV))
  | [] => some []
  | (k', v') :: l => match keyEq T kt k k' with
    | some true => some l
    | some false => match delKS T kt k l with
      | some r => some ((k', v') :: r)
      | none => none
    | none => none
def entriesOf (hp : Hp) : SV → Option (List (SV × SV) × List Sd)
  | .raw (.map none) => some ([], [])
  | .mp bk c => match getK hp c with
    | some (bk', .map l) => some (l, [.eq bk bk'])
    | _ => none
  | _ => none
def lookSV (T : BT) (hp : Hp) (t : TypeId) (x k : SV) (ok : Bool) : OR :=
  match T.find t with
  | some ti => match ti.kind with
    | .map kt vt => match keyKind T kt k with
      | true => match entriesOf hp x with
        | some (l, sd) => match findKS T kt k l with
          | some (some v) => match ok with
            | true => .val (.tup [v, .tt]) sd
            | false => .val v sd
          | some none => match T.find vt with
            | some te => match packAs te.agg te.zero with
              | some z => match ok with
                | true => .val (.tup [z, .ff]) sd
                | false => .val z sd
              | none => .stop
            | none => .stop
          | none => .stop
        | none => .stop
      | false => .stop
    | _ => .stop
  | none => .stop
def updSV (T : BT) (hp : Hp) (t : TypeId) (x k v : SV) : OR :=
  match T.find t with
  | some ti => match ti.kind with
    | .map kt _ => match keyKind T kt k with
      | true => match x with
        | .mp bk c => match getK hp c with
          | some (bk', .map l) => match setKS T kt k v l with
            | some l' => match setK hp c (.map l') with
              | some hp' => .eff .und hp' [.eq bk bk']
              | none => .stop
            | none => .stop
          | _ => .stop
        | _ => .stop
      | false => .stop
    | _ => .stop
  | none => .stop
def delSV (T : BT) (hp : Hp) (t : TypeId) (x k : SV) : OR :=
  match T.find t with
  | some ti => match ti.kind with
    | .map kt _ => match keyKind T kt k with
      | true => match x with
        | .mp bk c => match getK hp c with
          | some (bk', .map l) => match delKS T kt k l with
            | some l' => match setK hp c (.map l') with
              | some hp' => .eff (.tup []) hp' [.eq bk bk']
              | none => .stop
            | none => .stop
          | _ => .stop
        | _ => .stop
      | false => .stop
    | _ => .stop
  | none => .stop

def findM (name : String) : List (String × Nat) → Option Nat
  | [] => none
  | (n, f) :: l => match decide (name = n) with
    | true => some f
    | false => findM name l

/-- an operation that is no call, or a call -/
def evOpS (T : BT) (fr : Nat → Nat × Nat) (nk : Nat) (env : Env) (hp : Hp) (vs : List MV) (gd : Option (Nat × Bool)) (o : Op) : OR :=
  match o with
  | .move x => match ev env gd x with | some v => .val v [] | none => .stop
  | .assign x => match ev env gd x with | some v => .val v [] | none => .stop
  | .pick c a b => match ev env gd c with
    | some c => match ev env gd a with
      | some a => match ev env gd b with
        | some b => match evPick c a b with
          | some v => match pickEq c a b with
            | some (p, q) => .val v [.eb p q]
            | none => .val v []
          | none => .stop
        | none => .stop
      | none => .stop
    | none => .stop
  | .load t x => match ev env gd x with | some v => loadSV T hp vs t v | none => .stop
  | .store t x y => match ev env gd x with
    | some v => match ev env gd y with
      | some u => storeSV T hp t v u
      | none => .stop
    | none => .stop
  | .nilCheck x => match ev env gd x with
    | some (.pt bk c off) => .val (.pt bk c off) []
    | some (.pv ad c ix off) => .val (.pv ad c ix off) []
    | some (.raw (.pointer (some a))) => .val (.raw (.pointer (some a))) []
    | some (.ifc t y) => .val (.ifc t y) []
    | some (.fn f l) => .val (.fn f l) []
    | _ => .stop
  | .fieldAddr t x f => match ev env gd x with | some v => fieldSV T t v f | none => .stop
  | .indexAddr t x i => match ev env gd x with
    | some v => match ev env gd i with
      | some u => indexSV T t v u
      | none => .stop
    | none => .stop
  | .binOp op t x y _ => match ev env gd x with
    | some v => match ev env gd y with
      | some u => match evBin T op t v u with
        | some r => .val r []
        | none => .stop
      | none => .stop
    | none => .stop
  | .unOp .not _ x => match ev env gd x with
    | some v => match notSV v with
      | some r => .val r []
      | none => .stop
    | none => .stop
  | .convert s d x => match ev env gd x with
    | some (.it _ n) => match T.find d with
      | some ti => match ti.kind with
        | .int k' => match T.find s with
          | some _ => .val (.it k' (k'.wrap n)) []
          | none => .stop
        | _ => .stop
      | none => .stop
    | _ => .stop
  | .alloc t => match T.find t with
    | some ti => match appL ti.zero [] with
      | some z => newChunk fr nk hp z none
      | none => .stop
    | none => .stop
  | .box _ x => match ev env gd x with
    | some v => match v.cells with
      | some cs => newChunk fr nk hp cs none
      | none => .stop
    | none => .stop
  | .build t parts => match T.find t with
    | some ti => match evParts env gd parts.toList with
      | some ps => match ti.kind with
        | .struct offs => match fillSV (nth offs) ps ti.zero with
          | some cs => .val (.agg cs) []
          | none => .stop
        | _ => .stop
      | none => .stop
    | none => .stop
  | .buildSlice t len parts => match T.find t with
    | some ti => match evParts env gd parts.toList with
      | some ps => match ti.kind with
        | .slice es et => match T.find et with
          | some te => match Nat.beq te.size es with
            | true => match zerosN te.zero len with
              | some z => match fillSV (fun i => some (i * es, es)) ps z with
                | some cs => match Nat.ble (len * es) 16777216 with
                  | true => newChunk fr nk hp cs (some (len, 0))
                  | false => .stop
                | none => .stop
              | none => .stop
            | false => .stop
          | none => .stop
        | _ => .stop
      | none => .stop
    | none => .stop
  | .slice t x lo hi mx => match ev env gd x with
    | some v => match evO env gd lo with
      | some l => match evO env gd hi with
        | some h => match evO env gd mx with
          | some m => sliceSV T t v l h m
          | none => .stop
        | none => .stop
      | none => .stop
    | none => .stop
  | .makeSlice t l c => match ev env gd l with
    | some l => match ev env gd c with
      | some c => makeSlSV T fr nk hp t l c
      | none => .stop
    | none => .stop
  | .makeMap _ r => match r with
    | none => .eff (.mp (fr nk).1 nk) ((nk, (fr nk).1, .map []) :: hp) []
    | some _ => .stop
  | .lookup t x k ok => match ev env gd x with
    | some v => match ev env gd k with
      | some u => lookSV T hp t v u ok
      | none => .stop
    | none => .stop
  | .mapUpdate t m k x => match ev env gd m with
    | some v => match ev env gd k with
      | some u => match ev env gd x with
        | some z => updSV T hp t v u z
        | none => .stop
      | none => .stop
    | none => .stop
  | .makeInterface t x => match ev env gd x with
    | some v => ifaceSV T t v
    | none => .stop
  | .index t x i => match ev env gd x with
    | some v => match ev env gd i with
      | some u => idxSV T t v u
      | none => .stop
    | none => .stop
  | .extract x j => match ev env gd x with
    | some (.tup l) => match nth l j with
      | some v => .val v []
      | none => .stop
    | _ => .stop
  | .makeFunc (.func f) first caps => match first.toList with
    | [] => match evs env gd caps.toList with
      | some cs => .val (.fn f cs) []
      | none => .stop
    | _ => .stop
  | .call c => match c.callee with
    | .value x => match ev env gd x with
      | some (.fn f caps) => match evs env gd c.args.toList with
        | some args => match appL args caps with
          | some all => .call f all
          | none => .stop
        | none => .stop
      | _ => .stop
    | .invoke x name => match ev env gd x with
      | some (.ifc t y) => match T.find t with
        | some ti => match findM name ti.meths with
          | some f => match evs env gd c.args.toList with
            | some args => .call f (y :: args)
            | none => .stop
          | none => .stop
        | none => .stop
      | _ => .stop
    | .builtin .len => match c.argTypes.toList with
      | t :: _ => match isSl T t with
        | true => match evs env gd c.args.toList with
          | some [.sl _ _ len _] => .val (.it .i64 (len : Int)) []
          | some [.nils] => .val (.it .i64 0) []
          | some [.sc _ _ _ len _] => .val (.it .i64 (len : Int)) []
          | some [.raw (.slice _ len _)] => .val (.it .i64 (len : Int)) []
          | _ => .stop
        | false => match isStr T t with
          | true => match evs env gd c.args.toList with
            | some [.str s] => .val (.it .i64 (s.size : Int)) []
            | _ => .stop
          | false => .stop
      | [] => .stop
    | .builtin .cap => match c.argTypes.toList with
      | t :: _ => match isSl T t with
        | true => match evs env gd c.args.toList with
          | some [.nils] => .val (.it .i64 0) []
          | some [.sc _ _ _ len ex] => .val (.it .i64 ((len + ex.val : Nat) : Int)) []
          | _ => .stop
        | false => .stop
      | [] => .stop
    | .builtin .append => match c.argTypes.toList with
      | [t, t'] => match Nat.beq t t' with
        | true => match evs env gd c.args.toList with
          | some [s, y] => appSV fr nk (appPlan T hp t s y)
          | _ => .stop
        | false => .stop
      | _ => .stop
    | .builtin .copy => match c.argTypes.toList with
      | [t, _] => match evs env gd c.args.toList with
        | some [d, y] => copySV T hp t d y
        | _ => .stop
      | _ => .stop
    | .builtin .delete => match c.argTypes.toList with
      | t :: _ => match evs env gd c.args.toList with
        | some [m, k] => delSV T hp t m k
        | _ => .stop
      | _ => .stop
    | .builtin .clear => match c.argTypes.toList with
      | [t] => match evs env gd c.args.toList with
        | some [d] => clearSV T hp t d
        | _ => .stop
      | _ => .stop
    | .builtin .min => match evs env gd c.args.toList with
      | some [.it k x, .it _ y] => .val (.it k (if y < x then y else x)) []
      | _ => .stop
    | .builtin .max => match evs env gd c.args.toList with
      | some [.it k x, .it _ y] => .val (.it k (if y > x then y else x)) []
      | _ => .stop
    | _ => .stop
  | _ => .stop

def ev1 (env : Env) (gd : Option (Nat × Bool)) (x : Operand) (k : SV → OR) : OR :=
  match ev env gd x with
  | some v => k v
  | none => .stop
def ev2 (env : Env) (gd : Option (Nat × Bool)) (x y : Operand) (k : SV → SV → OR) : OR :=
  match ev env gd x with
  | some v => match ev env gd y with
    | some u => k v u
    | none => .stop
  | none => .stop
def ev3 (env : Env) (gd : Option (Nat × Bool)) (x y z : Operand) (k : SV → SV → SV → OR) : OR :=
  match ev env gd x with
  | some v => match ev env gd y with
    | some u => match ev env gd z with
      | some r => k v u r
      | none => .stop
    | none => .stop
  | none => .stop
def valO (v : SV) : OR := .val v []
def pickO (c a b : SV) : OR :=
  match evPick c a b with
  | some v => match pickEq c a b with
    | some (p, q) => .val v [.eb p q]
    | none => .val v []
  | none => .stop
def nilO (v : SV) : OR :=
  match v with
  | .pt bk c off => .val (.pt bk c off) []
  | .pv ad c ix off => .val (.pv ad c ix off) []
  | .raw (.pointer (some a)) => .val (.raw (.pointer (some a))) []
  | .ifc t y => .val (.ifc t y) []
  | .fn f l => .val (.fn f l) []
  | _ => .stop
def binO (T : BT) (op : BinOp) (t : TypeId) (v u : SV) : OR :=
  match evBin T op t v u with
  | some r => .val r []
  | none => .stop
def unO (env : Env) (gd : Option (Nat × Bool)) (x : Operand) (u : UnOp) : OR :=
  match u with
  | .not => match ev env gd x with
    | some v => match notSV v with
      | some r => .val r []
      | none => .stop
    | none => .stop
  | _ => .stop
def convO (T : BT) (s d : TypeId) (v : SV) : OR :=
  match v with
  | .it _ n => match T.find d with
    | some ti => match ti.kind with
      | .int k' => match T.find s with
        | some _ => .val (.it k' (k'.wrap n)) []
        | none => .stop
      | _ => .stop
    | none => .stop
  | _ => .stop
def allocO (T : BT) (fr : Nat → Nat × Nat) (nk : Nat) (hp : Hp) (t : TypeId) : OR :=
  match T.find t with
  | some ti => match appL ti.zero [] with
    | some z => newChunk fr nk hp z none
    | none => .stop
  | none => .stop
def boxO (fr : Nat → Nat × Nat) (nk : Nat) (hp : Hp) (v : SV) : OR :=
  match v.cells with
  | some cs => newChunk fr nk hp cs none
  | none => .stop
def buildO (T : BT) (env : Env) (gd : Option (Nat × Bool)) (t : TypeId) (parts : Array (Nat × Operand)) : OR :=
  match T.find t with
  | some ti => match evParts env gd parts.toList with
    | some ps => match ti.kind with
      | .struct offs => match fillSV (nth offs) ps ti.zero with
        | some cs => .val (.agg cs) []
        | none => .stop
      | _ => .stop
    | none => .stop
  | none => .stop
def buildSlO (T : BT) (fr : Nat → Nat × Nat) (nk : Nat) (env : Env) (hp : Hp) (gd : Option (Nat × Bool)) (t : TypeId) (len : Nat) (parts : Array (Nat × Operand)) : OR :=
  match T.find t with
  | some ti => match evParts env gd parts.toList with
    | some ps => match ti.kind with
      | .slice es et => match T.find et with
        | some te => match Nat.beq te.size es with
          | true => match zerosN te.zero len with
            | some z => match fillSV (fun i => some (i * es, es)) ps z with
              | some cs => match Nat.ble (len * es) 16777216 with
                | true => newChunk fr nk hp cs (some (len, 0))
                | false => .stop
              | none => .stop
            | none => .stop
          | false => .stop
        | none => .stop
      | _ => .stop
    | none => .stop
  | none => .stop
def sliceO (T : BT) (env : Env) (gd : Option (Nat × Bool)) (t : TypeId) (lo hi mx : Option Operand) (v : SV) : OR :=
  match evO env gd lo with
  | some l => match evO env gd hi with
    | some h => match evO env gd mx with
      | some m => sliceSV T t v l h m
      | none => .stop
    | none => .stop
  | none => .stop
def makeMapO (fr : Nat → Nat × Nat) (nk : Nat) (hp : Hp) (r : Option Operand) : OR :=
  match r with
  | none => .eff (.mp (fr nk).1 nk) ((nk, (fr nk).1, .map []) :: hp) []
  | some _ => .stop
def extrO (j : Nat) (v : SV) : OR :=
  match v with
  | .tup l => match nth l j with
    | some v => .val v []
    | none => .stop
  | _ => .stop
def mkFuncO (env : Env) (gd : Option (Nat × Bool)) (f : Fn) (first caps : Array Operand) : OR :=
  match f with
  | .func f => match first.toList with
    | [] => match evs env gd caps.toList with
      | some cs => .val (.fn f cs) []
      | none => .stop
    | _ => .stop
  | _ => .stop
def lenO (l : Option (List SV)) : OR :=
  match l with
  | some [.sl _ _ len _] => .val (.it .i64 (len : Int)) []
  | some [.nils] => .val (.it .i64 0) []
  | some [.sc _ _ _ len _] => .val (.it .i64 (len : Int)) []
  | some [.raw (.slice _ len _)] => .val (.it .i64 (len : Int)) []
  | _ => .stop
def slenO (l : Option (List SV)) : OR :=
  match l with
  | some [.str s] => .val (.it .i64 (s.size : Int)) []
  | _ => .stop
def capO (l : Option (List SV)) : OR :=
  match l with
  | some [.nils] => .val (.it .i64 0) []
  | some [.sc _ _ _ len ex] => .val (.it .i64 ((len + ex.val : Nat) : Int)) []
  | _ => .stop
def appO (T : BT) (fr : Nat → Nat × Nat) (nk : Nat) (hp : Hp) (t : TypeId) (l : Option (List SV)) : OR :=
  match l with
  | some [s, y] => appSV fr nk (appPlan T hp t s y)
  | _ => .stop
def two (l : Option (List SV)) (k : SV → SV → OR) : OR :=
  match l with
  | some [x, y] => k x y
  | _ => .stop
def one1 (l : Option (List SV)) (k : SV → OR) : OR :=
  match l with
  | some [x] => k x
  | _ => .stop
def minO (x y : SV) : OR :=
  match x, y with
  | .it k x, .it _ y => .val (.it k (if y < x then y else x)) []
  | _, _ => .stop
def maxO (x y : SV) : OR :=
  match x, y with
  | .it k x, .it _ y => .val (.it k (if y > x then y else x)) []
  | _, _ => .stop
def builtO (T : BT) (fr : Nat → Nat × Nat) (nk : Nat) (hp : Hp) (b : Builtin) (ts : List TypeId) (l : Option (List SV)) : OR :=
  match b with
  | .len => match ts with
    | t :: _ => match isSl T t with
      | true => lenO l
      | false => match isStr T t with
        | true => slenO l
        | false => .stop
    | [] => .stop
  | .cap => match ts with
    | t :: _ => match isSl T t with
      | true => capO l
      | false => .stop
    | [] => .stop
  | .append => match ts with
    | [t, t'] => match Nat.beq t t' with
      | true => appO T fr nk hp t l
      | false => .stop
    | _ => .stop
  | .copy => match ts with
    | [t, _] => two l (copySV T hp t)
    | _ => .stop
  | .delete => match ts with
    | t :: _ => two l (delSV T hp t)
    | _ => .stop
  | .clear => match ts with
    | [t] => one1 l (clearSV T hp t)
    | _ => .stop
  | .min => two l minO
  | .max => two l maxO
  | _ => .stop
def valueO (env : Env) (gd : Option (Nat × Bool)) (x : Operand) (l : Option (List SV)) : OR :=
  match ev env gd x with
  | some (.fn f caps) => match l with
    | some args => match appL args caps with
      | some all => .call f all
      | none => .stop
    | none => .stop
  | _ => .stop
def invokeO (T : BT) (env : Env) (gd : Option (Nat × Bool)) (x : Operand) (name : String) (l : Option (List SV)) : OR :=
  match ev env gd x with
  | some (.ifc t y) => match T.find t with
    | some ti => match findM name ti.meths with
      | some f => match l with
        | some args => .call f (y :: args)
        | none => .stop
      | none => .stop
    | none => .stop
  | _ => .stop
def callO (T : BT) (fr : Nat → Nat × Nat) (nk : Nat) (env : Env) (hp : Hp) (gd : Option (Nat × Bool)) (c : Call) : OR :=
  match c.callee with
  | .value x => valueO env gd x (evs env gd c.args.toList)
  | .invoke x name => invokeO T env gd x name (evs env gd c.args.toList)
  | .builtin b => builtO T fr nk hp b c.argTypes.toList (evs env gd c.args.toList)
/-- the same, in small steps -/
def evOp (T : BT) (fr : Nat → Nat × Nat) (nk : Nat) (env : Env) (hp : Hp) (vs : List MV) (gd : Option (Nat × Bool)) (o : Op) : OR :=
  match o with
  | .move x => ev1 env gd x valO
  | .assign x => ev1 env gd x valO
  | .pick c a b => ev3 env gd c a b pickO
  | .load t x => ev1 env gd x (loadSV T hp vs t)
  | .store t x y => ev2 env gd x y (storeSV T hp t)
  | .nilCheck x => ev1 env gd x nilO
  | .fieldAddr t x f => ev1 env gd x (fun v => fieldSV T t v f)
  | .indexAddr t x i => ev2 env gd x i (indexSV T t)
  | .binOp op t x y _ => ev2 env gd x y (binO T op t)
  | .unOp u _ x => unO env gd x u
  | .convert s d x => ev1 env gd x (convO T s d)
  | .alloc t => allocO T fr nk hp t
  | .box _ x => ev1 env gd x (boxO fr nk hp)
  | .build t parts => buildO T env gd t parts
  | .buildSlice t len parts => buildSlO T fr nk env hp gd t len parts
  | .slice t x lo hi mx => ev1 env gd x (sliceO T env gd t lo hi mx)
  | .makeSlice t l c => ev2 env gd l c (makeSlSV T fr nk hp t)
  | .makeMap _ r => makeMapO fr nk hp r
  | .lookup t x k ok => ev2 env gd x k (fun v u => lookSV T hp t v u ok)
  | .mapUpdate t m k x => ev3 env gd m k x (updSV T hp t)
  | .makeInterface t x => ev1 env gd x (ifaceSV T t)
  | .index t x i => ev2 env gd x i (idxSV T t)
  | .extract x j => ev1 env gd x (extrO j)
  | .makeFunc f first caps => mkFuncO env gd f first caps
  | .call c => callO T fr nk env hp gd c
  | _ => .stop

theorem evOp_eq (T : BT) (fr : Nat → Nat × Nat) (nk : Nat) (env : Env) (hp : Hp) (vs : List MV) (gd : Option (Nat × Bool)) (o : Op) : evOp T fr nk env hp vs gd o = evOpS T fr nk env hp vs gd o := by
  cases o <;> try rfl
  case nilCheck x =>
    simp only [evOp, evOpS, ev1]
    cases ev env gd x with
    | none => rfl
    | some v =>
      simp only [nilO]
      split <;> simp_all
  case unOp u t x =>
    cases u <;> simp only [evOp, evOpS, unO]
  case convert s d x =>
    simp only [evOp, evOpS, ev1]
    cases ev env gd x with
    | none => rfl
    | some v => cases v <;> rfl
  case makeFunc f first caps =>
    cases f <;> simp only [evOp, evOpS, mkFuncO]
  case extract x j =>
    simp only [evOp, evOpS, ev1]
    cases ev env gd x with
    | none => rfl
    | some v => cases v <;> rfl
  case call c =>
    obtain ⟨callee, args, ts⟩ := c
    cases callee with
    | value x => simp only [evOp, evOpS, callO, valueO]
    | invoke x name => simp only [evOp, evOpS, callO, invokeO]
    | builtin b =>
      cases b <;> simp only [evOp, evOpS, callO, builtO]
      all_goals
        generalize ts.toList = tl
        generalize evs env gd args.toList = ar
      case len =>
        cases tl with
        | nil => rfl
        | cons t tl => cases isSl T t <;> cases isStr T t <;> rfl
      case cap =>
        cases tl with
        | nil => rfl
        | cons t tl => cases isSl T t <;> rfl
      case append =>
        rcases tl with _ | ⟨t, _ | ⟨t', _ | ⟨t'', tl⟩⟩⟩ <;> try rfl
      case min =>
        rcases ar with _ | ⟨_ | ⟨x, _ | ⟨y, _ | ⟨z, l⟩⟩⟩⟩ <;> try rfl
        all_goals (cases x <;> try rfl)
        all_goals (cases y <;> rfl)
      case max =>
        rcases ar with _ | ⟨_ | ⟨x, _ | ⟨y, _ | ⟨z, l⟩⟩⟩⟩ <;> try rfl
        all_goals (cases x <;> try rfl)
        all_goals (cases y <;> rfl)
      all_goals
        rcases tl with _ | ⟨t, _ | ⟨t', _ | ⟨t'', tl⟩⟩⟩ <;> try rfl

/-! ### Code -/
/-- a function's body, how many temporaries it has, its results -/
structure FI where
  c : Code
  N : Nat
  rs : List ResultVar
/-- How code is gone through: the types; calls whose outcome is known; functions that are entered; whether all is numbers; whether loops are gone round. -/
structure Md where
  T : BT
  sum : FuncId → List SV → Hp → List MV → Option (SV × List Sd)
  inl : FuncId → Option FI
  conc : Bool
  unroll : Bool

inductive K where
  | c (c : Code)
  | ops (all : Array Oper) (l : List Oper)
  | blk (id : Nat)
  | inv (I : Act → World → Prop)
  | lp (b : Code)
  /-- a region that draws its order: what is left of the plan, and which operations that only look have been done -/
  | gap (ops : Array Oper) (f : Option Nat) (plan dn : List Nat)
  /-- the same, operation f (which lays a block) having come up already -/
  | gapS (ops : Array Oper) (f B : Nat) (ob : Obj) (plan dn : List Nat)
  /-- behind operation i -/
  | chk (ops : Array Oper) (i : Nat) (dn : List Nat)
/-- a caller that waits -/
structure Frame where
  N : Nat
  rs : List ResultVar
  env : Env
  dst : Option Tmp
  ks : List K

inductive Out where
  | ret (v : SV) (s : St)
  | again (s : St) (I : Act → World → Prop)
  | br (p : Bool) (s : St) (o1 o2 : Out)
  | call (f : FuncId) (args : List SV) (o : Oper) (s : St) (ks : List K)
  | op (o : Oper) (s : St) (ks : List K)
  | loop (body : Code) (s : St) (ks : List K)
  | draw (id : Nat) (ops : Array Oper) (s : St) (ks : List K)
  | stuck (n : Nat)
  | bad (o : Oper) (s : St)
  | badDraw (id : Nat) (ops : Array Oper) (s : St)

/-- no block may come up ahead of its time -/
def noFl : List K → Bool
  | [] => true
  | .gap _ f _ _ :: ks => match f with
    | none => noFl ks
    | some _ => false
  | .gapS .. :: _ => false
  | _ :: ks => noFl ks
def popTo (id : Nat) : List K → Option (List K)
  | [] => none
  | .blk j :: ks => match Nat.beq j id with
    | true => some ks
    | false => popTo id ks
  | _ :: ks => popTo id ks

/-- a function's results -/
def evRes (T : BT) (env : Env) (hp : Hp) (vs : List MV) : List ResultVar → List Sd → Option (List SV × List Sd)
  | [], sd => some ([], sd)
  | .tmp t :: l, sd => match look env t with
    | some (.gd ..) => none
    | some v => match evRes T env hp vs l sd with
      | some (r, s') => some (v :: r, s')
      | none => none
    | none => none
  | .cell t ty :: l, sd => match look env t with
    | some x => match loadSV T hp vs ty x with
      | .val v s1 => match appL s1 sd with
        | some sd' => match evRes T env hp vs l sd' with
          | some (r, s') => some (v :: r, s')
          | none => none
        | none => none
      | _ => none
    | none => none
def packRes : List SV → Option SV
  | [x] => some x
  | l => some (.tup l)

/-- the Bools behind the guarded operands of a guarded operation: each has to be the guard's own -/
def gSides (env : Env) (j : Nat) (pol pc : Bool) : List Operand → List Sd → Option (List Sd)
  | [], acc => some acc
  | .tmp t :: l, acc => match look env t with
    | some (.gd j' pol' q _) => match Nat.beq j j' && pol == pol' with
      | true => gSides env j pol pc l (.eb q pc :: acc)
      | false => gSides env j pol pc l acc
    | _ => gSides env j pol pc l acc
  | _ :: l, acc => gSides env j pol pc l acc
def wrapSides (p pol : Bool) : List Sd → List Sd → Option (List Sd)
  | [], acc => some acc
  | q :: l, acc => wrapSides p pol l (.pr (p = pol → q.holds) :: acc)

/-- a guard whose own value stands under a guard -/
def gcond (pol' p' pol q : Bool) : Option Bool :=
  match pol', pol with
  | true, true => some (p' && q)
  | true, false => some (!p' || q)
  | false, true => some (!p' && q)
  | false, false => some (p' || q)

/-! ### Regions that draw their order -/
/-- one operation that only looks: the value that it leaves, and what has to hold -/
def qval (md : Md) (env : Env) (hp : Hp) (vs : List MV) (gd : Option (Nat × Bool)) (o : Oper) : Option (SV × List Sd) :=
  match evOp md.T (fun _ => (0, 0)) 0 env hp vs gd o.op with
  | .val v s1 => some (v, s1)
  | _ => none
/-- a value as it is laid into the list: where all is numbers, told outright -/
def force (cm : Bool) (v : SV) : SV :=
  match cm with
  | false => v
  | true => match v with
    | .bo p => match p with
      | true => .tt
      | false => .ff
    | .it k n => match n with
      | .ofNat m => match m with
        | 0 => .it k (.ofNat 0)
        | m + 1 => .it k (.ofNat (m + 1))
      | .negSucc m => match m with
        | 0 => .it k (.negSucc 0)
        | m + 1 => .it k (.negSucc (m + 1))
    | v => v
/-- the same, as a step of the run -/
def forceK {α : Type} (cm : Bool) (v : SV) (k : SV → α) : α :=
  match cm with
  | false => k v
  | true => match v with
    | .bo p => match p with
      | true => k .tt
      | false => k .ff
    | .it kk n => match n with
      | .ofNat m => match m with
        | 0 => k (.it kk (.ofNat 0))
        | m + 1 => k (.it kk (.ofNat (m + 1)))
      | .negSucc m => match m with
        | 0 => k (.it kk (.negSucc 0))
        | m + 1 => k (.it kk (.negSucc (m + 1)))
    | v => k v
def qstep (md : Md) (env : Env) (hp : Hp) (vs : List MV) (sd : List Sd) (all : List Oper) (o : Oper) : Option (SV × List Sd) :=
  match o.guard with
  | none => match qval md env hp vs none o with
    | some (v, s1) => match joinS md.conc s1 sd with
      | some sd' => some (v, sd')
      | none => none
    | none => none
  | some (j, pol) => match nth all j with
    | some oj => match oj.dst with
      | some tj => match look env tj with
        | some .tt => match pol with
          | true => match qval md env hp vs none o with
            | some (v, s1) => match joinS md.conc s1 sd with
              | some sd' => some (v, sd')
              | none => none
            | none => none
          | false => some (.und, sd)
        | some .ff => match pol with
          | false => match qval md env hp vs none o with
            | some (v, s1) => match joinS md.conc s1 sd with
              | some sd' => some (v, sd')
              | none => none
            | none => none
          | true => some (.und, sd)
        | some .und => some (.und, sd)
        | some (.bo p) => match qval md env hp vs (some (tj, pol)) o with
          | some (v, s1) => match wrapSides p pol s1 sd with
            | some sd1 => match gSides env tj pol p o.op.operands.toList sd1 with
              | some sd2 => some (.gd tj pol p v, sd2)
              | none => none
            | none => none
          | none => none
        | some (.gd _ pol' p' (.bo q)) => match qval md env hp vs (some (tj, pol)) o with
          | some (v, s1) => match gcond pol' p' pol q with
            | some pe => match wrapSides pe pol s1 sd with
              | some sd1 => match gSides env tj pol pe o.op.operands.toList sd1 with
                | some sd2 => some (.gd tj pol pe v, sd2)
                | none => none
              | none => none
            | none => none
          | none => none
        | _ => none
      | none => none
    | none => none
def edgeMask (acc : List Nat) : List Edge → Nat → Nat
  | [], s => s
  | e :: l, s => match Region.binds .any e with
    | true => edgeMask acc l (s ||| 2 ^ e.on ||| (match nth acc e.on with | some x => x | none => 0))
    | false => edgeMask acc l s
/-- for each operation, the set of those that it waits for, as a number -/
def masks : List Oper → List Nat → List Nat
  | [], acc => acc
  | o :: l, acc => match edgeMask acc o.after.toList 0 with
    | x => masks l (acc ++ [x])
def edgesB (i : Nat) : List Edge → Bool
  | [] => true
  | e :: l => match Region.binds .any e with
    | true => match Nat.blt e.on i with
      | true => edgesB i l
      | false => false
    | false => edgesB i l
/-- every operation waits for earlier ones alone -/
def backB : Nat → List Oper → Bool
  | _, [] => true
  | i, o :: l => match edgesB i o.after.toList with
    | true => backB (i + 1) l
    | false => false
/-- whose values an operation looks at -/
def tmpsOf : List Operand → List Nat
  | [] => []
  | .tmp t :: l => t :: tmpsOf l
  | _ :: l => tmpsOf l
def guardTmp (all : List Oper) (o : Oper) : List Nat :=
  match o.guard with
  | some (j, _) => match nth all j with
    | some oj => match oj.dst with
      | some t => [t]
      | none => []
    | none => []
  | none => []
def waitsB (j : Nat) : List Edge → Bool
  | [] => false
  | e :: l => match Region.binds .any e with
    | true => match Nat.beq e.on j with
      | true => true
      | false => waitsB j l
    | false => waitsB j l
def memB (t : Nat) (l : List Nat) : Bool :=
  List.rec (motive := fun _ => Bool) false (fun x _ ih => Bool.rec (motive := fun _ => Bool) ih true (Nat.beq x t)) l
theorem memB_nil {t : Nat} : memB t [] = false := rfl
theorem memB_cons {t x : Nat} {l : List Nat} : memB t (x :: l) = match Nat.beq x t with
    | true => true
    | false => memB t l := by
  show Bool.rec (motive := fun _ => Bool) (memB t l) true (Nat.beq x t) = _
  cases Nat.beq x t <;> rfl
/-- does it only look, does it lay a block, or does it change what there is? -/
inductive PC where
  | q | a | e
def opPC (g : Option (Nat × Bool)) : Op → PC
  | .move _ | .assign _ | .pick .. | .load .. | .nilCheck _ | .fieldAddr .. | .indexAddr .. | .binOp .. | .unOp .. | .convert .. | .build .. | .slice .. | .lookup .. | .makeInterface .. | .index .. | .extract .. | .makeFunc .. => .q
  | .alloc _ | .box .. | .buildSlice .. => match g with
    | none => .a
    | some _ => .e
  | .call c => match c.callee with
    | .builtin .len | .builtin .cap | .builtin .min | .builtin .max => .q
    | _ => .e
  | _ => .e
def cls (o : Oper) : PC := opPC o.guard o.op
def PC.isQ : PC → Bool
  | .q => true
  | _ => false
def PC.isA : PC → Bool
  | .a => true
  | _ => false
def bitB (m j : Nat) : Bool := Nat.beq (Nat.land (Nat.shiftRight m j) 1) 1
/-- direct waits: all of them in 'done' -/
def waitsIn (done : List Nat) : List Edge → Bool
  | [] => true
  | e :: l => match Region.binds .any e with
    | true => match memB e.on done with
      | true => waitsIn done l
      | false => false
    | false => waitsIn done l
/-- no direct wait is in 'rest' -/
def waitsOut (rest : List Nat) : List Edge → Bool
  | [] => true
  | e :: l => match Region.binds .any e with
    | true => match memB e.on rest with
      | true => false
      | false => waitsOut rest l
    | false => waitsOut rest l
def bitsIn (m : Nat) : List Nat → Bool
  | [] => true
  | j :: l => match bitB m j with
    | true => bitsIn m l
    | false => false
/-- the operations that only look and that nothing holds up any more -/
def passQ : Nat → List Oper → List Nat → List Nat → List Nat × List Nat
  | _, [], done, acc => (done, acc)
  | i, o :: l, done, acc => match memB i done with
    | true => passQ (i + 1) l done acc
    | false => match (cls o).isQ with
      | false => passQ (i + 1) l done acc
      | true => match waitsIn done o.after.toList with
        | true => passQ (i + 1) l (i :: done) (i :: acc)
        | false => passQ (i + 1) l done acc
def nonQ : Nat → List Oper → List Nat
  | _, [] => []
  | i, o :: l => match (cls o).isQ with
    | true => nonQ (i + 1) l
    | false => i :: nonQ (i + 1) l
/-- a plan: what only looks as early as may be, the others in the text's order (told backwards) -/
def planGo (ops : List Oper) : List Nat → List Nat → List Nat → List Nat
  | [], done, acc => match passQ 0 ops done acc with
    | (_, acc) => acc
  | i :: es, done, acc => match passQ 0 ops done acc with
    | (done, acc) => planGo ops es (i :: done) (i :: acc)
def revL : List Nat → List Nat → List Nat
  | [], acc => acc
  | x :: l, acc => revL l (x :: acc)
def planOf (ops : List Oper) : List Nat := revL (planGo ops (nonQ 0 ops) [] []) []
/-- the operation that lays a block and that does not wait for all that ahead of it change something -/
def floatOf (ops : List Oper) (ms : List Nat) : List Nat → List Nat → Option Nat
  | [], _ => none
  | i :: l, ne => match nth ops i with
    | some o => match (cls o).isQ with
      | true => floatOf ops ms l ne
      | false => match nth ms i with
        | some m => match bitsIn m ne with
          | true => floatOf ops ms l (i :: ne)
          | false => some i
        | none => none
    | none => none
def isF (f : Option Nat) (i : Nat) : Bool :=
  match f with
  | some j => Nat.beq j i
  | none => false
/-- the plan holds -/
def planB (ops : List Oper) (ms : List Nat) (f : Option Nat) : List Nat → List Nat → List Nat → Bool
  | [], _, _ => true
  | i :: l, done, ne => match nth ops i with
    | some o => match nth ms i with
      | some m => match memB i done with
        | true => false
        | false => match waitsIn done o.after.toList with
          | false => false
          | true => match cls o with
            | .q => match isF f i with
              | true => false
              | false => match bitsIn m ne with
                | true => match o.dst with
                  | some _ => planB ops ms f l (i :: done) ne
                  | none => false
                | false => false
            | .a => match o.dst with
              | some _ => match isF f i with
                | true => planB ops ms f l (i :: done) (i :: ne)
                | false => match bitsIn m ne with
                  | true => planB ops ms f l (i :: done) (i :: ne)
                  | false => false
              | none => false
            | .e => match isF f i with
              | true => false
              | false => match bitsIn m ne with
                | true => planB ops ms f l (i :: done) (i :: ne)
                | false => false
      | none => false
    | none => false
def coverB (plan : List Nat) : Nat → Bool
  | 0 => true
  | n + 1 => match memB n plan with
    | true => coverB plan n
    | false => false
/-- operation j, whose value is the temporary d, beside operation i -/
def apartB (d j i : Nat) (looks : List Nat) (o : Oper) : Bool :=
  match Nat.beq i j with
  | true => match memB d looks with
    | true => false
    | false => true
  | false => match (match o.dst with | some d' => Nat.beq d d' | none => false) with
    | true => false
    | false => match memB d looks with
      | false => true
      | true => waitsB j o.after.toList
def apartRow (all : List Oper) (d j : Nat) : Nat → List Oper → Bool
  | _, [] => true
  | i, o :: l => match apartB d j i (guardTmp all o ++ tmpsOf o.op.operands.toList) o with
    | true => apartRow all d j (i + 1) l
    | false => false
def apartAll (all : List Oper) : Nat → List Oper → Bool
  | _, [] => true
  | j, o :: l => match o.dst with
    | some d => match apartRow all d j 0 all with
      | true => apartAll all (j + 1) l
      | false => false
    | none => apartAll all (j + 1) l
def selB : List Oper → Bool
  | [] => true
  | o :: l => match o.op with
    | .select .. => false
    | _ => selB l
def gapOk (ops : List Oper) (f : Option Nat) (plan : List Nat) : Bool :=
  match backB 0 ops with
  | true => match planB ops (masks ops []) f plan [] [] with
    | true => match coverB plan ops.length with
      | true => match selB ops with
        | true => apartAll ops 0 ops
        | false => false
      | false => false
    | false => false
  | false => false

mutual
/-- are they the same value? (what has to hold for it) -/
def sameSV : SV → SV → Option (List Sd)
  | .it k n, .it k' m => match decide (k = k') with
    | true => some [.ei n m]
    | false => none
  | .tt, .tt => some []
  | .ff, .ff => some []
  | .nilp, .nilp => some []
  | .nils, .nils => some []
  | .nilf, .nilf => some []
  | .nili, .nili => some []
  | .und, .und => some []
  | .bo p, .bo q => some [.eb p q]
  | .str x, .str y => some [.pr (x = y)]
  | .raw x, .raw y => some [.pr (x = y)]
  | .pt bk _ off, .pt bk' _ off' => match Nat.beq off off' with
    | true => some [.eq bk bk']
    | false => none
  | .sc bk _ off len ex, .sc bk' _ off' len' ex' => match Nat.beq off off' && Nat.beq len len' with
    | true => some [.eq bk bk', .eq ex.val ex'.val]
    | false => none
  | .mp bk _, .mp bk' _ => some [.eq bk bk']
  | .pv ad _ _ off, .pv ad' _ _ off' => match Nat.beq off off' with
    | true => some [.pr (ad = ad')]
    | false => none
  | .sl A _ len cap, .sl A' _ len' cap' => some [.pr (A = A'), .eq len len', .eq cap cap']
  | .ifc t x, .ifc t' y => match Nat.beq t t' with
    | true => sameSV x y
    | false => none
  | .fn f l, .fn f' l' => match Nat.beq f f' with
    | true => sameL l l'
    | false => none
  | .agg l, .agg l' => sameL l l'
  | .tup l, .tup l' => sameL l l'
  | _, _ => none
def sameL : List SV → List SV → Option (List Sd)
  | [], [] => some []
  | x :: l, y :: m => match sameSV x y with
    | some s => match sameL l m with
      | some r => appL s r
      | none => none
    | none => none
  | _, _ => none
end
/-- what has been looked at is looked at again -/
def recheck (md : Md) (env : Env) (hp : Hp) (vs : List MV) (all : List Oper) (m : Nat) : List Nat → List Sd → Option (List Sd)
  | [], sd => some sd
  | q :: l, sd => match bitB m q with
    | true => recheck md env hp vs all m l sd
    | false => match nth all q with
      | some o => match o.dst with
        | some d => match look env d with
          | some u => match qstep md env hp vs sd all o with
            | some (v, sd1) => forceK md.conc v (fun v => match sameSV v u with
              | some s2 => match joinS md.conc s2 sd1 with
                | some sd2 => recheck md env hp vs all m l sd2
                | none => none
              | none => none)
            | none => none
          | none => none
        | none => none
      | none => none

/-- a guarded operation that only looks, the guard undecided: the value stands under the guard -/
def gstep (N : Nat) (env : Env) (sd : List Sd) (tj : Nat) (pol p : Bool) (o : Oper) : OR → Option (Env × List Sd)
  | .val v s1 => match o.dst with
    | some d => match Nat.blt d N with
      | true => match wrapSides p pol s1 sd with
        | some sd1 => match gSides env tj pol p o.op.operands.toList sd1 with
          | some sd2 => some ((d, .gd tj pol p v) :: env, sd2)
          | none => none
        | none => none
      | false => none
    | none => none
  | _ => none
/-- the guard of tj decided -/
def ungd (tj : Nat) (b p : Bool) : Env → Option (Env × List Sd)
  | [] => some ([], [])
  | (t, v) :: l => match ungd tj b p l with
    | some (e, s) => match v with
      | .gd j pol q x => match Nat.beq j tj with
        | true => match b == pol with
          | true => some ((t, x) :: e, .eb q p :: s)
          | false => some ((t, .und) :: e, .eb q p :: s)
        | false => some ((t, .gd j pol q x) :: e, s)
      | v => some ((t, v) :: e, s)
    | none => none
/-- what follows an operation that is carried out -/
def fin (md : Md) (N : Nat) (rs : List ResultVar) (o : Oper) (env : Env) (hp : Hp) (vs : List MV) (sd : List Sd) (nk : Nat) (ks : List K) (fs : List Frame)
    (go : Env → Hp → List Sd → Nat → Out) (inl : FI → List SV → Out) : OR → Out
  | .val v s1 => match joinS md.conc s1 sd with
    | some sd' => match o.dst with
      | some d => match Nat.blt d N with
        | true => forceK md.conc v (fun v => go ((d, v) :: env) hp sd' nk)
        | false => .stuck 12
      | none => go env hp sd' nk
    | none => .stuck 9
  | .eff v hp' s1 => match joinS md.conc s1 sd with
    | some sd' => match o.dst with
      | some d => match Nat.blt d N with
        | true => forceK md.conc v (fun v => go ((d, v) :: env) hp' sd' (nk + 1))
        | false => .stuck 12
      | none => go env hp' sd' (nk + 1)
    | none => .stuck 9
  | .call f args => match md.sum f args hp vs with
    | some (v, s1) => match joinS md.conc s1 sd with
      | some sd' => match o.dst with
        | some d => match Nat.blt d N with
          | true => forceK md.conc v (fun v => go ((d, v) :: env) hp sd' nk)
          | false => .stuck 12
        | none => go env hp sd' nk
      | none => .stuck 9
    | none => match md.inl f with
      | some fi => match Nat.ble args.length fi.N with
        | true => match o.dst with
          | some d => match Nat.blt d N with
            | true => inl fi args
            | false => .stuck 12
          | none => inl fi args
        | false => .stuck 21
      | none => match fs with
        | [] => match noFl ks with
          | true => .call f args o ⟨env, hp, vs, sd, nk⟩ ks
          | false => .bad o ⟨env, hp, vs, sd, nk⟩
        | _ :: _ => .bad o ⟨env, hp, vs, sd, nk⟩
  | .stop => match fs with
    | [] => match noFl ks with
      | true => .op o ⟨env, hp, vs, sd, nk⟩ ks
      | false => .bad o ⟨env, hp, vs, sd, nk⟩
    | _ :: _ => .bad o ⟨env, hp, vs, sd, nk⟩
/-- what follows one that is passed over -/
def finSkip (N : Nat) (o : Oper) (env : Env) (go : Env → Out) : Out :=
  match o.dst with
  | some d => match Nat.blt d N with
    | true => go ((d, .und) :: env)
    | false => .stuck 12
  | none => go env
/-- parameters -/
def parFrom : Nat → List SV → Env
  | _, [] => []
  | i, a :: l => (i, a) :: parFrom (i + 1) l
abbrev parEnv (args : List SV) : Env := parFrom 0 args
/-- a function has come to its end -/
def finRet (fs : List Frame) (k : Nat) (out : SV → List Sd → Out) (back : Frame → Env → List Sd → List Frame → Out) : Option (List SV × List Sd) → Out
  | some (r, sd') => match packRes r with
    | some v => match fs with
      | [] => out v sd'
      | f :: fs' => match f.dst with
        | some d => back f ((d, v) :: f.env) sd' fs'
        | none => back f f.env sd' fs'
    | none => .stuck k
  | none => .stuck k

def dedup (env : Env) (m : Nat) : Option Env :=
  List.rec (motive := fun _ => Nat → Option Env) (fun _ => some []) (fun p _ ih m => Bool.rec (motive := fun _ => Option Env)
    (Option.rec (motive := fun _ => Option Env) none (fun r => some (p :: r)) (ih (Nat.lor m (Nat.shiftLeft 1 p.1)))) (ih m) (bitB m p.1)) env m
theorem dedup_nil {m : Nat} : dedup [] m = some [] := rfl
theorem dedup_cons {t : Nat} {v : SV} {l : Env} {m : Nat} : dedup ((t, v) :: l) m = match bitB m t with
    | true => dedup l m
    | false => match dedup l (Nat.lor m (Nat.shiftLeft 1 t)) with
      | some r => some ((t, v) :: r)
      | none => none := by
  show Bool.rec (motive := fun _ => Option Env) (Option.rec (motive := fun _ => Option Env) none (fun r => some ((t, v) :: r)) (dedup l (Nat.lor m (Nat.shiftLeft 1 t)))) (dedup l m) (bitB m t) = _
  cases bitB m t <;> cases dedup l (Nat.lor m (Nat.shiftLeft 1 t)) <;> rfl
def lpEnv (cm : Bool) (env : Env) : Option Env :=
  match cm with
  | true => dedup env 0
  | false => some env
abbrev Rec := Nat → List ResultVar → Env → Hp → List MV → List Sd → Nat → List K → List Frame → Out

def doOp (md : Md) (fr : Nat → Nat × Nat) (rec : Rec) (N : Nat) (rs : List ResultVar) (env : Env) (hp : Hp) (vs : List MV) (sd : List Sd) (nk : Nat) (ks : List K) (fs : List Frame) (o : Oper) : Out :=
  fin md N rs o env hp vs sd nk ks fs (fun env hp sd nk => rec N rs env hp vs sd nk ks fs)
    (fun fi args => rec fi.N fi.rs (parEnv args) hp vs sd nk [.c fi.c] (⟨N, rs, env, o.dst, ks⟩ :: fs)) (evOp md.T fr nk env hp vs none o.op)
def doSkip (rec : Rec) (N : Nat) (rs : List ResultVar) (env : Env) (hp : Hp) (vs : List MV) (sd : List Sd) (nk : Nat) (ks : List K) (fs : List Frame) (o : Oper) : Out :=
  finSkip N o env (fun env => rec N rs env hp vs sd nk ks fs)
def doSym (md : Md) (fr : Nat → Nat × Nat) (rec : Rec) (N : Nat) (rs : List ResultVar) (env : Env) (hp : Hp) (vs : List MV) (sd : List Sd) (nk : Nat) (ks0 ks : List K) (fs : List Frame) (o : Oper) (tj : Nat) (pol p : Bool) : Out :=
  match gstep N env sd tj pol p o (evOp md.T fr nk env hp vs (some (tj, pol)) o.op) with
  | some (env', sd') => rec N rs env' hp vs sd' nk ks fs
  | none => match ungd tj true p env, ungd tj false p env with
    | some (e1, s1), some (e2, s2) => .br p ⟨env, hp, vs, sd, nk⟩ (rec N rs ((tj, .tt) :: e1) hp vs s1 nk ks0 fs)
        (rec N rs ((tj, .ff) :: e2) hp vs s2 nk ks0 fs)
    | _, _ => .stuck 13
def doSym2 (md : Md) (fr : Nat → Nat × Nat) (rec : Rec) (N : Nat) (rs : List ResultVar) (env : Env) (hp : Hp) (vs : List MV) (sd : List Sd) (nk : Nat) (ks0 ks : List K) (fs : List Frame) (o : Oper) (tj t' : Nat) (pol pol' p' q : Bool) : Out :=
  match gcond pol' p' pol q with
  | some pe => match gstep N env sd tj pol pe o (evOp md.T fr nk env hp vs (some (tj, pol)) o.op) with
    | some (env', sd') => rec N rs env' hp vs sd' nk ks fs
    | none => match ungd t' true p' env, ungd t' false p' env with
      | some (e1, s1), some (e2, s2) => .br p' ⟨env, hp, vs, sd, nk⟩ (rec N rs e1 hp vs s1 nk ks0 fs)
          (rec N rs e2 hp vs s2 nk ks0 fs)
      | _, _ => .stuck 13
  | none => .stuck 14
def stepG (md : Md) (fr : Nat → Nat × Nat) (rec : Rec) (N : Nat) (rs : List ResultVar) (env : Env) (hp : Hp) (vs : List MV) (sd : List Sd) (nk : Nat) (ks0 ks : List K) (fs : List Frame) (all : Array Oper) (o : Oper) (j : Nat) (pol : Bool) : Out :=
  match nth all.toList j with
  | some oj => match oj.dst with
    | some tj => match look env tj with
      | some .tt => match pol with
        | true => doOp md fr rec N rs env hp vs sd nk ks fs o
        | false => doSkip rec N rs env hp vs sd nk ks fs o
      | some .ff => match pol with
        | false => doOp md fr rec N rs env hp vs sd nk ks fs o
        | true => doSkip rec N rs env hp vs sd nk ks fs o
      | some .und => doSkip rec N rs env hp vs sd nk ks fs o
      | some (.bo p) => doSym md fr rec N rs env hp vs sd nk ks0 ks fs o tj pol p
      | some (.gd t' pol' p' (.bo q)) => doSym2 md fr rec N rs env hp vs sd nk ks0 ks fs o tj t' pol pol' p' q
      | _ => .stuck 2
    | none => .stuck 3
  | none => .stuck 4
def stepO (md : Md) (fr : Nat → Nat × Nat) (rec : Rec) (N : Nat) (rs : List ResultVar) (env : Env) (hp : Hp) (vs : List MV) (sd : List Sd) (nk : Nat) (all : Array Oper) (o : Oper) (l : List Oper) (ks : List K) (fs : List Frame) : Out :=
  match o.guard with
  | none => doOp md fr rec N rs env hp vs sd nk (.ops all l :: ks) fs o
  | some (j, pol) => stepG md fr rec N rs env hp vs sd nk (.ops all (o :: l) :: ks) (.ops all l :: ks) fs all o j pol
def doRet (md : Md) (rec : Rec) (rs : List ResultVar) (env : Env) (hp : Hp) (vs : List MV) (sd : List Sd) (nk : Nat) (fs : List Frame) (k : Nat) : Out :=
  finRet fs k (fun v sd' => .ret v ⟨env, hp, vs, sd', nk⟩) (fun f env' sd' fs' => rec f.N f.rs env' hp vs sd' nk f.ks fs') (evRes md.T env hp vs rs sd)
def doIf (rec : Rec) (N : Nat) (rs : List ResultVar) (env : Env) (hp : Hp) (vs : List MV) (sd : List Sd) (nk : Nat) (ks : List K) (fs : List Frame) (a b : Code) : Option SV → Out
  | some .tt => rec N rs env hp vs sd nk (.c a :: ks) fs
  | some .ff => rec N rs env hp vs sd nk (.c b :: ks) fs
  | some (.bo p) => .br p ⟨env, hp, vs, sd, nk⟩ (rec N rs env hp vs [] nk (.c a :: ks) fs) (rec N rs env hp vs [] nk (.c b :: ks) fs)
  | _ => .stuck 5
def doLoop (md : Md) (rec : Rec) (N : Nat) (rs : List ResultVar) (env : Env) (hp : Hp) (vs : List MV) (sd : List Sd) (nk : Nat) (ks : List K) (fs : List Frame) (b : Code) : Out :=
  match md.unroll with
  | true => rec N rs env hp vs sd nk (.c b :: .lp b :: ks) fs
  | false => match fs with
    | [] => match noFl ks with
      | true => .loop b ⟨env, hp, vs, sd, nk⟩ ks
      | false => .stuck 25
    | _ :: _ => .stuck 24
def leafD (id : Nat) (ops : Array Oper) (s : St) (ks : List K) (fs : List Frame) : Out :=
  match fs with
  | [] => match noFl ks with
    | true => .draw id ops s ks
    | false => .badDraw id ops s
  | _ :: _ => .badDraw id ops s
def doDrawF (rec : Rec) (N : Nat) (rs : List ResultVar) (env : Env) (hp : Hp) (vs : List MV) (sd : List Sd) (nk : Nat) (id : Nat) (ops : Array Oper) (ks : List K) (fs : List Frame) (plan : List Nat) (f : Option Nat) : Out :=
  match gapOk ops.toList f plan with
  | true => rec N rs env hp vs sd nk (.gap ops f plan [] :: ks) fs
  | false => leafD id ops ⟨env, hp, vs, sd, nk⟩ ks fs
def doDraw (rec : Rec) (N : Nat) (rs : List ResultVar) (env : Env) (hp : Hp) (vs : List MV) (sd : List Sd) (nk : Nat) (id : Nat) (ops : Array Oper) (ks : List K) (fs : List Frame) (plan : List Nat) : Out :=
  doDrawF rec N rs env hp vs sd nk id ops ks fs plan (floatOf ops.toList (masks ops.toList []) plan [])
def stepC (md : Md) (fr : Nat → Nat × Nat) (rec : Rec) (N : Nat) (rs : List ResultVar) (env : Env) (hp : Hp) (vs : List MV) (sd : List Sd) (nk : Nat) (code : Code) (ks : List K) (fs : List Frame) : Out :=
  match code with
  | .skip => rec N rs env hp vs sd nk ks fs
  | .label _ => rec N rs env hp vs sd nk ks fs
  | .seq a b => rec N rs env hp vs sd nk (.c a :: .c b :: ks) fs
  | .cond c a b => doIf rec N rs env hp vs sd nk ks fs a b (ev env none c)
  | .block id b => rec N rs env hp vs sd nk (.c b :: .blk id :: ks) fs
  | .loop b => doLoop md rec N rs env hp vs sd nk ks fs b
  | .exit id => match popTo id ks with
    | some ks' => rec N rs env hp vs sd nk ks' fs
    | none => .stuck 6
  | .ret => doRet md rec rs env hp vs sd nk fs 7
  | .region id ops dr => match dr with
    | false => rec N rs env hp vs sd nk (.ops ops ops.toList :: ks) fs
    | true => doDraw rec N rs env hp vs sd nk id ops ks fs (planOf ops.toList)
  | _ => .stuck 8
/-- the sides of what is looked at are joined, the value laid down -/
def putQ (md : Md) (N : Nat) (o : Oper) (env : Env) (st : Out) (go : Env → List Sd → Out) : Option (SV × List Sd) → Out
  | some (v, sd) => match o.dst with
    | some d => match Nat.blt d N with
      | true => forceK md.conc v (fun v => go ((d, v) :: env) sd)
      | false => st
    | none => st
  | none => st
def putA (md : Md) (N : Nat) (o : Oper) (env : Env) (sd : List Sd) (st : Out) (go : Env → Hp → List Sd → Out) : OR → Out
  | .eff v hp s1 => match joinS md.conc s1 sd with
    | some sd => match o.dst with
      | some d => match Nat.blt d N with
        | true => go ((d, v) :: env) hp sd
        | false => st
      | none => st
    | none => st
  | _ => st
/-- an operation that might come up already -/
def early (md : Md) (fr : Nat → Nat × Nat) (N : Nat) (env : Env) (hp : Hp) (vs : List MV) (nk : Nat) (ops : Array Oper) (plan : List Nat) : Option Nat → Bool
  | none => true
  | some f => match nth ops.toList f with
    | some o => match waitsOut plan o.after.toList with
      | false => true
      | true => match o.dst with
        | some d => match Nat.blt d N with
          | true => match cls o with
            | .a => match evOp md.T fr nk env hp vs none o.op with
              | .eff _ _ _ => true
              | _ => false
            | _ => false
          | false => false
        | none => false
    | none => false
def stepGap (md : Md) (fr : Nat → Nat × Nat) (rec : Rec) (N : Nat) (rs : List ResultVar) (env : Env) (hp : Hp) (vs : List MV) (sd : List Sd) (nk : Nat) (ops : Array Oper) (f : Option Nat) (i : Nat) (rest dn : List Nat) (ks : List K) (fs : List Frame) (o : Oper) : Out :=
  match isF f i with
  | true => match cls o with
    | .a => putA md N o env sd (.bad o ⟨env, hp, vs, sd, nk⟩) (fun env hp sd => rec N rs env hp vs sd (nk + 1) (.gap ops none rest dn :: ks) fs) (evOp md.T fr nk env hp vs none o.op)
    | _ => .bad o ⟨env, hp, vs, sd, nk⟩
  | false => match cls o with
    | .q => putQ md N o env (.bad o ⟨env, hp, vs, sd, nk⟩) (fun env sd => rec N rs env hp vs sd nk (.gap ops f rest (i :: dn) :: ks) fs) (qstep md env hp vs sd ops.toList o)
    | .a => match early md fr N env hp vs nk ops (i :: rest) f with
      | true => putA md N o env sd (.bad o ⟨env, hp, vs, sd, nk⟩) (fun env hp sd => rec N rs env hp vs sd (nk + 1) (.gap ops f rest dn :: ks) fs) (evOp md.T fr nk env hp vs none o.op)
      | false => .bad o ⟨env, hp, vs, sd, nk⟩
    | .e => match early md fr N env hp vs nk ops (i :: rest) f with
      | true => rec N rs env hp vs sd nk (.ops ops [o] :: .chk ops i dn :: .gap ops f rest dn :: ks) fs
      | false => .bad o ⟨env, hp, vs, sd, nk⟩
def stepChk (md : Md) (rec : Rec) (N : Nat) (rs : List ResultVar) (env : Env) (hp : Hp) (vs : List MV) (sd : List Sd) (nk : Nat) (ops : Array Oper) (i : Nat) (dn : List Nat) (ks : List K) (fs : List Frame) : Out :=
  match nth (masks ops.toList []) i with
  | some m => match recheck md env hp vs ops.toList m dn sd with
    | some sd => rec N rs env hp vs sd nk ks fs
    | none => match nth ops.toList i with
      | some o => .bad o ⟨env, hp, vs, sd, nk⟩
      | none => .stuck 41
  | none => .stuck 42
def stepK (md : Md) (fr : Nat → Nat × Nat) (rec : Rec) (N : Nat) (rs : List ResultVar) (env : Env) (hp : Hp) (vs : List MV) (sd : List Sd) (nk : Nat) (ks : List K) (fs : List Frame) : Out :=
  match ks with
  | [] => doRet md rec rs env hp vs sd nk fs 1
  | k :: ks => match k with
    | .blk _ => rec N rs env hp vs sd nk ks fs
    | .inv I => match fs with
      | [] => .again ⟨env, hp, vs, sd, nk⟩ I
      | _ :: _ => .stuck 23
    | .lp b => match lpEnv md.conc env with
      | some env => rec N rs env hp vs sd nk (.c b :: .lp b :: ks) fs
      | none => .stuck 30
    | .ops all l => match l with
      | [] => rec N rs env hp vs sd nk ks fs
      | o :: l => stepO md fr rec N rs env hp vs sd nk all o l ks fs
    | .c code => stepC md fr rec N rs env hp vs sd nk code ks fs
    | .gap ops f plan dn => match plan with
      | [] => match f with
        | none => rec N rs env hp vs sd nk ks fs
        | some _ => .stuck 43
      | i :: rest => match nth ops.toList i with
        | some o => stepGap md fr rec N rs env hp vs sd nk ops f i rest dn ks fs o
        | none => .stuck 44
    | .gapS .. => .stuck 45
    | .chk ops i dn => stepChk md rec N rs env hp vs sd nk ops i dn ks fs
def run (md : Md) (fr : Nat → Nat × Nat) (n : Nat) : Rec :=
  Nat.rec (fun _ _ _ _ _ _ _ _ _ => .stuck 0) (fun _ ih => stepK md fr ih) n
theorem run_zero (md : Md) (fr : Nat → Nat × Nat) (N : Nat) (rs : List ResultVar) (env : Env) (hp : Hp) (vs : List MV) (sd : List Sd) (nk : Nat) (ks : List K) (fs : List Frame) : run md fr 0 N rs env hp vs sd nk ks fs = .stuck 0 := rfl
theorem run_succ (md : Md) (fr : Nat → Nat × Nat) (n N : Nat) (rs : List ResultVar) (env : Env) (hp : Hp) (vs : List MV) (sd : List Sd) (nk : Nat) (ks : List K) (fs : List Frame) : run md fr (n + 1) N rs env hp vs sd nk ks fs = stepK md fr (run md fr n) N rs env hp vs sd nk ks fs := rfl
end
end Go.Vd
