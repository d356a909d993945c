/- The abstract machine of these proofs: values, keys, small programs for operations, and an evaluator over the model's code. Definitions alone. -/
import Derived.Orders
import Derived.Below
set_option autoImplicit false
namespace Go.Proofs.Ytlhknehkcflkgaa.Ab
open Go

/-! ### types, as far as the evaluator looks -/
inductive Z where
  | int (k : IntKind) | bool | str | nil
  deriving DecidableEq
inductive Sh where
  | int (k : IntKind) | bool | str | slice (e : TypeId) | ptr (e : TypeId) | struct (fs : List (TypeId × Nat)) | other
  deriving DecidableEq
structure TI where
  size : Nat
  bytes : Nat
  sh : Sh
  zero : List Z
def TI.agg (i : TI) : Bool := match i.sh with | .struct _ => true | _ => false

/-! ### values -/
/-- what one cell holds -/
inductive Lf (α : TypeId → Type) where
  | int (k : IntKind) (n : Int)
  | bool (b : Bool)
  | str (s : ByteArray)
  | nil
  | sl (e : TypeId) (xs : List (α e))
  | own (id : Nat)
  | ptr (id off : Nat)
  | eptr (id i off : Nat)
  | fptr (e : TypeId) (xs : List (α e)) (i off : Nat)
  | fn (f : FuncId) (cap : List (Nat × Nat))
  | nilp
inductive AV (α : TypeId → Type) where
  | undef
  | one (l : Lf α)
  | st (cs : List (Lf α))
  | tup (vs : List (Bool × List (Lf α)))
inductive Key where
  | tmp (t : Nat) | cell (id off : Nat) | row (id : Nat) | mut (id : Nat) | used (id : Nat)
  deriving DecidableEq
def Key.same : Key → Key → Bool
  | .tmp a, .tmp b => Nat.beq a b
  | .cell a i, .cell b j => bif Nat.beq a b then Nat.beq i j else false
  | .row a, .row b => Nat.beq a b
  | .mut a, .mut b => Nat.beq a b
  | .used a, .used b => Nat.beq a b
  | _, _ => false
inductive Val (α : TypeId → Type) where
  | av (v : AV α) | lf (l : Lf α) | row (e : TypeId) (xs : List (α e)) | num (n : Nat)

structure Reg where
  α : TypeId → Type
  pk : (e : TypeId) → α e → List (Lf α)
  unpk : (e : TypeId) → List (Lf α) → Option (α e)
  dft : (e : TypeId) → α e
  ti : TypeId → Option TI
  eqs : TypeId → Option (List Z)

/-! ### the store -/
abbrev St (α : TypeId → Type) := List (Key × Option (Val α))
section
variable {α : TypeId → Type}
def St.get : St α → Key → Option (Val α)
  | [], _ => none
  | (k', v) :: r, k => bif k'.same k then v else St.get r k
def wr (s : St α) : List (Key × Option (Val α)) → St α
  | [] => s
  | w :: ws => wr (w :: s) ws
end

/-- the same, told on: each write is looked at once -/
def wrK {α : TypeId → Type} {β : Type} : St α → List (Key × Option (Val α)) → (St α → β) → β
  | s, [], k => k s
  | s, w :: ws, k => wrK (w :: s) ws k
/-- a list, laid open once -/
def forceL {γ β : Type} : List γ → (List γ → β) → β
  | [], k => k []
  | x :: xs, k => forceL xs fun ys => k (x :: ys)

/-! ### small programs -/
inductive Prog (α : TypeId → Type) where
  | fail
  | done (ws : List (Key × Option (Val α)))
  | rd (k : Key) (c : Val α → Prog α)
  | no (k : Key) (p : Prog α)
  | ck (c : Bool) (p : Prog α)
  | br (c : Bool) (p q : Prog α)
  | call (f : FuncId) (args : List (List (Lf α))) (c : List (List (Lf α)) → Prog α)

/-- how a function is called ('nw': what it gives back is the address of a new variable; the result told is what that variable holds): its parameters (is it a variable's address? its type), its results (type, which leaves are new rows), the same of the variables behind addresses; does anything in its results lead to what came in? -/
structure Sig where
  ps : List (Bool × TypeId)
  rs : List (TypeId × List Bool)
  bs : List (TypeId × List Bool)
  leaks : Bool
  nw : Bool
  ks : List Nat
/-- masks of cells that a function never writes -/
def tb (mask off : Nat) : Bool := Nat.beq (Nat.land (Nat.shiftRight mask off) 1) 1
def cbit (id off : Nat) : Bool := tb (id / 10000000) off

section
variable (Γ : Reg)

def Z.lf {α : TypeId → Type} : Z → Lf α
  | .int k => .int k 0 | .bool => .bool false | .str => .str ⟨#[]⟩ | .nil => .nil
def Prog.need {α : TypeId → Type} {β : Type} : Option β → (β → Prog α) → Prog α
  | some b, k => k b
  | none, _ => .fail
def AV.cells {α : TypeId → Type} : AV α → Option (List (Lf α))
  | .one l => some [l]
  | .st cs => some cs
  | _ => none
def mkAV {α : TypeId → Type} (agg : Bool) (cs : List (Lf α)) : AV α :=
  match agg, cs with
  | false, [l] => .one l
  | _, cs => .st cs
def cst {α : TypeId → Type} : Value → Option (AV α)
  | .int k n => some (.one (.int k n))
  | .bool b => some (.one (.bool b))
  | .string s => some (.one (.str s))
  | .slice none 0 0 => some (.one .nil)
  | .pointer none => some (.one .nilp)
  | _ => none
def opd {α : TypeId → Type} (x : Operand) (k : AV α → Prog α) : Prog α :=
  match x with
  | .tmp t => .rd (.tmp t) fun | .av v => k v | _ => .fail
  | .const v => .need (cst v) k
  | .func f => k (.one (.fn f []))
  | .global _ => .fail
def opds {α : TypeId → Type} : List Operand → (List (AV α) → Prog α) → Prog α
  | [], k => k []
  | x :: xs, k => opd x fun v => opds xs fun vs => k (v :: vs)
def out {α : TypeId → Type} (d : Option Tmp) (v : AV α) : Prog α :=
  match d with
  | some d => .done [(.tmp d, some (.av v))]
  | none => .fail
/-- is one of these cells never written? -/
def cstAny (id : Nat) : (off n : Nat) → Bool
  | _, 0 => false
  | off, n + 1 => cbit id off || cstAny id (off + 1) n
/-- cells that may have been written -/
def wrCellsM {α : TypeId → Type} (id mask : Nat) : (off : Nat) → List (Lf α) → List (Key × Option (Val α))
  | _, [] => []
  | off, l :: ls => bif tb mask off then wrCellsM id mask (off + 1) ls else (.cell id off, some (.lf l)) :: wrCellsM id mask (off + 1) ls
/-- nothing is told of cells that are never written -/
def mskL {α : TypeId → Type} (mask : Nat) : (off : Nat) → List (Lf α) → List (Lf α)
  | _, [] => []
  | off, l :: ls => (bif tb mask off then .bool false else l) :: mskL mask (off + 1) ls
def mskBs {α : TypeId → Type} : List Nat → List (List (Lf α)) → List (List (Lf α))
  | k :: ks, c :: cs => mskL k 0 c :: mskBs ks cs
  | [], c :: cs => c :: mskBs [] cs
  | _, [] => []
def mskRes {α : TypeId → Type} {β : Type} : List β → List Nat → List (List (Lf α)) → List (List (Lf α))
  | [], ks, cs => mskBs ks cs
  | _ :: rs, ks, c :: cs => c :: mskRes rs ks cs
  | _ :: _, _, [] => []
/-- no cell is both a row that goes along and one that is never written -/
def flOk (mask : Nat) : (off : Nat) → List Bool → Bool
  | _, [] => true
  | off, f :: fs => !(f && tb mask off) && flOk mask (off + 1) fs
/-- the variables that are handed on, with what the function that is called leaves alone -/
def ksOk : List Nat → List Nat → List (TypeId × List Bool) → Bool
  | id :: ids, k :: ks, (_, fs) :: bs => bif Nat.beq (Nat.land (id / 10000000) k) (id / 10000000) && flOk k 0 fs then ksOk ids ks bs else false
  | [], [], [] => true
  | _, _, _ => false
/-- cells of a variable, one after the other -/
def rdCells {α : TypeId → Type} (id : Nat) : (off n : Nat) → (List (Lf α) → Prog α) → Prog α
  | _, 0, k => k []
  | off, n + 1, k => .rd (.cell id off) fun | .lf l => rdCells id (off + 1) n fun ls => k (l :: ls) | _ => .fail
def wrCells {α : TypeId → Type} (id : Nat) : (off : Nat) → List (Lf α) → List (Key × Option (Val α))
  | _, [] => []
  | off, l :: ls => (.cell id off, some (.lf l)) :: wrCells id (off + 1) ls
/-- leaves without names of rows: what is owned is told as a list; 'fz': and is frozen from now on -/
def closeLf {α : TypeId → Type} (fz : Bool) : List (Lf α) → (List (Lf α) → List (Key × Option (Val α)) → Prog α) → Prog α
  | [], k => k [] []
  | .own id :: ls, k => .rd (.row id) fun
      | .row e xs => closeLf fz ls fun cs ws => k (.sl e xs :: cs) (bif fz then (.mut id, none) :: ws else ws)
      | _ => .fail
  | .int j n :: ls, k => closeLf fz ls fun cs ws => k (.int j n :: cs) ws
  | .bool b :: ls, k => closeLf fz ls fun cs ws => k (.bool b :: cs) ws
  | .str s :: ls, k => closeLf fz ls fun cs ws => k (.str s :: cs) ws
  | .nil :: ls, k => closeLf fz ls fun cs ws => k (.nil :: cs) ws
  | .sl e xs :: ls, k => closeLf fz ls fun cs ws => k (.sl e xs :: cs) ws
  | _ :: _, _ => .fail
/-- cells of a variable that is handed on: the flagged rows go with it -/
def closeBx {α : TypeId → Type} (fz : Bool) : List Bool → List (Lf α) → (List (Lf α) → List (Key × Option (Val α)) → List Nat → Prog α) → Prog α
  | _, [], k => k [] [] []
  | true :: fs, l :: ls, k => match l with
    | .own id => .rd (.mut id) fun _ => .rd (.row id) fun
        | .row e xs => closeBx fz fs ls fun cs ws wi => k (.sl e xs :: cs) ws (id :: wi)
        | _ => .fail
    | .nil => closeBx fz fs ls fun cs ws wi => k (.nil :: cs) ws wi
    | _ => .fail
  | fs, l :: ls, k => closeLf fz [l] fun cs1 ws1 => closeBx fz fs.tail ls fun cs ws wi => k (cs1 ++ cs) (ws1 ++ ws) wi
def tkWs {α : TypeId → Type} : List Nat → List (Key × Option (Val α))
  | [] => []
  | id :: ids => (.row id, none) :: (.mut id, none) :: tkWs ids
def mutIds {α : TypeId → Type} : List (Key × Option (Val α)) → List Nat
  | [] => []
  | (.mut id, _) :: r => id :: mutIds r
  | _ :: r => mutIds r
def putAt {β : Type} (l : List β) (off : Nat) (xs : List β) : List β := l.take off ++ xs ++ l.drop (off + xs.length)
def freshId (d j : Nat) : Nat := d + 4096 * (j + 1)
/-- a call's results: leaves that are new rows get names -/
def nameLf {α : TypeId → Type} (d : Nat) : (j : Nat) → List Bool → List (Lf α) → List (Lf α) × List (Key × Option (Val α)) × List Nat
  | j, true :: fs, .sl e xs :: ls =>
    let r := nameLf d (j + 1) fs ls
    (.own (freshId d j) :: r.1, (.used (freshId d j), some (.num (xs.length + 1))) :: (.row (freshId d j), some (.row e xs)) :: (.mut (freshId d j), some (.num 0)) :: r.2.1, freshId d j :: r.2.2)
  | j, _ :: fs, l :: ls => let r := nameLf d (j + 1) fs ls; (l :: r.1, r.2.1, r.2.2)
  | _, _, ls => (ls, [], [])
def noAll {α : TypeId → Type} : List Nat → Prog α → Prog α
  | [], p => p
  | id :: ids, p => .ck (Nat.blt id 900000) (.no (.used id) (noAll ids p))

/-! ### numbers -/
@[reducible] def w64 (n : Int) : Int := IntKind.i64.wrap n
def arith (op : BinOp) (k : IntKind) (a b : Int) : Option Int :=
  match op with
  | .add => some (k.wrap (a + b)) | .sub => some (k.wrap (a - b)) | .mul => some (k.wrap (a * b))
  | .and => some (k.wrap (BitVec.ofInt k.bits a &&& BitVec.ofInt k.bits b).toNat)
  | .or => some (k.wrap (BitVec.ofInt k.bits a ||| BitVec.ofInt k.bits b).toNat)
  | .xor => some (k.wrap (BitVec.ofInt k.bits a ^^^ BitVec.ofInt k.bits b).toNat)
  | .quo => some (k.wrap (a.tdiv b)) | .rem => some (a.tmod b)
  | _ => none
def cmp (op : BinOp) (a b : Int) : Option Bool :=
  match op with
  | .eql => some (a == b) | .neq => some (a != b) | .lss => some (decide (a < b)) | .leq => some (decide (a ≤ b)) | .gtr => some (decide (a > b)) | .geq => some (decide (a ≥ b))
  | _ => none
def shift (op : BinOp) (k : IntKind) (a b : Int) : Option Int :=
  match op with
  | .shl => some (k.wrap (a * 2 ^ min b.toNat k.bits)) | .shr => some (a.fdiv (2 ^ min b.toNat k.bits))
  | _ => none
def isDiv : BinOp → Bool | .quo => true | .rem => true | _ => false
def isShift : BinOp → Bool | .shl => true | .shr => true | _ => false
def eqLf {α : TypeId → Type} : List (Lf α) → List (Lf α) → Option Bool
  | [], [] => some true
  | [.int j a], [.int k b] => bif decide (j = k) then some (a == b) else none
  | [.bool a], [.bool b] => some (a == b)
  | [.str a], [.str b] => some (a == b)
  | .int j a :: ls, .int k b :: ms => bif decide (j = k) then (eqLf ls ms).map fun r => (a == b) && r else none
  | .bool a :: ls, .bool b :: ms => (eqLf ls ms).map fun r => (a == b) && r
  | .str a :: ls, .str b :: ms => (eqLf ls ms).map fun r => (a == b) && r
  | _, _ => none
/-- leaves of these kinds -/
def kindsOk {α : TypeId → Type} : List Z → List (Lf α) → Bool
  | [], [] => true
  | .int k :: zs, .int j _ :: ls => bif decide (k = j) then kindsOk zs ls else false
  | .bool :: zs, .bool _ :: ls => kindsOk zs ls
  | .str :: zs, .str _ :: ls => kindsOk zs ls
  | _, _ => false
def binop (Γ : Reg) (op : BinOp) (d : Option Tmp) (t : TypeId) (x y : AV Γ.α) : Prog Γ.α :=
  match x, y with
  | .one (.int j a), .one (.int k b) =>
    bif isShift op then .ck (decide (0 ≤ b)) (.need (shift op j a b) fun n => out d (.one (.int j n)))
    else bif decide (j = k) then
      match cmp op a b with
      | some r => out d (.one (.bool r))
      | none => bif isDiv op then .ck (b != 0) (.need (arith op j a b) fun n => out d (.one (.int j n))) else .need (arith op j a b) fun n => out d (.one (.int j n))
    else .fail
  | .one (.bool a), .one (.bool b) =>
    .need (Γ.ti t) fun ti => match ti.sh with
    | .bool => (match op with
      | .eql => out d (.one (.bool (a == b)))
      | .neq => out d (.one (.bool (!(a == b))))
      | _ => .fail)
    | _ => .fail
  | .one (.str a), .one (.str b) =>
    match op with
    | .eql => out d (.one (.bool (a.toList == b.toList)))
    | .neq => out d (.one (.bool (!(a.toList == b.toList))))
    | _ => .fail
  | .st xs, .st ys =>
    .need (Γ.eqs t) fun ks => bif kindsOk ks xs && kindsOk ks ys then
      (match op with
      | .eql => .need (eqLf xs ys) fun r => out d (.one (.bool r))
      | .neq => .need (eqLf xs ys) fun r => out d (.one (.bool (!r)))
      | _ => .fail) else .fail
  | _, _ => .fail
def mx (a b : Int) : Int := if b > a then b else a
def mn (a b : Int) : Int := if b < a then b else a
def foldMM {α : TypeId → Type} (f : Int → Int → Int) (k : IntKind) : Int → List (AV α) → Option Int
  | a, [] => some a
  | a, .one (.int j b) :: r => bif decide (j = k) then foldMM f k (f a b) r else none
  | _, _ => none

/-! ### one operation -/
def keyIn (k : Key) : List Key → Bool
  | [] => false
  | k' :: r => bif k'.same k then true else keyIn k r
def rd {β : Type} (xs : List β) (i : Nat) (d : β) : β := xs.getD i d
def strOfInts (xs : List Int) : ByteArray := ⟨(xs.map fun n => n.toNat.toUInt8).toArray⟩
def slElem (Γ : Reg) (t : TypeId) : Option TypeId := match Γ.ti t with | some ⟨_, _, .slice e, _⟩ => some e | _ => none
def asInt' {α : TypeId → Type} : AV α → Option Int
  | .one (.int _ n) => some n
  | _ => none
/-- a slice's elements, as they are now -/
def elems {Γ : Reg} (e : TypeId) (l : Lf Γ.α) (k : List (Γ.α e) → Prog Γ.α) : Prog Γ.α :=
  match l with
  | .nil => k []
  | .sl e' xs => if h : e' = e then k (h ▸ xs) else .fail
  | .own id => .rd (.row id) fun | .row e' xs => (if h : e' = e then k (h ▸ xs) else .fail) | _ => .fail
  | _ => .fail
def newRow {Γ : Reg} (d : Nat) (e : TypeId) (xs : List (Γ.α e)) (ws : List (Key × Option (Val Γ.α))) : Prog Γ.α :=
  .no (.used d) (.done (ws ++ [(.used d, some (.num (xs.length + 1))), (.row d, some (.row e xs)), (.mut d, some (.num 0)), (.tmp d, some (.av (.one (.own d))))]))
def newVar {α : TypeId → Type} (d : Nat) (cs : List (Lf α)) : Prog α :=
  .no (.used d) (.done ((.used d, some (.num cs.length)) :: (wrCells d 0 cs ++ [(.tmp d, some (.av (.one (.ptr d 0))))])))
def unpks {Γ : Reg} (e : TypeId) : List (List (Lf Γ.α)) → Option (List (Γ.α e))
  | [] => some []
  | cs :: r => match Γ.unpk e cs with | some x => (unpks e r).map (x :: ·) | none => none
def closeAll {α : TypeId → Type} (fz : Bool) : List (AV α) → (List (List (Lf α)) → List (Key × Option (Val α)) → Prog α) → Prog α
  | [], k => k [] []
  | v :: vs, k => .need v.cells fun cs => closeLf fz cs fun c ws => closeAll fz vs fun r ws' => k (c :: r) (ws ++ ws')
def fillParts (Γ : Reg) (fs : List (TypeId × Nat)) : List (Nat × List (Lf Γ.α)) → List (Lf Γ.α) → Option (List (Lf Γ.α))
  | [], cells => some cells
  | (i, cs) :: r, cells =>
    match fs[i]? with
    | none => none
    | some (t, off) => match Γ.ti t with
      | none => none
      | some ti => bif Nat.beq cs.length ti.size && Nat.ble (off + ti.size) cells.length then fillParts Γ fs r (putAt cells off cs) else none
def partCells {α : TypeId → Type} : List (Nat × Operand) → (List (Nat × List (Lf α)) → Prog α) → Prog α
  | [], k => k []
  | (i, x) :: r, k => opd x fun v => .need v.cells fun cs => partCells r fun ps => k ((i, cs) :: ps)
/-- parts numbered 0, 1, .. -/
def inOrder {β : Type} : Nat → List (Nat × β) → Bool
  | _, [] => true
  | j, (i, _) :: r => bif Nat.beq i j then inOrder (j + 1) r else false
def boundOf {α : TypeId → Type} (x : Option Operand) (dflt : Int) (k : Int → Prog α) : Prog α :=
  match x with
  | none => k dflt
  | some x => opd x fun v => .need (asInt' v) k

def natIn (n : Nat) : List Nat → Bool
  | [] => false
  | m :: r => bif Nat.beq m n then true else natIn n r
def nodupB : List Nat → Bool
  | [] => true
  | n :: r => bif natIn n r then false else nodupB r
def apartN : List Nat → List Nat → Bool
  | [], _ => true
  | n :: r, l => bif natIn n l then false else apartN r l
def AV.cellsAs {α : TypeId → Type} (agg : Bool) : AV α → Option (List (Lf α))
  | .one l => bif agg then none else some [l]
  | .st cs => bif agg then some cs else none
  | _ => none
/-- a call's arguments: closed leaves; of a variable's address what it holds; the variables, and the rows that go with them -/
def argLf {α : TypeId → Type} (Γti : TypeId → Option TI) (fz : Bool) : List (Bool × TypeId) → List (TypeId × List Bool) → List (AV α) → (List (List (Lf α)) → List Nat → List (Key × Option (Val α)) → List Nat → Prog α) → Prog α
  | [], _, [], k => k [] [] [] []
  | (false, t) :: ps, bs, v :: vs, k => .need (Γti t) fun ti => .need (v.cellsAs ti.agg) fun cs => closeLf fz cs fun c ws => argLf Γti fz ps bs vs fun r ids ws' wi => k (c :: r) ids (ws ++ ws') wi
  | (true, t) :: ps, (_, fs) :: bs, .one (.ptr id 0) :: vs, k => .need (Γti t) fun ti => .rd (.used id) fun
      | .num n => bif Nat.beq n ti.size then rdCells id 0 ti.size fun cs => closeBx fz fs cs fun c ws wi => argLf Γti fz ps bs vs fun r ids ws' wi' => k (c :: r) (id :: ids) (ws ++ ws') (wi ++ wi') else .fail
      | _ => .fail
  | _, _, _, _ => .fail
/-- nothing in it leads to a row that is not told as new -/
def scalTy (Γ : Reg) (e : TypeId) : Bool := match Γ.ti e with | some ti => ti.zero.all (fun | .nil => false | _ => true) | none => false
def noLeak1 (Γ : Reg) : List Bool → List (Lf Γ.α) → Bool
  | _, [] => true
  | true :: fs, .sl e _ :: ls => bif scalTy Γ e then noLeak1 Γ fs ls else false
  | fs, .int _ _ :: ls => noLeak1 Γ fs.tail ls
  | fs, .bool _ :: ls => noLeak1 Γ fs.tail ls
  | fs, .str _ :: ls => noLeak1 Γ fs.tail ls
  | _, _ => false
def noLeaks (Γ : Reg) : List (TypeId × List Bool) → List (List (Lf Γ.α)) → Bool
  | (_, fs) :: r, cs :: css => bif noLeak1 Γ fs cs then noLeaks Γ r css else false
  | _, _ => true
def resAVs (Γti : TypeId → Option TI) {α : TypeId → Type} (d : Nat) : (j : Nat) → List (TypeId × List Bool) → List (List (Lf α)) → Option (List (Bool × List (Lf α)) × List (Key × Option (Val α)) × List Nat × List (List (Lf α)))
  | _, [], rest => some ([], [], [], rest)
  | j, (t, fs) :: rs, cs :: css =>
    match Γti t with
    | none => none
    | some ti =>
      let n := nameLf d j fs cs
      match resAVs Γti d (j + cs.length) rs css with
      | some (vs, ws, ids, rest) => some ((ti.agg, n.1) :: vs, n.2.1 ++ ws, n.2.2 ++ ids, rest)
      | none => none
  | _, _, _ => none
def boxWs {α : TypeId → Type} : List Nat → List Nat → List (Bool × List (Lf α)) → List (Key × Option (Val α))
  | id :: ids, k :: ks, (_, cs) :: r => wrCellsM id k 0 cs ++ boxWs ids ks r
  | _, _, _ => []
def tupAV {α : TypeId → Type} : List (Bool × List (Lf α)) → AV α
  | [(b, cs)] => mkAV b cs
  | vs => .tup vs
/-- the types of the variables behind addresses, told twice -/
def bsOk : List (Bool × TypeId) → List (TypeId × List Bool) → Bool
  | [], [] => true
  | (false, _) :: ps, bs => bsOk ps bs
  | (true, t) :: ps, (t', _) :: bs => bif Nat.beq t t' then bsOk ps bs else false
  | _, _ => false
/-- the end of a call: the result, or a new variable that holds it -/
def finWs {α : TypeId → Type} (nw : Bool) (d : Option Tmp) (vs : List (Bool × List (Lf α))) : Option (List Nat × List (Key × Option (Val α))) :=
  match nw, d, vs with
  | false, none, _ => some ([], [])
  | false, some d, vs => some ([], [(.tmp d, some (.av (tupAV vs)))])
  | true, some d, [(_, cs)] => some ([d], (.used d, some (.num cs.length)) :: (wrCells d 0 cs ++ [(.tmp d, some (.av (.one (.ptr d 0))))]))
  | _, _, _ => none
/-- names of a call's own are made out of this -/
def callBase : Option Tmp → Nat
  | some d => d
  | none => 3500
def callFn (Γ : Reg) (d : Option Tmp) (s : Sig) (f : FuncId) (args : List (AV Γ.α)) : Prog Γ.α :=
    argLf Γ.ti true s.ps s.bs args fun cs ids ws0 wi =>
      bif nodupB ids && (bsOk s.ps s.bs && (nodupB wi && (apartN wi (mutIds ws0) && ksOk ids s.ks s.bs))) then
      let ws := (bif s.leaks then ws0 else []) ++ tkWs wi
      .call f cs fun rs0 =>
        let rs := mskRes s.rs s.ks rs0
        bif s.leaks || noLeaks Γ (s.rs ++ s.bs) rs then
        .need (resAVs Γ.ti (callBase d) 0 s.rs rs) fun (vs, ws1, ids1, rest) =>
          .need (resAVs Γ.ti (callBase d) 64 s.bs rest) fun (bs, ws2, ids2, _) =>
            .need (finWs s.nw d vs) fun (ids3, ws3) =>
              bif nodupB (ids1 ++ ids2) && apartN ids3 (ids1 ++ ids2) then noAll (ids1 ++ ids2) (noAll ids3 (.done (ws ++ (ws1 ++ (ws2 ++ (boxWs ids s.ks bs ++ ws3)))))) else .fail
        else .fail
      else .fail

def appendP (Γ : Reg) (d : Option Tmp) (t : TypeId) (s x : AV Γ.α) : Prog Γ.α :=
  match d, s, x with
  | some d, .one s, .one x =>
    .need (slElem Γ t) fun e => .need (Γ.ti e) fun ti =>
      elems e x fun xs =>
        let go (ys : List (Γ.α e)) (ws : List (Key × Option (Val Γ.α))) : Prog Γ.α := .ck (decide ((ys.length + xs.length) * ti.bytes ≤ 140737488355328)) (newRow d e (ys ++ xs) ws)
        match s with
        | .nil => go [] []
        | .own id => .rd (.mut id) fun _ => .rd (.row id) fun
            | .row e' ys => (if h : e' = e then go (h ▸ ys) [(.row id, some (.num 0)), (.mut id, none)] else .fail)
            | _ => .fail
        | _ => .fail
  | _, _, _ => .fail

def opProg (Γ : Reg) (sg : FuncId → Option Sig) (o : Oper) : Prog Γ.α :=
  match o.op with
  | .move x | .assign x => opd x (out o.dst)
  | .pick c a b => opd c fun | .one (.bool t) => .br t (opd a (out o.dst)) (opd b (out o.dst)) | _ => .fail
  | .alloc t => .need o.dst fun d => .need (Γ.ti t) fun ti => newVar d (ti.zero.map Z.lf)
  | .box _ x => .need o.dst fun d => opd x fun v => .need v.cells fun cs => newVar d cs
  | .build t parts => .need (Γ.ti t) fun ti =>
      match ti.sh with
      | .struct fs => partCells parts.toList fun ps => .need (fillParts Γ fs ps (ti.zero.map Z.lf)) fun cs => forceL cs fun cs => out o.dst (.st cs)
      | _ => .fail
  | .buildSlice t len parts => .need o.dst fun d => .need (slElem Γ t) fun e => .need (Γ.ti e) fun ti =>
      bif Nat.beq parts.toList.length len && inOrder 0 parts.toList && Nat.ble (len * ti.size) 16777216 then
        opds (parts.toList.map (·.2)) fun vs => closeAll true vs fun cs ws => .need (unpks e cs) fun xs => newRow d e xs ws
      else .fail
  | .load t a => .need (Γ.ti t) fun ti => opd a fun
      | .one (.ptr id off) => rdCells id off ti.size fun cs => out o.dst (mkAV ti.agg cs)
      | .one (.fptr e xs i off) => forceL (((Γ.pk e (rd xs i (Γ.dft e))).drop off).take ti.size) fun cs => bif Nat.beq cs.length ti.size then out o.dst (mkAV ti.agg cs) else .fail
      | .one (.eptr id i off) => .rd (.row id) fun
          | .row e xs => forceL (((Γ.pk e (rd xs i (Γ.dft e))).drop off).take ti.size) fun cs => bif Nat.beq cs.length ti.size then out o.dst (mkAV ti.agg cs) else .fail
          | _ => .fail
      | _ => .fail
  | .store t a v => .need (Γ.ti t) fun ti => opd a fun
      | .one (.ptr id off) => opd v fun v => .need v.cells fun cs =>
          bif Nat.beq cs.length ti.size && !cstAny id off ti.size then .rd (.used id) fun v => match v with | .num n => .ck (Nat.ble (off + ti.size) n) (.done (wrCells id off cs ++ (match o.dst with | some d => [(.tmp d, some (.av .undef))] | none => []))) | _ => .fail else .fail
      | .one (.eptr id i off) => opd v fun v => .need v.cells fun cs =>
          bif Nat.beq cs.length ti.size then
            closeLf true cs fun cs ws => .rd (.mut id) fun _ => .rd (.row id) fun
              | .row e xs => bif keyIn (.mut id) (ws.map (·.1)) then .fail else .need (Γ.unpk e (putAt (Γ.pk e (rd xs i (Γ.dft e))) off cs)) fun x =>
                  .done (ws ++ (.row id, some (.row e (xs.set i x))) :: (match o.dst with | some d => [(.tmp d, some (.av .undef))] | none => []))
              | _ => .fail
          else .fail
      | _ => .fail
  | .nilCheck x => opd x fun
      | .one (.ptr id off) => out o.dst (.one (.ptr id off))
      | .one (.eptr id i off) => out o.dst (.one (.eptr id i off))
      | .one (.fptr e xs i off) => out o.dst (.one (.fptr e xs i off))
      | _ => .fail
  | .binOp op t x y _ => opd x fun a => opd y fun b => binop Γ op o.dst t a b
  | .unOp op _ x => opd x fun
      | .one (.int k n) => match op with
        | .neg => out o.dst (.one (.int k (k.wrap (0 - n))))
        | _ => .fail
      | .one (.bool b) => match op with
        | .not => out o.dst (.one (.bool (!b)))
        | _ => .fail
      | _ => .fail
  | .convert src dst x => .need (Γ.ti src) fun _ => .need (Γ.ti dst) fun di => opd x fun
      | .one (.int _ n) => match di.sh with
        | .int k => out o.dst (.one (.int k (k.wrap n)))
        | _ => .fail
      | _ => .fail
  | .makeSlice t len cap => .need o.dst fun d => .need (slElem Γ t) fun e => .need (Γ.ti e) fun ti => opd len fun a => opd cap fun b =>
      .need (asInt' a) fun n => .need (asInt' b) fun m => .need (Γ.unpk e (ti.zero.map Z.lf)) fun z =>
        .ck (n == m) (.ck (decide (0 ≤ n)) (.ck (decide (n * ti.bytes ≤ 140737488355328)) (newRow d e (List.replicate n.toNat z) [])))
  | .slice t x lo hi none => .need (slElem Γ t) fun e => .need (Γ.ti e) fun _ => opd x fun
      | .one l => closeLf true [l] fun cs ws => match cs with
        | [l] => elems e l fun xs => boundOf lo 0 fun i => boundOf hi xs.length fun j =>
            .ck (decide (0 ≤ i)) (.ck (decide (i ≤ j)) (.ck (decide (j ≤ xs.length)) (.need o.dst fun d =>
              .done (ws ++ [(.tmp d, some (.av (.one (.sl e ((xs.take j.toNat).drop i.toNat)))))]))))
        | _ => .fail
      | _ => .fail
  | .fieldAddr t x f => .need (Γ.ti t) fun ti =>
      match ti.sh with
      | .struct fs => .need fs[f]? fun (ft, o') => .need (Γ.ti ft) fun _ => opd x fun
          | .one (.ptr id off) => out o.dst (.one (.ptr id (off + o')))
          | .one (.eptr id i off) => out o.dst (.one (.eptr id i (off + o')))
          | .one (.fptr e xs i off) => out o.dst (.one (.fptr e xs i (off + o')))
          | _ => .fail
      | _ => .fail
  | .field t x f => .need (Γ.ti t) fun ti =>
      match ti.sh with
      | .struct fs => .need fs[f]? fun (ft, o') => .need (Γ.ti ft) fun fi => opd x fun
          | .st cs => forceL ((cs.drop o').take fi.size) fun cs => bif Nat.beq cs.length fi.size then out o.dst (mkAV fi.agg cs) else .fail
          | _ => .fail
      | _ => .fail
  | .indexAddr t x i => .need (slElem Γ t) fun e => .need (Γ.ti e) fun _ => opd x fun
      | .one (.sl e' xs) => if h : e' = e then opd i fun v => .need (asInt' v) fun n => .ck (decide (0 ≤ n)) (.ck (decide (n < xs.length)) (out o.dst (.one (.fptr e (h ▸ xs) n.toNat 0)))) else .fail
      | .one (.own id) => .rd (.row id) fun
          | .row e' xs => bif Nat.beq e' e then opd i fun v => .need (asInt' v) fun n => .ck (decide (0 ≤ n)) (.ck (decide (n < xs.length)) (out o.dst (.one (.eptr id n.toNat 0)))) else .fail
          | _ => .fail
      | _ => .fail
  | .extract x i => opd x fun
      | .tup vs => .need vs[i]? fun (b, cs) => out o.dst (mkAV b cs)
      | _ => .fail
  | .call c =>
    match c.callee with
    | .builtin b =>
      match b with
      | .len => .need (c.argTypes[0]?.bind (slElem Γ)) fun _ => opds c.args.toList fun
          | [.one .nil] => out o.dst (.one (.int .i64 0))
          | [.one (.sl _ xs)] => out o.dst (.one (.int .i64 xs.length))
          | [.one (.own id)] => .rd (.row id) fun | .row _ xs => out o.dst (.one (.int .i64 xs.length)) | .num _ => .rd (.used id) (fun | .num n => out o.dst (.one (.int .i64 ((n - 1 : Nat) : Int))) | _ => .fail) | _ => .fail
          | _ => .fail
      | .append => match c.argTypes.toList with
          | [t, t'] => bif Nat.beq t t' then opds c.args.toList fun | [s, x] => appendP Γ o.dst t s x | _ => .fail else .fail
          | _ => .fail
      | .max => opds c.args.toList fun | .one (.int k a) :: r => .need (foldMM mx k a r) fun n => out o.dst (.one (.int k n)) | _ => .fail
      | .min => opds c.args.toList fun | .one (.int k a) :: r => .need (foldMM mn k a r) fun n => out o.dst (.one (.int k n)) | _ => .fail
      | _ => .fail
    | .value (.func f) => .need (sg f) fun s => opds c.args.toList fun vs => callFn Γ o.dst s f vs
    | _ => .fail
  | _ => .fail

/-! ### evaluation -/
variable {Γ}
/-- a choice, and a next step, under names of their own: so that they stay as they are when the machine is laid open -/
def sel {β : Type} (c : Bool) (a b : β) : β := match c with | true => a | false => b
def obind {β γ : Type} (x : Option β) (k : β → Option γ) : Option γ := match x with | some b => k b | none => none
abbrev Orc (Γ : Reg) (ρ : Type) := FuncId → List (List (Lf Γ.α)) → (List (List (Lf Γ.α)) → Option ρ) → Option ρ
variable {ρ : Type}
/-- a small program over a store: the writes, the keys read and written -/
def evP (O : Orc Γ ρ) : Prog Γ.α → St Γ.α → List Key → (List (Key × Option (Val Γ.α)) → List Key → Option ρ) → Option ρ
  | .fail, _, _, _ => none
  | .done ws, _, rs, k => k ws rs
  | .rd key c, s, rs, k => match s.get key with | some v => evP O (c v) s (key :: rs) k | none => none
  | .no key p, s, rs, k => match s.get key with | some _ => none | none => evP O p s (key :: rs) k
  | .ck c p, s, rs, k => sel c (evP O p s rs k) none
  | .br c p q, s, rs, k => sel c (evP O p s rs k) (evP O q s rs k)
  | .call f args c, s, rs, k => O f args fun r => evP O (c r) s rs k

structure FP where
  rs : List Key
  ws : List Key
def apartK : List Key → List Key → Bool
  | [], _ => true
  | k :: r, l => bif keyIn k l then false else apartK r l
def FP.indep (a b : FP) : Bool := apartK a.ws b.rs && apartK a.ws b.ws && apartK a.rs b.ws
/-- which operations come ahead of operation i in every order: as the bits of a number -/
def preds (ops : List Oper) : List Nat :=
  (ops.foldl (fun acc o => acc ++ [o.after.toList.foldl (fun s e => bif Region.binds .any e then s ||| 2 ^ e.on ||| acc.getD e.on 0 else s) 0]) [])
def pairOk (p : Nat) (b : FP) : Nat → List FP → Bool
  | _, [] => true
  | i, a :: r => bif p.testBit i || FP.indep a b then pairOk p b (i + 1) r else false
def allOk : List Nat → List FP → List FP → Bool
  | p :: ps, seen, b :: r => bif pairOk p b 0 seen then allOk ps (seen ++ [b]) r else false
  | _, _, [] => true
  | [], _, _ :: _ => false

/-- what an operation comes after stands ahead of it in the text -/
def edgesOk : Nat → List Oper → Bool
  | _, [] => true
  | i, o :: r => bif o.after.toList.all (fun e => bif Region.binds .any e then Nat.blt e.on i else true) then edgesOk (i + 1) r else false
structure Kont (Γ : Reg) (ρ : Type) where
  normal : St Γ.α → Option ρ
  exit : Nat → St Γ.α → Option ρ
  ret : St Γ.α → Option ρ

def dstKey (d : Option Tmp) : List (Key × Option (Val Γ.α)) := match d with | some d => [(.tmp d, some (.av .undef))] | none => []
def setB (s : St Γ.α) (t : Tmp) (b : Bool) : St Γ.α := (.tmp t, some (.av (.one (.bool b)))) :: s
/-- the operations of a region in the text's order -/
def evOps (sg : FuncId → Option Sig) (O : Orc Γ ρ) (all : List Oper) : List Oper → St Γ.α → List FP → (St Γ.α → List FP → Option ρ) → Option ρ
  | [], s, fps, k => k s fps
  | o :: rest, s, fps, k =>
    match o.guard with
    | none => evP O (opProg Γ sg o) s [] fun ws rs => wrK s ws fun s' => evOps sg O all rest s' (fps ++ [⟨rs, ws.map (·.1)⟩]) k
    | some (j, want) =>
      match (all[j]?).bind (·.dst) with
      | none => none
      | some t =>
        let yes (s : St Γ.α) : Option ρ := evP O (opProg Γ sg o) s [.tmp t] fun ws rs => wrK s ws fun s' => evOps sg O all rest s' (fps ++ [⟨rs, ws.map (·.1)⟩]) k
        let noo (s : St Γ.α) : Option ρ := wrK s (dstKey o.dst) fun s' => evOps sg O all rest s' (fps ++ [⟨[.tmp t], (dstKey (Γ := Γ) o.dst).map (·.1)⟩]) k
        match s.get (.tmp t) with
        | some (.av (.one (.bool b))) => bif want then sel b (yes (setB s t true)) (noo (setB s t false)) else sel b (noo (setB s t true)) (yes (setB s t false))
        | some (.av .undef) => noo s
        | _ => none

/-- what is carried over a cut: keys, and of what kind -/
inductive CK where
  | int (k : IntKind) | bool | sl (e : TypeId) | own (e : TypeId) (id : Nat) | st (t : TypeId) | ptr (id off n : Nat) | str | eptr (k : Key) (id off : Nat) | fptr (e : TypeId) (off : Nat)
def CK.ty (Γ : Reg) : CK → Type
  | .int _ => Int | .bool => Bool | .sl e => List (Γ.α e) | .own e _ => List (Γ.α e) | .st t => Γ.α t | .ptr .. => Unit | .str => ByteArray | .eptr .. => Nat | .fptr e _ => List (Γ.α e) × Nat
abbrev Carry := List (Key × CK)
def Carry.ty (Γ : Reg) : Carry → Type
  | [] => Unit
  | [(_, c)] => c.ty Γ
  | (_, c) :: r => c.ty Γ × Carry.ty Γ r

def mkLeaf {α : TypeId → Type} (k : Key) (l : Lf α) : Key × Option (Val α) := match k with | .tmp t => (.tmp t, some (.av (.one l))) | k => (k, some (.lf l))
def mkMark {α : TypeId → Type} (_k : Key) : St α := []
def mk1 (Γ : Reg) (k : Key) : (c : CK) → c.ty Γ → St Γ.α
  | .int j, x => mkLeaf k (.int j x) :: mkMark k
  | .bool, x => mkLeaf k (.bool x) :: mkMark k
  | .str, x => mkLeaf k (.str x) :: mkMark k
  | .sl e, x => mkLeaf k (.sl e x) :: mkMark k
  | .own e id, x => mkLeaf k (.own id) :: (.row id, some (.row e x)) :: (.mut id, some (.num 0)) :: (.used id, some (.num (x.length + 1))) :: mkMark k
  | .st t, x => (k, some (.av (.st (Γ.pk t x)))) :: mkMark k
  | .ptr id off n, _ => mkLeaf k (.ptr id off) :: (.used id, some (.num n)) :: mkMark k
  | .eptr _ id off, x => mkLeaf k (.eptr id x off) :: mkMark k
  | .fptr e off, x => mkLeaf k (.fptr e x.1 x.2 off) :: mkMark k
def Carry.mk (Γ : Reg) : (C : Carry) → C.ty Γ → St Γ.α
  | [], _ => []
  | [(k, c)], x => mk1 Γ k c x
  | (k, c) :: c2 :: r, x => mk1 Γ k c x.1 ++ Carry.mk Γ (c2 :: r) x.2

/-- a leaf, closed, and the row's name, if it is one -/
def closed (s : St Γ.α) : Lf Γ.α → Option (Lf Γ.α × List Nat)
  | .own id => match s.get (.row id) with | some (.row e xs) => some (.sl e xs, [id]) | _ => none
  | .int k n => some (.int k n, [])
  | .bool b => some (.bool b, [])
  | .str b => some (.str b, [])
  | .nil => some (.nil, [])
  | .sl e xs => some (.sl e xs, [])
  | _ => none
def closedL (s : St Γ.α) : List (Lf Γ.α) → Option (List (Lf Γ.α) × List Nat)
  | [] => some ([], [])
  | l :: ls => match closed s l, closedL s ls with | some (c, i), some (cs, is) => some (c :: cs, i ++ is) | _, _ => none
def keyLf (s : St Γ.α) (k : Key) : Option (Lf Γ.α) :=
  match k with
  | .tmp t => match s.get (.tmp t) with | some (.av (.one l)) => some l | _ => none
  | .cell id off => match s.get (.cell id off) with | some (.lf l) => some l | _ => none
  | _ => none
/-- what a key holds, as a value of its kind; the names of the rows that are taken as new ones, and as frozen ones -/
def proj1 (s : St Γ.α) (k : Key) : (c : CK) → Option (c.ty Γ × List Nat × List Nat)
  | .int j => match keyLf s k with | some (.int j' n) => bif decide (j' = j) then some (n, [], []) else none | _ => none
  | .bool => match keyLf s k with | some (.bool b) => some (b, [], []) | _ => none
  | .str => match keyLf s k with | some (.str b) => some (b, [], []) | _ => none
  | .sl e => match keyLf s k with
    | some .nil => some ([], [], [])
    | some (.sl e' xs) => if h : e' = e then some (h ▸ xs, [], []) else none
    | some (.own id) => match s.get (.row id) with | some (.row e' xs) => if h : e' = e then some (h ▸ xs, [], [id]) else none | _ => none
    | _ => none
  | .own e _ => match keyLf s k with
    | some .nil => some ([], [], [])
    | some (.own id) => match s.get (.mut id), s.get (.row id) with | some _, some (.row e' xs) => if h : e' = e then some (h ▸ xs, [id], []) else none | _, _ => none
    | _ => none
  | .st t => match s.get k with
    | some (.av (.st cs)) => match closedL s cs with | some (cs, fr) => (Γ.unpk t cs).map fun x => (x, [], fr) | none => none
    | _ => none
  | .ptr id off n => match keyLf s k, s.get (.used id) with | some (.ptr id' off'), some (.num n') => bif Nat.beq id' id && (Nat.beq off' off && Nat.beq n' n) then some ((), [], []) else none | _, _ => none
  | .eptr k' _ off => match keyLf s k, keyLf s k' with | some (.eptr src i off'), some (.own src') => bif Nat.beq src src' && Nat.beq off' off then some (i, [], []) else none | _, _ => none
  | .fptr e off => match keyLf s k with | some (.fptr e' xs i off') => (if h : e' = e then (bif Nat.beq off' off then some ((h ▸ xs, i), [], []) else none) else none) | _ => none
def Carry.proj (s : St Γ.α) : (C : Carry) → Option (C.ty Γ × List Nat × List Nat)
  | [] => some ((), [], [])
  | [(k, c)] => proj1 s k c
  | (k, c) :: c2 :: r => match proj1 s k c, Carry.proj s (c2 :: r) with | some (x, o, f), some (y, o', f') => some ((x, y), o ++ o', f ++ f') | _, _ => none
/-- the names that a cut gives are all different -/
def Carry.names : Carry → List Nat
  | [] => []
  | (_, .own _ id) :: r => id :: names r
  | _ :: r => names r
def Carry.ptrs : Carry → List Nat
  | [] => []
  | (_, .ptr id _ _) :: r => id :: ptrs r
  | _ :: r => ptrs r
/-- temporaries, and cells of variables that are told of, too -/
def Carry.cellsOk (ps : List Nat) : Carry → Bool
  | [] => true
  | (.tmp _, _) :: r => cellsOk ps r
  | (.cell id _, _) :: r => bif natIn id ps then cellsOk ps r else false
  | _ :: _ => false
/-- a pointer into a row goes with the row -/
def Carry.hasOwn (k : Key) (id : Nat) : Carry → Bool
  | [] => false
  | (k', .own _ id') :: r => bif k'.same k && Nat.beq id' id then true else hasOwn k id r
  | _ :: r => hasOwn k id r
def Carry.eptrsOk (C : Carry) : Carry → Bool
  | [] => true
  | (_, .eptr k' id _) :: r => bif C.hasOwn k' id then eptrsOk C r else false
  | _ :: r => eptrsOk C r
def Carry.keysOk (C : Carry) : Bool := nodupB C.names && (apartN C.names C.ptrs && (C.cellsOk C.ptrs && (C.names.all (Nat.blt · 900000) && C.eptrsOk C)))
def Carry.go (C : Carry) (s : St Γ.α) (k : C.ty Γ → Option ρ) : Option ρ :=
  match C.proj s with
  | some (v, o, f) => bif C.keysOk && (nodupB o && apartN o f) then k v else none
  | none => none

/-! ### code -/
inductive Ann (Γ : Reg) (ρ : Type) : Type where
  | none
  | seq (a b : Ann Γ ρ)
  | join (C : Carry) (J : C.ty Γ → Option ρ) (a b : Ann Γ ρ)
  | cond (a b : Ann Γ ρ)
  | block (a : Ann Γ ρ)
  | loop (C : Carry) (L : Nat → C.ty Γ → Option ρ) (body : (C.ty Γ → Option ρ) → Ann Γ ρ)

def evRegion (sg : FuncId → Option Sig) (O : Orc Γ ρ) (ops : List Oper) (draw : Bool) (s : St Γ.α) (k : St Γ.α → Option ρ) : Option ρ :=
  evOps sg O ops ops s [] fun s' fps => bif draw then (bif edgesOk 0 ops && allOk (preds ops) [] fps then k s' else none) else k s'

def ev (sg : FuncId → Option Sig) (O : Orc Γ ρ) (fuel : Nat) : Code → Ann Γ ρ → St Γ.α → Kont Γ ρ → Option ρ
  | .skip, _, s, K => K.normal s
  | .region _ ops draw, _, s, K => evRegion sg O ops.toList draw s K.normal
  | .seq a b, .seq x y, s, K => ev sg O fuel a x s { K with normal := fun s' => ev sg O fuel b y s' K }
  | .seq a _, .join C J x _, s, K => ev sg O fuel a x s { K with normal := fun s' => C.go s' J }
  | .seq a b, _, s, K => ev sg O fuel a .none s { K with normal := fun s' => ev sg O fuel b .none s' K }
  | .cond c a b, z, s, K =>
    match c with
    | .tmp t => match s.get (.tmp t) with
      | some (.av (.one (.bool v))) => sel v (ev sg O fuel a (match z with | .cond x _ => x | _ => .none) (setB s t true) K) (ev sg O fuel b (match z with | .cond _ y => y | _ => .none) (setB s t false) K)
      | _ => none
    | .const (.bool true) => ev sg O fuel a (match z with | .cond x _ => x | _ => .none) s K
    | .const (.bool false) => ev sg O fuel b (match z with | .cond _ y => y | _ => .none) s K
    | _ => none
  | .block id c, z, s, K => ev sg O fuel c (match z with | .block x => x | _ => .none) s { K with exit := fun i s' => bif Nat.beq i id then K.normal s' else K.exit i s' }
  | .loop _, .loop C L _, s, _ => C.go s (L fuel)
  | .exit id, _, s, K => K.exit id s
  | .ret, _, s, K => K.ret s
  | _, _, _, _ => none

/-- what must hold of the functions that stand at the cuts -/
def obl (sg : FuncId → Option Sig) (O : Orc Γ ρ) (fuel : Nat) : Code → Ann Γ ρ → Kont Γ ρ → Prop
  | .seq a b, .seq x y, K => obl sg O fuel a x { K with normal := fun s' => ev sg O fuel b y s' K } ∧ obl sg O fuel b y K
  | .seq a b, .join C J x y, K => obl sg O fuel a x { K with normal := fun s' => C.go s' J } ∧ (∀ v, J v = forceL (C.mk Γ v) fun s => ev sg O fuel b y s K) ∧ obl sg O fuel b y K
  | .cond _ a b, .cond x y, K => obl sg O fuel a x K ∧ obl sg O fuel b y K
  | .block id c, .block x, K => obl sg O fuel c x { K with exit := fun i s' => bif Nat.beq i id then K.normal s' else K.exit i s' }
  | .loop c, .loop C L body, K => (∀ v, L 0 v = none) ∧ (∀ n v, L (n + 1) v = forceL (C.mk Γ v) fun s => ev sg O fuel c (body (L n)) s { K with normal := fun s' => C.go s' (L n) }) ∧
      ∀ n, obl sg O fuel c (body (L n)) { K with normal := fun s' => C.go s' (L n) }
  | _, _, _ => True

/-! ### a function -/
/-- the types of what comes in -/
def parTy (Γ : Reg) : List (Bool × TypeId) → Type
  | [] => Unit
  | [(_, t)] => Γ.α t
  | (_, t) :: r => Γ.α t × parTy Γ r
def resTy (Γ : Reg) : List (TypeId × List Bool) → Type
  | [] => Unit
  | [(t, _)] => Γ.α t
  | (t, _) :: r => Γ.α t × resTy Γ r
def boxId (i mask : Nat) : Nat := 900000 + i + 10000000 * mask
def ksHead : Bool → List Nat → Nat
  | true, k :: _ => k
  | _, _ => 0
def ksTail (b : Bool) (ks : List Nat) : List Nat := match b with | true => ks.tail | false => ks
def rowId (i j : Nat) : Nat := 890000 + (100 * i + j)
/-- cells of a variable that came in: the flagged rows are the function's own -/
def parCells {α : TypeId → Type} (i id : Nat) : (off : Nat) → List Bool → List (Lf α) → List (Key × Option (Val α))
  | _, _, [] => []
  | off, true :: fs, .sl e xs :: ls => (.used (rowId i off), some (.num (xs.length + 1))) :: (.row (rowId i off), some (.row e xs)) :: (.mut (rowId i off), some (.num 0)) :: (.cell id off, some (.lf (.own (rowId i off)))) :: parCells i id (off + 1) fs ls
  | off, fs, l :: ls => (.cell id off, some (.lf l)) :: parCells i id (off + 1) fs.tail ls
def bsHead : Bool → List (TypeId × List Bool) → List Bool
  | true, (_, fs) :: _ => fs
  | _, _ => []
def bsTail (b : Bool) (bs : List (TypeId × List Bool)) : List (TypeId × List Bool) := match b with | true => bs.tail | false => bs
def par1 (Γ : Reg) (i mask : Nat) (b : Bool) (t : TypeId) (fs : List Bool) (x : Γ.α t) : List (Key × Option (Val Γ.α)) :=
  bif b then (.used (boxId i mask), some (.num (Γ.pk t x).length)) :: (parCells i (boxId i mask) 0 fs (Γ.pk t x) ++ [(.tmp i, some (.av (.one (.ptr (boxId i mask) 0))))])
  else [(.tmp i, some (.av (mkAV (match Γ.ti t with | some ti => ti.agg | none => false) (Γ.pk t x))))]
def parSt (Γ : Reg) : (i : Nat) → (ps : List (Bool × TypeId)) → List (TypeId × List Bool) → List Nat → parTy Γ ps → St Γ.α
  | _, [], _, _, _ => []
  | i, [(b, t)], bs, ks, x => wr [] (par1 Γ i (ksHead b ks) b t (bsHead b bs) x)
  | i, (b, t) :: p2 :: r, bs, ks, x => wr (parSt Γ (i + 1) (p2 :: r) (bsTail b bs) (ksTail b ks) x.2) (par1 Γ i (ksHead b ks) b t (bsHead b bs) x.1)
/-- closed leaves of a result: those that are told as new rows are such -/
def resLf (s : St Γ.α) : List Bool → List (Lf Γ.α) → Option (List (Lf Γ.α) × List Nat × List Nat)
  | _, [] => some ([], [], [])
  | true :: fs, l :: ls =>
    match resLf s fs ls with
    | none => none
    | some (cs, o, f) => match l with
      | .own id => match s.get (.mut id), s.get (.row id) with | some _, some (.row e xs) => some (.sl e xs :: cs, id :: o, f) | _, _ => none
      | .nil => some (.nil :: cs, o, f)
      | _ => none
  | fs, l :: ls =>
    match resLf s fs.tail ls, closed s l with
    | some (cs, o, f), some (c, i) => some (c :: cs, o, i ++ f)
    | _, _ => none
def cellsOf (s : St Γ.α) (id : Nat) : (off n : Nat) → Option (List (Lf Γ.α))
  | _, 0 => some []
  | off, n + 1 => match s.get (.cell id off), cellsOf s id (off + 1) n with | some (.lf l), some ls => some (l :: ls) | _, _ => none
def resCell (s : St Γ.α) (t : TypeId) (ti : TI) : ResultVar → Option (List (Lf Γ.α))
  | .tmp x => match s.get (.tmp x) with | some (.av v) => v.cellsAs ti.agg | _ => none
  | .cell a ty => bif Nat.beq ty t then (match s.get (.tmp a) with | some (.av (.one (.ptr id off))) => cellsOf s id off ti.size | _ => none) else none
def resCells (s : St Γ.α) (Γti : TypeId → Option TI) : List ResultVar → List (TypeId × List Bool) → Option (List (List (Lf Γ.α)))
  | [], [] => some []
  | rv :: rvs, (t, _) :: rs => match Γti t with
    | none => none
    | some ti => match resCell s t ti rv, resCells s Γti rvs rs with | some cs, some css => some (cs :: css) | _, _ => none
  | _, _ => none
def unpk1 (Γ : Reg) (s : St Γ.α) (t : TypeId) (fs : List Bool) (cs : List (Lf Γ.α)) : Option (Γ.α t × List Nat × List Nat) :=
  match resLf s fs cs with
  | some (cs, o, f) => (match Γ.unpk t cs with | some x => some (x, o, f) | none => none)
  | none => none
def opt3 {β γ : Type} (x : Option (β × List Nat × List Nat)) (y : Option (γ × List Nat × List Nat)) : Option ((β × γ) × List Nat × List Nat) :=
  match x, y with | some (x, o, f), some (y, o', f') => some ((x, y), o ++ o', f ++ f') | _, _ => none
def unpkAll (Γ : Reg) (s : St Γ.α) : (rs : List (TypeId × List Bool)) → List (List (Lf Γ.α)) → Option (resTy Γ rs × List Nat × List Nat)
  | [], [] => some ((), [], [])
  | [(t, fs)], [cs] => unpk1 Γ s t fs cs
  | (t, fs) :: r2 :: r, cs :: css => opt3 (unpk1 Γ s t fs cs) (unpkAll Γ s (r2 :: r) css)
  | _, _ => none
/-- what a variable holds in the end; of what is never written: anything -/
def cellsOfM (s : St Γ.α) (id mask : Nat) : (off : Nat) → List Z → Option (List (Lf Γ.α))
  | _, [] => some []
  | off, z :: zs => bif tb mask off then (match cellsOfM s id mask (off + 1) zs with | some ls => some (z.lf :: ls) | none => none)
    else match s.get (.cell id off), cellsOfM s id mask (off + 1) zs with | some (.lf l), some ls => some (l :: ls) | _, _ => none
/-- what the variables hold in the end -/
def boxCells (s : St Γ.α) (Γti : TypeId → Option TI) : (i : Nat) → List (Bool × TypeId) → List Nat → Option (List (List (Lf Γ.α)))
  | _, [], _ => some []
  | i, (false, _) :: r, ks => boxCells s Γti (i + 1) r ks
  | i, (true, t) :: r, ks => match Γti t with
    | none => none
    | some ti => match cellsOfM s (boxId i (ksHead true ks)) (ksHead true ks) 0 ti.zero, boxCells s Γti (i + 1) r ks.tail with | some cs, some css => some (cs :: css) | _, _ => none
/-- what the result told is, where it is the address of a new variable -/
def resCellsN (nw : Bool) (s : St Γ.α) (Γti : TypeId → Option TI) (rvs : List ResultVar) (rs : List (TypeId × List Bool)) : Option (List (List (Lf Γ.α))) :=
  match nw with
  | false => resCells s Γti rvs rs
  | true => match rvs, rs with
    | [.tmp x], [(t, _)] => (match Γti t, s.get (.tmp x) with
      | some ti, some (.av (.one (.ptr id 0))) => (match s.get (.used id), cellsOf s id 0 ti.size with
        | some (.num n), some cs => bif Nat.beq n ti.size then some [cs] else none
        | _, _ => none)
      | _, _ => none)
    | _, _ => none
def retK (Γ : Reg) (sg : Sig) (results : List ResultVar) (s : St Γ.α) : Option (resTy Γ (sg.rs ++ sg.bs)) :=
  match resCellsN sg.nw s Γ.ti results sg.rs, boxCells s Γ.ti 0 sg.ps sg.ks with
  | some rs, some bs => match unpkAll Γ s (sg.rs ++ sg.bs) (rs ++ bs) with
    | some (x, o, f) => bif bsOk sg.ps sg.bs && (nodupB o && (apartN o f && (!sg.nw || sg.bs.isEmpty))) then some x else none
    | none => none
  | _, _ => none
def kont0 (Γ : Reg) (sg : Sig) (results : List ResultVar) : Kont Γ (resTy Γ (sg.rs ++ sg.bs)) :=
  ⟨retK Γ sg results, fun _ _ => none, retK Γ sg results⟩
/-- a function's answer by its code -/
def evFn (Γ : Reg) (sgs : FuncId → Option Sig) (sg : Sig) (fn : Func) (O : Orc Γ (resTy Γ (sg.rs ++ sg.bs))) (fuel : Nat) (an : Ann Γ (resTy Γ (sg.rs ++ sg.bs))) (x : parTy Γ sg.ps) : Option (resTy Γ (sg.rs ++ sg.bs)) :=
  match fn.body with
  | some c => forceL (parSt Γ 0 sg.ps sg.bs sg.ks x) fun s => ev sgs O fuel c an s (kont0 Γ sg fn.results.toList)
  | none => none

def bodyOf (fn : Func) : Code := match fn.body with | some c => c | none => .refuse ""
section
variable {sg : FuncId → Option Sig} {O : Orc Γ ρ} {fuel : Nat} {K : Kont Γ ρ}
theorem obl_none {c : Code} : obl sg O fuel c .none K := by cases c <;> exact trivial
theorem obl_seq {a b : Code} {x y : Ann Γ ρ} (h : obl sg O fuel a x { K with normal := fun s' => ev sg O fuel b y s' K }) (h' : obl sg O fuel b y K) : obl sg O fuel (.seq a b) (.seq x y) K := ⟨h, h'⟩
theorem obl_join {a b : Code} {C : Carry} {J : C.ty Γ → Option ρ} {x y : Ann Γ ρ} (h : obl sg O fuel a x { K with normal := fun s' => C.go s' J }) (e : ∀ v, J v = forceL (C.mk Γ v) fun s => ev sg O fuel b y s K) (h' : obl sg O fuel b y K) :
    obl sg O fuel (.seq a b) (.join C J x y) K := ⟨h, e, h'⟩
theorem obl_cond {o : Operand} {a b : Code} {x y : Ann Γ ρ} (h : obl sg O fuel a x K) (h' : obl sg O fuel b y K) : obl sg O fuel (.cond o a b) (.cond x y) K := ⟨h, h'⟩
theorem obl_block {id : Nat} {c : Code} {x : Ann Γ ρ} (h : obl sg O fuel c x { K with exit := fun i s' => bif Nat.beq i id then K.normal s' else K.exit i s' }) : obl sg O fuel (.block id c) (.block x) K := h
theorem obl_loop {c : Code} {C : Carry} {L : Nat → C.ty Γ → Option ρ} {body : (C.ty Γ → Option ρ) → Ann Γ ρ} (e0 : ∀ v, L 0 v = none)
    (e : ∀ n v, L (n + 1) v = forceL (C.mk Γ v) fun s => ev sg O fuel c (body (L n)) s { K with normal := fun s' => C.go s' (L n) })
    (h : ∀ n, obl sg O fuel c (body (L n)) { K with normal := fun s' => C.go s' (L n) }) : obl sg O fuel (.loop c) (.loop C L body) K := ⟨e0, e, h⟩
end

/-! ### the functions that are called: a table -/
structure Spec (Γ : Reg) where
  sg : Sig
  f : parTy Γ sg.ps → Option (resTy Γ (sg.rs ++ sg.bs))
def opt2 {β γ : Type} (x : Option β) (y : Option γ) : Option (β × γ) := match x, y with | some x, some y => some (x, y) | _, _ => none
def unpkPar (Γ : Reg) : (ps : List (Bool × TypeId)) → List (List (Lf Γ.α)) → Option (parTy Γ ps)
  | [], [] => some ()
  | [(_, t)], [cs] => Γ.unpk t cs
  | (_, t) :: p2 :: r, cs :: css => opt2 (Γ.unpk t cs) (unpkPar Γ (p2 :: r) css)
  | _, _ => none
def pkRes (Γ : Reg) : (rs : List (TypeId × List Bool)) → resTy Γ rs → List (List (Lf Γ.α))
  | [], _ => []
  | [(t, _)], x => [Γ.pk t x]
  | (t, _) :: r2 :: r, x => Γ.pk t x.1 :: pkRes Γ (r2 :: r) x.2
def find {β : Type} (f : Nat) : List (Nat × β) → Option β
  | [] => none
  | (g, b) :: r => bif Nat.beq f g then some b else find f r
def orc (Γ : Reg) (T : List (Nat × Spec Γ)) (ρ : Type) : Orc Γ ρ := fun f args k =>
  match find f T with
  | none => none
  | some sp => match unpkPar Γ sp.sg.ps args with
    | none => none
    | some x => obind (sp.f x) fun y => k (pkRes Γ (sp.sg.rs ++ sp.sg.bs) y)
def sigs {Γ : Reg} (T : List (Nat × Spec Γ)) (f : FuncId) : Option Sig := (find f T).map (·.sg)

end
end Go.Proofs.Ytlhknehkcflkgaa.Ab
