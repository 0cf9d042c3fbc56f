/- Eval. Texts joined by program (asm.py): RemC RemP RemRel RemHeap. -/
import Derived.Calls
import Derived.Laws.Sem
/-! A small evaluator over an abstract heap: code made ready ahead, run by a kernel. -/
namespace Go.Rem
noncomputable section

def cnd {α : Type} (c : Bool) (a b : α) : α := Bool.rec b a c

inductive Tr (α : Type) where
  | nil
  | node (l : Tr α) (v : Option α) (r : Tr α)

/-- a number as a way through a tree -/
inductive Pa where
  | h
  | o (p : Pa)
  | i (p : Pa)

def toPaF (f : Nat) : Nat → Pa :=
  Nat.rec (fun _ => .h) (fun _ ih n => Nat.rec .h (fun m _ => cnd (Nat.beq (Nat.land m 1) 0) (.o (ih (Nat.div m 2))) (.i (ih (Nat.div m 2)))) n) f
def toPa (n : Nat) : Pa := toPaF (Nat.succ n) n

def Tr.at {α : Type} (t : Tr α) (p : Pa) : Option α :=
  Pa.rec (fun t => Tr.rec none (fun _ v _ _ _ => v) t) (fun _ ih t => Tr.rec none (fun l _ _ _ _ => ih l) t)
    (fun _ ih t => Tr.rec none (fun _ _ r _ _ => ih r) t) p t

/-- forced first: a kernel's evaluation meets no chain of writes -/
def Tr.seq {α β : Type} (t : Tr α) (k : Tr α → β) : β := Tr.rec (k .nil) (fun l v r _ _ => k (.node l v r)) t

def Tr.put {α : Type} (t : Tr α) (p : Pa) (a : α) : Tr α :=
  Pa.rec (fun t => Tr.rec (.node .nil (some a) .nil) (fun l _ r _ _ => .node l (some a) r) t)
    (fun _ ih t => Tr.rec ((ih .nil).seq fun l => .node l none .nil) (fun l v r _ _ => (ih l).seq fun l => .node l v r) t)
    (fun _ ih t => Tr.rec ((ih .nil).seq fun r => .node .nil none r) (fun l v r _ _ => (ih r).seq fun r => .node l v r) t) p t

def Tr.get {α : Type} (t : Tr α) (n : Nat) : Option α := t.at (toPa n)
def Tr.set {α : Type} (t : Tr α) (n : Nat) (a : α) : Tr α := t.put (toPa n) a

/-- lists, by recursors -/
def appL {α : Type} (x y : List α) : List α := List.rec y (fun a _ ih => a :: ih) x
def lenL {α : Type} (x : List α) : Nat := List.rec 0 (fun _ _ n => Nat.succ n) x
def nthL {α : Type} (x : List α) : Nat → Option α := List.rec (fun _ => none) (fun a _ ih n => Nat.rec (some a) (fun m _ => ih m) n) x
def dropL {α : Type} (x : List α) : Nat → List α := List.rec (fun _ => []) (fun a l ih n => Nat.rec (a :: l) (fun m _ => ih m) n) x
def allL {α : Type} (p : α → Bool) (x : List α) : Bool := List.rec true (fun a _ ih => cnd (p a) ih false) x
def mapO {α β : Type} (f : α → β) (x : Option α) : Option β := Option.rec none (fun a => some (f a)) x

/-- what is known of a type -/
structure TI where
  size : Nat
  bytes : Nat
  agg : Bool
  zero : List Value
  /-- fields: offset, size, whether aggregate -/
  flds : List (Nat × Nat × Bool)
  /-- element type of slice, array, pointer, map value -/
  elem : Nat
  /-- key type of a map; length of an array -/
  aux : Nat
  /-- 0 other, 1 int, 2 string, 3 bool, 4 slice, 5 array, 6 struct, 7 pointer, 8 map, 9 func -/
  kind : Nat
  ik : IntKind
  /-- flat comparable by cells -/
  eqok : Bool

inductive ABlk where
  /-- cells; open: concretely there may be more -/
  | cells (vs : List Value) (elem : TypeId) (op : Bool)
  | map (es : List (Value × Value))
  | dead

structure AH where
  next : Nat
  heap : Tr ABlk

def AH.seq {β : Type} (H : AH) (k : AH → β) : β := @AH.rec (fun _ => β) (fun n h => Nat.rec (h.seq fun h => k ⟨0, h⟩) (fun m _ => h.seq fun h => k ⟨Nat.succ m, h⟩) n) H

def AH.get (H : AH) (b : Nat) : Option ABlk := H.heap.get b
def AH.put (H : AH) (b : Nat) (k : ABlk) : AH := { H with heap := H.heap.set b k }
def AH.new (H : AH) (k : ABlk) : AH := ⟨Nat.succ H.next, H.heap.set H.next k⟩

def mkStr (l : List UInt8) : ByteArray := ⟨⟨l⟩⟩
def strL (s : ByteArray) : List UInt8 := s.data.toList

def scalarG : Value → Bool
  | .bool _ | .int .. | .string _ | .pointer none | .slice none 0 0 | .map none | .nilFunc | .nilIface => true
  | _ => false
def groundG : Value → Bool
  | .agg cs => cs.toList.all scalarG
  | .tuple cs => cs.toList.isEmpty
  | v => scalarG v

def cellsL : Value → List Value
  | .agg cs => cs.toList
  | v => [v]

/-- the number of a kind -/
def ikN : IntKind → Nat
  | .i8 => 0 | .i16 => 1 | .i32 => 2 | .i64 => 3 | .u8 => 4 | .u16 => 5 | .u32 => 6 | .u64 => 7

/-- wrap, quick where nothing wraps -/
def wrapF (k : IntKind) (n : Int) : Int :=
  match k, n with
  | .i64, .ofNat m => cnd (Nat.ble m 9223372036854775807) (.ofNat m) (k.wrap n)
  | .i64, .negSucc m => cnd (Nat.ble m 9223372036854775807) (.negSucc m) (k.wrap n)
  | .u8, .ofNat m => .ofNat (m % 256)
  | .u32, .ofNat m => .ofNat (m % 4294967296)
  | .u64, .ofNat m => .ofNat (m % 18446744073709551616)
  | k, n => k.wrap n

def addF : Int → Int → Int
  | .ofNat a, .ofNat b => .ofNat (Nat.add a b)
  | a, b => a + b
def subF : Int → Int → Int
  | .ofNat a, .ofNat b => cnd (Nat.ble b a) (.ofNat (Nat.sub a b)) (.negSucc (Nat.sub (Nat.sub b a) 1))
  | a, b => a - b
def quoF : Int → Int → Int
  | .ofNat a, .ofNat b => .ofNat (Nat.div a b)
  | a, b => a.tdiv b
def remF : Int → Int → Int
  | .ofNat a, .ofNat b => .ofNat (Nat.mod a b)
  | a, b => a.tmod b
def eqF : Int → Int → Bool
  | .ofNat a, .ofNat b => Nat.beq a b
  | .negSucc a, .negSucc b => Nat.beq a b
  | _, _ => false
def leF : Int → Int → Bool
  | .ofNat a, .ofNat b => Nat.ble a b
  | .negSucc a, .negSucc b => Nat.ble b a
  | .negSucc _, .ofNat _ => true
  | .ofNat _, .negSucc _ => false

/-- bits of two numbers of an unsigned kind, or below 2^63 -/
def bitF (op : BinOp) (k : IntKind) (x y : Int) : Int :=
  match op, x, y with
  | .and, .ofNat a, .ofNat b => .ofNat (Nat.land a b)
  | .or, .ofNat a, .ofNat b => .ofNat (Nat.lor a b)
  | .xor, .ofNat a, .ofNat b => .ofNat (Nat.xor a b)
  | .and, x, y => k.wrap (BitVec.ofInt k.bits x &&& BitVec.ofInt k.bits y).toNat
  | .or, x, y => k.wrap (BitVec.ofInt k.bits x ||| BitVec.ofInt k.bits y).toNat
  | .xor, x, y => k.wrap (BitVec.ofInt k.bits x ^^^ BitVec.ofInt k.bits y).toNat
  | _, x, y => k.wrap (BitVec.ofInt k.bits x &&& ~~~BitVec.ofInt k.bits y).toNat

/-- is a number of its kind, and not below 0? -/
def inKind (k : IntKind) : Int → Bool
  | .ofNat n => match k with
    | .u8 => Nat.ble n 255
    | .u16 => Nat.ble n 65535
    | .u32 => Nat.ble n 4294967295
    | .u64 => Nat.ble n 18446744073709551615
    | .i64 => Nat.ble n 9223372036854775807
    | .i32 => Nat.ble n 2147483647
    | .i16 => Nat.ble n 32767
    | .i8 => Nat.ble n 127
  | _ => false

def intBin (op : BinOp) (k : IntKind) (x y : Int) : Option Value :=
  match op with
  | .add => some (.int k (wrapF k (addF x y)))
  | .sub => some (.int k (wrapF k (subF x y)))
  | .mul => some (.int k (wrapF k (x * y)))
  | .quo => cnd (eqF y 0) (none) (some (.int k (wrapF k (quoF x y))))
  | .rem => cnd (eqF y 0) (none) (some (.int k (remF x y)))
  | .and | .or | .xor => cnd (inKind k x && inKind k y) (some (.int k (bitF op k x y))) (none)
  | .eql => some (.bool (eqF x y))
  | .neq => some (.bool (!eqF x y))
  | .lss => some (.bool (!leF y x))
  | .leq => some (.bool (leF x y))
  | .gtr => some (.bool (!leF x y))
  | .geq => some (.bool (leF y x))
  | _ => none

def shN (k : IntKind) (n : Nat) : Nat := cnd (Nat.ble n k.bits) n k.bits
def shiftA (left : Bool) (k : IntKind) (x y : Int) : Option Value :=
  match y with
  | .ofNat n => match x with
    | .ofNat m => cnd left (some (.int k (wrapF k (.ofNat (Nat.shiftLeft m (shN k n)))))) (some (.int k (.ofNat (Nat.shiftRight m (shN k n)))))
    | _ => none
  | _ => none

def valEq : Value → Value → Option Bool
  | .bool a, .bool b => some (a == b)
  | .int j a, .int k b => cnd (Nat.beq (ikN j) (ikN k)) (some (eqF a b)) (none)
  | .string a, .string b => some (strL a == strL b)
  | _, _ => none
def valsEq (x : List Value) : List Value → Option Bool :=
  List.rec (fun y => List.rec (some true) (fun _ _ _ => none) y)
    (fun a _ ih y => List.rec none (fun b bs _ => Option.rec none (fun t => Option.rec none (fun u => some (cnd t u false)) (ih bs)) (valEq a b)) y) x

/-- is a value of a kind with another one? -/
def likeV (z v : Value) : Bool :=
  match z with
  | .bool _ => match v with
    | .bool _ => true
    | _ => false
  | .int j _ => match v with
    | .int k _ => Nat.beq (ikN j) (ikN k)
    | _ => false
  | .string _ => match v with
    | .string _ => true
    | _ => false
  | _ => false
def likeL (x : List Value) : List Value → Bool :=
  List.rec (fun y => List.rec true (fun _ _ _ => false) y) (fun a _ ih y => List.rec false (fun b bs _ => cnd (likeV a b) (ih bs) false) y) x

def strBin (op : BinOp) (x y : ByteArray) : Option Value :=
  match op with
  | .add => cnd (Nat.ble (Nat.add (lenL (strL x)) (lenL (strL y))) 1000000) (some (.string (mkStr (appL (strL x) (strL y))))) none
  | .eql => some (.bool (strL x == strL y))
  | .neq => some (.bool !(strL x == strL y))
  | _ => none

/-- sameness of what is told by its cells: also against nil -/
def eqA (ti : TI) (x y : Value) : Option Bool :=
  match x with
  | .bool a => match y with
    | .bool b => cnd (Nat.beq ti.kind 3) (some (a == b)) none
    | _ => none
  | .pointer none => match y with
    | .pointer b => cnd (Nat.beq ti.kind 7) (some b.isNone) none
    | _ => none
  | .pointer (some _) => match y with
    | .pointer none => cnd (Nat.beq ti.kind 7) (some false) none
    | _ => none
  | .slice none _ _ => match y with
    | .slice b _ _ => cnd (Nat.beq ti.kind 4) (some b.isNone) none
    | _ => none
  | .slice (some _) _ _ => match y with
    | .slice none _ _ => cnd (Nat.beq ti.kind 4) (some false) none
    | _ => none
  | .map none => match y with
    | .map b => cnd (Nat.beq ti.kind 8) (some b.isNone) none
    | _ => none
  | .map (some _) => match y with
    | .map none => cnd (Nat.beq ti.kind 8) (some false) none
    | _ => none
  | .agg a => match y with
    | .agg b => cnd (ti.eqok && (Nat.beq (lenL a.toList) ti.size && (Nat.beq (lenL b.toList) ti.size && likeL ti.zero a.toList))) (valsEq a.toList b.toList) none
    | _ => none
  | _ => none

/-- cells whose number is known -/
def livePlain (H : AH) (b : Nat) : Bool :=
  match H.get b with
  | some (.cells _ _ op) => !op
  | _ => false

def ptrEqA (H : AH) (ti te : TI) (x y : Value) : Option Bool :=
  match x with
  | .pointer (some ⟨a, o, none⟩) => match y with
    | .pointer (some ⟨b, p, none⟩) =>
      cnd (Nat.beq ti.kind 7 && (Nat.ble 1 te.size && (livePlain H a && livePlain H b))) (some (Nat.beq a b && Nat.beq o p)) none
    | _ => none
  | _ => none

def eqAny (ti te : TI) (H : AH) (x y : Value) : Option Bool :=
  match eqA ti x y with
  | some r => some r
  | none => ptrEqA H ti te x y

def binInt (op : BinOp) (k : IntKind) (a : Int) (y : Value) : Option Value :=
  match y with
  | .int k' b => match op with
    | .shl => shiftA true k a b
    | .shr => shiftA false k a b
    | op => cnd (Nat.beq (ikN k) (ikN k')) (intBin op k a b) none
  | _ => none
def binStr (op : BinOp) (a : ByteArray) (y : Value) : Option Value :=
  match y with
  | .string b => strBin op a b
  | _ => none
def binEq (ti te : TI) (H : AH) (op : BinOp) (x y : Value) : Option Value :=
  match op with
  | .eql => mapO .bool (eqAny ti te H x y)
  | .neq => mapO (fun r => .bool !r) (eqAny ti te H x y)
  | _ => none
def binA (ti te : TI) (H : AH) (op : BinOp) (x y : Value) : Option Value :=
  match x with
  | .int k a => binInt op k a y
  | .string a => binStr op a y
  | x => binEq ti te H op x y

def unA (op : UnOp) (x : Value) : Option Value :=
  match op with
  | .neg => match x with
    | .int k n => some (.int k (wrapF k (subF 0 n)))
    | _ => none
  | .not => match x with
    | .bool b => some (.bool !b)
    | _ => none
  | .xor => match x with
    | .int .u32 (.ofNat n) => cnd (Nat.ble n 4294967295) (some (.int .u32 (.ofNat (Nat.xor 4294967295 n)))) none
    | _ => none
  | .plus => none

def takeN {α : Type} (n : Nat) : List α → Option (List α) :=
  Nat.rec (fun _ => some []) (fun _ ih l => List.rec none (fun a l _ => mapO (a :: ·) (ih l)) l) n

/-- cells from an offset on -/
def cellsAt (vs : List Value) (off n : Nat) : Option (List Value) := takeN n (dropL vs off)
def aggOf (l : List Value) : Value := .agg l.toArray

/-- a part of cells -/
def partA (agg : Bool) (vs : List Value) (off size : Nat) : Option Value :=
  cnd agg (mapO aggOf (cellsAt vs off size)) (nthL vs off)

def loadA (ti : TI) (H : AH) (a : Value) : Option Value :=
  match a with
  | .pointer (some ⟨b, o, none⟩) => match H.get b with
    | some (.cells vs _ _) => partA ti.agg vs o ti.size
    | _ => none
  | _ => none

/-- overwrites from an offset on, within the list -/
def writeAt (vs : List Value) : Nat → List Value → Option (List Value) :=
  List.rec (fun n xs => Nat.rec (List.rec (some []) (fun _ _ _ => none) xs) (fun _ _ => none) n)
    (fun v vs ih n xs => Nat.rec (List.rec (some (v :: vs)) (fun x xs _ => mapO (x :: ·) (ih 0 xs)) xs) (fun m _ => mapO (v :: ·) (ih m xs)) n) vs

def okCell : Value → Bool
  | .agg _ | .tuple _ => false
  | _ => true

def putCells (H : AH) (b : Nat) (e : TypeId) (op : Bool) (l : Option (List Value)) : Option AH :=
  mapO (fun l => H.put b (.cells l e op)) l

def storeA (ti : TI) (H : AH) (a v : Value) : Option AH :=
  match a with
  | .pointer (some ⟨b, o, none⟩) => match H.get b with
    | some (.cells vs e op) => cnd (Nat.beq (lenL (cellsL v)) ti.size && allL okCell (cellsL v)) (putCells H b e op (writeAt vs o (cellsL v))) none
    | _ => none
  | _ => none

/-- parts (offset, size, value) over cells -/
def fillStep (p : Nat × Nat × Value) (k : List Value → Option (List Value)) (cells : List Value) : Option (List Value) :=
  cnd (Nat.beq (lenL (cellsL p.2.2)) p.2.1 && allL okCell (cellsL p.2.2))
    (match writeAt cells p.1 (cellsL p.2.2) with
      | some cells => k cells
      | none => none) none
def fillA (cells : List Value) (ps : List (Nat × Nat × Value)) : Option (List Value) :=
  List.rec (fun cells => some cells) (fun p _ ih cells => fillStep p ih cells) ps cells

def repL (z : List Value) (n : Nat) : List Value := Nat.rec [] (fun _ ih => appL z ih) n

/-- sameness of keys -/
def keyEq (k e : Value) : Option Bool :=
  match k with
  | .int j a => match e with
    | .int i b => cnd (Nat.beq (ikN j) (ikN i)) (some (eqF a b)) none
    | _ => none
  | .agg a => match e with
    | .agg b => valsEq a.toList b.toList
    | _ => none
  | _ => none
def findK (k : Value) (es : List (Value × Value)) : Nat → Option (Option (Nat × Value)) :=
  List.rec (fun _ => some none) (fun e _ ih i => Option.rec none (fun t => cnd t (some (some (i, e.2))) (ih (Nat.add i 1))) (keyEq k e.1)) es

/-- a key: an int, or a flat struct (tk: the keys' type) -/
def keyOk (tk : TI) (k : Value) : Bool :=
  match k with
  | .int j _ => Nat.beq tk.kind 1 && Nat.beq (ikN tk.ik) (ikN j)
  | .agg cs => Nat.beq tk.kind 6 && (tk.eqok && (Nat.beq (lenL cs.toList) tk.size && likeL tk.zero cs.toList))
  | _ => false

def mapOf (H : AH) (m : Value) : Option (List (Value × Value)) :=
  match m with
  | .map none => some []
  | .map (some r) => match H.get r with
    | some (.map es) => some es
    | _ => none
  | _ => none

def lookupA (tk : TI) (zero : Value) (H : AH) (ok : Bool) (m k : Value) : Option Value :=
  cnd (keyOk tk k)
    (match mapOf H m with
      | none => none
      | some es => match findK k es 0 with
        | none => none
        | some (some p) => some (cnd ok (.tuple #[p.2, .bool true]) p.2)
        | some none => some (cnd ok (.tuple #[zero, .bool false]) zero)) none

def modL (k v : Value) (n : Nat) (es : List (Value × Value)) : List (Value × Value) :=
  List.rec (fun _ => []) (fun e es ih n => Nat.rec ((k, v) :: es) (fun m _ => e :: ih m) n) es n
def eraseL (n : Nat) (es : List (Value × Value)) : List (Value × Value) :=
  List.rec (fun _ => []) (fun e es ih n => Nat.rec es (fun m _ => e :: ih m) n) es n

def notTup : Value → Bool
  | .tuple _ => false
  | _ => true
def mapSetA (tk : TI) (H : AH) (m k v : Value) : Option AH :=
  match m with
  | .map (some r) => cnd (keyOk tk k && notTup v)
      (match H.get r with
      | some (.map es) => match findK k es 0 with
        | none => none
        | some (some p) => some (H.put r (.map (modL k v p.1 es)))
        | some none => some (H.put r (.map (appL es [(k, v)])))
      | _ => none) none
  | _ => none

def deleteA (tk : TI) (H : AH) (m k : Value) : Option (Value × AH) :=
  match m with
  | .map (some r) => cnd (keyOk tk k)
      (match H.get r with
      | some (.map es) => match findK k es 0 with
        | none => none
        | some (some p) => some (undef, H.put r (.map (eraseL p.1 es)))
        | some none => some (undef, H)
      | _ => none) none
  | _ => none

def boundA (y : Nat) (x : Value) : Option Nat :=
  match x with
  | .int _ (.ofNat i) => cnd (Nat.ble i y) (some i) none
  | _ => none

/-- abstract capacities: twice the number of elements that are known, and one if there may be more -/
def capN (c : Nat) : Nat := Nat.div c 2
def capO (c : Nat) : Bool := Nat.beq (Nat.mod c 2) 1
def capOf (n : Nat) (o : Bool) : Nat := cnd o (Nat.succ (Nat.mul 2 n)) (Nat.mul 2 n)

/-- some slice of no element, which isn't nil -/
def vague : Value := .slice (some ⟨0, 0, some 0⟩) 0 1

def orElse1 (x : Option Value) (d : Nat) (f : Value → Option Nat) : Option Nat := Option.rec (some d) f x
/-- low, high, and the capacity's end -/
def boundsA (len cap : Nat) (lo hi mx : Option Value) : Option (Nat × Nat × Nat) :=
  match orElse1 mx cap (boundA cap) with
  | none => none
  | some m => match (match mx with | none => orElse1 hi len (boundA m) | some _ => Option.rec none (boundA m) hi) with
    | none => none
    | some h => match orElse1 lo 0 (boundA h) with
      | none => none
      | some l => some (l, h, m)

def sliceStr (s : ByteArray) (lo hi : Option Value) : Option Value :=
  match boundsA (lenL (strL s)) (lenL (strL s)) lo hi none with
  | some q => mapO (fun l => .string (mkStr l)) (takeN (Nat.sub q.2.1 q.1) (dropL (strL s) q.1))
  | none => none
/-- of a row of elements (size cells each), at a place, so long, of so great a capacity -/
def sliceRow (size : Nat) (b off len cap : Nat) (op : Bool) (lo hi mx : Option Value) : Option Value :=
  match boundsA len cap lo hi mx with
  | some q =>
    let op' := Option.rec op (fun _ => false) mx
    cnd (Nat.beq q.2.2 q.1)
      (cnd op' (cnd (Nat.beq q.1 0) (some (.slice (some ⟨b, off, none⟩) (Nat.sub q.2.1 q.1) (capOf (Nat.sub q.2.2 q.1) op'))) (some vague))
        (some (.slice (some ⟨b, off, none⟩) (Nat.sub q.2.1 q.1) (capOf (Nat.sub q.2.2 q.1) op'))))
      (some (.slice (some ⟨b, Nat.add off (Nat.mul q.1 size), none⟩) (Nat.sub q.2.1 q.1) (capOf (Nat.sub q.2.2 q.1) op')))
  | none => none
/-- knd: 0 string, 1 slice, 2 array by its address -/
def sliceA (knd size n : Nat) (x : Value) (lo hi mx : Option Value) : Option Value :=
  match x with
  | .string s => cnd (Nat.beq knd 0 && mx.isNone) (sliceStr s lo hi) none
  | .slice none _ _ => cnd (Nat.beq knd 1) (match boundsA 0 0 lo hi mx with | some _ => some (.slice none 0 0) | none => none) none
  | .slice (some ⟨b, off, none⟩) len cap => cnd (Nat.beq knd 1) (sliceRow size b off len (capN cap) (capO cap) lo hi mx) none
  | .pointer (some ⟨b, off, none⟩) => cnd (Nat.beq knd 2) (sliceRow size b off n n false lo hi mx) none
  | _ => none

/-- knd: 1 slice, 2 array by its address -/
def indexAddrA (knd size n : Nat) (x i : Value) : Option Value :=
  match i with
  | .int _ (.ofNat i) => match x with
    | .slice (some ⟨b, o, none⟩) len _ => cnd (Nat.beq knd 1 && Nat.ble (Nat.succ i) len) (some (.pointer (some ⟨b, Nat.add o (Nat.mul i size), none⟩))) none
    | .pointer (some ⟨b, o, none⟩) => cnd (Nat.beq knd 2 && Nat.ble (Nat.succ i) n) (some (.pointer (some ⟨b, Nat.add o (Nat.mul i size), none⟩))) none
    | _ => none
  | _ => none

def u8V (b : UInt8) : Value := .int .u8 (.ofNat b.toNat)
/-- knd: 0 string, 3 array -/
def indexA (knd size n : Nat) (agg : Bool) (x i : Value) : Option Value :=
  match i with
  | .int _ (.ofNat i) => match x with
    | .string s => cnd (Nat.beq knd 0) (mapO u8V (nthL (strL s) i)) none
    | .agg cs => cnd (Nat.beq knd 3 && Nat.ble (Nat.succ i) n) (partA agg cs.toList (Nat.mul i size) size) none
    | _ => none
  | _ => none

def fieldA (agg : Bool) (off size : Nat) (x : Value) : Option Value :=
  match x with
  | .agg cs => partA agg cs.toList off size
  | _ => none
def fieldAddrA (off : Nat) (x : Value) : Option Value :=
  match x with
  | .pointer (some ⟨b, o, none⟩) => some (.pointer (some ⟨b, Nat.add o off, none⟩))
  | _ => none

def byteOf1 (v : Value) : Option UInt8 :=
  match v with
  | .int k (.ofNat n) => match k with
    | .u8 => cnd (Nat.ble n 255) (some (UInt8.ofNat n)) none
    | _ => none
  | _ => none
def bytesOf (l : List Value) : Option (List UInt8) :=
  List.rec (some []) (fun v _ ih => Option.rec none (fun b => mapO (b :: ·) ih) (byteOf1 v)) l
def byteCells (l : List UInt8) : List Value := List.rec [] (fun b _ ih => u8V b :: ih) l

/-- the cells of n elements -/
def sliceCells (H : AH) (size n : Nat) (x : Value) : Option (List Value) :=
  match x with
  | .slice a _ _ => cnd (Nat.beq n 0) (some []) (match a with
    | some ⟨b, o, none⟩ => match H.get b with
      | some (.cells vs _ _) => cellsAt vs o (Nat.mul n size)
      | _ => none
    | _ => none)
  | .string s => cnd (Nat.beq size 1) (mapO byteCells (takeN n (strL s))) none
  | _ => none

/-- knd: 0 to an integer kind, 1 string as it is, 2 bytes to a string -/
def convA (knd : Nat) (ik : IntKind) (H : AH) (x : Value) : Option Value :=
  match x with
  | .int _ n => cnd (Nat.beq knd 0) (some (.int ik (wrapF ik n))) none
  | .string s => cnd (Nat.beq knd 1) (some (.string s)) none
  | .slice a len cap => cnd (Nat.beq knd 2) (match sliceCells H 1 len (.slice a len cap) with
      | some cs => mapO (fun l => .string (mkStr l)) (bytesOf cs)
      | none => none) none
  | _ => none

/-- knd: 2 string, 4 slice, 5 array, 8 map -/
def lenA (knd n : Nat) (H : AH) (x : Value) : Option Value :=
  cnd (Nat.beq knd 5) (some (.int .i64 (.ofNat n))) (match x with
    | .string s => cnd (Nat.beq knd 2) (some (.int .i64 (.ofNat (lenL (strL s))))) none
    | .slice _ n _ => cnd (Nat.beq knd 4) (some (.int .i64 (.ofNat n))) none
    | .map m => cnd (Nat.beq knd 8) (mapO (fun es => .int .i64 (.ofNat (lenL es))) (mapOf H (.map m))) none
    | _ => none)

def capA (x : Value) : Option Value :=
  match x with
  | .slice _ _ c => cnd (capO c) none (some (.int .i64 (.ofNat (capN c))))
  | _ => none

/-- what is appended: how many elements, and their cells; xk: 1 a number of zero elements, 4 a slice, 2 a string -/
def newCells (xk : Nat) (te : TI) (H : AH) (x : Value) : Option (Nat × List Value) :=
  match x with
  | .int .i64 (.ofNat n) => cnd (Nat.beq xk 1 && Nat.ble n 1000000) (some (n, repL te.zero n)) none
  | .slice a n c => cnd (Nat.beq xk 4) (mapO (fun l => (n, l)) (sliceCells H te.size n (.slice a n c))) none
  | .string b => cnd (Nat.beq xk 2 && Nat.beq te.size 1) (some (lenL (strL b), byteCells (strL b))) none
  | _ => none

/-- there is room -/
def appendIn (te : TI) (H : AH) (base : Option Addr) (sLen sCap need : Nat) (new : List Value) : Option (Value × AH) :=
  match base with
  | none => some (.slice none 0 0, H)
  | some ⟨b, o, none⟩ => match H.get b with
    | some (.cells vs e op) => mapO (fun H => (.slice base need sCap, H)) (putCells H b e op (writeAt vs (Nat.add o (Nat.mul sLen te.size)) new))
    | _ => none
  | _ => none
/-- there may be room -/
def appendMay (te : TI) (elem : TypeId) (H : AH) (base : Option Addr) (sLen sCap need : Nat) (new : List Value) : Option (Value × AH) :=
  match base with
  | some ⟨b, o, none⟩ => match H.get b with
    | some (.cells vs e op) => cnd (op && (Nat.beq o 0 && (Nat.beq e elem && Nat.beq (lenL vs) (Nat.mul (capN sCap) te.size))))
        (mapO (fun old => (.slice (some ⟨H.next, 0, none⟩) need (capOf need true), (H.put b .dead).new (.cells (appL old new) e true))) (cellsAt vs 0 (Nat.mul sLen te.size))) none
    | _ => none
  | _ => none
/-- there is no room -/
def appendNew (te : TI) (elem : TypeId) (H : AH) (s : Value) (sLen need : Nat) (new : List Value) : Option (Value × AH) :=
  mapO (fun old => (.slice (some ⟨H.next, 0, none⟩) need (capOf need true), H.new (.cells (appL old new) elem true))) (sliceCells H te.size sLen s)

def appendB (te : TI) (elem : TypeId) (H : AH) (s : Value) (base : Option Addr) (sLen sCap need : Nat) (new : List Value) : Option (Value × AH) :=
  cnd (allL okCell new && (Nat.ble need 1000000 && (Nat.ble te.bytes 4096 && Nat.ble 1 te.bytes)))
    (cnd (Nat.ble need (capN sCap)) (appendIn te H base sLen sCap need new)
      (cnd (capO sCap) (appendMay te elem H base sLen sCap need new) (appendNew te elem H s sLen need new))) none

def appendA (xk : Nat) (te : TI) (elem : TypeId) (H : AH) (s x : Value) : Option (Value × AH) :=
  match s with
  | .slice base sLen sCap => match newCells xk te H x with
    | some q => appendB te elem H (.slice base sLen sCap) base sLen sCap (Nat.add sLen q.1) q.2
    | none => none
  | _ => none

def clearA (te : TI) (H : AH) (x : Value) : Option (Value × AH) :=
  match x with
  | .slice a n _ => cnd (Nat.beq n 0) (some (undef, H)) (match a with
    | some ⟨b, o, none⟩ => match H.get b with
      | some (.cells vs e op) => cnd (allL okCell te.zero) (mapO (fun H => (undef, H)) (putCells H b e op (writeAt vs o (repL te.zero n)))) none
      | _ => none
    | _ => none)
  | _ => none

def mmStep (mx : Bool) (k : IntKind) (v : Value) (ih : Int → Option Value) (x : Int) : Option Value :=
  match v with
  | .int k' y => cnd (Nat.beq (ikN k) (ikN k')) (ih (cnd mx (cnd (leF y x) x y) (cnd (leF x y) x y))) none
  | _ => none
def minmaxA (mx : Bool) (l : List Value) : Option Value :=
  match l with
  | .int k x :: l => List.rec (fun x => some (.int k x)) (fun v _ ih => mmStep mx k v ih) l x
  | _ => none

inductive AOut where
  | val (v : Value)
  | enter (f : FuncId) (args : List Value)
abbrev Out := Option (AOut × AH)

def outV (H : AH) (x : Option Value) : Out := mapO (fun x => (.val x, H)) x
def fN {β : Type} (n : Nat) (k : Nat → β) : β := Nat.rec (k 0) (fun m _ => k (Nat.succ m)) n
def fI {β : Type} (n : Int) (k : Int → β) : β := Int.rec (fun m => fN m fun m => k (.ofNat m)) (fun m => fN m fun m => k (.negSucc m)) n
/-- forced: a kernel meets no chain of sums -/
def fV {β : Type} (v : Value) (k : Value → β) : β :=
  match v with
  | .int kd n => fI n fun n => k (.int kd n)
  | .bool b => Bool.rec (k (.bool false)) (k (.bool true)) b
  | v => k v
def outF (H : AH) (x : Option Value) : Out := Option.rec none (fun x => fV x fun x => some (.val x, H)) x
def outH (x : Option AH) : Out := mapO (fun H => (.val undef, H)) x
def outVH (x : Option (Value × AH)) : Out := mapO (fun p => (.val p.1, p.2)) x
def bind1 {β : Type} (x : Option Value) (f : Value → Option β) : Option β := Option.rec none f x
def bind2 {β : Type} (x y : Option Value) (f : Value → Value → Option β) : Option β := Option.rec none (fun x => Option.rec none (f x) y) x
def bindL {β : Type} (x : Option (List Value)) (f : List Value → Option β) : Option β := Option.rec none f x

/-- an operand, made ready -/
inductive AOpd where
  | t (p : Pa)
  | c (v : Value)
  | f (n : FuncId)
  | bad

def opd (ρ : Tr Value) (x : AOpd) : Option Value :=
  @AOpd.rec (fun _ => Option Value) (fun p => ρ.at p) (fun v => some v) (fun f => some (.func (.func f) #[] #[])) none x
def evs (ρ : Tr Value) (xs : List AOpd) : Option (List Value) :=
  List.rec (some []) (fun x _ ih => Option.rec none (fun v => mapO (v :: ·) ih) (opd ρ x)) xs
def evps (ρ : Tr Value) (xs : List (Nat × Nat × AOpd)) : Option (List (Nat × Nat × Value)) :=
  List.rec (some []) (fun x _ ih => Option.rec none (fun v => mapO ((x.1, x.2.1, v) :: ·) ih) (opd ρ x.2.2)) xs
def evo (ρ : Tr Value) (x : Option AOpd) : Option (Option Value) := Option.rec (some none) (fun x => mapO some (opd ρ x)) x

/-- an operation, made ready -/
inductive AOp where
  | mv (x : AOpd)
  | pick (c a b : AOpd)
  | alloc (zero : List Value) (t : TypeId)
  | box (t : TypeId) (x : AOpd)
  | build (zero : List Value) (ps : List (Nat × Nat × AOpd))
  | buildSlice (len : Nat) (zero : List Value) (elem : TypeId) (ps : List (Nat × Nat × AOpd))
  | load (ti : TI) (a : AOpd)
  | store (ti : TI) (a x : AOpd)
  | nilCheck (x : AOpd)
  | bin (op : BinOp) (ti te : TI) (x y : AOpd)
  | un (op : UnOp) (x : AOpd)
  | conv (knd : Nat) (ik : IntKind) (x : AOpd)
  | makeFunc (fn : Fn) (first cap : List AOpd)
  | makeMap
  | makeSlice (te : TI) (elem : TypeId) (l c : AOpd)
  | slice (knd size n : Nat) (x : AOpd) (lo hi mx : Option AOpd)
  | fieldAddr (off : Nat) (x : AOpd)
  | field (agg : Bool) (off size : Nat) (x : AOpd)
  | indexAddr (knd size n : Nat) (x i : AOpd)
  | index (knd size n : Nat) (agg : Bool) (x i : AOpd)
  | lookup (tk : TI) (zero : Value) (ok : Bool) (m k : AOpd)
  | mapSet (tk : TI) (m k x : AOpd)
  | extract (t : AOpd) (i : Nat)
  | call (f : FuncId) (args : List AOpd)
  | callv (f : AOpd) (args : List AOpd)
  | len (knd n : Nat) (x : AOpd)
  | cap (x : AOpd)
  | append (xk : Nat) (te : TI) (elem : TypeId) (s x : AOpd)
  | clear (te : TI) (x : AOpd)
  | delete (tk : TI) (m k : AOpd)
  | minmax (mx : Bool) (l : List AOpd)
  | bad

def pickA (H : AH) (c a b : Option Value) : Out :=
  match c with
  | some (.bool t) => cnd t (outV H a) (outV H b)
  | _ => none
def newOut (H : AH) (v : Value) (k : ABlk) : Out := some (.val v, H.new k)
def boxA (H : AH) (t : TypeId) (x : Value) : Out :=
  cnd (allL okCell (cellsL x)) (newOut H (.pointer (some ⟨H.next, 0, none⟩)) (.cells (cellsL x) t false)) none
def buildA (H : AH) (zero : List Value) (ps : Option (List (Nat × Nat × Value))) : Out :=
  Option.rec none (fun ps => outV H (mapO aggOf (fillA zero ps))) ps
def buildSliceA (H : AH) (len : Nat) (zero : List Value) (elem : TypeId) (ps : Option (List (Nat × Nat × Value))) : Out :=
  Option.rec none (fun ps => Option.rec none (fun cs => newOut H (.slice (some ⟨H.next, 0, none⟩) len (Nat.mul 2 len)) (.cells cs elem false)) (fillA zero ps)) ps
def nilCheckA (H : AH) (x : Value) : Out :=
  match x with
  | .pointer (some a) => some (.val (.pointer (some a)), H)
  | _ => none
/-- no aggregate, no tuple, no function -/
def isPlain : Value → Bool
  | .agg _ | .tuple _ | .func .. => false
  | _ => true
def makeFuncA (H : AH) (fn : Fn) (first cap : Option (List Value)) : Out :=
  bindL first fun f => bindL cap fun c => cnd (allL isPlain f && allL isPlain c) (some (.val (.func fn f.toArray c.toArray), H)) none
def makeSliceA (te : TI) (elem : TypeId) (H : AH) (l c : Value) : Out :=
  match l with
  | .int .i64 (.ofNat l) => match c with
    | .int .i64 (.ofNat c) => cnd (Nat.ble l c && (Nat.ble c 65536 && Nat.ble te.bytes 4096))
        (newOut H (.slice (some ⟨H.next, 0, none⟩) l (Nat.mul 2 c)) (.cells (repL te.zero c) elem false)) none
    | _ => none
  | _ => none
def sliceO (knd size n : Nat) (H : AH) (x : Option Value) (lo hi mx : Option (Option Value)) : Out :=
  bind1 x fun x => Option.rec none (fun lo => Option.rec none (fun hi => Option.rec none (fun mx => outV H (sliceA knd size n x lo hi mx)) mx) hi) lo
def extractA (H : AH) (t : Value) (i : Nat) : Out :=
  match t with
  | .tuple vs => outV H (nthL vs.toList i)
  | _ => none
def callvA (H : AH) (args : List Value) (f : Value) : Out :=
  match f with
  | .func fn first cap => match fn with
    | .func f => some (.enter f (appL first.toList (appL args cap.toList)), H)
    | _ => none
  | _ => none

def opA (ρ : Tr Value) (H : AH) (op : AOp) : Out :=
  @AOp.rec (fun _ => Out)
    (fun x => outV H (opd ρ x))
    (fun c a b => pickA H (opd ρ c) (opd ρ a) (opd ρ b))
    (fun zero t => newOut H (.pointer (some ⟨H.next, 0, none⟩)) (.cells zero t false))
    (fun t x => bind1 (opd ρ x) (boxA H t))
    (fun zero ps => buildA H zero (evps ρ ps))
    (fun len zero elem ps => buildSliceA H len zero elem (evps ρ ps))
    (fun ti a => outV H (bind1 (opd ρ a) (loadA ti H)))
    (fun ti a x => outH (bind2 (opd ρ a) (opd ρ x) (storeA ti H)))
    (fun x => bind1 (opd ρ x) (nilCheckA H))
    (fun op ti te x y => outF H (bind2 (opd ρ x) (opd ρ y) (binA ti te H op)))
    (fun op x => outF H (bind1 (opd ρ x) (unA op)))
    (fun knd ik x => outF H (bind1 (opd ρ x) (convA knd ik H)))
    (fun fn first cap => makeFuncA H fn (evs ρ first) (evs ρ cap))
    (newOut H (.map (some H.next)) (.map []))
    (fun te elem l c => bind2 (opd ρ l) (opd ρ c) (makeSliceA te elem H))
    (fun knd size n x lo hi mx => sliceO knd size n H (opd ρ x) (evo ρ lo) (evo ρ hi) (evo ρ mx))
    (fun off x => outV H (bind1 (opd ρ x) (fieldAddrA off)))
    (fun agg off size x => outV H (bind1 (opd ρ x) (fieldA agg off size)))
    (fun knd size n x i => outV H (bind2 (opd ρ x) (opd ρ i) (indexAddrA knd size n)))
    (fun knd size n agg x i => outV H (bind2 (opd ρ x) (opd ρ i) (indexA knd size n agg)))
    (fun tk zero ok m k => outV H (bind2 (opd ρ m) (opd ρ k) (lookupA tk zero H ok)))
    (fun tk m k x => outH (bind2 (opd ρ m) (opd ρ k) fun m k => bind1 (opd ρ x) (mapSetA tk H m k)))
    (fun t i => bind1 (opd ρ t) fun t => extractA H t i)
    (fun f args => bindL (evs ρ args) fun args => some (.enter f args, H))
    (fun f args => bindL (evs ρ args) fun args => bind1 (opd ρ f) (callvA H args))
    (fun knd n x => outV H (bind1 (opd ρ x) (lenA knd n H)))
    (fun x => outV H (bind1 (opd ρ x) capA))
    (fun xk te elem s x => outVH (bind2 (opd ρ s) (opd ρ x) (appendA xk te elem H)))
    (fun te x => outVH (bind1 (opd ρ x) (clearA te H)))
    (fun tk m k => outVH (bind2 (opd ρ m) (opd ρ k) (deleteA tk H)))
    (fun mx l => outV H (bindL (evs ρ l) (minmaxA mx)))
    none op

/-- an operation with where its value goes, and its guard; cls: 0 reads nothing, 1 reads, 2 makes memory, 3 else; bef: what must come ahead of it -/
structure AOper where
  op : AOp
  dst : Option Pa
  guard : Option (Pa × Bool)
  cls : Nat
  bef : Nat

inductive ACode where
  | skip
  | reg (ops : List AOper)
  | draw (ops : List AOper) (n : Nat)
  | seq (a b : ACode)
  | cond (c : AOpd) (a b : ACode)
  | block (id : Nat) (b : ACode)
  | loop (b : ACode)
  | exit (id : Nat)
  | ret
  | bad

inductive AExit where
  | normal
  | exit (id : Nat)
  | ret

inductive ARes where
  | tmp (p : Pa)
  | cell (p : Pa) (ti : TI)

structure AF where
  body : ACode
  results : List ARes

structure Env where
  fn : Tr AF
  /-- functions that are told, not run -/
  orc : Nat → List Value → AH → Option (Value × AH)

abbrev CallT := Nat → List Value → AH → Option (Value × AH)
abbrev RunT := Tr Value → AH → Option (Tr Value × AH)
abbrev ExecT := Option (AExit × Tr Value × AH)

def putT (ρ : Tr Value) (d : Option Pa) (v : Value) : Tr Value := Option.rec ρ (fun d => ρ.put d v) d
def stepC (call : CallT) (x : Out) : Option (Value × AH) :=
  Option.rec none (fun p => @AOut.rec (fun _ => Option (Value × AH)) (fun v => some (v, p.2)) (fun f args => call f args p.2) p.1) x
def runThen (k : RunT) (ρ : Tr Value) (d : Option Pa) (x : Option (Value × AH)) : Option (Tr Value × AH) :=
  Option.rec none (fun p => (putT ρ d p.1).seq fun ρ => p.2.seq fun H => k ρ H) x
def wanted (ρ : Tr Value) (g : Pa × Bool) : Option Bool :=
  match ρ.at g.1 with
  | some (.bool b) => some (b == g.2)
  | _ => none
def runOp (call : CallT) (o : AOper) (k : RunT) (ρ : Tr Value) (H : AH) : Option (Tr Value × AH) :=
  Option.rec (runThen k ρ o.dst (stepC call (opA ρ H o.op)))
    (fun g => Option.rec none (fun w => cnd w (runThen k ρ o.dst (stepC call (opA ρ H o.op))) (runThen k ρ o.dst (some (undef, H)))) (wanted ρ g)) o.guard
def runOps (call : CallT) (l : List AOper) : RunT :=
  List.rec (fun ρ H => some (ρ, H)) (fun o _ ih => runOp call o ih) l

/-- is a bit set? -/
def bitN (m i : Nat) : Bool := Nat.beq (Nat.land (Nat.shiftRight m i) 1) 1
def sameS (a b : Value) : Bool :=
  match a with
  | .bool x => match b with
    | .bool y => x == y
    | _ => false
  | .int j x => match b with
    | .int k y => cnd (Nat.beq (ikN j) (ikN k)) (eqF x y) false
    | _ => false
  | .string x => match b with
    | .string y => strL x == strL y
    | _ => false
  | .pointer none => match b with
    | .pointer none => true
    | _ => false
  | .pointer (some ⟨x, o, none⟩) => match b with
    | .pointer (some ⟨y, p, none⟩) => cnd (Nat.beq x y) (Nat.beq o p) false
    | _ => false
  | .slice none l c => match b with
    | .slice none m d => cnd (Nat.beq l m) (Nat.beq c d) false
    | _ => false
  | .slice (some ⟨x, o, none⟩) l c => match b with
    | .slice (some ⟨y, p, none⟩) m d => cnd (Nat.beq x y) (cnd (Nat.beq o p) (cnd (Nat.beq l m) (Nat.beq c d) false) false) false
    | _ => false
  | .map none => match b with
    | .map none => true
    | _ => false
  | .map (some x) => match b with
    | .map (some y) => Nat.beq x y
    | _ => false
  | .nilFunc => match b with
    | .nilFunc => true
    | _ => false
  | .nilIface => match b with
    | .nilIface => true
    | _ => false
  | _ => false
def sameL (f : Value → Value → Bool) (x : List Value) : List Value → Bool :=
  List.rec (fun y => List.rec true (fun _ _ _ => false) y) (fun a _ ih y => List.rec false (fun b bs _ => cnd (f a b) (ih bs) false) y) x
def sameA (a b : Value) : Bool :=
  match a with
  | .agg x => match b with
    | .agg y => sameL sameS x.toList y.toList
    | _ => false
  | a => sameS a b
/-- surely the same value -/
def sameV (a b : Value) : Bool :=
  match a with
  | .tuple x => match b with
    | .tuple y => sameL sameA x.toList y.toList
    | _ => false
  | a => sameA a b

/-! A region whose order is open. Stages: the heaps behind the writers, each with the mask of what it holds, and of the writers in it. -/
inductive DStage where
  | mk (H : AH) (A : Nat) (W : Nat)
/-- what was made: its number in the region, its block -/
abbrev DPend := List (Nat × Nat × ABlk)
/-- what was read: its mask, operation, value -/
inductive DLog where
  | mk (i : Nat) (bef : Nat) (ρ : Tr Value) (op : AOp) (v : Value)
/-- a heap with those of what was made that stand in one mask and not in the other -/
def addB (bef A : Nat) (pend : DPend) (H : AH) : AH :=
  List.rec H (fun p _ ih => cnd (cnd (bitN bef p.1) (cnd (bitN A p.1) false true) false) (ih.put p.2.1 p.2.2) ih) pend
/-- with all that it doesn't hold yet -/
def addR (A : Nat) (pend : DPend) (H : AH) : AH :=
  List.rec H (fun p _ ih => cnd (bitN A p.1) ih (ih.put p.2.1 p.2.2)) pend
def evalR (ρ : Tr Value) (op : AOp) (H : AH) : Option Value := Option.rec none (fun p => @AOut.rec (fun _ => Option Value) (fun v => some v) (fun _ _ => none) p.1) (opA ρ H op)
def sameO (x : Option Value) (v : Value) : Bool := Option.rec false (fun u => sameV u v) x
def stagesOk (ρ : Tr Value) (op : AOp) (bef W : Nat) (pend : DPend) (v : Value) (l : List DStage) : Bool :=
  List.rec true (fun s _ ih => @DStage.rec (fun _ => Bool) (fun H A W' =>
    cnd (cnd (Nat.beq (Nat.land (Nat.land bef W) W') (Nat.land bef W)) (sameO (evalR ρ op (addB bef A pend H)) v) true) ih false) s) l
def logOk (bef : Nat) (pend : DPend) (A : Nat) (H : AH) (l : List DLog) : Bool :=
  List.rec true (fun s _ ih => @DLog.rec (fun _ => Bool) (fun i befr ρ op v => cnd (cnd (bitN bef i) true (sameO (evalR ρ op (addB befr A pend H)) v)) ih false) s) l
abbrev RunD := Nat → Tr Value → AH → Nat → Nat → DPend → List DStage → List DLog → Option (Tr Value × AH)
def newD (base i : Nat) (o : AOper) (k : RunD) (ρ : Tr Value) (H : AH) (A W : Nat) (pend : DPend) (hist : List DStage) (log : List DLog) : Option (Tr Value × AH) :=
  Option.rec none (fun p => @AOut.rec (fun _ => Option (Tr Value × AH))
    (fun v => Option.rec none (fun blk => (putT ρ o.dst v).seq fun ρ => k (Nat.succ i) ρ H A W ((i, Nat.add base i, blk) :: pend) hist log) (p.2.get (Nat.add base i)))
    (fun _ _ => none) p.1) (opA ρ ⟨Nat.add base i, .nil⟩ o.op)
def readD (i : Nat) (o : AOper) (k : RunD) (ρ : Tr Value) (H : AH) (A W : Nat) (pend : DPend) (hist : List DStage) (log : List DLog) : Option (Tr Value × AH) :=
  Option.rec none (fun v => cnd (stagesOk ρ o.op o.bef W pend v hist)
    ((putT ρ o.dst v).seq fun ρ' => k (Nat.succ i) ρ' H A W pend hist (.mk i o.bef ρ o.op v :: log)) none) (evalR ρ o.op (addB o.bef A pend H))
def writeD (call : CallT) (i : Nat) (o : AOper) (k : RunD) (ρ : Tr Value) (H : AH) (A W : Nat) (pend : DPend) (hist : List DStage) (log : List DLog) : Option (Tr Value × AH) :=
  Option.rec none (fun p => p.2.seq fun H' => cnd (logOk o.bef pend o.bef H' log)
    ((putT ρ o.dst p.1).seq fun ρ' => k (Nat.succ i) ρ' H' o.bef (Nat.lor W (Nat.shiftLeft 1 i)) pend (.mk H A W :: hist) log) none)
    ((addB o.bef A pend H).seq fun H => stepC call (opA ρ H o.op))
def plainD (i : Nat) (o : AOper) (k : RunD) (ρ : Tr Value) (H : AH) (A W : Nat) (pend : DPend) (hist : List DStage) (log : List DLog) : Option (Tr Value × AH) :=
  Option.rec none (fun v => (putT ρ o.dst v).seq fun ρ => k (Nat.succ i) ρ H A W pend hist log) (evalR ρ o.op H)
def skipD (i : Nat) (o : AOper) (k : RunD) (ρ : Tr Value) (H : AH) (A W : Nat) (pend : DPend) (hist : List DStage) (log : List DLog) : Option (Tr Value × AH) :=
  (putT ρ o.dst undef).seq fun ρ => k (Nat.succ i) ρ H A W pend hist log
def clsD (call : CallT) (base i : Nat) (o : AOper) (k : RunD) : Tr Value → AH → Nat → Nat → DPend → List DStage → List DLog → Option (Tr Value × AH) :=
  match o.cls with
  | 0 => plainD i o k
  | 1 => readD i o k
  | 2 => newD base i o k
  | _ => writeD call i o k
def stepD (call : CallT) (base : Nat) (o : AOper) (k : RunD) : RunD := fun i ρ H A W pend hist log =>
  Option.rec (clsD call base i o k ρ H A W pend hist log)
    (fun g => Option.rec none (fun w => cnd w (clsD call base i o k ρ H A W pend hist log) (skipD i o k ρ H A W pend hist log)) (wanted ρ g)) o.guard
def endD (ρ : Tr Value) (H : AH) (A : Nat) (pend : DPend) : Option (Tr Value × AH) := (addR A pend H).seq fun H => some (ρ, H)
def runD (call : CallT) (base : Nat) (l : List AOper) : RunD :=
  List.rec (fun _ ρ H A _ pend _ _ => endD ρ H A pend) (fun o _ ih => stepD call base o ih) l
def drawD (call : CallT) (ops : List AOper) (n : Nat) (ρ : Tr Value) (H : AH) : Option (Tr Value × AH) :=
  runD call H.next ops 0 ρ ⟨Nat.add H.next n, H.heap⟩ 0 0 [] [] []

def xReg (x : Option (Tr Value × AH)) : ExecT := Option.rec none (fun p => some (.normal, p)) x
def xSeq (x : ExecT) (k : Tr Value → AH → ExecT) : ExecT :=
  Option.rec none (fun p => @AExit.rec (fun _ => ExecT) (k p.2.1 p.2.2) (fun _ => some p) (some p) p.1) x
def xCond (c : Option Value) (a b : Unit → ExecT) : ExecT :=
  match c with
  | some (.bool t) => cnd t (a ()) (b ())
  | _ => none
def xBlock (id : Nat) (x : ExecT) : ExecT :=
  Option.rec none (fun p => @AExit.rec (fun _ => ExecT) (some p) (fun i => cnd (Nat.beq i id) (some (.normal, p.2)) (some p)) (some p) p.1) x

def loopF (body : Tr Value → AH → ExecT) (n : Nat) : Tr Value → AH → ExecT :=
  Nat.rec (fun _ _ => none) (fun _ it ρ H => xSeq (body ρ H) it) n

def execC (call : CallT) (n : Nat) (c : ACode) : Tr Value → AH → ExecT :=
  @ACode.rec (fun _ => Tr Value → AH → ExecT)
    (fun ρ H => some (.normal, ρ, H)) -- skip
    (fun ops ρ H => xReg (runOps call ops ρ H))
    (fun ops n ρ H => xReg (drawD call ops n ρ H))
    (fun _ _ ia ib ρ H => xSeq (ia ρ H) ib)
    (fun x _ _ ia ib ρ H => xCond (opd ρ x) (fun _ => ia ρ H) (fun _ => ib ρ H))
    (fun id _ ib ρ H => xBlock id (ib ρ H))
    (fun _ ib => loopF ib n)
    (fun id ρ H => some (.exit id, ρ, H))
    (fun ρ H => some (.ret, ρ, H))
    (fun _ _ => none)
    c

def resA (ρ : Tr Value) (H : AH) (r : ARes) : Option Value :=
  @ARes.rec (fun _ => Option Value) (fun p => ρ.at p) (fun p ti => bind1 (ρ.at p) (loadA ti H)) r
def resL (ρ : Tr Value) (H : AH) (rs : List ARes) : Option (List Value) :=
  List.rec (some []) (fun r _ ih => Option.rec none (fun v => mapO (v :: ·) ih) (resA ρ H r)) rs
def tupOf (l : List Value) : Value := .tuple l.toArray
def ressA (ρ : Tr Value) (H : AH) (rs : List ARes) : Option Value :=
  match rs with
  | [r] => resA ρ H r
  | rs => bindL (resL ρ H rs) fun l => cnd (allL notTup l) (some (tupOf l)) none
def xRes (rs : List ARes) (x : ExecT) : Option (Value × AH) :=
  Option.rec none (fun p => @AExit.rec (fun _ => Option (Value × AH)) (mapO (fun v => (v, p.2.2)) (ressA p.2.1 p.2.2 rs)) (fun _ => none) (mapO (fun v => (v, p.2.2)) (ressA p.2.1 p.2.2 rs)) p.1) x
def setArgs (ρ : Tr Value) (i : Nat) (vs : List Value) : Tr Value :=
  List.rec (fun ρ _ => ρ) (fun v _ ih ρ i => (ρ.set i v).seq fun ρ => ih ρ (Nat.add i 1)) vs ρ i

def callF (E : Env) (call : CallT) (n : Nat) (f : Nat) (args : List Value) (H : AH) : Option (Value × AH) :=
  @Option.rec _ (fun _ => Option (Value × AH)) (E.orc f args H)
    (fun F => (setArgs .nil 0 args).seq fun ρ => xRes F.results (execC call n F.body ρ H)) (E.fn.get f)

/-- calls, so deep; loops, so long -/
def callE (E : Env) (n : Nat) (d : Nat) : CallT := Nat.rec (fun _ _ _ => none) (fun _ ih => callF E ih n) d

end
end Go.Rem
/-! Code made ready: numbers of slots as ways, layouts in place. -/
namespace Go.Rem
noncomputable section
abbrev Lay := Nat → Option TI

def isBase : Value → Bool
  | .bool _ | .int .. | .string _ | .pointer none | .slice none 0 0 | .map none | .nilFunc | .nilIface => true
  | _ => false
def isGround : Value → Bool
  | .agg cs => allL isBase cs.toList
  | .tuple cs => Nat.beq (lenL cs.toList) 0
  | v => isBase v

def pOpd (x : Operand) : AOpd :=
  match x with
  | .tmp t => .t (toPa t)
  | .const v => cnd (isGround v) (.c v) .bad
  | .func f => .f f
  | .global _ => .bad
def pOpds (xs : List Operand) : List AOpd := List.rec [] (fun x _ ih => pOpd x :: ih) xs
def pOpdO (x : Option Operand) : Option AOpd := Option.rec none (fun x => some (pOpd x)) x

/-- parts of a struct: by its fields -/
def pParts (flds : List (Nat × Nat × Bool)) (ps : List (Nat × Operand)) : Option (List (Nat × Nat × AOpd)) :=
  List.rec (some []) (fun p _ ih => Option.rec none (fun f => mapO ((f.1, f.2.1, pOpd p.2) :: ·) ih) (nthL flds p.1)) ps
/-- parts of a row -/
def pElems (size : Nat) (ps : List (Nat × Operand)) : List (Nat × Nat × AOpd) :=
  List.rec [] (fun p _ ih => (Nat.mul p.1 size, size, pOpd p.2) :: ih) ps
def withT (lay : Lay) (t : TypeId) (k : TI → AOp) : AOp := Option.rec .bad k (lay t)

def pCall (lay : Lay) (c : Call) : AOp :=
  match c.callee with
  | .value (.func f) => .call f (pOpds c.args.toList)
  | .value f => .callv (pOpd f) (pOpds c.args.toList)
  | .invoke .. => .bad
  | .builtin b =>
    match b, c.argTypes.toList, c.args.toList with
    | .len, [t], [x] => withT lay t fun ti => .len ti.kind ti.aux (pOpd x)
    | .cap, [t], [x] => withT lay t fun ti => cnd (Nat.beq ti.kind 4) (.cap (pOpd x)) .bad
    | .append, [t, u], [s, x] => withT lay t fun ti => withT lay u fun tu => withT lay ti.elem fun te => cnd (Nat.beq ti.kind 4) (.append tu.kind te ti.elem (pOpd s) (pOpd x)) .bad
    | .clear, [t], [x] => withT lay t fun ti => withT lay ti.elem fun te => cnd (Nat.beq ti.kind 4) (.clear te (pOpd x)) .bad
    | .delete, [t, _], [m, k] => withT lay t fun ti => withT lay ti.aux fun tk => cnd (Nat.beq ti.kind 8) (.delete tk (pOpd m) (pOpd k)) .bad
    | .max, _, l => .minmax true (pOpds l)
    | .min, _, l => .minmax false (pOpds l)
    | _, _, _ => .bad

def pBin (lay : Lay) (op : BinOp) (t : TypeId) (x y : Operand) : AOp :=
  withT lay t fun ti => cnd (Nat.beq ti.kind 7) (withT lay ti.elem fun te => .bin op ti te (pOpd x) (pOpd y)) (.bin op ti ti (pOpd x) (pOpd y))
def pConv (lay : Lay) (s d : TypeId) (x : Operand) : AOp :=
  withT lay s fun ts => withT lay d fun td =>
    cnd (Nat.beq td.kind 1 && Nat.beq ts.kind 1) (.conv 0 td.ik (pOpd x))
    (cnd (Nat.beq td.kind 2 && Nat.beq ts.kind 2) (.conv 1 .u8 (pOpd x))
    (cnd (Nat.beq td.kind 2 && Nat.beq ts.kind 4) (withT lay ts.elem fun te => cnd (Nat.beq te.kind 1 && (Nat.beq te.size 1 && Nat.beq (ikN te.ik) 4)) (.conv 2 .u8 (pOpd x)) .bad) .bad))
def pSlice (lay : Lay) (t : TypeId) (x : Operand) (lo hi mx : Option Operand) : AOp :=
  withT lay t fun ti =>
    cnd (Nat.beq ti.kind 2) (.slice 0 0 0 (pOpd x) (pOpdO lo) (pOpdO hi) (pOpdO mx))
    (cnd (Nat.beq ti.kind 4) (withT lay ti.elem fun te => .slice 1 te.size 0 (pOpd x) (pOpdO lo) (pOpdO hi) (pOpdO mx))
    (cnd (Nat.beq ti.kind 5) (withT lay ti.elem fun te => .slice 2 te.size ti.aux (pOpd x) (pOpdO lo) (pOpdO hi) (pOpdO mx)) .bad))
def pIndexAddr (lay : Lay) (t : TypeId) (x i : Operand) : AOp :=
  withT lay t fun ti => withT lay ti.elem fun te =>
    cnd (Nat.beq ti.kind 4) (.indexAddr 1 te.size 0 (pOpd x) (pOpd i)) (cnd (Nat.beq ti.kind 5) (.indexAddr 2 te.size ti.aux (pOpd x) (pOpd i)) .bad)
def pIndex (lay : Lay) (t : TypeId) (x i : Operand) : AOp :=
  withT lay t fun ti =>
    cnd (Nat.beq ti.kind 2) (.index 0 1 0 false (pOpd x) (pOpd i))
    (cnd (Nat.beq ti.kind 5) (withT lay ti.elem fun te => .index 3 te.size ti.aux te.agg (pOpd x) (pOpd i)) .bad)
def pField (ti : TI) (x : Operand) (f : Nat) (addr : Bool) : AOp :=
  cnd (Nat.beq ti.kind 6) (Option.rec .bad (fun q => cnd addr (cnd (Nat.beq q.2.1 0) .bad (.fieldAddr q.1 (pOpd x))) (.field q.2.2 q.1 q.2.1 (pOpd x))) (nthL ti.flds f)) .bad
def pBuild (lay : Lay) (t : TypeId) (ps : List (Nat × Operand)) : AOp :=
  withT lay t fun ti =>
    cnd (Nat.beq ti.kind 6) (Option.rec .bad (fun ps => .build ti.zero ps) (pParts ti.flds ps))
    (cnd (Nat.beq ti.kind 5) (withT lay ti.elem fun te => .build ti.zero (pElems te.size ps)) .bad)
def zeroOf (ti : TI) : Option Value := cnd ti.agg (some (aggOf ti.zero)) (nthL ti.zero 0)

def pOp (lay : Lay) (op : Op) : AOp :=
  match op with
  | .move x => .mv (pOpd x)
  | .assign x => .mv (pOpd x)
  | .pick c a b => .pick (pOpd c) (pOpd a) (pOpd b)
  | .alloc t => withT lay t fun ti => cnd (allL okCell ti.zero) (.alloc ti.zero t) .bad
  | .box t x => .box t (pOpd x)
  | .build t parts => pBuild lay t parts.toList
  | .buildSlice t len parts => withT lay t fun ti => withT lay ti.elem fun te =>
      cnd (Nat.beq ti.kind 4 && Nat.ble (Nat.mul len te.size) 65536) (.buildSlice len (repL te.zero len) ti.elem (pElems te.size parts.toList)) .bad
  | .load t a => withT lay t fun ti => .load ti (pOpd a)
  | .store t a x => withT lay t fun ti => .store ti (pOpd a) (pOpd x)
  | .nilCheck x => .nilCheck (pOpd x)
  | .binOp op t x y _ => pBin lay op t x y
  | .unOp op _ x => .un op (pOpd x)
  | .convert s d x => pConv lay s d x
  | .makeFunc fn first cap => .makeFunc fn (pOpds first.toList) (pOpds cap.toList)
  | .makeMap _ none => .makeMap
  | .makeSlice t l c => withT lay t fun ti => withT lay ti.elem fun te => cnd (Nat.beq ti.kind 4) (.makeSlice te ti.elem (pOpd l) (pOpd c)) .bad
  | .slice t x lo hi mx => pSlice lay t x lo hi mx
  | .fieldAddr t x f => withT lay t fun ti => pField ti x f true
  | .field t x f => withT lay t fun ti => pField ti x f false
  | .indexAddr t x i => pIndexAddr lay t x i
  | .index t x i => pIndex lay t x i
  | .lookup t m k ok => withT lay t fun ti => withT lay ti.elem fun te => withT lay ti.aux fun tk =>
      cnd (Nat.beq ti.kind 8) (Option.rec .bad (fun z => .lookup tk z ok (pOpd m) (pOpd k)) (zeroOf te)) .bad
  | .mapUpdate t m k x => withT lay t fun ti => withT lay ti.aux fun tk => cnd (Nat.beq ti.kind 8) (.mapSet tk (pOpd m) (pOpd k) (pOpd x)) .bad
  | .extract t i => .extract (pOpd t) i
  | .call c => pCall lay c
  | _ => .bad

/-- 0 reads nothing, 1 reads, 2 makes memory alone, 3 else -/
def clsOf (op : AOp) : Nat :=
  match op with
  | .mv _ | .pick .. | .build .. | .nilCheck _ | .un .. | .makeFunc .. | .slice .. | .fieldAddr .. | .field .. | .indexAddr .. | .index .. | .extract .. | .cap _ | .minmax .. => 0
  | .bin .. | .load .. | .conv .. | .lookup .. | .len .. => 1
  | .alloc .. | .box .. | .buildSlice .. | .makeMap | .makeSlice .. => 2
  | _ => 3

def bindsG (g : Ground) : Bool :=
  match g with
  | .textOnly _ | .gcOnly _ => false
  | _ => true
/-- what must come ahead, by bits: of the masks of those ahead (the last one first), so many -/
def maskOf (n : Nat) (ms : List Nat) (es : List Edge) : Nat :=
  List.rec 0 (fun e _ ih => cnd (bindsG e.ground) (Nat.lor ih (Nat.lor (Nat.shiftLeft 1 e.on) (Option.rec 0 (fun m => m) (nthL ms (Nat.sub (Nat.sub n 1) e.on))))) ih) es
def pDst (d : Option Tmp) : Option Pa := Option.rec none (fun d => some (toPa d)) d
def pGuard (ops : List Oper) (g : Option (Nat × Bool)) : Option (Pa × Bool) :=
  Option.rec none (fun g => Option.rec none (fun q => mapO (fun d => (toPa d, g.2)) (Oper.dst q)) (nthL ops g.1)) g
def dstOk (n : Nat) (d : Option Tmp) : Bool := Option.rec true (fun d => Nat.ble (Nat.succ d) n) d
def edgesOk (i : Nat) (es : List Edge) : Bool := allL (fun e => cnd (bindsG e.ground) (Nat.ble (Nat.succ e.on) i) true) es
def pOper (lay : Lay) (nt : Nat) (ops : List Oper) (i : Nat) (o : Oper) (m : Nat) : AOper :=
  (fun op => ⟨op, pDst o.dst, pGuard ops o.guard, clsOf op, m⟩) (cnd (cnd (dstOk nt o.dst) (cnd (edgesOk i o.after.toList) (cnd o.guard.isSome (pGuard ops o.guard).isSome true) false) false) (pOp lay o.op) .bad)
def pOpers (lay : Lay) (nt : Nat) (ops : List Oper) (l : List Oper) : Nat → List Nat → List AOper :=
  List.rec (fun _ _ => []) (fun o _ ih n ms => (fun m => pOper lay nt ops n o m :: ih (Nat.succ n) (m :: ms)) (maskOf n ms o.after.toList)) l

/-! what a region whose order is open must keep to -/
def consO (x : Option AOpd) (l : List AOpd) : List AOpd := Option.rec l (fun x => x :: l) x
def partsO (ps : List (Nat × Nat × AOpd)) : List AOpd := List.rec [] (fun p _ ih => p.2.2 :: ih) ps
def opdsOf (x : AOp) : List AOpd :=
  @AOp.rec (fun _ => List AOpd)
    (fun x => [x]) (fun c a b => [c, a, b]) (fun _ _ => []) (fun _ x => [x]) (fun _ ps => partsO ps) (fun _ _ _ ps => partsO ps)
    (fun _ a => [a]) (fun _ a x => [a, x]) (fun x => [x]) (fun _ _ _ x y => [x, y]) (fun _ x => [x]) (fun _ _ x => [x])
    (fun _ f c => appL f c) [] (fun _ _ l c => [l, c]) (fun _ _ _ x lo hi mx => x :: consO lo (consO hi (consO mx [])))
    (fun _ x => [x]) (fun _ _ _ x => [x]) (fun _ _ _ x i => [x, i]) (fun _ _ _ _ x i => [x, i]) (fun _ _ _ m k => [m, k]) (fun _ m k x => [m, k, x])
    (fun t _ => [t]) (fun _ as => as) (fun f as => f :: as) (fun _ _ x => [x]) (fun x => [x]) (fun _ _ _ s x => [s, x]) (fun _ x => [x]) (fun _ m k => [m, k])
    (fun _ l => l) [] x
/-- who writes what; nothing is written twice -/
def ownF (l : List AOper) : Nat → Tr Nat → Option (Tr Nat) :=
  List.rec (fun _ own => some own) (fun o _ ih i own => @Option.rec _ (fun _ => Option (Tr Nat)) (ih (Nat.succ i) own)
    (fun p => Option.rec ((own.put p i).seq fun own => ih (Nat.succ i) own) (fun _ => none) (own.at p)) o.dst) l
/-- what stands at a way is laid down ahead, or isn't yet -/
def pathIn (own : Tr Nat) (l : List AOper) (i bef : Nat) (p : Pa) : Bool :=
  Option.rec true (fun j => cnd (bitN bef j) true (Option.rec false (fun o : AOper => bitN o.bef i) (nthL l j))) (own.at p)
def opdIn (own : Tr Nat) (l : List AOper) (i bef : Nat) (x : AOpd) : Bool := @AOpd.rec (fun _ => Bool) (fun p => pathIn own l i bef p) (fun _ => true) (fun _ => true) true x
def operOk (own : Tr Nat) (l : List AOper) (i : Nat) (o : AOper) : Bool := cnd (allL (opdIn own l i o.bef) (opdsOf o.op)) (Option.rec true (fun g => pathIn own l i o.bef g.1) o.guard) false
def opersOk (own : Tr Nat) (all : List AOper) (l : List AOper) : Nat → Bool :=
  List.rec (fun _ => true) (fun o _ ih i => cnd (operOk own all i o) (ih (Nat.succ i)) false) l
def rowOk (l : List AOper) : Nat → Nat → Bool :=
  List.rec (fun _ _ => true) (fun o _ ih i W => cnd (Nat.ble o.cls 2) (ih (Nat.succ i) W) (cnd (Nat.beq (Nat.land W o.bef) W) (ih (Nat.succ i) (Nat.lor W (Nat.shiftLeft 1 i))) false)) l
/-- what must come ahead stands ahead -/
def befOk (l : List AOper) : Nat → Bool :=
  List.rec (fun _ => true) (fun o _ ih i => cnd (Nat.beq (Nat.shiftRight o.bef i) 0) (ih (Nat.succ i)) false) l
def drawOk (l : List AOper) : Bool := Option.rec false (fun own => cnd (opersOk own l l 0) (cnd (rowOk l 0 0) (befOk l 0) false) false) (ownF l 0 .nil)
/-- made explicit, for a kernel -/
def fL {α β : Type} (f : α → (α → β) → β) (l : List α) (k : List α → β) : β :=
  List.rec (fun k => k []) (fun a _ ih k => f a fun a => ih fun l => k (a :: l)) l k
def fO {α β : Type} (f : α → (α → β) → β) (x : Option α) (k : Option α → β) : β := Option.rec (k none) (fun a => f a fun a => k (some a)) x
def fPa {β : Type} (p : Pa) (k : Pa → β) : β :=
  Pa.rec (fun k => k .h) (fun _ ih k => ih fun p => k (.o p)) (fun _ ih k => ih fun p => k (.i p)) p k
def fOpd {β : Type} (x : AOpd) (k : AOpd → β) : β := @AOpd.rec (fun _ => β) (fun p => fPa p fun p => k (.t p)) (fun v => k (.c v)) (fun f => k (.f f)) (k .bad) x
def fPart {β : Type} (p : Nat × Nat × AOpd) (k : Nat × Nat × AOpd → β) : β := fOpd p.2.2 fun x => k (p.1, p.2.1, x)
def fOp {β : Type} (x : AOp) (k : AOp → β) : β :=
  @AOp.rec (fun _ => β)
    (fun x => fOpd x fun x => k (.mv x))
    (fun c a b => fOpd c fun c => fOpd a fun a => fOpd b fun b => k (.pick c a b))
    (fun z t => k (.alloc z t)) (fun t x => fOpd x fun x => k (.box t x))
    (fun z ps => fL fPart ps fun ps => k (.build z ps))
    (fun n z e ps => fL fPart ps fun ps => k (.buildSlice n z e ps))
    (fun ti a => fOpd a fun a => k (.load ti a)) (fun ti a x => fOpd a fun a => fOpd x fun x => k (.store ti a x))
    (fun x => fOpd x fun x => k (.nilCheck x))
    (fun op ti te x y => fOpd x fun x => fOpd y fun y => k (.bin op ti te x y))
    (fun op x => fOpd x fun x => k (.un op x)) (fun d ik x => fOpd x fun x => k (.conv d ik x))
    (fun fn f c => fL fOpd f fun f => fL fOpd c fun c => k (.makeFunc fn f c)) (k .makeMap)
    (fun te e l c => fOpd l fun l => fOpd c fun c => k (.makeSlice te e l c))
    (fun d s n x lo hi mx => fOpd x fun x => fO fOpd lo fun lo => fO fOpd hi fun hi => fO fOpd mx fun mx => k (.slice d s n x lo hi mx))
    (fun o x => fOpd x fun x => k (.fieldAddr o x)) (fun a o s x => fOpd x fun x => k (.field a o s x))
    (fun d s n x i => fOpd x fun x => fOpd i fun i => k (.indexAddr d s n x i))
    (fun d s n a x i => fOpd x fun x => fOpd i fun i => k (.index d s n a x i))
    (fun tk z ok m q => fOpd m fun m => fOpd q fun q => k (.lookup tk z ok m q))
    (fun tk m q x => fOpd m fun m => fOpd q fun q => fOpd x fun x => k (.mapSet tk m q x))
    (fun t i => fOpd t fun t => k (.extract t i)) (fun f as => fL fOpd as fun as => k (.call f as))
    (fun f as => fOpd f fun f => fL fOpd as fun as => k (.callv f as)) (fun d n x => fOpd x fun x => k (.len d n x))
    (fun x => fOpd x fun x => k (.cap x)) (fun xk te e s x => fOpd s fun s => fOpd x fun x => k (.append xk te e s x))
    (fun te x => fOpd x fun x => k (.clear te x)) (fun tk m q => fOpd m fun m => fOpd q fun q => k (.delete tk m q))
    (fun mx l => fL fOpd l fun l => k (.minmax mx l)) (k .bad) x
def fGuard {β : Type} (g : Pa × Bool) (k : Pa × Bool → β) : β := fPa g.1 fun p => k (p, g.2)
def fOper {β : Type} (o : AOper) (k : AOper → β) : β :=
  fOp o.op fun op => fO fPa o.dst fun d => fO fGuard o.guard fun g => k ⟨op, d, g, o.cls, o.bef⟩

def pCode (lay : Lay) (nt : Nat) (c : Code) : ACode :=
  @Code.rec (fun _ => ACode) .skip
    (fun _ ops d => fL fOper (pOpers lay nt ops.toList ops.toList 0 []) fun l => cnd d (cnd (drawOk l) (.draw l (lenL l)) .bad) (.reg l))
    (fun _ _ ia ib => .seq ia ib) (fun x _ _ ia ib => .cond (pOpd x) ia ib) (fun id _ ib => .block id ib) (fun _ ib => .loop ib)
    (fun _ _ _ _ _ _ => .bad) (fun id => .exit id) (fun _ _ => .bad) (fun _ => .bad) (fun _ => .bad) .ret (fun _ => .bad) c
def pRes (lay : Lay) (r : ResultVar) : Option ARes :=
  match r with
  | .tmp t => some (.tmp (toPa t))
  | .cell a t => Option.rec none (fun ti => some (.cell (toPa a) ti)) (lay t)
def pRess (lay : Lay) (rs : List ResultVar) : Option (List ARes) :=
  List.rec (some []) (fun r _ ih => Option.rec none (fun a => mapO (a :: ·) ih) (pRes lay r)) rs
def pFunc (lay : Lay) (F : Func) : Option AF :=
  Option.rec none (fun b => Option.rec none (fun rs => some ⟨pCode lay F.ntmps b, rs⟩) (pRess lay F.results.toList)) F.body

def fCode {β : Type} (c : ACode) : (ACode → β) → β :=
  @ACode.rec (fun _ => (ACode → β) → β) (fun k => k .skip) (fun ops k => fL fOper ops fun ops => k (.reg ops)) (fun ops n k => fL fOper ops fun ops => k (.draw ops n))
    (fun _ _ ia ib k => ia fun a => ib fun b => k (.seq a b)) (fun x _ _ ia ib k => fOpd x fun x => ia fun a => ib fun b => k (.cond x a b))
    (fun id _ ib k => ib fun b => k (.block id b)) (fun _ ib k => ib fun b => k (.loop b)) (fun id k => k (.exit id)) (fun k => k .ret) (fun k => k .bad) c
def fRes {β : Type} (r : ARes) (k : ARes → β) : β := @ARes.rec (fun _ => β) (fun p => fPa p fun p => k (.tmp p)) (fun p ti => fPa p fun p => k (.cell p ti)) r
def fFunc {β : Type} (F : AF) (k : AF → β) : β := fCode F.body fun b => fL fRes F.results fun rs => k ⟨b, rs⟩

/-- the table of some functions, made ready -/
def table {β : Type} (lay : Lay) (l : List (Nat × Func)) : Tr AF → (Tr AF → β) → β :=
  List.rec (fun t k => k t) (fun p _ ih t k => @Option.rec _ (fun _ => β) (ih t k) (fun F => fFunc F fun F => (t.set p.1 F).seq fun t => ih t k) (pFunc lay p.2)) l
end
end Go.Rem
/-! How abstract values and heaps stand for real ones. -/
namespace Go.Rem
variable {α β : Type}

/-! ### trees -/
@[simp] theorem cnd_true (a b : α) : cnd true a b = a := rfl
@[simp] theorem cnd_false (a b : α) : cnd false a b = b := rfl
theorem cnd_eq (c : Bool) (a b : α) : cnd c a b = if c then a else b := by cases c <;> rfl
theorem cnd_some {c : Bool} {x : Option α} {y : α} (h : cnd c x none = some y) : c = true ∧ x = some y := by
  cases c
  · simp at h
  · exact ⟨rfl, h⟩
@[simp] theorem Tr.seq_eq (t : Tr α) (k : Tr α → β) : t.seq k = k t := by cases t <;> rfl
@[simp] theorem AH.seq_eq (H : AH) (k : AH → β) : H.seq k = k H := by
  obtain ⟨n, h⟩ := H
  cases n with
  | zero => show h.seq (fun h => k ⟨0, h⟩) = _; rw [Tr.seq_eq]
  | succ n => show h.seq (fun h => k ⟨Nat.succ n, h⟩) = _; rw [Tr.seq_eq]
theorem Tr.put_o_nil (p : Pa) (a : α) : (Tr.nil).put (.o p) a = .node (Tr.nil.put p a) none .nil := by
  show (Tr.put .nil p a).seq (fun l => Tr.node l none .nil) = _; rw [Tr.seq_eq]
theorem Tr.put_i_nil (p : Pa) (a : α) : (Tr.nil).put (.i p) a = .node .nil none (Tr.nil.put p a) := by
  show (Tr.put .nil p a).seq (fun r => Tr.node .nil none r) = _; rw [Tr.seq_eq]
theorem Tr.put_o (l : Tr α) (v : Option α) (r : Tr α) (p : Pa) (a : α) : (Tr.node l v r).put (.o p) a = .node (l.put p a) v r := by
  show (Tr.put l p a).seq (fun l => Tr.node l v r) = _; rw [Tr.seq_eq]
theorem Tr.put_i (l : Tr α) (v : Option α) (r : Tr α) (p : Pa) (a : α) : (Tr.node l v r).put (.i p) a = .node l v (r.put p a) := by
  show (Tr.put r p a).seq (fun r => Tr.node l v r) = _; rw [Tr.seq_eq]
theorem Tr.at_o (l : Tr α) (v : Option α) (r : Tr α) (p : Pa) : (Tr.node l v r).at (.o p) = l.at p := rfl
theorem Tr.at_i (l : Tr α) (v : Option α) (r : Tr α) (p : Pa) : (Tr.node l v r).at (.i p) = r.at p := rfl
theorem Tr.at_h (l : Tr α) (v : Option α) (r : Tr α) : (Tr.node l v r).at .h = v := rfl
theorem Tr.at_nil (p : Pa) : (Tr.nil : Tr α).at p = none := by cases p <;> rfl
theorem Tr.at_put_same (p : Pa) (a : α) : ∀ t : Tr α, (t.put p a).at p = some a := by
  induction p with
  | h => intro t; cases t <;> rfl
  | o p ih => intro t; cases t <;> simp only [Tr.put_o, Tr.put_o_nil, Tr.at_o, ih]
  | i p ih => intro t; cases t <;> simp only [Tr.put_i, Tr.put_i_nil, Tr.at_i, ih]
theorem Tr.at_put_ne (p : Pa) (a : α) : ∀ (q : Pa) (t : Tr α), q ≠ p → (t.put p a).at q = t.at q := by
  induction p with
  | h => intro q t h; cases q with
    | h => exact absurd rfl h
    | o q => cases t with
      | nil => exact Tr.at_nil q
      | node l v r => rfl
    | i q => cases t with
      | nil => exact Tr.at_nil q
      | node l v r => rfl
  | o p ih => intro q t h; cases q with
    | h => cases t <;> simp only [Tr.put_o, Tr.put_o_nil, Tr.at_h] <;> rfl
    | o q =>
      have h' : q ≠ p := fun e => h (by rw [e])
      cases t <;> simp only [Tr.put_o, Tr.put_o_nil, Tr.at_o, ih q _ h', Tr.at_nil]
    | i q => cases t <;> simp only [Tr.put_o, Tr.put_o_nil, Tr.at_i, Tr.at_nil]
  | i p ih => intro q t h; cases q with
    | h => cases t <;> simp only [Tr.put_i, Tr.put_i_nil, Tr.at_h] <;> rfl
    | i q =>
      have h' : q ≠ p := fun e => h (by rw [e])
      cases t <;> simp only [Tr.put_i, Tr.put_i_nil, Tr.at_i, ih q _ h', Tr.at_nil]
    | o q => cases t <;> simp only [Tr.put_i, Tr.put_i_nil, Tr.at_o, Tr.at_nil]

theorem toPaF_zero (f : Nat) : toPaF f 0 = .h := by cases f <;> rfl
theorem toPaF_succ (f m : Nat) : toPaF (f + 1) (m + 1) = if m % 2 = 0 then .o (toPaF f (m / 2)) else .i (toPaF f (m / 2)) := by
  show cnd (Nat.beq (Nat.land m 1) 0) (Pa.o (toPaF f (Nat.div m 2))) (Pa.i (toPaF f (Nat.div m 2))) = _
  have h : Nat.land m 1 = m % 2 := Nat.and_one_is_mod m
  rw [cnd_eq, h]
  simp only [Nat.beq_eq]
  rfl
theorem toPaF_inj : ∀ (f g m n : Nat), m < f → n < g → toPaF f m = toPaF g n → m = n := by
  intro f
  induction f with
  | zero => intro g m n h; omega
  | succ f ih =>
    intro g m n hm hn h
    cases g with
    | zero => omega
    | succ g =>
      cases m with
      | zero =>
        cases n with
        | zero => rfl
        | succ n => rw [toPaF_zero, toPaF_succ] at h; split at h <;> cases h
      | succ m =>
        cases n with
        | zero => rw [toPaF_zero, toPaF_succ] at h; split at h <;> cases h
        | succ n =>
          rw [toPaF_succ, toPaF_succ] at h
          split at h <;> split at h <;> first | (cases h; done) | (injection h with h; have := ih g (m / 2) (n / 2) (by omega) (by omega) h; omega)
theorem toPa_inj {m n : Nat} (h : toPa m = toPa n) : m = n := toPaF_inj _ _ m n (Nat.lt_succ_self _) (Nat.lt_succ_self _) h
@[simp] theorem Tr.get_set (t : Tr α) (n : Nat) (a : α) : (t.set n a).get n = some a := Tr.at_put_same _ _ _
theorem Tr.get_set_ne (t : Tr α) {m n : Nat} (a : α) (h : n ≠ m) : (t.set m a).get n = t.get n :=
  Tr.at_put_ne _ _ _ _ (fun e => h (toPa_inj e))
theorem Tr.get_set_eq (t : Tr α) (m n : Nat) (a : α) : (t.set m a).get n = if n = m then some a else t.get n := by
  split
  · next h => subst h; simp
  · next h => exact Tr.get_set_ne t a h
theorem Tr.get_nil (n : Nat) : (Tr.nil : Tr α).get n = none := Tr.at_nil _

/-! ### lists -/
@[simp] theorem appL_eq (x y : List α) : appL x y = x ++ y := by induction x with | nil => rfl | cons a x ih => exact congrArg (a :: ·) ih
@[simp] theorem lenL_eq (x : List α) : lenL x = x.length := by induction x with | nil => rfl | cons a x ih => exact congrArg Nat.succ ih
@[simp] theorem nthL_eq (x : List α) : ∀ n, nthL x n = x[n]? := by
  induction x with
  | nil => intro n; rfl
  | cons a x ih => intro n; cases n with
    | zero => rfl
    | succ n => exact ih n
@[simp] theorem dropL_eq (x : List α) : ∀ n, dropL x n = x.drop n := by
  induction x with
  | nil => intro n; simp [dropL]
  | cons a x ih => intro n; cases n with
    | zero => rfl
    | succ n => exact ih n
theorem allL_eq (p : α → Bool) (x : List α) : allL p x = x.all p := by
  induction x with
  | nil => rfl
  | cons a x ih =>
    show cnd (p a) (allL p x) false = _
    rw [cnd_eq, ih]; cases h : p a <;> simp [h]
@[simp] theorem mapO_eq (f : α → β) (x : Option α) : mapO f x = x.map f := by cases x <;> rfl
theorem takeN_eq (n : Nat) : ∀ l : List α, takeN n l = if n ≤ l.length then some (l.take n) else none := by
  induction n with
  | zero => intro l; show some [] = _; simp
  | succ n ih => intro l; cases l with
    | nil => show none = _; simp
    | cons a l =>
      show mapO (a :: ·) (takeN n l) = _
      rw [ih, mapO_eq]; by_cases h : n ≤ l.length <;> simp [h]
theorem cellsAt_eq (vs : List Value) (off n : Nat) : cellsAt vs off n = if n ≤ vs.length - off then some ((vs.drop off).take n) else none := by
  simp [cellsAt, takeN_eq]
theorem writeAt_eq (vs : List Value) : ∀ (o : Nat) (xs : List Value), writeAt vs o xs = if o + xs.length ≤ vs.length then some (vs.take o ++ xs ++ vs.drop (o + xs.length)) else none := by
  induction vs with
  | nil => intro o xs; cases o with
    | zero => cases xs with
      | nil => show some [] = _; simp
      | cons x xs => show none = _; simp
    | succ o => show none = _; simp
  | cons v vs ih =>
    intro o xs
    cases o with
    | zero => cases xs with
      | nil => show some (v :: vs) = _; simp
      | cons x xs =>
        show mapO (x :: ·) (writeAt vs 0 xs) = _
        rw [ih, mapO_eq]; by_cases h : xs.length ≤ vs.length <;> simp [h]
    | succ o =>
      show mapO (v :: ·) (writeAt vs o xs) = _
      rw [ih, mapO_eq]; by_cases h : o + xs.length ≤ vs.length
      · simp [h, Nat.add_right_comm]
      · have : ¬ (o + 1 + xs.length ≤ vs.length + 1) := by omega
        simp [h, this]

/-! ### relations -/
inductive All2 (R : α → β → Prop) : List α → List β → Prop
  | nil : All2 R [] []
  | cons {a b as bs} : R a b → All2 R as bs → All2 R (a :: as) (b :: bs)
namespace All2
variable {R : α → β → Prop}
theorem length {as : List α} {bs : List β} (h : All2 R as bs) : as.length = bs.length := by
  induction h with | nil => rfl | cons _ _ ih => simp [ih]
theorem append {as as' : List α} {bs bs' : List β} (h : All2 R as bs) (h' : All2 R as' bs') : All2 R (as ++ as') (bs ++ bs') := by
  induction h with | nil => exact h' | cons r _ ih => exact .cons r ih
theorem take {as : List α} {bs : List β} (h : All2 R as bs) : ∀ n, All2 R (as.take n) (bs.take n) := by
  induction h with
  | nil => intro n; simp; exact .nil
  | cons r _ ih => intro n; cases n with
    | zero => exact .nil
    | succ n => exact .cons r (ih n)
theorem drop {as : List α} {bs : List β} (h : All2 R as bs) : ∀ n, All2 R (as.drop n) (bs.drop n) := by
  induction h with
  | nil => intro n; simp; exact .nil
  | cons r h ih => intro n; cases n with
    | zero => exact .cons r h
    | succ n => exact ih n
theorem get {as : List α} {bs : List β} (h : All2 R as bs) : ∀ {n : Nat} {a : α}, as[n]? = some a → ∃ b, bs[n]? = some b ∧ R a b := by
  induction h with
  | nil => intro n a h; simp at h
  | cons r _ ih => intro n a h; cases n with
    | zero => simp at h; subst h; exact ⟨_, rfl, r⟩
    | succ n => simp at h; simpa using ih h
theorem mono {S : α → β → Prop} {as : List α} {bs : List β} (h : All2 R as bs) (hs : ∀ a b, R a b → S a b) : All2 S as bs := by
  induction h with | nil => exact .nil | cons r _ ih => exact .cons (hs _ _ r) ih
theorem rep {as : List α} {bs : List β} (h : All2 R as bs) (n : Nat) : All2 R ((List.replicate n as).flatten) ((List.replicate n bs).flatten) := by
  induction n with
  | zero => exact .nil
  | succ n ih => simpa [List.replicate_succ] using h.append ih
theorem refl_of {R : α → α → Prop} {as : List α} (h : ∀ a ∈ as, R a a) : All2 R as as := by
  induction as with
  | nil => exact .nil
  | cons a as ih => exact .cons (h a (by simp)) (ih fun b hb => h b (by simp [hb]))
end All2

/-- of a block: which one it is, and how many elements it has beyond those that are known -/
abbrev Ren := Nat → Option (Nat × Nat)
/-- a real capacity -/
def capC (c x : Nat) : Nat := capN c + (if capO c then x else 0)

inductive BR (ι : Ren) : Value → Value → Prop
  | bool (b) : BR ι (.bool b) (.bool b)
  | int (k n) : BR ι (.int k n) (.int k n)
  | str (s) : BR ι (.string s) (.string s)
  | nilp : BR ι (.pointer none) (.pointer none)
  | ptr {b B x o} (h : ι b = some (B, x)) : BR ι (.pointer (some ⟨b, o, none⟩)) (.pointer (some ⟨B, o, none⟩))
  | nils : BR ι (.slice none 0 0) (.slice none 0 0)
  | sl {b B x o l c} (h : ι b = some (B, x)) (hl : l ≤ capN c) : BR ι (.slice (some ⟨b, o, none⟩) l c) (.slice (some ⟨B, o, none⟩) l (capC c x))
  | vag (a c) : BR ι vague (.slice (some a) 0 c)
  | nilm : BR ι (.map none) (.map none)
  | map {b B x} (h : ι b = some (B, x)) : BR ι (.map (some b)) (.map (some B))
  | nilf : BR ι .nilFunc .nilFunc
  | nili : BR ι .nilIface .nilIface
/-- what stands in one cell -/
inductive SR (ι : Ren) : Value → Value → Prop
  | base {v c} (h : BR ι v c) : SR ι v c
  | fn {f first first' cap cap'} (h : All2 (BR ι) first.toList first'.toList) (h' : All2 (BR ι) cap.toList cap'.toList) : SR ι (.func f first cap) (.func f first' cap')
inductive AR (ι : Ren) : Value → Value → Prop
  | sc {v c} (h : SR ι v c) : AR ι v c
  | agg {cs cs'} (h : All2 (SR ι) cs.toList cs'.toList) : AR ι (.agg cs) (.agg cs')
inductive TR (ι : Ren) : Value → Value → Prop
  | ar {v c} (h : AR ι v c) : TR ι v c
  | tup {vs vs'} (h : All2 (AR ι) vs.toList vs'.toList) : TR ι (.tuple vs) (.tuple vs')

def Le (ι ι' : Ren) : Prop := ∀ b p, ι b = some p → ι' b = some p
theorem Le.refl (ι : Ren) : Le ι ι := fun _ _ h => h
theorem Le.trans {ι ι' ι'' : Ren} (h : Le ι ι') (h' : Le ι' ι'') : Le ι ι'' := fun b p e => h' b p (h b p e)
theorem BR.mono {ι ι' : Ren} (hl : Le ι ι') {v c} (h : BR ι v c) : BR ι' v c := by
  cases h <;> first | (constructor; done) | exact .ptr (hl _ _ ‹_›) | exact .sl (hl _ _ ‹_›) ‹_› | exact .map (hl _ _ ‹_›)
theorem SR.mono {ι ι' : Ren} (hl : Le ι ι') {v c} (h : SR ι v c) : SR ι' v c := by
  cases h with
  | base h => exact .base (h.mono hl)
  | fn h h' => exact .fn (h.mono fun _ _ r => r.mono hl) (h'.mono fun _ _ r => r.mono hl)
theorem AR.mono {ι ι' : Ren} (hl : Le ι ι') {v c} (h : AR ι v c) : AR ι' v c := by
  cases h with
  | sc h => exact .sc (h.mono hl)
  | agg h => exact .agg (h.mono fun _ _ r => r.mono hl)
theorem TR.mono {ι ι' : Ren} (hl : Le ι ι') {v c} (h : TR ι v c) : TR ι' v c := by
  cases h with
  | ar h => exact .ar (h.mono hl)
  | tup h => exact .tup (h.mono fun _ _ r => r.mono hl)
theorem TR.base {ι : Ren} {v c} (h : BR ι v c) : TR ι v c := .ar (.sc (.base h))
theorem TR.sc {ι : Ren} {v c} (h : SR ι v c) : TR ι v c := .ar (.sc h)

theorem BR.of_isBase (ι : Ren) {v : Value} (h : isBase v = true) : BR ι v v := by
  unfold isBase at h
  split at h <;> first | (constructor; done) | cases h
theorem TR.of_isGround (ι : Ren) {v : Value} (h : isGround v = true) : TR ι v v := by
  unfold isGround at h
  split at h
  · rw [allL_eq] at h
    exact .ar (.agg (All2.refl_of fun a ha => .base (BR.of_isBase ι (by simpa using List.all_eq_true.1 h a ha))))
  · refine .tup ?_
    simp at h
    rw [h]; exact .nil
  · exact .base (BR.of_isBase ι h)

/-- inversions -/
theorem TR.int_inv {ι : Ren} {k n c} (h : TR ι (.int k n) c) : c = .int k n := by
  rcases h with ⟨⟨⟨h⟩⟩⟩; cases h; rfl
theorem TR.bool_inv {ι : Ren} {b c} (h : TR ι (.bool b) c) : c = .bool b := by
  rcases h with ⟨⟨⟨h⟩⟩⟩; cases h; rfl
theorem TR.str_inv {ι : Ren} {s c} (h : TR ι (.string s) c) : c = .string s := by
  rcases h with ⟨⟨⟨h⟩⟩⟩; cases h; rfl
theorem TR.ptr_inv {ι : Ren} {b o c} (h : TR ι (.pointer (some ⟨b, o, none⟩)) c) : ∃ B x, ι b = some (B, x) ∧ c = .pointer (some ⟨B, o, none⟩) := by
  rcases h with ⟨⟨⟨h⟩⟩⟩; cases h with | ptr h => exact ⟨_, _, h, rfl⟩
theorem TR.nilp_inv {ι : Ren} {c} (h : TR ι (.pointer none) c) : c = .pointer none := by
  rcases h with ⟨⟨⟨h⟩⟩⟩; cases h; rfl
theorem TR.agg_inv {ι : Ren} {cs c} (h : TR ι (.agg cs) c) : ∃ cs', c = .agg cs' ∧ All2 (SR ι) cs.toList cs'.toList := by
  cases h with
  | ar h => cases h with
    | sc h => cases h with | base h => cases h
    | agg h => exact ⟨_, rfl, h⟩
theorem TR.tup_inv {ι : Ren} {vs c} (h : TR ι (.tuple vs) c) : ∃ vs', c = .tuple vs' ∧ All2 (AR ι) vs.toList vs'.toList := by
  cases h with
  | ar h => cases h with
    | sc h => cases h with | base h => cases h
  | tup h => exact ⟨_, rfl, h⟩
end Go.Rem
/-! The heap's relation, and what steps do to it. -/
namespace Go.Rem

def sizeP (P : Program) (t : TypeId) : Nat := match P.info? t with | some i => i.size | none => 0

def CellsR (P : Program) (ι : Ren) (vs : List Value) (e : TypeId) (op : Bool) (x : Nat) (o : Option Obj) : Prop :=
  ∃ c1 c2 lo hi, o = some (.cells ⟨c1 ++ c2⟩ e (lo, hi)) ∧ All2 (SR ι) vs c1 ∧ (op = false → c2 = [] ∧ lo = hi) ∧
    (op = true → c2.length = x * sizeP P e) ∧ (lo = hi ∨ (c1 ++ c2).length ≤ lo)
def KV (ι : Ren) (q : Value × Value) (e : MapEntry) : Prop := AR ι q.1 e.key ∧ AR ι q.2 e.val
/-- when entries came -/
def StB (es : Array MapEntry) (clock : Nat) : Prop := (∀ x ∈ es.toList, x.born < clock) ∧ (es.toList.map (·.born)).Nodup
theorem StB.empty (c : Nat) : StB #[] c := ⟨by simp, by simp⟩
theorem StB.push {es : Array MapEntry} {clock : Nat} (h : StB es clock) (key val : Value) : StB (es.push { key, val, born := clock }) (clock + 1) := by
  obtain ⟨h1, h2⟩ := h
  refine ⟨?_, ?_⟩
  · intro x hx
    simp only [Array.toList_push, List.mem_append, List.mem_singleton] at hx
    rcases hx with hx | rfl
    · exact Nat.lt_succ_of_lt (h1 x hx)
    · exact Nat.lt_succ_self _
  · simp only [Array.toList_push, List.map_append, List.map_cons, List.map_nil]
    refine List.nodup_append.2 ⟨h2, by simp, ?_⟩
    intro a ha b hb
    simp only [List.mem_singleton] at hb
    subst hb
    obtain ⟨x, hx, rfl⟩ := List.mem_map.1 ha
    exact Nat.ne_of_lt (h1 x hx)
theorem StB.modify {es : Array MapEntry} {clock : Nat} (h : StB es clock) (i : Nat) (k v : Value) : StB (es.modify i fun e => { e with key := k, val := v }) clock := by
  have hb : (es.modify i fun e => { e with key := k, val := v }).toList.map (·.born) = es.toList.map (·.born) := by
    apply List.ext_getElem?
    intro j
    simp only [List.getElem?_map, Array.getElem?_toList, Array.getElem?_modify]
    by_cases hij : i = j
    · subst hij; simp only [if_true]; cases es[i]? <;> rfl
    · rw [if_neg hij]
  obtain ⟨h1, h2⟩ := h
  refine ⟨fun x hx => ?_, by rw [hb]; exact h2⟩
  have : x.born ∈ (es.modify i fun e => { e with key := k, val := v }).toList.map (·.born) := List.mem_map.2 ⟨x, hx, rfl⟩
  rw [hb] at this
  obtain ⟨y, hy, e⟩ := List.mem_map.1 this
  rw [← e]; exact h1 y hy
theorem StB.erase {es : Array MapEntry} {clock : Nat} (h : StB es clock) (i : Nat) : StB (es.eraseIdxIfInBounds i) clock := by
  have hs : (es.eraseIdxIfInBounds i).toList.Sublist es.toList := by
    unfold Array.eraseIdxIfInBounds
    split
    · simp only [Array.toList_eraseIdx]; exact List.eraseIdx_sublist _ _
    · exact List.Sublist.refl _
  exact ⟨fun x hx => h.1 x (hs.subset hx), (hs.map _).nodup h.2⟩
def BlkR (P : Program) (ι : Ren) (k : ABlk) (x : Nat) (o : Option Obj) : Prop :=
  match k with
  | .cells vs e op => CellsR P ι vs e op x o
  | .map es => ∃ ents clock, o = some (.map ents clock) ∧ All2 (KV ι) es ents.toList ∧ StB ents clock
  | .dead => True

theorem CellsR.mono {P : Program} {ι ι' : Ren} (hl : Le ι ι') {vs e op x o} (h : CellsR P ι vs e op x o) : CellsR P ι' vs e op x o := by
  obtain ⟨c1, c2, lo, hi, h1, h2, h3⟩ := h
  exact ⟨c1, c2, lo, hi, h1, h2.mono fun _ _ r => r.mono hl, h3⟩
theorem BlkR.mono {P : Program} {ι ι' : Ren} (hl : Le ι ι') {k x o} (h : BlkR P ι k x o) : BlkR P ι' k x o := by
  cases k with
  | cells vs e op => exact CellsR.mono (P := P) hl h
  | map es =>
    obtain ⟨ents, clock, h1, h2⟩ := h
    exact ⟨ents, clock, h1, h2.1.mono fun _ _ r => ⟨r.1.mono hl, r.2.mono hl⟩, h2.2⟩
  | dead => trivial
theorem BlkR.isSome {P : Program} {ι : Ren} {k x} {o : Option Obj} (h : BlkR P ι k x o) (hk : k ≠ .dead) : o.isSome := by
  cases k with
  | cells vs e op => obtain ⟨c1, c2, lo, hi, rfl, _⟩ := h; rfl
  | map es => obtain ⟨ents, clock, rfl, _⟩ := h; rfl
  | dead => exact absurd rfl hk

structure HRel (P : Program) (ι : Ren) (H : AH) (w : World) : Prop where
  blocks : ∀ b k, H.get b = some k → k ≠ .dead → ∃ B x, ι b = some (B, x) ∧ BlkR P ι k x (w.heap[B]?)
  inj : ∀ b b' k k' B x x', H.get b = some k → k ≠ .dead → H.get b' = some k' → k' ≠ .dead → ι b = some (B, x) → ι b' = some (B, x') → b = b'
  dom : ∀ b p, ι b = some p → b < H.next
  fresh : ∀ b k, H.get b = some k → b < H.next

/-- a real block that an abstract one stands for -/
def Live (H : AH) (ι : Ren) (B : Nat) : Prop := ∃ b k x, H.get b = some k ∧ k ≠ .dead ∧ ι b = some (B, x)

structure Ext (ι ι' : Ren) (H H' : AH) (w w' : World) : Prop where
  le : Le ι ι'
  size : w.heap.size ≤ w'.heap.size
  next : H.next ≤ H'.next
  junk : ∀ B, B < w.heap.size → ¬ Live H ι B → w'.heap[B]? = w.heap[B]?
  range : ∀ B, Live H' ι' B → Live H ι B ∨ w.heap.size ≤ B
  news : ∀ b k, H'.get b = some k → (∃ k', H.get b = some k') ∨ H.next ≤ b
  tape : w'.tape = w.tape
  os : w'.os = w.os
  output : w'.output = w.output
  only : ∀ b p, ι' b = some p → ι b = some p ∨ H.next ≤ b

theorem Ext.refl (ι : Ren) (H : AH) (w : World) : Ext ι ι H H w w :=
  ⟨Le.refl ι, Nat.le_refl _, Nat.le_refl _, fun _ _ _ => rfl, fun _ h => .inl h, fun _ k h => .inl ⟨k, h⟩, rfl, rfl, rfl, fun _ _ h => .inl h⟩
theorem Ext.trans {ι ι' ι'' : Ren} {H H' H'' : AH} {w w' w'' : World} (h : Ext ι ι' H H' w w') (h' : Ext ι' ι'' H' H'' w' w'') : Ext ι ι'' H H'' w w'' where
  le := h.le.trans h'.le
  size := Nat.le_trans h.size h'.size
  next := Nat.le_trans h.next h'.next
  junk B hB hl := by
    rw [h'.junk B (Nat.lt_of_lt_of_le hB h.size) (fun l => ?_), h.junk B hB hl]
    rcases h.range B l with l | l
    · exact hl l
    · omega
  range B l := by
    rcases h'.range B l with l | l
    · exact h.range B l
    · exact .inr (Nat.le_trans h.size l)
  news b k e := by
    rcases h'.news b k e with ⟨k', e⟩ | l
    · exact h.news b k' e
    · exact .inr (Nat.le_trans h.next l)
  tape := h'.tape.trans h.tape
  os := h'.os.trans h.os
  output := h'.output.trans h.output
  only b p e := by
    rcases h'.only b p e with e | l
    · exact h.only b p e
    · exact .inr (Nat.le_trans h.next l)
/-- a draw moves a count alone -/
theorem Ext.drew {ι : Ren} {H : AH} {w : World} (n : Nat) : Ext ι ι H H w { w with drawn := n } :=
  ⟨Le.refl ι, Nat.le_refl _, Nat.le_refl _, fun _ _ _ => rfl, fun _ h => .inl h, fun _ k h => .inl ⟨k, h⟩, rfl, rfl, rfl, fun _ _ h => .inl h⟩
theorem HRel.drew {P : Program} {ι : Ren} {H : AH} {w : World} (h : HRel P ι H w) (n : Nat) : HRel P ι H { w with drawn := n } :=
  ⟨h.blocks, h.inj, h.dom, h.fresh⟩

@[simp] theorem AH.next_put (H : AH) (b : Nat) (k : ABlk) : (H.put b k).next = H.next := rfl
@[simp] theorem AH.next_new (H : AH) (k : ABlk) : (H.new k).next = H.next + 1 := rfl
theorem AH.get_put (H : AH) (b c : Nat) (k : ABlk) : (H.put b k).get c = if c = b then some k else H.get c := Tr.get_set_eq _ _ _ _
theorem AH.get_new (H : AH) (c : Nat) (k : ABlk) : (H.new k).get c = if c = H.next then some k else H.get c := Tr.get_set_eq _ _ _ _

theorem HRel.lt {P : Program} {ι : Ren} {H : AH} {w : World} (h : HRel P ι H w) {b k B x} (hb : H.get b = some k) (hk : k ≠ .dead) (hi : ι b = some (B, x)) : B < w.heap.size := by
  obtain ⟨B', x', h1, h2⟩ := h.blocks b k hb hk
  rw [hi] at h1; injection h1 with h1; injection h1 with h1 h1'; subst h1
  have := h2.isSome hk
  rcases Nat.lt_or_ge B w.heap.size with h | h
  · exact h
  · rw [Array.getElem?_eq_none h] at this; cases this
theorem HRel.blk {P : Program} {ι : Ren} {H : AH} {w : World} (h : HRel P ι H w) {b k B x} (hb : H.get b = some k) (hk : k ≠ .dead) (hi : ι b = some (B, x)) : BlkR P ι k x (w.heap[B]?) := by
  obtain ⟨B', x', h1, h2⟩ := h.blocks b k hb hk
  rw [hi] at h1; injection h1 with h1; injection h1 with h1 h1'; subst h1; subst h1'
  exact h2

/-- with one block more -/
def add (ι : Ren) (b : Nat) (p : Nat × Nat) : Ren := fun c => if c = b then some p else ι c
theorem add_same (ι : Ren) (b : Nat) (p) : add ι b p b = some p := by simp [add]
theorem HRel.le_add {P : Program} {ι : Ren} {H : AH} {w : World} (h : HRel P ι H w) (p) : Le ι (add ι H.next p) := by
  intro b q hb
  have := h.dom b q hb
  simp only [add]; rw [if_neg (by omega)]; exact hb

/-- a block is made -/
theorem HRel.new {P : Program} {ι : Ren} {H : AH} {w : World} (h : HRel P ι H w) {k : ABlk} (hk : k ≠ .dead) (x : Nat) (o : Obj)
    (hr : BlkR P ι k x (some o)) : HRel P (add ι H.next (w.heap.size, x)) (H.new k) { w with heap := w.heap.push o } ∧
      Ext ι (add ι H.next (w.heap.size, x)) H (H.new k) w { w with heap := w.heap.push o } := by
  have hle := h.le_add (w.heap.size, x)
  have hget : ∀ b k', (H.new k).get b = some k' → (b = H.next ∧ k' = k) ∨ (b ≠ H.next ∧ H.get b = some k') := by
    intro b k' e
    rw [AH.get_new] at e
    split at e
    · next e' => injection e with e; exact .inl ⟨e', e.symm⟩
    · next e' => exact .inr ⟨e', e⟩
  have hι : ∀ b p, b ≠ H.next → add ι H.next (w.heap.size, x) b = some p → ι b = some p := by
    intro b p hb e; simp only [add] at e; rw [if_neg hb] at e; exact e
  have hlt : ∀ b k' B y, H.get b = some k' → k' ≠ .dead → ι b = some (B, y) → B < w.heap.size := fun b k' B y e1 e2 e3 => h.lt e1 e2 e3
  refine ⟨⟨?_, ?_, ?_, ?_⟩, ⟨hle, by simp, by simp, ?_, ?_, fun b k' e => (hget b k' e).elim (fun h => .inr (by omega)) (fun h => .inl ⟨k', h.2⟩), rfl, rfl, rfl, fun b p e => by
    by_cases hb : b = H.next
    · right; omega
    · exact .inl (hι b p hb e)⟩⟩
  · intro b k' e hk'
    rcases hget b k' e with ⟨rfl, rfl⟩ | ⟨hb, e⟩
    · exact ⟨_, _, add_same _ _ _, by simpa using hr.mono hle⟩
    · obtain ⟨B, y, e1, e2⟩ := h.blocks b k' e hk'
      refine ⟨B, y, hle _ _ e1, ?_⟩
      have := hlt _ _ _ _ e hk' e1
      have e3 : ({ w with heap := w.heap.push o } : World).heap[B]? = w.heap[B]? := by simp [Array.getElem?_push, Nat.ne_of_lt this]
      rw [e3]; exact e2.mono hle
  · intro b b' k1 k2 B y y' e1 d1 e2 d2 i1 i2
    rcases hget b k1 e1 with ⟨rfl, rfl⟩ | ⟨hb, f1⟩ <;> rcases hget b' k2 e2 with ⟨rfl, rfl⟩ | ⟨hb', f2⟩
    · rfl
    · rw [add_same] at i1; injection i1 with i1; injection i1 with i1 _
      have := hlt _ _ _ _ f2 d2 (hι _ _ hb' i2); omega
    · rw [add_same] at i2; injection i2 with i2; injection i2 with i2 _
      have := hlt _ _ _ _ f1 d1 (hι _ _ hb i1); omega
    · exact h.inj b b' k1 k2 B y y' f1 d1 f2 d2 (hι _ _ hb i1) (hι _ _ hb' i2)
  · intro b p e
    by_cases hb : b = H.next
    · subst hb; simp
    · have := h.dom b p (hι _ _ hb e); simp; omega
  · intro b k' e
    rcases hget b k' e with ⟨rfl, _⟩ | ⟨_, e⟩
    · simp
    · have := h.fresh b k' e; simp; omega
  · intro B hB _
    simp [Array.getElem?_push, Nat.ne_of_lt hB]
  · rintro B ⟨b, k', y, e, hk', i⟩
    rcases hget b k' e with ⟨rfl, rfl⟩ | ⟨hb, e⟩
    · rw [add_same] at i; injection i with i; injection i with i _; right; omega
    · exact .inl ⟨b, k', y, e, hk', hι _ _ hb i⟩

/-- a block is another one -/
theorem HRel.upd {P : Program} {ι : Ren} {H : AH} {w : World} (h : HRel P ι H w) {b : Nat} {k k' : ABlk} {B x : Nat} (hb : H.get b = some k) (hk : k ≠ .dead)
    (hi : ι b = some (B, x)) (o : Obj) (hr : BlkR P ι k' x (some o)) :
    HRel P ι (H.put b k') { w with heap := w.heap.setIfInBounds B o } ∧ Ext ι ι H (H.put b k') w { w with heap := w.heap.setIfInBounds B o } := by
  have hB := h.lt hb hk hi
  have hget : ∀ c q, (H.put b k').get c = some q → (c = b ∧ q = k') ∨ (c ≠ b ∧ H.get c = some q) := by
    intro c q e
    rw [AH.get_put] at e
    split at e
    · next e' => injection e with e; exact .inl ⟨e', e.symm⟩
    · next e' => exact .inr ⟨e', e⟩
  have hsub : ∀ c q B' y, (H.put b k').get c = some q → q ≠ .dead → ι c = some (B', y) → ∃ q', H.get c = some q' ∧ q' ≠ .dead := by
    intro c q B' y e d i
    rcases hget c q e with ⟨rfl, rfl⟩ | ⟨_, e⟩
    · exact ⟨k, hb, hk⟩
    · exact ⟨q, e, d⟩
  refine ⟨⟨?_, ?_, ?_, ?_⟩, ⟨Le.refl ι, by simp, Nat.le_refl _, ?_, ?_, fun c q e => (hget c q e).elim (fun h => .inl ⟨k, by rw [h.1]; exact hb⟩) (fun h => .inl ⟨q, h.2⟩), rfl, rfl, rfl, fun _ _ h => .inl h⟩⟩
  · intro c q e d
    rcases hget c q e with ⟨rfl, rfl⟩ | ⟨hc, e⟩
    · exact ⟨B, x, hi, by simpa [hB] using hr⟩
    · obtain ⟨B', y, e1, e2⟩ := h.blocks c q e d
      refine ⟨B', y, e1, ?_⟩
      have hne : B' ≠ B := fun e' => hc (h.inj c b q k B y x e d hb hk (e' ▸ e1) hi)
      have e3 : ({ w with heap := w.heap.setIfInBounds B o } : World).heap[B']? = w.heap[B']? := by simp [Ne.symm hne]
      rw [e3]; exact e2
  · intro c c' q q' B' y y' e1 d1 e2 d2 i1 i2
    obtain ⟨r, f1, g1⟩ := hsub c q B' y e1 d1 i1
    obtain ⟨r', f2, g2⟩ := hsub c' q' B' y' e2 d2 i2
    exact h.inj c c' r r' B' y y' f1 g1 f2 g2 i1 i2
  · exact h.dom
  · intro c q e
    rcases hget c q e with ⟨rfl, _⟩ | ⟨_, e⟩
    · exact h.fresh _ _ hb
    · exact h.fresh _ _ e
  · intro B' hB' hl
    have hne : B' ≠ B := fun e => hl ⟨b, k, x, hb, hk, e ▸ hi⟩
    simp [Ne.symm hne]
  · rintro B' ⟨c, q, y, e, d, i⟩
    obtain ⟨r, f1, g1⟩ := hsub c q B' y e d i
    exact .inl ⟨c, r, y, f1, g1, i⟩

/-- a block isn't known any more -/
theorem HRel.kill {P : Program} {ι : Ren} {H : AH} {w : World} (h : HRel P ι H w) {b : Nat} {k : ABlk} (hb : H.get b = some k) :
    HRel P ι (H.put b .dead) w ∧ Ext ι ι H (H.put b .dead) w w := by
  have hget : ∀ c q, (H.put b .dead).get c = some q → q ≠ .dead → c ≠ b ∧ H.get c = some q := by
    intro c q e d
    rw [AH.get_put] at e
    split at e
    · injection e with e; exact absurd e.symm d
    · next e' => exact ⟨e', e⟩
  refine ⟨⟨?_, ?_, h.dom, ?_⟩, ⟨Le.refl ι, Nat.le_refl _, Nat.le_refl _, fun _ _ _ => rfl, ?_, ?_, rfl, rfl, rfl, fun _ _ h => .inl h⟩⟩
  · intro c q e d; exact h.blocks c q (hget c q e d).2 d
  · intro c c' q q' B y y' e1 d1 e2 d2 i1 i2
    exact h.inj c c' q q' B y y' (hget c q e1 d1).2 d1 (hget c' q' e2 d2).2 d2 i1 i2
  · intro c q e
    rw [AH.get_put] at e
    split at e
    · next e' => subst e'; exact h.fresh _ _ hb
    · exact h.fresh _ _ e
  · rintro B ⟨c, q, y, e, d, i⟩
    exact .inl ⟨c, q, y, (hget c q e d).2, d, i⟩
  · intro c q e
    rw [AH.get_put] at e
    split at e
    · next e' => exact .inl ⟨k, by rw [e']; exact hb⟩
    · exact .inl ⟨q, e⟩
end Go.Rem
