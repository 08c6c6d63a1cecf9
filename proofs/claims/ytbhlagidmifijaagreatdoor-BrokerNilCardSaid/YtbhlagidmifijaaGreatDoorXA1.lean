/-
  An executor for Go code whose run is known but for the tape: tries, values whose addresses are the executor's own, the executor's heap, and what it does at each operation. No statement of the seat stands here.
-/
import Derived.WalkKit
import Derived.WalkSpells
import Derived.WalkLawsBesides
import Derived.Orders
import Derived.Scope
namespace Go.Proofs.YtbhlagidmifijaaGreatDoor.AX

/-- A trie: key 0 at the root, odd keys to the left, even keys to the right. -/
inductive T (α : Type) where
  | nil
  | node (v : Option α) (l r : T α)
  deriving Inhabited

def T.val {α : Type} : T α → Option α
  | .nil => none
  | .node v _ _ => v
def T.lt {α : Type} : T α → T α
  | .nil => .nil
  | .node _ l _ => l
def T.rt {α : Type} : T α → T α
  | .nil => .nil
  | .node _ _ r => r
def T.get {α : Type} : T α → Nat → Option α
  | .nil, _ => none
  | .node v l r, k => bif Nat.beq k 0 then v else bif Nat.beq (k % 2) 1 then l.get (k / 2) else r.get (k / 2 - 1)
def T.setIn {α : Type} (x : α) : Nat → Nat → T α → T α
  | 0, _, t => t
  | f + 1, k, t =>
    bif Nat.beq k 0 then .node (some x) t.lt t.rt
    else bif Nat.beq (k % 2) 1 then .node t.val (T.setIn x f (k / 2) t.lt) t.rt
    else .node t.val t.lt (T.setIn x f (k / 2 - 1) t.rt)
def T.set {α : Type} (t : T α) (k : Nat) (x : α) : T α := T.setIn x (k + 1) k t
def T.map {α : Type} (f : α → α) : T α → T α
  | .nil => .nil
  | .node v l r => .node (v.map f) (T.map f l) (T.map f r)

/-- A value whose addresses are blocks of the executor's heap; 'lit': a value as it stands. -/
inductive AV where
  | lit (v : Value)
  | ptr (b off : Nat)
  | slice (b off sz len : Nat) (cap : Option Nat)
  | map (b : Nat)
  | func (fn : Fn) (first captured : List AV)
  | iface (t : TypeId) (v : AV)
  | agg (cs : List AV)
  | tuple (vs : List AV)
  deriving Inhabited

/-- A block: cells (of a kin of blocks that may lie in one another, or of none; 'pl': no mark of a string on it), a map, an iterator; 'box': the cell of a function value that holds a map. -/
inductive AO where
  | cells (grp : Option Nat) (base : Nat) (pl : Bool) (cs : List (Option AV))
  | map (es : List (Value × AV × Nat)) (clock : Nat)
  | iter (m : Option Nat) (since : Nat) (seen : List Nat) (last : Nat)
  | striter (s : ByteArray) (pos : Nat)
  | box (m : Option Nat)
  deriving Inhabited

structure AW where
  n : Nat
  h : T AO
  G : List (Nat × List Value) := []
  deriving Inhabited

def AW.get (A : AW) (b : Nat) : Option AO := A.h.get b
def AW.put (A : AW) (b : Nat) (o : AO) : AW := { A with h := A.h.set b o }
def AW.new (A : AW) (o : AO) : AW := { A with n := A.n + 1, h := A.h.set A.n o }
/-- A cell of a package-level variable of which the value is known. -/
def lookG : List (Nat × List Value) → Nat → Option (List Value)
  | [], _ => none
  | x :: l, g => bif Nat.beq x.1 g then some x.2 else lookG l g

def AV.one : AV → Bool
  | .agg _ | .tuple _ => false
  | .lit v => v.oneCell'
  | _ => true
def AV.isLit : AV → Bool
  | .lit _ => true
  | _ => false
def AV.val : AV → Value
  | .lit v => v
  | _ => undef
def AV.parts : AV → Option (List AV)
  | .agg cs => some cs
  | .lit (.agg cs) => some (cs.toList.map .lit)
  | _ => none
def AV.cells (a : AV) : List AV :=
  match a.parts with
  | some l => l
  | none => [a]

/-- What a computation that only looks at the program comes to. -/
def pureRun (P : Program) {α : Type} : Sem α → Option α
  | .pure a => some a
  | .program k => pureRun P (k P)
  | .mark _ k => pureRun P k
  | .choose q k => bif q.forced then pureRun P (k 0) else none
  | _ => none

inductive AN where
  | same (v : AV)
  | value (v : AV) (A : AW)
  | skip (A : AW)
  | call (f : FuncId) (args : List AV)
  deriving Inhabited

def tagg (P : Program) (t : TypeId) : Option Bool :=
  match P.underlying t with
  | some (.struct _) | some (.array _ _) => some true
  | some _ => some false
  | none => none
def tsize (P : Program) (t : TypeId) : Option Nat := (P.info? t).map (·.size)

def seqOpt {α : Type} : List (Option α) → Option (List α)
  | [] => some []
  | some a :: l => (seqOpt l).map (a :: ·)
  | none :: _ => none

/-- So many cells of a block. -/
def AW.cells (A : AW) (b off n : Nat) : Option (List AV) :=
  match A.get b with
  | some (.cells _ _ _ cs) => bif Nat.ble (off + n) cs.length then seqOpt ((cs.drop off).take n) else none
  | _ => none

/-- Cells of a kin at these places are known no more. -/
def AO.blur (g lo n : Nat) : AO → AO
  | .cells (some g') base pl cs =>
    bif Nat.beq g' g then
      .cells (some g') base pl (cs.mapIdx fun i c => bif Nat.ble lo (i + base) && Nat.blt (i + base) (lo + n) then none else c)
    else .cells (some g') base pl cs
  | o => o

def splice (cs : List (Option AV)) (off : Nat) (xs : List AV) : List (Option AV) := cs.take off ++ xs.map some ++ cs.drop (off + xs.length)

/-- Cells stored. -/
def AW.storeCells (A : AW) (b off : Nat) (xs : List AV) : Option AW :=
  match A.get b with
  | some (.cells g base pl cs) =>
    bif Nat.ble (off + xs.length) cs.length && xs.all AV.one then
      match g with
      | none => some (A.put b (.cells g base pl (splice cs off xs)))
      | some k => some (({ A with h := A.h.map (AO.blur k (off + base) xs.length) } : AW).put b (.cells g base pl (splice cs off xs)))
    else none
  | _ => none

def AW.newCells (A : AW) (cs : List AV) : Option AW :=
  bif cs.all AV.one then some (A.new (.cells none 0 true (cs.map some))) else none

/-- What a slice or a string holds at its beginning. -/
def AW.first (A : AW) (sz n : Nat) : AV → Option (List AV)
  | .slice b off sz' len _ => bif Nat.beq sz sz' && Nat.ble n len then (bif Nat.beq n 0 then some [] else A.cells b off (n * sz)) else none
  | .lit (.slice none _ _) => bif Nat.beq n 0 then some [] else none
  | .lit (.string s) => some ((s.data.toList.take n).map fun b => AV.lit (.int .u8 b.toNat))
  | _ => none
def AV.lenOf : AV → Option Nat
  | .slice _ _ _ n _ => some n
  | .lit (.slice none n _) => some n
  | .lit (.string s) => some s.size
  | _ => none

/-- The most bytes that the executor lets a slice take. -/
def mostBytes : Nat := 2 ^ 40

/-- A kin is made of a block, and places of it are known no more. -/
def AW.kin (A : AW) (b : Nat) (g : Option Nat) (base : Nat) (pl : Bool) (cs : List (Option AV)) (lo n : Nat) : AW :=
  match g with
  | none => A.put b (AO.blur (g.getD b) lo n (.cells (some (g.getD b)) base pl cs))
  | some _ => { A with h := A.h.map (AO.blur (g.getD b) lo n) }

/-- append of known cells. -/
def AW.append (A : AW) (sz bytes : Nat) (s : AV) (n : Nat) (xs : List AV) : Option (AV × AW) :=
  bif !(xs.all AV.one) || !(Nat.beq xs.length (n * sz)) then none else
  match s with
  | .lit (.slice none 0 0) =>
    bif Nat.beq n 0 then some (s, A) else
    bif Nat.ble (n * (bytes + 1)) mostBytes then (A.newCells xs).map fun A' => (.slice A.n 0 sz n none, A') else none
  | .slice b off sz' len (some cap) =>
    bif !(Nat.beq sz sz') then none else
    bif Nat.ble (len + n) cap then
      (bif Nat.beq xs.length 0 then some A else A.storeCells b (off + len * sz) xs).map fun A' => (.slice b off sz (len + n) (some cap), A')
    else bif Nat.ble ((len + n) * (bytes + 1)) mostBytes then
      match A.first sz len s with
      | some old => (A.newCells (old ++ xs)).map fun A' => (.slice A.n 0 sz (len + n) none, A')
      | none => none
    else none
  | .slice b off sz' len none =>
    bif !(Nat.beq sz sz') then none else
    bif Nat.beq n 0 then some (s, A) else
    bif Nat.ble ((len + n) * (bytes + 1)) mostBytes then
      match A.first sz len s, A.get b with
      | some old, some (.cells g base pl cs) =>
        bif old.all AV.one then
          some (.slice A.n 0 sz (len + n) none, (A.kin b g base pl cs (off + len * sz + base) (n * sz)).new (.cells (some (g.getD b)) (base + off) pl ((old ++ xs).map some)))
        else none
      | _, _ => none
    else none
  | _ => none

/-- Are two keys the same? (Strings: by their lists of bytes.) -/
def keySame : TypeDesc → Value → Value → Option Bool
  | .int _, .int k a, .int k' b => if k = k' then some (a == b) else none
  | .string, .string a, .string b => some (a.data.toList == b.data.toList)
  | .bool, .bool a, .bool b => some (a == b)
  | _, _, _ => none
def findA (kind : TypeDesc) (k : Value) : List (Value × AV × Nat) → Nat → Option (Option (Nat × AV))
  | [], _ => some none
  | e :: es, i =>
    match keySame kind k e.1 with
    | some true => some (some (i, e.2.1))
    | some false => findA kind k es (i + 1)
    | none => none
def plainKey : TypeDesc → Bool
  | .int _ | .string | .bool => true
  | _ => false

def asLitInt : AV → Option Int
  | .lit (.int _ n) => some n
  | _ => none

def placeCells : List (Option AV) → Nat → List AV → List (Option AV) := splice

/-- The cells of a struct or of an array out of its parts. -/
def fillA (place : Nat → Option (Nat × Nat)) : List AV → List (Nat × AV) → Option (List AV)
  | cells, [] => some cells
  | cells, (i, v) :: rest =>
    match place i with
    | none => none
    | some (off, size) =>
      let c := v.cells
      bif Nat.beq c.length size && Nat.ble (off + c.length) cells.length then fillA place (cells.take off ++ c ++ cells.drop (off + c.length)) rest else none

def partA (P : Program) (t : TypeId) (cs : List AV) (off : Nat) : Option AV := do
  let a ← tagg P t
  let n ← tsize P t
  bif a then (bif Nat.ble (off + n) cs.length then some (.agg ((cs.drop off).take n)) else none) else cs[off]?

def litsOf (z : Value) : List AV := z.cells.toList.map .lit

/-- Go's slicing of a slice: the bounds. -/
def sliceB (len : Nat) (cap : Option Nat) (lo hi : Option AV) : Option (Nat × Nat) := do
  let h ← match hi with
    | none => some len
    | some v => do
      let i ← asLitInt v
      bif decide (0 ≤ i) && Nat.ble i.toNat (cap.getD len) then some i.toNat else none
  let l ← match lo with
    | none => some 0
    | some v => do
      let i ← asLitInt v
      bif decide (0 ≤ i) && Nat.ble i.toNat h then some i.toNat else none
  pure (l, h)

def isNil : AV → Bool
  | .lit (.pointer none) | .lit (.slice none _ _) | .lit (.map none) | .lit .nilFunc | .lit .nilIface => true
  | _ => false

/-- Equality where one side or both have an address of the executor's. -/
def eqA (P : Program) (A : AW) (t : TypeId) (x y : AV) : Option Bool :=
  match P.underlying t, x, y with
  | some (.pointer _), .ptr _ _, .lit (.pointer none) => some false
  | some (.pointer _), .lit (.pointer none), .ptr _ _ => some false
  | some (.pointer e), .ptr b o, .ptr b' o' =>
    match tsize P e with
    | some (_ + 1) =>
      bif Nat.beq b b' then some (Nat.beq o o') else
      match A.get b, A.get b' with
      | some (.cells none _ true cs), some (.cells none _ true cs') => bif Nat.blt o cs.length && Nat.blt o' cs'.length then some false else none
      | _, _ => none
    | _ => none
  | some (.slice _), .slice .., .lit (.slice none _ _) => some false
  | some (.slice _), .lit (.slice none _ _), .slice .. => some false
  | some (.map _ _), .map _, .lit (.map none) => some false
  | some (.map _ _), .lit (.map none), .map _ => some false
  | some (.func _ _ _), .func .., .lit .nilFunc => some false
  | some (.func _ _ _), .lit .nilFunc, .func .. => some false
  | some (.interface _), .iface _ _, .lit .nilIface => some false
  | some (.interface _), .lit .nilIface, .iface _ _ => some false
  | _, _, _ => none

def bytesOf : List AV → Option (List UInt8)
  | [] => some []
  | .lit (.int .u8 n) :: l => (bytesOf l).map (UInt8.ofNat n.toNat :: ·)
  | _ => none

def delAt {α : Type} (l : List α) (i : Nat) : List α := l.take i ++ l.drop (i + 1)

/-- The builtins. -/
def abuiltin (P : Program) (A : AW) (b : Builtin) (ts : Array TypeId) (args : List AV) : Option AN :=
  match b, args with
  | .len, [.lit (.string s)] =>
    match P.underlying (ts.getD 0 0) with
    | some .string => some (.same (.lit (goInt s.size)))
    | _ => none
  | .len, [.lit (.slice none n _)] =>
    match P.underlying (ts.getD 0 0) with
    | some (.slice _) => some (.same (.lit (goInt n)))
    | _ => none
  | .len, [.lit (.map none)] =>
    match P.underlying (ts.getD 0 0) with
    | some (.map _ _) => some (.same (.lit (goInt 0)))
    | _ => none
  | .cap, [.lit (.slice none _ c)] =>
    match P.underlying (ts.getD 0 0) with
    | some (.slice _) => some (.same (.lit (goInt c)))
    | _ => none
  | .len, [.slice _ _ _ n _] =>
    match P.underlying (ts.getD 0 0) with
    | some (.slice _) => some (.same (.lit (goInt n)))
    | _ => none
  | .len, [.map m] =>
    match P.underlying (ts.getD 0 0), A.get m with
    | some (.map _ _), some (.map es _) => some (.same (.lit (goInt es.length)))
    | _, _ => none
  | .len, [_] =>
    match P.underlying (ts.getD 0 0) with
    | some (.array n _) => some (.same (.lit (goInt n)))
    | _ => none
  | .cap, [.slice _ _ _ _ (some c)] =>
    match P.underlying (ts.getD 0 0) with
    | some (.slice _) => some (.same (.lit (goInt c)))
    | _ => none
  | .append, [s, x] =>
    match P.underlying (ts.getD 0 0), (ts[1]?).map P.underlying with
    | some (.slice e), some (some u) =>
      match u, P.info? e with
      | .int _, _ => none
      | _, some i => do
        let n ← x.lenOf
        let xs ← A.first i.size n x
        let z ← i.zero
        bif !(Nat.beq z.cells.size i.size) || Nat.beq i.size 0 then none else do
        let r ← A.append i.size i.bytes s n xs
        pure (.value r.1 r.2)
      | _, _ => none
    | _, _ => none
  | .copy, [d, s] =>
    match P.underlying (ts.getD 0 0), d with
    | some (.slice e), .slice b off sz len _ => do
      let i ← P.info? e
      bif !(Nat.beq sz i.size) then none else do
      let m ← s.lenOf
      let n := Nat.min m len
      let xs ← A.first i.size n s
      bif Nat.beq xs.length 0 then some (.value (.lit (goInt n)) A) else do
      let A' ← A.storeCells b off xs
      pure (.value (.lit (goInt n)) A')
    | some (.slice e), .lit (.slice none 0 _) => do
      let i ← P.info? e
      let m ← s.lenOf
      let xs ← A.first i.size (Nat.min m 0) s
      bif Nat.beq xs.length 0 then some (.same (.lit (goInt 0))) else none
    | _, _ => none
  | .delete, [.map m, .lit k] =>
    match P.underlying (ts.getD 0 0), A.get m with
    | some (.map kt _), some (.map es clock) =>
      match P.underlying kt with
      | some kind =>
        bif !(plainKey kind) then none else
        match findA kind k es 0 with
        | some (some (i, _)) => some (.value (.lit (.tuple #[])) (A.put m (.map (delAt es i) clock)))
        | some none => some (.value (.lit (.tuple #[])) (A.put m (.map es clock)))
        | none => none
      | none => none
    | _, _ => none
  | _, _ => none

/-- What an operation makes that makes one block and looks at no memory: the block, and the value that tells of it. -/
def mk (P : Program) (ρ : Operand → AV) : Op → Option (AO × (Nat → AV))
  | .alloc elem => do
    let i ← P.info? elem
    let z ← i.zero
    bif (litsOf z).all AV.one then some (.cells none 0 true ((litsOf z).map some), fun b => .ptr b 0) else none
  | .box _ x => bif (ρ x).cells.all AV.one then some (.cells none 0 true ((ρ x).cells.map some), fun b => .ptr b 0) else none
  | .buildSlice t len ps =>
    match P.underlying t with
    | some (.slice elem) => do
      let i ← P.info? elem
      let z ← i.zero
      bif !(Nat.blt 0 i.size) || !(Nat.beq z.cells.size i.size) || !(Nat.ble (len * i.size) 100000) then none else do
      let cs ← fillA (fun k => some (k * i.size, i.size)) ((List.range (len * i.size)).map fun k => (litsOf z).getD (k % i.size) (.lit undef)) (ps.toList.map fun p => (p.1, ρ p.2))
      bif cs.all AV.one then some (.cells none 0 true (cs.map some), fun b => .slice b 0 i.size len (some len)) else none
    | _ => none
  | .makeMap t r =>
    match P.underlying t, r with
    | some (.map _ _), none => some (.map [] 0, .map)
    | some (.map _ _), some h =>
      match ρ h with
      | .lit (.int _ _) => some (.map [] 0, .map)
      | _ => none
    | _, _ => none
  | .makeSlice t l c =>
    match P.underlying t, ρ l, ρ c with
    | some (.slice elem), .lit (.int _ l), .lit (.int _ c) => do
      let i ← P.info? elem
      let z ← i.zero
      bif decide (0 ≤ l) && decide (l ≤ c) && Nat.ble (c.toNat * (i.bytes + 1)) mostBytes && Nat.ble (c.toNat * i.size) 100000 && Nat.blt 0 i.size && Nat.beq z.cells.size i.size && (litsOf z).all AV.one then
        some (.cells none 0 true (((List.range (c.toNat * i.size)).map fun k => (litsOf z).getD (k % i.size) (.lit undef)).map some), fun b => .slice b 0 i.size l.toNat (some c.toNat))
      else none
    | _, _, _ => none
  | .convert src dst x =>
    match P.underlying src, P.underlying dst, ρ x with
    | some .string, some (.slice e), .lit (.string s) =>
      match P.underlying e with
      | some (.int .u8) =>
        bif Nat.ble s.size mostBytes then
          some (.cells none 0 false (s.data.toList.map fun b => some (.lit (.int .u8 b.toNat))), fun b => .slice b 0 1 s.size none)
        else none
      | _ => none
    | _, _, _ => none
  | _ => none

/-- One operation, its operands not all plain values. -/
def aopRef (P : Program) (A : AW) (ρ : Operand → AV) (o : Oper) : Option AN :=
  match o.op with
  | .move x | .assign x => some (.same (ρ x))
  | .pick c a b =>
    match ρ c with
    | .lit (.bool t) => some (.same (bif t then ρ a else ρ b))
    | _ => none
  | .build t ps => do
    let i ← P.info? t
    let z ← i.zero
    match P.underlying t with
    | some (.struct fields) => do
      let places ← seqOpt (fields.toList.map fun f => (tsize P f.type).map fun n => (f.offset, n))
      let cs ← fillA (places[·]?) (litsOf z) (ps.toList.map fun p => (p.1, ρ p.2))
      pure (.same (.agg cs))
    | some (.array _ elem) => do
      let size ← tsize P elem
      let cs ← fillA (fun i => some (i * size, size)) (litsOf z) (ps.toList.map fun p => (p.1, ρ p.2))
      pure (.same (.agg cs))
    | _ => none
  | .load t a =>
    match ρ a with
    | .ptr b off => do
      let g ← tagg P t
      bif g then do
        let n ← tsize P t
        let cs ← A.cells b off n
        pure (.same (.agg cs))
      else do
        let cs ← A.cells b off 1
        match cs with
        | [c] => pure (.same c)
        | _ => none
    | .lit (.pointer (some ⟨g, off, none⟩)) => do
      let cs ← lookG A.G g
      let agg ← tagg P t
      bif agg then do
        let n ← tsize P t
        bif Nat.ble (off + n) cs.length then pure (.same (.lit (.agg ((cs.drop off).take n).toArray))) else none
      else do
        let v ← cs[off]?
        pure (.same (.lit v))
    | _ => none
  | .store t a x =>
    match ρ a with
    | .ptr b off => do
      let n ← tsize P t
      let cs := (ρ x).cells
      bif Nat.beq cs.length n then do
        let A' ← A.storeCells b off cs
        pure (.skip A')
      else none
    | _ => none
  | .nilCheck x =>
    match ρ x with
    | .ptr b off => some (.same (.ptr b off))
    | .func (.func f) a c => some (.same (.func (.func f) a c))
    | _ => none
  | .binOp .eql t x y _ => (eqA P A t (ρ x) (ρ y)).map fun b => .same (.lit (.bool b))
  | .binOp .neq t x y _ => (eqA P A t (ρ x) (ρ y)).map fun b => .same (.lit (.bool !b))
  | .convert src dst x =>
    match P.underlying src, P.underlying dst, ρ x with
    | some (.slice e), some (.slice _), .slice b off sz len cap =>
      match P.underlying e, A.get b with
      | some (.int .u8), some (.cells none base _ cs) =>
        bif Nat.beq src dst && Nat.ble (off + len * sz) cs.length && Nat.blt 0 (len * sz) then some (.value (.slice b off sz len cap) (A.put b (.cells none base false cs))) else none
      | _, _ => none
    | some (.slice e), some .string, .slice b off sz len _ =>
      match P.underlying e with
      | some (.int .u8) =>
        bif !(Nat.beq sz 1) then none else do
        let cs ← bif Nat.beq len 0 then some [] else A.cells b off len
        let l ← bytesOf cs
        pure (.same (.lit (.string ⟨l.toArray⟩)))
      | _ => none
    | _, _, _ => none
  | .makeInterface t x =>
    match P.underlying t with
    | some (.interface _) | none => none
    | some _ => some (.same (match ρ x with | .lit v => .lit (.iface t v) | a => .iface t a))
  | .makeFunc fn first captured => some (.same (.func fn (first.toList.map ρ) (captured.toList.map ρ)))
  | .slice t x lo hi none =>
    match P.underlying t, ρ x with
    | some .string, .lit (.string s) => do
      let q ← sliceB s.size (some s.size) (lo.map ρ) (hi.map ρ)
      pure (.same (.lit (.string ⟨((s.data.toList.drop q.1).take (q.2 - q.1)).toArray⟩)))
    | some (.slice elem), .slice b off sz len cap => do
      let size ← tsize P elem
      bif !(Nat.beq size sz) then none else do
      let q ← sliceB len cap (lo.map ρ) (hi.map ρ)
      pure (.same (.slice b (bif Nat.beq ((cap.getD (q.1 + 1)) - q.1) 0 then off else off + q.1 * sz) sz (q.2 - q.1) (cap.map (· - q.1))))
    | some (.array n elem), .ptr b off => do
      let size ← tsize P elem
      bif Nat.beq size 0 then none else do
      let q ← sliceB n (some n) (lo.map ρ) (hi.map ρ)
      match A.get b with
      | some (.cells _ _ _ cs) =>
        bif Nat.ble (off + n * size) cs.length then
          pure (.same (.slice b (bif Nat.beq (n - q.1) 0 then off else off + q.1 * size) size (q.2 - q.1) (some (n - q.1))))
        else none
      | _ => none
    | _, _ => none
  | .slice t x lo (some hi) (some mx) =>
    match P.underlying t, ρ x, asLitInt (ρ mx) with
    | some (.slice elem), .slice b off sz len cap, some m => do
      let size ← tsize P elem
      bif !(Nat.beq size sz) || !(decide (0 ≤ m)) || !(Nat.ble m.toNat (cap.getD len)) then none else do
      let q ← sliceB m.toNat (some m.toNat) (lo.map ρ) (some (ρ hi))
      pure (.same (.slice b (bif Nat.beq (m.toNat - q.1) 0 then off else off + q.1 * sz) sz (q.2 - q.1) (some (m.toNat - q.1))))
    | _, _, _ => none
  | .fieldAddr s x f =>
    match P.underlying s, ρ x with
    | some (.struct fields), .ptr b off => do
      let fd ← fields[f]?
      let n ← tsize P fd.type
      bif Nat.beq n 0 then none else pure (.same (.ptr b (off + fd.offset)))
    | _, _ => none
  | .field t x f =>
    match P.underlying t, (ρ x).parts with
    | some (.struct fields), some cs => do
      let fd ← fields[f]?
      let v ← partA P fd.type cs fd.offset
      pure (.same v)
    | _, _ => none
  | .indexAddr t x ix =>
    match P.underlying t, ρ x, ρ ix with
    | some (.slice elem), .slice b off sz len _, .lit (.int _ i) => do
      let size ← tsize P elem
      bif Nat.beq size sz && decide (0 ≤ i) && Nat.blt i.toNat len then pure (.same (.ptr b (off + i.toNat * sz))) else none
    | some (.array n elem), .ptr b off, .lit (.int _ i) => do
      let size ← tsize P elem
      bif decide (0 ≤ i) && Nat.blt i.toNat n then pure (.same (.ptr b (off + i.toNat * size))) else none
    | _, _, _ => none
  | .index t x ix =>
    match P.underlying t, ρ x, ρ ix with
    | some .string, .lit (.string s), .lit (.int _ i) =>
      bif decide (0 ≤ i) then (s.data.toList[i.toNat]?).map fun b => .same (.lit (.int .u8 b.toNat)) else none
    | some (.array n elem), a, .lit (.int _ i) => do
      let cs ← a.parts
      let size ← tsize P elem
      bif decide (0 ≤ i) && Nat.blt i.toNat n then do
        let v ← partA P elem cs (i.toNat * size)
        pure (.same v)
      else none
    | _, _, _ => none
  | .lookup t x k ok =>
    match P.underlying t, ρ x, ρ k with
    | some (.map kt elem), .lit (.map none), .lit _ =>
      match P.underlying kt with
      | some kind =>
        bif !(plainKey kind) then none else do
        let i ← P.info? elem
        let z ← i.zero
        pure (.same (bif ok then .tuple [.lit z, .lit (.bool false)] else .lit z))
      | none => none
    | some (.map kt elem), .map m, .lit key =>
      match A.get m, P.underlying kt with
      | some (.map es _), some kind =>
        bif !(plainKey kind) then none else
        match findA kind key es 0 with
        | some (some (_, v)) => some (.same (bif ok then .tuple [v, .lit (.bool true)] else v))
        | some none => do
          let i ← P.info? elem
          let z ← i.zero
          pure (.same (bif ok then .tuple [.lit z, .lit (.bool false)] else .lit z))
        | none => none
      | _, _ => none
    | _, _, _ => none
  | .mapUpdate t m k x | .insert t m k x =>
    match P.underlying t, ρ m, ρ k with
    | some (.map kt _), .map b, .lit key =>
      match A.get b, P.underlying kt with
      | some (.map es clock), some kind =>
        bif !(plainKey kind) then none else
        match findA kind key es 0 with
        | some (some (i, _)) => some (.skip (A.put b (.map (es.take i ++ [(key, ρ x, ((es[i]?).map (·.2.2)).getD 0)] ++ es.drop (i + 1)) clock)))
        | some none => some (.skip (A.put b (.map (es ++ [(key, ρ x, clock)]) (clock + 1))))
        | none => none
      | _, _ => none
    | _, _, _ => none
  | .range t x =>
    match P.underlying t, ρ x with
    | some (.map _ _), .map m =>
      match A.get m with
      | some (.map _ clock) => some (.value (.ptr A.n 0) (A.new (.iter (some m) clock [] clock)))
      | _ => none
    | some (.map _ _), .lit (.map none) => some (.value (.ptr A.n 0) (A.new (.iter none 0 [] 0)))
    | some .string, .lit (.string s) => some (.value (.ptr A.n 0) (A.new (.striter s 0)))
    | _, _ => none
  | .next it isString =>
    match ρ it, isString with
    | .ptr b 0, false =>
      match A.get b with
      | some (.iter none _ _ _) => some (.same (.lit (.tuple #[.bool false])))
      | some (.iter (some m) since seen last) =>
        match A.get m with
        | some (.map es clock) =>
          bif !seen.isEmpty && !es.isEmpty && es.all (fun e => Nat.ble last e.2.2) then none else
          match es.filter (fun e => !(seen.contains e.2.2)) with
          | [] => some (.same (.lit (.tuple #[.bool false])))
          | [e] =>
            bif Nat.blt e.2.2 since then
              some (.value (.tuple [.lit (.bool true), .lit e.1, e.2.1]) (A.put b (.iter (some m) since (seen ++ [e.2.2]) clock)))
            else none
          | _ => none
        | _ => none
      | _ => none
    | .ptr b 0, true =>
      match A.get b with
      | some (.striter s pos) =>
        bif Nat.blt pos s.size then
          let r := Utf8.decode s pos
          some (.value (.lit (.tuple #[.bool true, goInt pos, .int .i32 r.1])) (A.put b (.striter s (pos + r.2))))
        else some (.same (.lit (.tuple #[.bool false])))
      | _ => none
    | _, _ => none
  | .entry it =>
    match ρ it with
    | .ptr b 0 =>
      match A.get b with
      | some (.iter (some m) _ seen last) =>
        match A.get m, seen.getLast? with
        | some (.map es clock), some stamp =>
          bif !(Nat.beq clock last) then none else
          match es.find? (fun e => Nat.beq e.2.2 stamp) with
          | some e => some (.same (.tuple [.lit e.1, e.2.1]))
          | none => none
        | _, _ => none
      | _ => none
    | _ => none
  | .typeAssert x _ asserted ok =>
    match P.underlying asserted, ρ x with
    | some (.interface _), _ => none
    | some _, .iface t v => bif Nat.beq t asserted then some (.same (bif ok then .tuple [v, .lit (.bool true)] else v)) else none
    | _, _ => none
  | .extract x ix =>
    match ρ x with
    | .tuple vs => (vs[ix]?).map .same
    | .lit (.tuple vs) => (vs[ix]?).map fun v => .same (.lit v)
    | _ => none
  | .call c =>
    match c.callee with
    | .builtin b => bif Nat.beq c.argTypes.size c.args.size then abuiltin P A b c.argTypes (c.args.toList.map ρ) else none
    | .value f =>
      match ρ f with
      | .lit (.func (.func g) fst cap) => some (.call g (fst.toList.map .lit ++ c.args.toList.map ρ ++ cap.toList.map .lit))
      | .func (.func g) fst cap => some (.call g (fst ++ c.args.toList.map ρ ++ cap))
      | _ => none
    | .invoke rv name =>
      match ρ rv with
      | .iface t v =>
        match (P.info? t).bind fun i => i.methods.toList.find? (·.name == name) with
        | some m =>
          bif !(m.path.isEmpty) then none else
          match m.func, P.underlying t with
          | some (f, true), some (.pointer _) => some (.call f (v :: c.args.toList.map ρ))
          | some (f, false), some (.pointer elem) =>
            match v with
            | .ptr b off => do
              let g ← tagg P elem
              bif g then do
                let n ← tsize P elem
                let cs ← A.cells b off n
                pure (.call f (.agg cs :: c.args.toList.map ρ))
              else do
                let cs ← A.cells b off 1
                match cs with
                | [x] => pure (.call f (x :: c.args.toList.map ρ))
                | _ => none
            | _ => none
          | _, _ => none
        | none => none
      | _ => none
  | _ => none

def isCall : Op → Bool
  | .call c => match c.callee with | .builtin _ => false | _ => true
  | .go _ | .defer _ | .select .. | .panic _ | .send .. | .recv .. => true
  | _ => false

/-- Two strings. -/
def strFast (ρ : Operand → AV) (o : Oper) : Option AV :=
  match o.op with
  | .binOp op _ x y _ =>
    match ρ x, ρ y with
    | .lit (.string a), .lit (.string b) =>
      let p := a.data.toList
      let q := b.data.toList
      match op with
      | .add => bif Nat.ble (p.length + q.length) mostBytes then some (.lit (.string ⟨(p ++ q).toArray⟩)) else none
      | .eql => some (.lit (.bool (p == q)))
      | .neq => some (.lit (.bool !(p == q)))
      | .lss => some (.lit (.bool (Op.bytesLess p q)))
      | .leq => some (.lit (.bool (Op.bytesLess p q || p == q)))
      | .gtr => some (.lit (.bool !(Op.bytesLess p q || p == q)))
      | .geq => some (.lit (.bool !(Op.bytesLess p q)))
      | _ => none
    | _, _ => none
  | _ => none

/-- One operation. -/
def aop (P : Program) (A : AW) (ρ : Operand → AV) (o : Oper) : Option AN :=
  match strFast ρ o with
  | some v => some (.same v)
  | none =>
    match mk P ρ o.op with
    | some z => some (.value (z.2 A.n) (A.new z.1))
    | none =>
    match aopRef P A ρ o with
    | some r => some r
    | none =>
      bif !(isCall o.op) && o.op.operands.toList.all (fun x => (ρ x).isLit) then
        match pureRun P (execOp (fun x => (ρ x).val) o) with
        | some (.value v) => some (.same (.lit v))
        | _ => none
      else none

def aeval (tm : T AV) : Operand → AV
  | .tmp t => (tm.get t).getD (.lit undef)
  | .const v => .lit v
  | .global g => .lit (.pointer (some ⟨g, 0, none⟩))
  | .func f => .lit (.func (.func f) #[] #[])

def aput (tm : T AV) (N : Nat) (d : Option Tmp) (v : AV) : Option (T AV) :=
  match d with
  | none => some tm
  | some d => bif Nat.blt d N then some (tm.set d v) else none

/-- Is an operation's guard met? -/
def awanted (ops : Array Oper) (tm : T AV) (o : Oper) : Option Bool :=
  match o.guard with
  | none => some true
  | some (j, want) =>
    match ((ops[j]?).bind (·.dst)) with
    | none => some false
    | some d =>
      match (tm.get d).getD (.lit undef) with
      | .lit (.bool b) => some (b == want)
      | .lit (.tuple _) => some false
      | _ => none

inductive AE where
  | normal
  | exit (id : Nat)
  | goto (l : Nat)
  | ret
  deriving Inhabited, DecidableEq

abbrev Intr := FuncId → Option (List AV → AW → Option (AV × AW))

structure ASt where
  tm : T AV
  A : AW
  deriving Inhabited

def argsT : List AV → Nat → T AV → T AV
  | [], _, t => t
  | a :: l, i, t => argsT l (i + 1) (t.set i a)

def resA (P : Program) (A : AW) (tm : T AV) : ResultVar → Option AV
  | .tmp t => some ((tm.get t).getD (.lit undef))
  | .cell a t =>
    match (tm.get a).getD (.lit undef) with
    | .ptr b off => do
      let g ← tagg P t
      bif g then do
        let n ← tsize P t
        let cs ← A.cells b off n
        pure (.agg cs)
      else do
        let cs ← A.cells b off 1
        match cs with
        | [c] => pure c
        | _ => none
    | _ => none
def resultsA (P : Program) (A : AW) (tm : T AV) (rs : Array ResultVar) : Option AV :=
  match seqOpt (rs.toList.map (resA P A tm)) with
  | some [v] => some v
  | some vs => some (.tuple vs)
  | none => none

end Go.Proofs.YtbhlagidmifijaaGreatDoor.AX
namespace Go.Proofs.YtbhlagidmifijaaGreatDoor.AX

abbrev ACall := FuncId → List AV → AW → Option (AV × AW)
abbrev ARec := Nat → Code → ASt → Option (AE × ASt)

/-- One operation of a region, where it stands. -/
def opStep (P : Program) (call : ACall) (N : Nat) (ops : Array Oper) (i : Nat) (s : ASt) : Option ASt :=
  match ops[i]? with
  | none => some s
  | some o =>
    match awanted ops s.tm o with
    | some true =>
      match aop P s.A (aeval s.tm) o with
      | some (.same v) => (aput s.tm N o.dst v).map fun tm => { tm, A := s.A }
      | some (.value v A) => (aput s.tm N o.dst v).map fun tm => { tm, A }
      | some (.skip A) => (aput s.tm N o.dst (.lit undef)).map fun tm => { tm, A }
      | some (.call g args) =>
        match call g args s.A with
        | some (v, A) => (aput s.tm N o.dst v).map fun tm => { tm, A }
        | none => none
      | none => none
    | some false => (aput s.tm N o.dst (.lit undef)).map fun tm => { tm, A := s.A }
    | none => none

def opsRun (P : Program) (call : ACall) (N : Nat) (ops : Array Oper) : List Nat → ASt → Option ASt
  | [], s => some s
  | i :: l, s =>
    match opStep P call N ops i s with
    | some s' => opsRun P call N ops l s'
    | none => none

mutual
def AV.beq : AV → AV → Bool
  | .lit a, .lit b => Instr.sameBits 0 a b || (match a, b with
    | .slice none 0 0, .slice none 0 0 => true
    | .map none, .map none => true
    | .nilFunc, .nilFunc => true
    | .tuple x, .tuple y => x.isEmpty && y.isEmpty
    | .func (.func f) x u, .func (.func g) y v => Nat.beq f g && x.isEmpty && y.isEmpty && u.isEmpty && v.isEmpty
    | _, _ => false)
  | .ptr b o, .ptr b' o' => Nat.beq b b' && Nat.beq o o'
  | .slice b o z n c, .slice b' o' z' n' c' => Nat.beq b b' && Nat.beq o o' && Nat.beq z z' && Nat.beq n n' && (match c, c' with | none, none => true | some x, some y => Nat.beq x y | _, _ => false)
  | .map b, .map b' => Nat.beq b b'
  | .iface t v, .iface t' v' => Nat.beq t t' && AV.beq v v'
  | .agg l, .agg l' => AV.beqs l l'
  | .tuple l, .tuple l' => AV.beqs l l'
  | _, _ => false
def AV.beqs : List AV → List AV → Bool
  | [], [] => true
  | a :: l, b :: m => AV.beq a b && AV.beqs l m
  | _, _ => false
end

/-! A region that draws its order. -/

/-- Which operations must be ahead of which (a bit each). -/
def maskOf (acc : List Nat) (o : Oper) : Nat :=
  o.after.toList.foldl (fun s e => bif Region.binds .any e then s ||| (2 ^ e.on) ||| acc.getD e.on 0 else s) 0
def masks : List Oper → List Nat → List Nat
  | [], acc => acc
  | o :: l, acc => masks l (acc ++ [maskOf acc o])

/-- What a temporary holds, out of what the operations told. -/
def lookD : List Oper → List AV → Tmp → Option AV
  | o :: os, v :: vs, t => bif o.dst == some t then some v else lookD os vs t
  | _, _, _ => none
def lookT (ops : List Oper) (tm : T AV) (vals : List AV) (t : Tmp) : AV :=
  match lookD ops vals t with
  | some v => v
  | none => (tm.get t).getD (.lit undef)
/-- An operation's operands; no other temporary is looked at. -/
def evalD (ops : List Oper) (tm : T AV) (vals : List AV) (ts : List Tmp) : Operand → AV
  | .tmp t => bif ts.contains t then lookT ops tm vals t else .lit undef
  | x => aeval tm x
def wantedD (ops : Array Oper) (tm : T AV) (vals : List AV) (o : Oper) : Option Bool :=
  match o.guard with
  | none => some true
  | some (j, want) =>
    match ((ops[j]?).bind (·.dst)) with
    | none => some false
    | some d =>
      match lookT ops.toList tm vals d with
      | .lit (.bool b) => some (b == want)
      | .lit (.tuple _) => some false
      | _ => none

structure DE where
  w : Bool
  v : AV
  A : AW
  fl : Option AO
  deriving Inhabited

/-- What is made in the region lies at numbers of its own from the region's beginning; it comes into the heap ahead of the first write that must be behind it. -/
def realize (base : Nat) (p : Nat → Bool) : Nat → List (Option AO) → AW → AW
  | j, some z :: l, A =>
    match A.get (base + j) with
    | some _ => realize base p (j + 1) l A
    | none => bif p j then realize base p (j + 1) l (A.put (base + j) z) else realize base p (j + 1) l A
  | j, none :: l, A => realize base p (j + 1) l A
  | _, [], A => A

/-- No block that came into the heap is lost. -/
def keeps (base : Nat) (A A' : AW) : Nat → Bool
  | 0 => true
  | n + 1 => ((A.get (base + n)).isNone || (A'.get (base + n)).isSome) && keeps base A A' n

def wrote (base n : Nat) (A A1 : AW) (v : AV) (A' : AW) : Option DE :=
  bif keeps base A1 A' n then some ⟨true, v, { A' with G := A.G }, none⟩ else none

def dstep (P : Program) (call : ACall) (ops : Array Oper) (tm : T AV) (base : Nat) (mask i : Nat) (o : Oper) (es : List DE) (A : AW) : Option DE :=
  let vals := es.map (·.v)
  match wantedD ops tm vals o with
  | some false => some ⟨false, .lit undef, A, none⟩
  | some true =>
    let ρ := evalD ops.toList tm vals (o.looksAt ops)
    match mk P ρ o.op with
    | some z => some ⟨false, z.2 (base + i), A, some z.1⟩
    | none =>
      match aop P A ρ o with
      | some (.same v) => some ⟨false, v, A, none⟩
      | _ =>
        let fls := es.map (·.fl)
        let A1 := realize base (fun j => mask.testBit j) 0 fls A
        match aop P A1 ρ o with
        | some (.value v A') => wrote base ops.size A A1 v A'
        | some (.skip A') => wrote base ops.size A A1 (.lit undef) A'
        | some (.call g args) =>
          match call g args A1 with
          | some r => wrote base ops.size A A1 r.1 r.2
          | none => none
        | _ => none
  | none => none

def dpass (P : Program) (call : ACall) (ops : Array Oper) (tm : T AV) (base : Nat) (msk : List Nat) : Nat → List Oper → List DE → AW → Option (List DE)
  | _, [], _, _ => some []
  | i, o :: l, es, A =>
    match dstep P call ops tm base (msk.getD i 0) i o es A with
    | some e => (dpass P call ops tm base msk (i + 1) l (es ++ [e]) e.A).map (e :: ·)
    | none => none

/-- How many writes of which this holds. -/
def countFrom : List DE → Nat → (Nat → Bool) → Nat
  | [], _, _ => 0
  | e :: es, j, p => (bif e.w && p j then 1 else 0) + countFrom es (j + 1) p
def countW (es : List DE) (p : Nat → Bool) : Nat := countFrom es 0 p

/-- The worlds: ahead of all writes, behind the first, .. -/
def worldsD (A : AW) (es : List DE) : List AW := A :: (es.filter (·.w)).map (·.A)

/-- Does an operation that only looks tell the same in the worlds from one count of writes to another? -/
def sameFrom (P : Program) (ρ : Operand → AV) (o : Oper) (v : AV) (Ws : List AW) (own : Nat) : Nat → Nat → Bool
  | _, 0 => true
  | k, n + 1 =>
    (Nat.beq k own ||
      match Ws[k]? with
      | some A =>
        match aop P A ρ o with
        | some (.same v') => AV.beq v' v
        | _ => false
      | none => false) && sameFrom P ρ o v Ws own (k + 1) n

def noSelect : Op → Bool
  | .select .. => false
  | _ => true

def dcheckOne (P : Program) (N : Nat) (ops : Array Oper) (tm : T AV) (msk : List Nat) (vals : List AV) (es : List DE) (Ws : List AW) (i : Nat) (o : Oper) (e : DE) : Bool :=
  let bi := msk.getD i 0
  o.after.toList.all (fun g => !(Region.binds .any g) || Nat.blt g.on i) &&
  noSelect o.op &&
  (match o.dst with | some d => Nat.blt d N | none => true) &&
  (List.range ops.size).all (fun j =>
    match (ops[j]?).bind (·.dst) with
    | none => true
    | some d => (!(o.dst == some d) || Nat.beq i j) && (!((o.looksAt ops).contains d) || bi.testBit j || (msk.getD j 0).testBit i)) &&
  (bif e.w then (List.range i).all fun j => !((es.getD j default).w) || bi.testBit j
   else match wantedD ops tm vals o with
     | some false => true
     | some true =>
       e.fl.isSome ||
       let lo := countW es fun j => bi.testBit j
       let hi := countW es fun j => !((msk.getD j 0).testBit i)
       sameFrom P (evalD ops.toList tm vals (o.looksAt ops)) o e.v Ws (countW es fun j => Nat.blt j i) lo (hi + 1 - lo)
     | none => false)

def dcheck (P : Program) (N : Nat) (ops : Array Oper) (tm : T AV) (msk : List Nat) (vals : List AV) (es : List DE) (Ws : List AW) : Nat → List Oper → List DE → Bool
  | i, o :: l, e :: m => dcheckOne P N ops tm msk (vals.take i) es Ws i o e && dcheck P N ops tm msk vals es Ws (i + 1) l m
  | _, _, _ => true

def finalT : List Oper → List AV → T AV → T AV
  | o :: os, v :: vs, tm => finalT os vs (match o.dst with | some d => tm.set d v | none => tm)
  | _, _, tm => tm

/-- Nothing lies at the numbers of the region's operations. -/
def fresh (base : Nat) (A : AW) : Nat → Bool
  | 0 => true
  | n + 1 => (A.get (base + n)).isNone && fresh base A n

def drawRun (P : Program) (call : ACall) (N : Nat) (ops : Array Oper) (s : ASt) : Option ASt :=
  let msk := masks ops.toList []
  let A0 : AW := { s.A with n := s.A.n + ops.size }
  match (bif fresh s.A.n s.A ops.size then dpass P call ops s.tm s.A.n msk 0 ops.toList [] A0 else none) with
  | none => none
  | some es =>
    let vals := es.map (·.v)
    let Ws := worldsD A0 es
    bif dcheck P N ops s.tm msk vals es Ws 0 ops.toList es then
      some { tm := finalT ops.toList vals s.tm, A := realize s.A.n (fun _ => true) 0 (es.map (·.fl)) (Ws.getLastD A0) }
    else none

def callWith (P : Program) (I : Intr) (rec : ARec) (g : FuncId) (args : List AV) (A : AW) : Option (AV × AW) :=
  match I g with
  | some h => h args A
  | none =>
    match P.funcs[g]? with
    | none => none
    | some fn =>
      match fn.body with
      | none => none
      | some c =>
        match rec (args.length + (fn.ntmps - args.length)) c { tm := argsT args 0 .nil, A } with
        | some (.normal, s) => (resultsA P s.A s.tm fn.results).map fun v => (v, s.A)
        | some (.ret, s) => (resultsA P s.A s.tm fn.results).map fun v => (v, s.A)
        | _ => none

def loopRun (rec : Code → ASt → Option (AE × ASt)) (c : Code) : Nat → ASt → Option (AE × ASt)
  | 0, _ => none
  | j + 1, s =>
    match rec c s with
    | some (.normal, s') => loopRun rec c j s'
    | r => r

def jumps (rec : Code → ASt → Option (AE × ASt)) (body : Code) : Nat → Option (AE × ASt) → Option (AE × ASt)
  | 0, _ => none
  | j + 1, r =>
    match r with
    | some (.goto l, s') =>
      match findLabel body l with
      | some rest => jumps rec body j (rec rest s')
      | none => some (.goto l, s')
    | r => r

def mostRounds : Nat := 100000

def exStep (P : Program) (I : Intr) (rec : ARec) (N : Nat) (c : Code) (s : ASt) : Option (AE × ASt) :=
  match c with
  | .skip => some (.normal, s)
  | .label _ => some (.normal, s)
  | .seq a b =>
    match rec N a s with
    | some (.normal, s') => rec N b s'
    | r => r
  | .cond c a b =>
    match aeval s.tm c with
    | .lit (.bool t) => bif t then rec N a s else rec N b s
    | _ => none
  | .block id body =>
    match rec N body s with
    | some (.exit i, s') => bif Nat.beq i id then some (.normal, s') else some (.exit i, s')
    | r => r
  | .loop body => loopRun (rec N) body mostRounds s
  | .scope body => jumps (rec N) body mostRounds (rec N body s)
  | .exit id => some (.exit id, s)
  | .goto l => some (.goto l, s)
  | .ret => some (.ret, s)
  | .region _ ops false => (opsRun P (callWith P I rec) N ops (List.range ops.size) s).map fun s' => (.normal, s')
  | .region _ ops true => (drawRun P (callWith P I rec) N ops s).map fun s' => (.normal, s')
  | _ => none

def ex (P : Program) (I : Intr) : Nat → ARec
  | 0 => fun _ _ _ => none
  | f + 1 => exStep P I (ex P I f)

def run (P : Program) (I : Intr) (f : Nat) (g : FuncId) (args : List AV) (A : AW) : Option (AV × AW) := callWith P I (ex P I f) g args A

end Go.Proofs.YtbhlagidmifijaaGreatDoor.AX
