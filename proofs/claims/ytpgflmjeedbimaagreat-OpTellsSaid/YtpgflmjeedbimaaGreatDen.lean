
/- A reading of the model's code as a plain predicate ('den'), and the proof that it may be leant on: what 'den' says of a function's body, 'Calls' says of the call. No condition. -/
import Derived.Orders
import Derived.Tactics
import Derived.Laws.Externs
namespace Go.Den

/-! ## Environments -/
abbrev Env := Nat → Value
def upd (ρ : Env) (d : Nat) (v : Value) : Env := fun i => bif Nat.beq i d then v else ρ i
def updO (ρ : Env) (d : Option Nat) (v : Value) : Env :=
  match d with
  | some d => upd ρ d v
  | none => ρ
def ev (ρ : Env) : Operand → Value
  | .tmp t => ρ t
  | .const v => v
  | .global g => .pointer (some ⟨g, 0, none⟩)
  | .func f => .func (.func f) #[] #[]

/-! ## The words -/
inductive BND {α : Type} (o : Option α) (k : α → Prop) : Prop where
  | mk (v : α) (h : o = some v) (hk : k v)
def grd (c : Bool) (o : Option Value) : Option Value := bif c then o else some undef
structure GEF (c : Bool) (f : (Value → World → Prop) → Prop) (w : World) (k : Value → World → Prop) : Prop where
  yes : c = true → f k
  no : c = false → k undef w
def isB (v : Value) (want : Bool) : Bool :=
  match v with
  | .bool b => b == want
  | _ => false
inductive COND (v : Value) (t e : Prop) : Prop where
  | yes (h : v = .bool true) (ht : t)
  | no (h : v = .bool false) (he : e)
def JOIN {α : Type} (f : α → Prop) (k : α) : Prop := f k
structure CALL (P : Program) (f : Nat) (args : List Value) (w : World) (k : Value → World → Prop) : Prop where
  calls : Calls P f args.toArray w fun e w' => ∃ v, e = .returned v ∧ k v w'
def okCallee (P : Program) (f : Nat) : Bool :=
  match P.funcs[f]? with
  | some fn => fn.body.isSome && !(fn.name == "runtime.NumGoroutine")
  | none => false
/-- math/bits.Add64, that the model stands in for. -/
def extAdd (P : Program) (f : Nat) : Bool :=
  match P.funcs[f]? with
  | some fn => fn.body.isNone && (fn.name == "math/bits.Add64") && (Extern.findNext fn).isNone
  | none => false
def add64v : List Value → Option Value
  | [.int .u64 x, .int .u64 y, .int .u64 c] => if 0 ≤ x ∧ 0 ≤ y ∧ 0 ≤ c ∧ c ≤ 1 then some (.tuple #[.int .u64 ((x + y + c) % 18446744073709551616), .int .u64 ((x + y + c) / 18446744073709551616)]) else none
  | _ => none
inductive CALLV (P : Program) (fv : Value) (args : List Value) (w : World) (k : Value → World → Prop) : Prop where
  | mk (f : Nat) (first captured : Array Value) (h : fv = .func (.func f) first captured) (hok : okCallee P f = true) (hc : CALL P f (first.toList ++ args ++ captured.toList) w k)

inductive TK where
  | int | str | bool | ptr | slc | map | func | agg | other
  deriving DecidableEq

def tkOf : Option TypeDesc → TK
  | some (.int _) => .int
  | some .string => .str
  | some .bool => .bool
  | some (.pointer _) => .ptr
  | some (.slice _) => .slc
  | some (.map _ _) => .map
  | some (.func _ _ _) => .func
  | some (.struct _) | some (.array _ _) => .agg
  | _ => .other

/- pure words -/
def pickv (c a b : Value) : Option Value :=
  match c with
  | .bool true => some a
  | .bool false => some b
  | _ => none
def nilchk (x : Value) : Option Value :=
  match x with
  | .pointer none | .nilIface | .nilFunc | .func (.method _) _ _ => none
  | x => some x
def faddr (off : Nat) (x : Value) : Option Value :=
  match x with
  | .pointer (some a) => some (.pointer (some (a.add off)))
  | _ => none
def iaddr (sz : Nat) (x i : Value) : Option Value :=
  match x, i with
  | .slice (some a) len _, .int _ n => if 0 ≤ n ∧ n < (len : Int) then some (.pointer (some (a.add (n.toNat * sz)))) else none
  | _, _ => none
def iaddra (len sz : Nat) (x i : Value) : Option Value :=
  match x, i with
  | .pointer (some a), .int _ n => if 0 ≤ n ∧ n < (len : Int) then some (.pointer (some (a.add (n.toNat * sz)))) else none
  | _, _ => none
def indexav (agg : Bool) (len sz : Nat) (x i : Value) : Option Value :=
  match x, i with
  | .agg cs, .int _ n => if 0 ≤ n ∧ n < (len : Int) then (bif agg then some (.agg (cs.extract (n.toNat * sz) (n.toNat * sz + sz))) else cs[n.toNat * sz]?) else none
  | _, _ => none
def indexs (x i : Value) : Option Value :=
  match x, i with
  | .string s, .int _ n => if 0 ≤ n then (s[n.toNat]?).map fun b => .int .u8 b.toNat else none
  | _, _ => none
def part1 (x : Value) (off : Nat) : Option Value :=
  match x with
  | .agg cs => cs[off]?
  | _ => none
def partn (x : Value) (off n : Nat) : Option Value :=
  match x with
  | .agg cs => some (.agg (cs.extract off (off + n)))
  | _ => none
def bini (op : BinOp) (k : IntKind) (a b : Int) : Option Value :=
  match op with
  | .add => some (.int k (k.wrap (a + b)))
  | .sub => some (.int k (k.wrap (a - b)))
  | .mul => some (.int k (k.wrap (a * b)))
  | .quo => if b = 0 then none else some (.int k (k.wrap (a.tdiv b)))
  | .rem => if b = 0 then none else some (.int k (a.tmod b))
  | .and => some (.int k (k.wrap (BitVec.ofInt k.bits a &&& BitVec.ofInt k.bits b).toNat))
  | .or => some (.int k (k.wrap (BitVec.ofInt k.bits a ||| BitVec.ofInt k.bits b).toNat))
  | .xor => some (.int k (k.wrap (BitVec.ofInt k.bits a ^^^ BitVec.ofInt k.bits b).toNat))
  | .eql => some (.bool (a == b))
  | .neq => some (.bool (a != b))
  | .lss => some (.bool (a < b))
  | .leq => some (.bool (a ≤ b))
  | .gtr => some (.bool (a > b))
  | .geq => some (.bool (a ≥ b))
  | _ => none
def bins (op : BinOp) (x y : ByteArray) : Option Value :=
  let eq := x.toList == y.toList
  let lt := Op.bytesLess x.toList y.toList
  match op with
  | .add => if ((x.size + y.size : Nat) : Int) > IntKind.i64.max then none else some (.string (x ++ y))
  | .eql => some (.bool eq)
  | .neq => some (.bool !eq)
  | .lss => some (.bool lt)
  | .leq => some (.bool (lt || eq))
  | .gtr => some (.bool !(lt || eq))
  | .geq => some (.bool !lt)
  | _ => none
def binn (op : BinOp) (b : Bool) : Option Value :=
  match op with
  | .eql => some (.bool b)
  | .neq => some (.bool !b)
  | _ => none
def binv (t : TK) (op : BinOp) (x y : Value) : Option Value :=
  match op, x, y with
  | .shl, _, _ | .shr, _, _ => none
  | op, .int k a, .int k' b => if k = k' then bini op k a b else none
  | op, .string a, .string b => bins op a b
  | op, .bool a, .bool b => if t = .bool then binn op (a == b) else none
  | op, .slice none _ _, .slice b _ _ => if t = .slc then binn op b.isNone else none
  | op, .slice (some _) _ _, .slice none _ _ => if t = .slc then binn op false else none
  | op, .map none, .map b => if t = .map then binn op b.isNone else none
  | op, .map (some _), .map none => if t = .map then binn op false else none
  | op, .pointer none, .pointer b => if t = .ptr then binn op b.isNone else none
  | op, .pointer (some _), .pointer none => if t = .ptr then binn op false else none
  | _, _, _ => none
/-- structs of plain parts, compared: of each part its place, its kind. -/
def eqCell (d : TypeDesc) (a b : Value) : Option Bool :=
  match d, a, b with
  | .int _, .int k a, .int k' b => if k = k' then some (a == b) else none
  | .string, .string a, .string b => some (a.toList == b.toList)
  | .bool, .bool a, .bool b => some (a == b)
  | _, _, _ => none
def eqCells : List (Nat × TypeDesc) → Array Value → Array Value → Option Bool
  | [], _, _ => some true
  | (o, d) :: r, xs, ys =>
    match xs[o]?, ys[o]? with
    | some a, some b =>
      match eqCell d a b with
      | some true => eqCells r xs ys
      | some false => some false
      | none => none
    | _, _ => none
def eqaggv (ks : List (Nat × TypeDesc)) (op : BinOp) (x y : Value) : Option Value :=
  match x, y with
  | .agg xs, .agg ys => (eqCells ks xs ys).bind (binn op)
  | _, _ => none
def sizeT0 (P : Program) (t : TypeId) : Option Nat := (P.info? t).map (·.size)
/-- the plain parts of a struct, those of the structs in it among them: of each its place, its kind. -/
def flatK (P : Program) : Nat → Nat → List Field → Option (List (Nat × TypeDesc))
  | 0, _, _ => none
  | n + 1, base, fs => fs.foldr (fun f acc => bif f.name == "_" then none else
    match P.underlying f.type, acc with
    | some (.int k), some l => some ((base + f.offset, .int k) :: l)
    | some .string, some l => some ((base + f.offset, .string) :: l)
    | some .bool, some l => some ((base + f.offset, .bool) :: l)
    | some (.struct gs), some l => bif P.stoodInHeld f.type then none else
      match sizeT0 P f.type, flatK P n (base + f.offset) gs.toList with
      | some m, some l2 => bif l2.all (fun p => decide (base + f.offset ≤ p.1) && decide (p.1 < base + f.offset + m)) then some (l2 ++ l) else none
      | _, _ => none
    | _, _ => none) (some [])
def eqFlat (P : Program) (t : TypeId) : Option (List (Nat × TypeDesc)) :=
  match P.underlying t with
  | some (.struct fs) => bif P.eqGuardType P.depth t || P.stoodInHeld t then none else flatK P 5 0 fs.toList
  | _ => none
def shiftv (op : BinOp) (x y : Value) : Option Value :=
  match op, x, y with
  | .shl, .int k a, .int _ b => if 0 ≤ b then some (.int k (k.wrap (a * 2 ^ (min b.toNat k.bits)))) else none
  | .shr, .int k a, .int _ b => if 0 ≤ b then some (.int k (a.fdiv (2 ^ (min b.toNat k.bits)))) else none
  | _, _, _ => none
def unv (op : UnOp) (x : Value) : Option Value :=
  match op, x with
  | .not, .bool b => some (.bool !b)
  | .neg, .int k n => some (.int k (k.wrap (0 - n)))
  | .xor, .int k n => some (.int k (k.wrap (BitVec.ofInt k.bits (if k.signed then -1 else k.max) ^^^ BitVec.ofInt k.bits n).toNat))
  | _, _ => none
/-- parts laid into the zero value: of each its place, its size. -/
def fillv (cells : Array Value) : List (Nat × Nat × Value) → Option (Array Value)
  | [] => some cells
  | (off, size, v) :: rest =>
    if v.cells.size ≠ size || off + v.cells.size > cells.size then none
    else fillv (v.cells.zipIdx.foldl (fun cs (c, j) => cs.setIfInBounds (off + j) c) cells) rest
def buildv (zero : Array Value) (parts : List (Nat × Nat × Value)) : Option Value := (fillv zero parts).map .agg
def extractv (t : Value) (i : Nat) : Option Value :=
  match t with
  | .tuple vs => vs[i]?
  | _ => none
def natOf (v : Value) : Option Nat :=
  match v with
  | .int _ n => if 0 ≤ n then some n.toNat else none
  | _ => none
/-- x[lo:hi] of a slice. -/
def slicev (sz : Nat) (x : Value) (lo hi : Option Value) : Option Value :=
  match x with
  | .slice a len cap =>
    match (match hi with | some v => natOf v | none => some len), (match lo with | some v => natOf v | none => some 0) with
    | some h, some l => if h ≤ cap ∧ l ≤ h then some (.slice (if cap = l then a else a.map (·.add (l * sz))) (h - l) (cap - l)) else none
    | _, _ => none
  | _ => none
def slices (x : Value) (lo hi : Option Value) : Option Value :=
  match x with
  | .string s =>
    match (match hi with | some v => natOf v | none => some s.size), (match lo with | some v => natOf v | none => some 0) with
    | some h, some l => if h ≤ s.size ∧ l ≤ h then some (.string (s.extract l h)) else none
    | _, _ => none
  | _ => none
def lens (x : Value) : Option Value :=
  match x with
  | .string s => some (.int .i64 s.size)
  | _ => none
def capl (x : Value) : Option Value :=
  match x with
  | .slice _ _ n => some (.int .i64 n)
  | _ => none
def lenl (x : Value) : Option Value :=
  match x with
  | .slice _ n _ => some (.int .i64 n)
  | _ => none
def convi (k : IntKind) (x : Value) : Option Value :=
  match x with
  | .int _ n => some (.int k (k.wrap n))
  | _ => none
def min2v (x y : Value) : Option Value :=
  match x, y with
  | .int k a, .int _ b => some (.int k (if b < a then b else a))
  | _, _ => none
def max2v (x y : Value) : Option Value :=
  match x, y with
  | .int k a, .int _ b => some (.int k (if a < b then b else a))
  | _, _ => none

/- words that read -/
def loads (w : World) (a : Addr) : Nat → Nat → Option (List Value)
  | _, 0 => some []
  | i, n + 1 =>
    match w.cell? (a.add i), loads w a (i + 1) n with
    | some v, some vs => some (v :: vs)
    | _, _ => none
def load1 (w : World) (x : Value) : Option Value :=
  match x with
  | .pointer (some a) => w.cell? a
  | _ => none
def loadn (n : Nat) (w : World) (x : Value) : Option Value :=
  match x with
  | .pointer (some a) => (loads w a 0 n).map fun vs => .agg vs.toArray
  | _ => none
def mapOf (w : World) (m : Value) : Option (Array MapEntry) :=
  match m with
  | .map none => some #[]
  | .map (some r) =>
    match w.heap[r]? with
    | some (.map es _) => some es
    | _ => none
  | _ => none
def mfind (kd : TypeDesc) (k : Value) (es : Array MapEntry) : Option (Option (Nat × Value)) := Instr.findNow kd k es.toList 0
def lookv (kd : TypeDesc) (zero : Value) (ok : Bool) (w : World) (m x : Value) : Option Value :=
  match mapOf w m with
  | some es =>
    match mfind kd x es with
    | some (some (_, v)) => some (if ok then .tuple #[v, .bool true] else v)
    | some none => some (if ok then .tuple #[zero, .bool false] else zero)
    | none => none
  | none => none
def mlenv (w : World) (m : Value) : Option Value := (mapOf w m).map fun es => .int .i64 es.size

/- words that write -/
def stores (w : World) (a : Addr) : Nat → List Value → Option World
  | _, [] => some w
  | i, v :: vs =>
    if v.oneCell' then
      match w.cell? (a.add i) with
      | some _ => if w.frozen? (a.add i) then none else stores (w.setCell (a.add i) v) a (i + 1) vs
      | none => none
    else none
def storev (sz : Nat) (w : World) (x v : Value) : Option World :=
  match x with
  | .pointer (some a) => if v.cells.size = sz then stores w a 0 v.cells.toList else none
  | _ => none
def newv (T : Nat) (w : World) (v : Value) : Value × World := (.pointer (some ⟨w.heap.size, 0, none⟩), w.alloc (.cells v.cells T))
def newslice (E : Nat) (zero : Array Value) (sz len : Nat) (parts : List (Nat × Nat × Value)) (w : World) : Option (Value × World) :=
  match fillv ((Array.range (len * sz)).map (zero[· % zero.size]!)) parts with
  | some cells => some (.slice (some ⟨w.heap.size, 0, none⟩) len len, w.alloc (.cells cells E))
  | none => none
def newmap (w : World) : Value × World := (.map (some w.heap.size), w.alloc (.map #[] 0))
def mupd (kd : TypeDesc) (w : World) (m k v : Value) : Option World :=
  match m with
  | .map (some r) =>
    match w.heap[r]? with
    | some (.map es clock) =>
      match mfind kd k es with
      | some (some (i, _)) =>
        if (Instr.sameBits 10000 (((es[i]?).map (·.key)).getD k) k) then
          some { w with heap := w.heap.setIfInBounds r (.map (es.modify i fun e => { e with key := k, val := v }) clock) }
        else none
      | some none => some { w with heap := w.heap.setIfInBounds r (.map (es.push { key := k, val := v, born := clock }) (clock + 1)) }
      | none => none
    | _ => none
  | _ => none
def mdel (kd : TypeDesc) (w : World) (m k : Value) : Option World :=
  match m with
  | .map (some r) =>
    match w.heap[r]? with
    | some (.map es clock) =>
      match mfind kd k es with
      | some (some (i, _)) => some { w with heap := w.heap.setIfInBounds r (.map (es.eraseIdxIfInBounds i) clock) }
      | some none => some { w with heap := w.heap.setIfInBounds r (.map es clock) }
      | none => none
    | _ => none
  | .map none => some w
  | _ => none
/-- 'append(s, x...)': within the capacity the cells behind are written; else, whatever capacity the new array has, they lie in it. -/
def cellsOfArg (w : World) (sz : Nat) (x : Value) : Option (List Value × Nat) :=
  match x with
  | .slice (some a) n _ => (loads w a 0 (n * sz)).map fun vs => (vs, n)
  | .slice none n _ => some ([], n)
  | .string s => some (s.data.toList.map fun b => .int .u8 b.toNat, s.size)
  | _ => none
def APPENDS (E sz bytes : Nat) (zero : Value) (s x : Value) (w : World) (k : Value → World → Prop) : Prop :=
  match s, cellsOfArg w sz x with
  | .slice base len cap, some (new, n) =>
    if len + n ≤ cap then
      match base with
      | some a => BND (stores w (a.add (len * sz)) 0 new) fun w' => k (.slice base (len + n) cap) w'
      | none => k (.slice base (len + n) cap) w
    else
      ((len + n : Nat) : Int) ≤ IntKind.i64.max ∧ Builtin.nextslicecap (len + n) cap * bytes ≤ 2 ^ 48 ∧
      BND (cellsOfArg w sz s) fun old => ∀ (c : Nat) (w' : World), len + n ≤ c → w'.heap = w.heap → (w'.os = w.os ∧ w'.tape = w.tape ∧ w'.output = w.output) →
        k (.slice (some ⟨w.heap.size, 0, none⟩) (len + n) c) (w'.alloc (.cells (old.1.toArray ++ new.toArray ++ Builtin.zeroCells zero.cells (c - (len + n))) E))
  | _, _ => False
structure APPEND (E sz bytes : Nat) (zero : Value) (s x : Value) (w : World) (k : Value → World → Prop) : Prop where
  h : APPENDS E sz bytes zero s x w k

structure NEW (p : Value × World) (k : Value → World → Prop) : Prop where
  h : k p.1 p.2

/-- a read that may stand ahead of a write or behind it: it reads the same in every world of a kind. -/
inductive FLT (S : World → Prop) (f : World → Option Value) (k : Value → Prop) : Prop where
  | mk (v : Value) (h : ∀ w, S w → f w = some v) (hk : k v)

/-- 'range s', 'range m'; and its next one, of a string. -/
def rangev (w : World) (x : Value) : Option (Value × World) :=
  match x with
  | .string s => some (.pointer (some ⟨w.heap.size, 0, none⟩), w.alloc (.stringIter s 0))
  | _ => none
def nexts (w : World) (it : Value) : Option (Value × World) :=
  match it with
  | .pointer (some ⟨r, 0, _⟩) =>
    match w.heap[r]? with
    | some (.stringIter s pos) =>
      if pos < s.size then some (.tuple #[.bool true, .int .i64 pos, .int .i32 (Utf8.decode s pos).1], { w with heap := w.heap.setIfInBounds r (.stringIter s (pos + (Utf8.decode s pos).2)) })
      else some (.tuple #[.bool false], w)
    | _ => none
  | _ => none
/-- '[]rune(s)', '[]byte(s)', 'string(l)'. -/
def runesOf (s : ByteArray) : Array Value := Conv.runesFrom s s.size 0 #[]
structure RUNES (E : Nat) (x : Value) (w : World) (k : Value → World → Prop) : Prop where
  h : ∃ s, x = .string s ∧ (runesOf s).size ≤ 70368744177664 ∧ ∀ (c : Nat) (w' : World), (runesOf s).size ≤ c → w'.heap = w.heap → (w'.os = w.os ∧ w'.tape = w.tape ∧ w'.output = w.output) →
    k (.slice (some ⟨w'.heap.size, 0, none⟩) (runesOf s).size c) (w'.alloc (.cells (runesOf s ++ Array.replicate (c - (runesOf s).size) (.int .i32 0)) E))
structure BYTES (E : Nat) (x : Value) (w : World) (k : Value → World → Prop) : Prop where
  h : ∃ s, x = .string s ∧ ∀ (c : Nat) (w' : World), s.size ≤ c → w'.heap = w.heap → (w'.os = w.os ∧ w'.tape = w.tape ∧ w'.output = w.output) →
    k (.slice (some ⟨w'.heap.size, 0, none⟩) s.size c) (w'.alloc (.cells (s.data.map (fun b => Value.int .u8 b.toNat) ++ Array.replicate (c - s.size) (.int .u8 0)) E (c, c + 1)))
def intsOf (k : IntKind) : List Value → Option (List Int)
  | [] => some []
  | .int k' n :: r => if k' = k then (intsOf k r).map (n :: ·) else none
  | _ => none
/-- a number's rune, as a text. -/
def runev (x : Value) : Option Value :=
  match x with
  | .int _ n => some (.string (Utf8.encode n))
  | _ => none
def textOfRunes (ns : List Int) : ByteArray := ns.foldl (fun r n => r ++ Utf8.encode n) ByteArray.empty
def textOfBytes (ns : List Int) : ByteArray := ns.foldl (fun r n => r.push (UInt8.ofNat n.toNat)) ByteArray.empty
def textv (k : IntKind) (g : List Int → ByteArray) (w : World) (x : Value) : Option Value :=
  match x with
  | .slice none _ _ => some (.string .empty)
  | .slice (some a) n _ => (loads w a 0 n).bind fun vs => (intsOf k vs).map fun ns => .string (g ns)
  | _ => none

/-- an array that a pointer tells, as a slice. -/
def slicea (len sz : Nat) (x : Value) (lo hi mx : Option Value) : Option Value :=
  match x with
  | .pointer (some a) =>
    match (match mx with | some v => natOf v | none => some len), (match hi with | some v => natOf v | none => some len), (match lo with | some v => natOf v | none => some 0) with
    | some m, some h, some l => if m ≤ len ∧ h ≤ m ∧ l ≤ h then some (.slice (some (if m = l then a else a.add (l * sz))) (h - l) (m - l)) else none
    | _, _, _ => none
  | _ => none
/-- x[lo:hi:mx] of a slice. -/
def slicev3 (sz : Nat) (x : Value) (lo : Option Value) (hi mx : Value) : Option Value :=
  match x with
  | .slice a _ cap =>
    match natOf mx, natOf hi, (match lo with | some v => natOf v | none => some 0) with
    | some m, some h, some l => if m ≤ cap ∧ h ≤ m ∧ l ≤ h then some (.slice (if m = l then a else a.map (·.add (l * sz))) (h - l) (m - l)) else none
    | _, _, _ => none
  | _ => none
/-- an entry of a map that is assigned to among others: it is made first; its value is stored last. -/
def mentry (kd : TypeDesc) (zero : Value) (w : World) (m k : Value) : Option (Value × World) :=
  match m with
  | .map (some r) =>
    match w.heap[r]? with
    | some (.map es clock) =>
      match mfind kd k es with
      | some (some (i, v)) =>
        if (Instr.sameBits 10000 (((es[i]?).map (·.key)).getD k) k) then
          some (.tuple #[v, .int .i64 (((es[i]?).map (·.born)).getD 0 : Nat)], { w with heap := w.heap.setIfInBounds r (.map (es.modify i fun e => { e with key := k }) clock) })
        else none
      | some none => some (.tuple #[zero, .int .i64 (clock : Nat)], { w with heap := w.heap.setIfInBounds r (.map (es.push { key := k, val := zero, born := clock }) (clock + 1)) })
      | none => none
    | _ => none
  | _ => none
def mestore (w : World) (m s v : Value) : Option World :=
  match m, s with
  | .map (some r), .int _ n =>
    match w.heap[r]? with
    | some (.map es clock) =>
      match es.findIdx? (fun e => (e.born : Int) == n) with
      | some i => some { w with heap := w.heap.setIfInBounds r (.map (es.modify i fun e => { e with val := v }) clock) }
      | none => none
    | _ => none
  | _, _ => none
/-- 'clear(s)' of a slice. -/
def clearv (zero : Value) (w : World) (x : Value) : Option World :=
  match x with
  | .slice none _ _ => some w
  | .slice (some a) n _ => if n = 0 then some w else stores w a 0 (Builtin.zeroCells zero.cells n).toList
  | _ => none

/-- 'range m' of a map; its next entry, whichever of those that are left; 'make([]T, n)'; pointers compared. -/
def rangemv (w : World) (x : Value) : Option (Value × World) :=
  match x with
  | .map none => some (.pointer (some ⟨w.heap.size, 0, none⟩), w.alloc (.mapIter none 0 #[] 0))
  | .map (some m) =>
    match w.heap[m]? with
    | some (.map _ clock) => some (.pointer (some ⟨w.heap.size, 0, none⟩), w.alloc (.mapIter (some m) clock #[] clock))
    | _ => none
  | _ => none
def NEXTMS (it : Value) (w : World) (k : Value → World → Prop) : Prop :=
  match it with
  | .pointer (some ⟨r, 0, _⟩) =>
    match w.heap[r]? with
    | some (.mapIter none _ _ _) => k (.tuple #[.bool false]) w
    | some (.mapIter (some m) since seen last) =>
      match w.heap[m]? with
      | some (.map es clock) => (∀ x ∈ es.toList, x.born < since) ∧ since ≤ last ∧ ((∀ x ∈ es.toList, seen.contains x.born = true) → k (.tuple #[.bool false]) w) ∧
        ∀ e ∈ es.toList, seen.contains e.born = false → ∀ w1 : World, w1.heap = w.heap → (w1.os = w.os ∧ w1.tape = w.tape ∧ w1.output = w.output) →
          k (.tuple #[.bool true, e.key, e.val]) { w1 with heap := w1.heap.setIfInBounds r (.mapIter (some m) since (seen.push e.born) clock) }
      | _ => False
    | _ => False
  | _ => False
structure NEXTM (it : Value) (w : World) (k : Value → World → Prop) : Prop where
  h : NEXTMS it w k
def entryv (w : World) (it : Value) : Option Value :=
  match it with
  | .pointer (some ⟨r, 0, _⟩) =>
    match w.heap[r]? with
    | some (.mapIter (some m) _ seen stepped) =>
      match seen.back?, w.heap[m]? with
      | some stamp, some (.map es clock) => if clock = stepped then (es.find? (·.born == stamp)).map fun e => .tuple #[e.key, e.val] else none
      | _, _ => none
    | _ => none
  | _ => none
def mkslice (E sz bytes : Nat) (zero : Value) (w : World) (l c : Value) : Option (Value × World) :=
  match l, c with
  | .int _ n, .int _ m => if 0 ≤ n ∧ n ≤ m ∧ m * (bytes : Int) ≤ 281474976710656 ∧ m ≤ 9223372036854775807 then
      some (.slice (some ⟨w.heap.size, 0, none⟩) n.toNat m.toNat, w.alloc (.cells ((Array.range (m.toNat * sz)).map (zero.cells[· % zero.cells.size]!)) E)) else none
  | _, _ => none
def cellsAt (w : World) (r : Nat) : Bool :=
  match w.heap[r]? with
  | some (.cells _ _ (0, 0)) => true
  | _ => false
def ptrv (w : World) (op : BinOp) (x y : Value) : Option Value :=
  match x, y with
  | .pointer none, .pointer b => binn op b.isNone
  | .pointer (some _), .pointer none => binn op false
  | .pointer (some a), .pointer (some b) => if a = b then binn op true else if cellsAt w a.block && cellsAt w b.block then binn op false else none
  | _, _ => none

inductive OpSem where
  | val (v : Value)
  | pure (o : Option Value)
  | read (f : World → Option Value)
  | eff (f : World → (Value → World → Prop) → Prop)
def OpSem.bad : OpSem := .eff fun _ _ => False

def zeroOf (P : Program) (t : TypeId) : Option Value := (P.info? t).bind (·.zero)
def aggT (P : Program) (t : TypeId) : Option Bool :=
  match P.underlying t with
  | some (.struct _) | some (.array _ _) => some true
  | some _ => some false
  | none => none
def sizeT (P : Program) (t : TypeId) : Option Nat := (P.info? t).map (·.size)
def placeOf (P : Program) (t : TypeId) (i : Nat) : Option (Nat × Nat) :=
  match P.underlying t with
  | some (.struct fs) => (fs[i]?).bind fun f => (sizeT P f.type).map fun s => (f.offset, s)
  | some (.array _ e) => (sizeT P e).map fun s => (i * s, s)
  | _ => none
def placesAll (P : Program) (t : TypeId) : Bool :=
  match P.underlying t with
  | some (.struct fs) => fs.toList.all fun f => (sizeT P f.type).isSome
  | some (.array _ e) => (sizeT P e).isSome
  | _ => false
def partsOf (pl : Nat → Option (Nat × Nat)) (f : Operand → Value) : List (Nat × Operand) → Option (List (Nat × Nat × Value))
  | [] => some []
  | (i, x) :: rest =>
    match pl i, partsOf pl f rest with
    | some (o, s), some l => some ((o, s, f x) :: l)
    | _, _ => none
def isNilOp : Operand → Bool
  | .const (.pointer none) => true
  | _ => false
/-- an interface's value compared to the literal nil. -/
def ifNil (P : Program) (t : TypeId) (y : Operand) : Bool :=
  match P.underlying t, y with
  | some (.interface _), .const .nilIface => true
  | _, _ => false
def ifnilv (op : BinOp) (x y : Value) : Option Value :=
  match x, y with
  | .nilIface, .nilIface => binn op true
  | .iface _ _, .nilIface => binn op false
  | _, _ => none
def ptrCmp (P : Program) (t : TypeId) (x y : Operand) : Bool :=
  match P.underlying t with
  | some (.pointer e) =>
    match sizeT P e with
    | some (_ + 1) => !(isNilOp x || isNilOp y)
    | _ => false
  | _ => false
def keyKind (P : Program) (t : TypeId) : Option TypeDesc :=
  match P.underlying t with
  | some (.int k) => some (.int k)
  | some .string => some .string
  | some .bool => some .bool
  | _ => none

def semBuiltin (P : Program) (f : Operand → Value) (b : Builtin) (args : List Operand) (tys : List TypeId) : OpSem :=
  match b, args, tys with
  | .len, [x], [t] =>
    match P.underlying t with
    | some .string => .pure (lens (f x))
    | some (.slice _) => .pure (lenl (f x))
    | some (.map _ _) => .read fun w => mlenv w (f x)
    | _ => .bad
  | .cap, [x], [t] =>
    match P.underlying t with
    | some (.slice _) => .pure (capl (f x))
    | _ => .bad
  | .append, [s, x], [t, u] =>
    match P.underlying t with
    | some (.slice e) =>
      match P.info? e with
      | some i =>
        match i.zero with
        | some z =>
          match P.underlying u with
          | some (.slice _) | some .string => .eff fun w k => APPEND e i.size i.bytes z (f s) (f x) w k
          | _ => .bad
        | none => .bad
      | none => .bad
    | _ => .bad
  | .delete, [m, x], [t, _] =>
    match P.underlying t with
    | some (.map kt _) =>
      match keyKind P kt with
      | some kd => .eff fun w k => BND (mdel kd w (f m) (f x)) fun w' => k undef w'
      | none => .bad
    | _ => .bad
  | .clear, [x], [t] =>
    match P.underlying t with
    | some (.slice e) =>
      match zeroOf P e with
      | some z => .eff fun w k => BND (clearv z w (f x)) fun w' => k undef w'
      | none => .bad
    | _ => .bad
  | .min, [x, y], _ => .pure (min2v (f x) (f y))
  | .max, [x, y], _ => .pure (max2v (f x) (f y))
  | .max, [x, y, z], _ => .pure ((max2v (f x) (f y)).bind fun a => max2v a (f z))
  | .max, [x, y, z, u], _ => .pure ((max2v (f x) (f y)).bind fun a => (max2v a (f z)).bind fun b => max2v b (f u))
  | _, _, _ => .bad

def semCall (P : Program) (f : Operand → Value) (c : Call) : OpSem :=
  match c.callee with
  | .builtin b => semBuiltin P f b c.args.toList c.argTypes.toList
  | .value (.func g) => if okCallee P g then .eff fun w k => CALL P g (c.args.toList.map f) w k else if extAdd P g then .pure (add64v (c.args.toList.map f)) else .bad
  | .value fv => .eff fun w k => CALLV P (f fv) (c.args.toList.map f) w k
  | .invoke _ _ => .bad

def opSem (P : Program) (f : Operand → Value) (op : Op) : OpSem :=
  match op with
  | .move x | .assign x => .val (f x)
  | .pick c a b => .pure (pickv (f c) (f a) (f b))
  | .alloc T => match zeroOf P T with
    | some z => .eff fun w k => NEW (newv T w z) k
    | none => .bad
  | .box T x => .eff fun w k => NEW (newv T w (f x)) k
  | .build t parts => match zeroOf P t, placesAll P t, partsOf (placeOf P t) f parts.toList with
    | some z, true, some ps => .pure (buildv z.cells ps)
    | _, _, _ => .bad
  | .buildSlice t len parts => match P.underlying t with
    | some (.slice e) =>
      match P.info? e with
      | some i =>
        match i.zero, partsOf (fun j => some (j * i.size, i.size)) f parts.toList with
        | some z, some ps => if len * i.size ≤ 2 ^ 24 then .eff fun w k => BND (newslice e z.cells i.size len ps w) fun p => NEW p k else .bad
        | _, _ => .bad
      | none => .bad
    | _ => .bad
  | .load t a => match aggT P t, sizeT P t with
    | some true, some n => .read fun w => loadn n w (f a)
    | some false, _ => .read fun w => load1 w (f a)
    | _, _ => .bad
  | .store t a x => match sizeT P t with
    | some n => .eff fun w k => BND (storev n w (f a) (f x)) fun w' => k undef w'
    | none => .bad
  | .nilCheck x => .pure (nilchk (f x))
  | .binOp op t x y _ => match op with
    | .shl | .shr => .pure (shiftv op (f x) (f y))
    | _ => match eqFlat P t with
      | some ks => .pure (eqaggv ks op (f x) (f y))
      | none => if ptrCmp P t x y then .read fun w => ptrv w op (f x) (f y) else if ifNil P t y then .pure (ifnilv op (f x) (f y)) else .pure (binv (tkOf (P.underlying t)) op (f x) (f y))
  | .unOp op _ x => .pure (unv op (f x))
  | .convert src dst x => match P.underlying src, P.underlying dst with
    | some (.int _), some (.int k) => .pure (convi k (f x))
    | some (.int _), some .string => .pure (runev (f x))
    | some .string, some (.slice e) => match P.underlying e with
      | some (.int .i32) => .eff fun w k => RUNES e (f x) w k
      | some (.int .u8) => .eff fun w k => BYTES e (f x) w k
      | _ => .bad
    | some (.slice e), some .string => match P.underlying e with
      | some (.int .i32) => .read fun w => textv .i32 textOfRunes w (f x)
      | some (.int .u8) => .read fun w => textv .u8 textOfBytes w (f x)
      | _ => .bad
    | _, _ => .bad
  | .range t x => match P.underlying t with
    | some .string => .eff fun w k => BND (rangev w (f x)) fun p => NEW p k
    | some (.map _ _) => .eff fun w k => BND (rangemv w (f x)) fun p => NEW p k
    | _ => .bad
  | .next it true => .eff fun w k => BND (nexts w (f it)) fun p => NEW p k
  | .next it false => .eff fun w k => NEXTM (f it) w k
  | .entry it => .read fun w => entryv w (f it)
  | .makeSlice t l c => match P.underlying t with
    | some (.slice e) => match P.info? e with
      | some i => match i.zero with
        | some z => .eff fun w k => BND (mkslice e i.size i.bytes z w (f l) (f c)) fun p => NEW p k
        | none => .bad
      | none => .bad
    | _ => .bad
  | .makeInterface t x => match P.underlying t with
    | some (.interface _) => .bad
    | some _ => .val (.iface t (f x))
    | none => .bad
  | .makeFunc fn first captured => .val (.func fn (first.toList.map f).toArray (captured.toList.map f).toArray)
  | .makeMap _ none => .eff fun w k => NEW (newmap w) k
  | .slice t x lo hi none => match P.underlying t with
    | some .string => .pure (slices (f x) (lo.map f) (hi.map f))
    | some (.slice e) => match sizeT P e with
      | some n => .pure (slicev n (f x) (lo.map f) (hi.map f))
      | none => .bad
    | some (.array len e) => match sizeT P e with
      | some n => .pure (slicea len n (f x) (lo.map f) (hi.map f) none)
      | none => .bad
    | _ => .bad
  | .slice t x lo (some hi) (some mx) => match P.underlying t with
    | some (.slice e) => match sizeT P e with
      | some n => .pure (slicev3 n (f x) (lo.map f) (f hi) (f mx))
      | none => .bad
    | some (.array len e) => match sizeT P e with
      | some n => .pure (slicea len n (f x) (lo.map f) (some (f hi)) (some (f mx)))
      | none => .bad
    | _ => .bad
  | .mapEntry t m x => match P.underlying t with
    | some (.map kt e) => match keyKind P kt, zeroOf P e with
      | some kd, some z => .eff fun w k => BND (mentry kd z w (f m) (f x)) fun p => NEW p k
      | _, _ => .bad
    | _ => .bad
  | .entryStore _ m s v => .eff fun w k => BND (mestore w (f m) (f s) (f v)) fun w' => k undef w'
  | .fieldAddr s x i => match P.underlying s with
    | some (.struct fs) => match fs[i]? with
      | some fd => match sizeT P fd.type with
        | some (_ + 1) => .pure (faddr fd.offset (f x))
        | _ => .bad
      | none => .bad
    | _ => .bad
  | .field s x i => match P.underlying s with
    | some (.struct fs) => match fs[i]? with
      | some fd => match aggT P fd.type, sizeT P fd.type with
        | some true, some n => .pure (partn (f x) fd.offset n)
        | some false, _ => .pure (part1 (f x) fd.offset)
        | _, _ => .bad
      | none => .bad
    | _ => .bad
  | .indexAddr t x i => match P.underlying t with
    | some (.slice e) => match sizeT P e with
      | some n => .pure (iaddr n (f x) (f i))
      | none => .bad
    | some (.array len e) => match sizeT P e with
      | some n => .pure (iaddra len n (f x) (f i))
      | none => .bad
    | _ => .bad
  | .index t x i => match P.underlying t with
    | some .string => .pure (indexs (f x) (f i))
    | some (.array len e) => match aggT P e, sizeT P e with
      | some b, some n => .pure (indexav b len n (f x) (f i))
      | _, _ => .bad
    | _ => .bad
  | .lookup t m x ok => match P.underlying t with
    | some (.map kt e) => match keyKind P kt, zeroOf P e with
      | some kd, some z => .read fun w => lookv kd z ok w (f m) (f x)
      | _, _ => .bad
    | _ => .bad
  | .mapUpdate t m x v => match P.underlying t with
    | some (.map kt _) => match keyKind P kt with
      | some kd => .eff fun w k => BND (mupd kd w (f m) (f x) (f v)) fun w' => k undef w'
      | none => .bad
    | _ => .bad
  | .extract t i => .pure (extractv (f t) i)
  | .call c => semCall P f c
  | _ => .bad

/-! ## What the words say of a run -/
def Upon (P : Program) (k : Value → World → Prop) : Result Next → Prop
  | .ok (.value v) w => k v w
  | .ok .skip w => k undef w
  | .ok (.enter f args) w => Calls P f args w fun e w' => ∃ v, e = .returned v ∧ k v w'
  | _ => False
def OpSem.ok (P : Program) (s : Sem Next) : OpSem → Prop
  | .val v => ∀ w, s.run P w = .ok (.value v) w
  | .pure o => ∀ v, o = some v → ∀ w, s.run P w = .ok (.value v) w
  | .read f => ∀ w v, f w = some v → s.run P w = .ok (.value v) w
  | .eff f => (∀ w k, f w k → Upon P k (s.run P w)) ∧ (∀ w k k', (∀ v w, k v w → k' v w) → f w k → f w k')

section
variable {P : Program}
theorem ok_bad (s : Sem Next) : OpSem.bad.ok P s := ⟨fun _ _ h => h.elim, fun _ _ _ _ h => h.elim⟩
theorem ok_pure {s : Sem Value} {o : Option Value} (h : ∀ v, o = some v → ∀ w, s.run P w = .ok v w) :
    (OpSem.pure o).ok P (do pure (.value (← s))) := fun v hv w => by simp [h v hv w]
theorem ok_read {s : Sem Value} {f : World → Option Value} (h : ∀ w v, f w = some v → s.run P w = .ok v w) :
    (OpSem.read f).ok P (do pure (.value (← s))) := fun w v hv => by simp [h w v hv]

theorem BND_mono {α : Type} {o : Option α} {k k' : α → Prop} (h : ∀ v, k v → k' v) (hb : BND o k) : BND o k' := by
  obtain ⟨v, hv, hk⟩ := hb
  exact ⟨v, hv, h v hk⟩
theorem BND_iff {α : Type} {o : Option α} {k : α → Prop} : BND o k ↔ ∃ v, o = some v ∧ k v :=
  ⟨fun ⟨v, h, hk⟩ => ⟨v, h, hk⟩, fun ⟨v, h, hk⟩ => ⟨v, h, hk⟩⟩
@[simp] theorem BND_some {α : Type} (v : α) (k : α → Prop) : BND (some v) k ↔ k v := by
  rw [BND_iff]; simp

theorem run_typeInfo {t : TypeId} {i : TypeInfo} (h : P.info? t = some i) (w : World) : (typeInfo t).run P w = .ok i w := by
  simp [typeInfo, h]
theorem run_underlying {t : TypeId} {d : TypeDesc} (h : P.underlying t = some d) (w : World) : (underlying t).run P w = .ok d w := by
  simp [underlying, h]
theorem run_zeroValue {t : TypeId} {z : Value} (h : zeroOf P t = some z) (w : World) : (zeroValue t).run P w = .ok z w := by
  unfold zeroOf at h
  cases hi : P.info? t with
  | none => simp [hi] at h
  | some i => simp [hi] at h; simp [zeroValue, run_typeInfo hi, h]
theorem run_sizeOf {t : TypeId} {n : Nat} (h : sizeT P t = some n) (w : World) : (sizeOf t).run P w = .ok n w := by
  unfold sizeT at h
  cases hi : P.info? t with
  | none => simp [hi] at h
  | some i => simp [hi] at h; simp [sizeOf, run_typeInfo hi, h]
theorem run_isAgg {t : TypeId} {b : Bool} (h : aggT P t = some b) (w : World) : (isAgg t).run P w = .ok b w := by
  unfold aggT at h
  unfold isAgg
  cases hu : P.underlying t with
  | none => simp [hu] at h
  | some d => cases d <;> simp [hu] at h <;> simp [run_underlying hu, h] <;> exact h

theorem run_load_some {w : World} {a : Addr} {v : Value} (h : w.cell? a = some v) : (load a).run P w = .ok v w := by
  simp [h]
theorem run_loadCellsFrom {w : World} (a : Addr) : ∀ (n i : Nat) (acc : Array Value) (vs : List Value), loads w a i n = some vs →
    (loadCellsFrom a i n acc).run P w = .ok (acc ++ vs.toArray) w := by
  intro n
  induction n with
  | zero => intro i acc vs h; simp [loads] at h; subst h; simp [loadCellsFrom]
  | succ n ih =>
    intro i acc vs h
    simp only [loads] at h
    cases hc : w.cell? (a.add i) with
    | none => simp [hc] at h
    | some v =>
      cases hl : loads w a (i + 1) n with
      | none => simp [hc, hl] at h
      | some us =>
        simp [hc, hl] at h
        subst h
        simp only [loadCellsFrom, Sem.run_bind, run_load_some hc, Result.andThen_ok]
        rw [ih _ _ _ hl]
        simp
theorem run_storeCells (a : Addr) : ∀ (vs : List Value) (i : Nat) (w w' : World), stores w a i vs = some w' →
    (storeCells a vs i).run P w = .ok () w' := by
  intro vs
  induction vs with
  | nil => intro i w w' h; simp [stores] at h; subst h; simp [storeCells]
  | cons v vs ih =>
    intro i w w' h
    simp only [stores] at h
    cases h1 : v.oneCell' with
    | false => simp [h1] at h
    | true =>
      cases hc : w.cell? (a.add i) with
      | none => simp [h1, hc] at h
      | some u =>
        cases hf : w.frozen? (a.add i) with
        | true => simp [h1, hc, hf] at h
        | false =>
          simp [h1, hc, hf] at h
          simp only [storeCells, Sem.run_bind, run_store P w _ v _ h1, hc, hf]
          simpa using ih _ _ _ h
end

end Go.Den
