/- What each operation asks and gives, as a formula: 'opK o K' says that the operation can be carried out, and that K holds of its result and of its update. -/
import Derived.Test.YthcpekjcnokonaaAm3
namespace Go.AM

abbrev Env := Operand → Option AV

/-- A test that is known goes one way; else each way is asked for. -/
def brP (x : Bool) (A B : Prop) : Prop := match x with
  | true => A
  | false => B

def optK (v : Option AV) (K : AV → Prop) : Prop :=
  match v with
  | some v => K v
  | none => False

def strEq (x y : ByteArray) : Bool := decide (x = y)

def intK (op : BinOp) (k : IntKind) (x y : Int) (K : AV → Prop) : Prop :=
  match op with
  | .add => K (.i k (k.wrap (x + y)))
  | .sub => K (.i k (k.wrap (x - y)))
  | .mul => K (.i k (k.wrap (x * y)))
  | .quo => y ≠ 0 ∧ K (.i k (k.wrap (x.tdiv y)))
  | .rem => y ≠ 0 ∧ K (.i k (x.tmod y))
  | .and => K (.i k (k.wrap ((BitVec.ofInt k.bits x &&& BitVec.ofInt k.bits y).toNat)))
  | .or => K (.i k (k.wrap ((BitVec.ofInt k.bits x ||| BitVec.ofInt k.bits y).toNat)))
  | .xor => K (.i k (k.wrap ((BitVec.ofInt k.bits x ^^^ BitVec.ofInt k.bits y).toNat)))
  | .eql => K (.b (decide (x = y)))
  | .neq => K (.b (!decide (x = y)))
  | .lss => K (.b (decide (x < y)))
  | .leq => K (.b (decide (x ≤ y)))
  | .gtr => K (.b (decide (x > y)))
  | .geq => K (.b (decide (x ≥ y)))
  | _ => False

def strK (op : BinOp) (x y : ByteArray) (K : AV → Prop) : Prop :=
  match op with
  | .add => x.size + y.size ≤ 9223372036854775807 ∧ K (.s (x ++ y))
  | .eql => K (.b (strEq x y))
  | .neq => K (.b (!strEq x y))
  | .lss => K (.b (Op.bytesLess x.toList y.toList))
  | .leq => K (.b (Op.bytesLess x.toList y.toList || strEq x y))
  | .gtr => K (.b (!(Op.bytesLess x.toList y.toList || strEq x y)))
  | .geq => K (.b (!Op.bytesLess x.toList y.toList))
  | _ => False

/-- '==' of two values of a type, cell by cell. -/
def partAV (P : Program) (t : TypeId) (cs : List AV) (off : Nat) : Option (List AV) :=
  match sizeT P t with
  | some sz => bif Nat.ble (off + sz) cs.length then some ((cs.drop off).take sz) else none
  | none => none
def eqFieldsAV (E : TypeId → List AV → List AV → Option Bool) (P : Program) (xs ys : List AV) : List Field → Option Bool
  | [] => some true
  | f :: r =>
    bif decide (f.name ≠ "_") then
      match partAV P f.type xs f.offset, partAV P f.type ys f.offset with
      | some a, some b => match E f.type a b, eqFieldsAV E P xs ys r with
        | some p, some q => some (p && q)
        | _, _ => none
      | _, _ => none
    else eqFieldsAV E P xs ys r
def eqAV (P : Program) : Nat → TypeId → List AV → List AV → Option Bool
  | 0, _, _, _ => none
  | n + 1, t, xs, ys =>
    match P.underlying t with
    | some (.int _) => match xs, ys with
      | [.i k a], [.i k' b] => bif decide (k = k') then some (decide (a = b)) else none
      | _, _ => none
    | some .string => match xs, ys with
      | [.s a], [.s b] => some (strEq a b)
      | _, _ => none
    | some .bool => match xs, ys with
      | [.b a], [.b b] => some (a == b)
      | _, _ => none
    | some (.struct fs) => bif P.stoodInHeld t then none else eqFieldsAV (eqAV P n) P xs ys fs.toList
    | _ => none

def binK (P : Program) (op : BinOp) (xt : TypeId) (a b : AV) (K : AV → Prop) : Prop :=
  match a, b with
  | .i k x, .i k' y =>
    match op with
    | .shl => 0 ≤ y ∧ K (.i k (k.wrap (x * 2 ^ (min y.toNat k.bits))))
    | .shr => 0 ≤ y ∧ K (.i k (x.fdiv (2 ^ (min y.toNat k.bits))))
    | _ => bif decide (k = k') then intK op k x y K else False
  | .s x, .s y => strK op x y K
  | .b x, .b y =>
    match P.underlying xt with
    | some .bool => match op with
      | .eql => K (.b (x == y))
      | .neq => K (.b (!(x == y)))
      | _ => False
    | _ => False
  | .ag xs, .ag ys =>
    bif P.eqGuardType P.depth xt then False else
    match aggT P xt, eqAV P 50 xt xs ys with
    | some true, some r => match op with
      | .eql => K (.b r)
      | .neq => K (.b (!r))
      | _ => False
    | _, _ => False
  | _, _ => False

/-- The rows that a slice's value holds. -/
def elemsOf (F : Nat → Option Blk) : AV → Option (Nat × List (List AV))
  | .sl ys => some (0, ys)
  | .nil => some (0, [])
  | .sle => some (0, [])
  | .own m => match F m with
    | some (.row _ sz ys) => some (sz, ys)
    | _ => none
  | .row m sz off len => match F m with
    | some (.row _ sz' ys) => bif Nat.beq sz sz' then some (sz, (ys.drop off).take len) else none
    | _ => none
  | _ => none

def lenK (P : Program) (t : TypeId) (F : Nat → Option Blk) (x : AV) (K : AV → Prop) : Prop :=
  match x, P.underlying t with
  | .sl xs, some (.slice _) => K (.i .i64 xs.length)
  | .nil, some (.slice _) => K (.i .i64 0)
  | .s x, some .string => K (.i .i64 x.size)
  | .own n, some (.slice _) => match F n with
    | some (.row _ _ xs) => K (.i .i64 xs.length)
    | _ => False
  | .row _ _ _ len, some (.slice _) => K (.i .i64 len)
  | _, _ => False

/-- The bounds of a cut: both are optional. -/
def boundK (lo hi : Option AV) (len : Nat) (K : Nat → Nat → Prop) : Prop :=
  match lo, hi with
  | none, none => K 0 len
  | some (.i _ l), none => 0 ≤ l ∧ l ≤ len ∧ K l.toNat len
  | none, some (.i _ h) => 0 ≤ h ∧ h ≤ len ∧ K 0 h.toNat
  | some (.i _ l), some (.i _ h) => 0 ≤ l ∧ l ≤ h ∧ h ≤ len ∧ K l.toNat h.toNat
  | _, _ => False

def sliceK (P : Program) (t : TypeId) (F : Nat → Option Blk) (x : AV) (lo hi : Option AV) (K : AV → Prop) : Prop :=
  match x, P.underlying t with
  | .s s, some .string => boundK lo hi s.size fun l h => K (.s (s.extract l h))
  | .sl xs, some (.slice e) => match sizeT P e with
    | some sz => boundK lo hi xs.length fun l h => (∀ x ∈ xs, x.length = sz) ∧ K (.sl ((xs.take h).drop l))
    | none => False
  | .own n, some (.slice e) => match F n, sizeT P e with
    | some (.row _ sz xs), some sz' => bif Nat.beq sz sz' then boundK lo hi xs.length fun l h => K (.row n sz l (h - l)) else False
    | _, _ => False
  | .row n sz off len, some (.slice e) => match sizeT P e with
    | some sz' => bif Nat.beq sz sz' then boundK lo hi len fun l h => K (.row n sz (off + l) (h - l)) else False
    | none => False
  | _, _ => False

def loadK (P : Program) (t : TypeId) (F : Nat → Option Blk) (x : AV) (K : AV → Prop) : Prop :=
  match sizeT P t, aggT P t with
  | some sz, some ag =>
    match x with
    | .pp cs => bif Nat.ble sz cs.length then (match ofCells ag (cs.take sz) with | some v => K v | none => False) else False
    | .ptr n off => match F n with
      | some (.cells cs) => bif Nat.ble (off + sz) cs.length then (match ofCells ag ((cs.drop off).take sz) with | some v => K v | none => False) else False
      | _ => False
    | .eptr n sz' j off => match F n with
      | some (.row _ sz0 xs) => bif Nat.beq sz' sz0 then exCells P 50 t fun cs => (∃ el, xs[j]? = some el ∧ (el.drop off).take sz = cs ∧ cs.length = sz) ∧ (match ofCells ag cs with | some v => K v | none => False) else False
      | _ => False
    | _ => False
  | _, _ => False

def storeK (P : Program) (t : TypeId) (F : Nat → Option Blk) (x v : AV) (K : Upd → Prop) : Prop :=
  match sizeT P t, cellsOf v with
  | some sz, some cs =>
    bif Nat.beq cs.length sz then
      match x with
      | .ptr n off => match F n with
        | some (.cells old) => bif Nat.ble (off + sz) old.length then K (.put n (.cells (splice old off cs))) else False
        | _ => False
      | .eptr n sz' j off => match F n with
        | some (.row e sz0 xs) => bif Nat.beq sz' sz0 && cs.all pureV then ∃ el, xs[j]? = some el ∧ off + sz ≤ el.length ∧ K (.put n (.row e sz0 (xs.set j (splice el off cs)))) else False
        | _ => False
      | _ => False
    else False
  | _, _ => False

def indexAddrK (P : Program) (t : TypeId) (F : Nat → Option Blk) (x ix : AV) (K : AV → Prop) : Prop :=
  match P.underlying t, ix with
  | some (.slice e), .i _ i => match sizeT P e with
    | some sz => match x with
      | .sl xs => 0 ≤ i ∧ i < xs.length ∧ exCells P 50 e fun cs => xs[i.toNat]? = some cs ∧ cs.length = sz ∧ K (.pp cs)
      | .own n => match F n with
        | some (.row _ sz' xs) => bif Nat.beq sz sz' then 0 ≤ i ∧ i < xs.length ∧ K (.eptr n sz i.toNat 0) else False
        | _ => False
      | .row n sz' off len => bif Nat.beq sz sz' then 0 ≤ i ∧ i < len ∧ K (.eptr n sz (off + i.toNat) 0) else False
      | _ => False
    | none => False
  | _, _ => False

/-- A literal: the parts are laid over the zero value. -/
def fillAV (place : Nat → Option (Nat × Nat)) (ρ : Env) : List (Nat × Operand) → List AV → Option (List AV)
  | [], cs => some cs
  | (j, x) :: r, cs =>
    match place j, (ρ x).bind cellsOf with
    | some (off, sz), some v => bif Nat.beq v.length sz && Nat.ble (off + sz) cs.length then fillAV place ρ r (splice cs off v) else none
    | _, _ => none
def structPlace (P : Program) (fs : Array Field) (j : Nat) : Option (Nat × Nat) :=
  match fs[j]? with
  | some f => (sizeT P f.type).map fun sz => (f.offset, sz)
  | none => none

def chunks (sz : Nat) : Nat → List AV → List (List AV)
  | 0, _ => []
  | n + 1, l => l.take sz :: chunks sz n (l.drop sz)

def appendK (P : Program) (nm : Nat) (t : TypeId) (F : Nat → Option Blk) (s x : AV) (K : AV → Upd → Prop) : Prop :=
  match elemT P t with
  | some e => match P.info? e, zeroCells P e, elemsOf F x with
    | some i, some z, some (_, ys) =>
      bif Nat.beq z.length i.size && Nat.blt 0 i.size then
        match s with
        | .nil => ys.length * i.bytes ≤ 140737488355328 ∧ ys.length ≤ 9223372036854775807 ∧ (∀ y ∈ ys, y.length = i.size) ∧ K (.own nm) (.new (.row e i.size ys))
        | .own n => match F n with
          | some (.row e' sz xs) =>
            bif Nat.beq e e' && Nat.beq i.size sz then
              (xs.length + ys.length) * i.bytes ≤ 140737488355328 ∧ xs.length + ys.length ≤ 9223372036854775807 ∧ (∀ y ∈ ys, y.length = i.size) ∧ K (.own nm) (.app n (.row e sz (xs ++ ys)))
            else False
          | _ => False
        | _ => False
      else False
    | _, _, _ => False
  | none => False

/-! ### Maps with keys that are strings or integers -/
def keyOk (k a : AV) : Bool :=
  match k, a with
  | .s _, .s _ => true
  | .i x _, .i y _ => decide (x = y)
  | _, _ => false
def keyEq (k a : AV) : Bool :=
  match k, a with
  | .s x, .s y => strEq x y
  | .i _ x, .i _ y => decide (x = y)
  | _, _ => false
def mfind (k : AV) : List (AV × AV) → Nat → Option (Nat × AV)
  | [], _ => none
  | (a, v) :: r, i => bif keyEq k a then some (i, v) else mfind k r (i + 1)
def mget (k : AV) (es : List (AV × AV)) : Option AV := (mfind k es 0).map (·.2)
def mset (k v : AV) (es : List (AV × AV)) : List (AV × AV) :=
  match mfind k es 0 with
  | some (j, _) => es.set j (k, v)
  | none => es ++ [(k, v)]
def keyKind (d : TypeDesc) (k : AV) : Bool :=
  match d, k with
  | .string, .s _ => true
  | .int x, .i y _ => decide (y = x)
  | _, _ => false
def exVal (P : Program) (t : TypeId) (K : AV → Prop) : Prop :=
  match aggT P t with
  | some true => exCells P 50 t fun cs => K (.ag cs)
  | _ => exCells P 50 t fun cs => match cs with
    | [v] => K v
    | _ => False
def zeroAV (P : Program) (e : TypeId) : Option AV :=
  match P.info? e with
  | some i => match i.zero with
    | some (.agg cs) => (ofConsts cs.toList).map .ag
    | some z => ofConst z
    | none => none
  | none => none
def lookupK (P : Program) (t : TypeId) (F : Nat → Option Blk) (m k : AV) (ok : Bool) (K : AV → Prop) : Prop :=
  match P.underlying t, m with
  | some (.map kt e), .mp n => match F n, P.underlying kt, zeroAV P e with
    | some (.map _ es), some kd, some z =>
      bif keyKind kd k then (∀ p ∈ es, keyOk k p.1 = true) ∧ exVal P e fun v => (mget k es).getD z = v ∧ K (bif ok then .tup [v, .b (mget k es).isSome] else v)
      else False
    | _, _, _ => False
  | _, _ => False
def mapUpdateK (P : Program) (t : TypeId) (F : Nat → Option Blk) (m k v : AV) (K : Upd → Prop) : Prop :=
  match P.underlying t, m with
  | some (.map kt _), .mp n => match F n, P.underlying kt with
    | some (.map t' es), some kd => bif keyKind kd k && pureV v then (∀ p ∈ es, keyOk k p.1 = true) ∧ K (.put n (.map t' (mset k v es))) else False
    | _, _ => False
  | _, _ => False

def opK (P : Program) (o : Oper) (nm : Nat) (ρ : Env) (F : Nat → Option Blk) (K : AV → Upd → Prop) : Prop :=
  match o.op with
  | .move x | .assign x => match ρ x with
    | some v => K v .none
    | none => False
  | .pick c a b => match ρ c with
    | some (.b t) => brP t (optK (ρ a) fun v => K v .none) (optK (ρ b) fun v => K v .none)
    | _ => False
  | .alloc t => match zeroCells P t with
    | some cs => K (.ptr nm 0) (.new (.cells cs))
    | none => False
  | .box _ x => match (ρ x).bind cellsOf with
    | some cs => K (.ptr nm 0) (.new (.cells cs))
    | none => False
  | .build t parts => match P.underlying t, zeroCells P t with
    | some (.struct fs), some z => bif fs.toList.all (fun f => (sizeT P f.type).isSome) then (match fillAV (structPlace P fs) ρ parts.toList z with
      | some cs => K (.ag cs) .none
      | none => False) else False
    | _, _ => False
  | .buildSlice t len parts => match elemT P t with
    | some e => match sizeT P e, zeroCells P e with
      | some sz, some z => bif Nat.blt 0 sz && Nat.ble (len * sz) 16777216 && Nat.beq z.length sz then
          match fillAV (fun i => some (i * sz, sz)) ρ parts.toList ((List.replicate len z).flatten) with
          | some cs => bif cs.all pureV then K (.own nm) (.new (.row e sz (chunks sz len cs))) else False
          | none => False
        else False
      | _, _ => False
    | none => False
  | .load t x => match ρ x with
    | some v => loadK P t F v fun r => K r .none
    | none => False
  | .store t x v => match ρ x, ρ v with
    | some a, some b => storeK P t F a b fun r => K .u r
    | _, _ => False
  | .nilCheck x => match ρ x with
    | some (.ptr n off) => K (.ptr n off) .none
    | some (.eptr n sz j off) => K (.eptr n sz j off) .none
    | some (.pp cs) => K (.pp cs) .none
    | some (.fn f a b) => K (.fn f a b) .none
    | _ => False
  | .binOp op t x y _ => match ρ x, ρ y with
    | some a, some b => binK P op t a b fun r => K r .none
    | _, _ => False
  | .unOp op _ x => match op, ρ x with
    | .neg, some (.i k n) => K (.i k (k.wrap (0 - n))) .none
    | .not, some (.b t) => K (.b (!t)) .none
    | _, _ => False
  | .convert s d x => match P.underlying s, P.underlying d, ρ x with
    | some _, some (.int k), some (.i _ n) => K (.i k (k.wrap n)) .none
    | some _, some .string, some (.s t) => K (.s t) .none
    | _, _, _ => False
  | .makeFunc (.func f) first caps => match (first.toList.mapM ρ), (caps.toList.mapM ρ) with
    | some a, some b => K (.fn f a b) .none
    | _, _ => False
  | .makeSlice t l c => match elemT P t, ρ l, ρ c with
    | some e, some (.i _ n), some (.i _ m) => match P.info? e, zeroCells P e with
      | some i, some z => i.size = z.length ∧ 0 ≤ n ∧ n ≤ m ∧ m ≤ 9223372036854775807 ∧ (i.bytes : Int) * m ≤ 281474976710656 ∧ K (.own nm) (.new (.row e i.size (List.replicate n.toNat z)))
      | _, _ => False
    | _, _, _ => False
  | .slice t x lo hi none => match ρ x with
    | some v =>
      match lo.map ρ, hi.map ρ with
      | some none, _ => False
      | _, some none => False
      | l, h => sliceK P t F v l.join h.join fun r => K r .none
    | none => False
  | .fieldAddr s x f => match fieldT P s f with
    | some (off, ft) => match sizeT P ft with
      | some (_ + 1) => match ρ x with
        | some (.ptr n o) => K (.ptr n (o + off)) .none
        | some (.eptr n sz j o) => K (.eptr n sz j (o + off)) .none
        | some (.pp cs) => bif Nat.ble off cs.length then K (.pp (cs.drop off)) .none else False
        | _ => False
      | _ => False
    | none => False
  | .field s x f => match fieldT P s f, ρ x with
    | some (off, ft), some (.ag cs) => match sizeT P ft, aggT P ft with
      | some sz, some ag => bif Nat.ble (off + sz) cs.length then (match ofCells ag ((cs.drop off).take sz) with | some v => K v .none | none => False) else False
      | _, _ => False
    | _, _ => False
  | .indexAddr t x i => match ρ x, ρ i with
    | some a, some b => indexAddrK P t F a b fun r => K r .none
    | _, _ => False
  | .index t x i => match P.underlying t, ρ x, ρ i with
    | some .string, some (.s s), some (.i _ n) => 0 ≤ n ∧ ∃ c, s[n.toNat]? = some c ∧ K (.i .u8 c.toNat) .none
    | _, _, _ => False
  | .extract x i => match ρ x with
    | some (.tup vs) => match vs[i]? with
      | some v => K v .none
      | none => False
    | _ => False
  | .makeMap t none => match P.underlying t with
    | some (.map _ _) => K (.mp nm) (.new (.map t []))
    | _ => False
  | .lookup t m k ok => match ρ m, ρ k with
    | some a, some b => lookupK P t F a b ok fun r => K r .none
    | _, _ => False
  | .mapUpdate t m k v => match ρ m, ρ k, ρ v with
    | some a, some b, some c => mapUpdateK P t F a b c fun r => K .u r
    | _, _, _ => False
  | .call c => match c.callee with
    | .builtin .len => match c.argTypes[0]?, c.args.toList with
      | some t, [x] => match ρ x with
        | some v => lenK P t F v fun r => K r .none
        | none => False
      | _, _ => False
    | .builtin .append => match c.argTypes.toList, c.args.toList with
      | [t, t'], [s, x] => bif Nat.beq t t' then (match ρ s, ρ x with
        | some a, some b => appendK P nm t F a b K
        | _, _ => False) else False
      | _, _ => False
    | .builtin .min => match c.args.toList with
      | [x, y] => match ρ x, ρ y with
        | some (.i k a), some (.i _ b) => K (.i k (if b < a then b else a)) .none
        | _, _ => False
      | _ => False
    | .builtin .max => match c.args.toList with
      | [x, y] => match ρ x, ρ y with
        | some (.i k a), some (.i _ b) => K (.i k (if a < b then b else a)) .none
        | _, _ => False
      | _ => False
    | _ => False
  | _ => False

end Go.AM
