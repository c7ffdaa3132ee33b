/- Part 0 of the proof: lemmas that the row of the law leans on; nothing is assumed. -/
import Derived.KernelRfl
import Derived.Laws.Append
import Derived.Laws.AppendOwn
import Derived.Laws.CopyRow
import Derived.Laws.Externs
import Derived.Laws.MakeOwn
import Derived.Laws.Slices
import Derived.Lib.AppendZerosOnto
import Derived.Orders
namespace Go.Am

/-- What may be done with a row of the abstract heap: W: written and grown; T: grown alone; R: read alone. -/
inductive AMode where
  | W | T | R
  deriving DecidableEq

/-- A block of the abstract heap. -/
inductive ABlk where
  | row (cs : List Value) (e : Nat) (m : AMode)
  | dead

abbrev AHeap := Array ABlk

/-- What a slot holds: a value; the place in a local box; a fresh row that the heap doesn't have yet. -/
inductive AV where
  | v (x : Value)
  | l (k off : Nat)
  | imm (cs : List Value) (e n : Nat)

structure AFr where
  tmps : List (Nat × AV)
  boxes : List (Nat × List Value)

def AFr.get (f : AFr) (t : Nat) : Option AV := f.tmps.lookup t
def AFr.box (f : AFr) (k : Nat) : Option (List Value) := f.boxes.lookup k
def AFr.put (f : AFr) (d : Option Nat) (x : AV) : AFr :=
  match d with
  | some t => ⟨(t, x) :: f.tmps, f.boxes⟩
  | none => f

def AFr.ev (f : AFr) : Operand → Option AV
  | .tmp t => f.get t
  | .const c => some (.v c)
  | .func g => some (.v (.func (.func g) #[] #[]))
  | .global _ => none

def AV.val : AV → Option Value
  | .v x => some x
  | _ => none

def AFr.evV (f : AFr) (x : Operand) : Option Value := (f.ev x).bind AV.val

def oneCell : Value → Bool
  | .agg _ | .tuple _ => false
  | _ => true

/-- Values without an address in them. -/
def flat : Value → Bool
  | .bool _ | .int _ _ | .float _ _ | .string _ | .pointer none | .slice none _ _ | .nilIface | .nilFunc | .map none => true
  | _ => false

/-- The operations. -/
inductive SOp where
  | mov (x : Operand)
  | pick (c a b : Operand)
  | lalloc (zs : List Value)
  | lbox (x : Operand)
  | halloc (zs : List Value)
  | hbox (x : Operand)
  | build (zs : List Value) (ps : List (Nat × Nat × Operand))
  | bslice (e : Nat) (zs : List Value) (n : Nat) (ps : List (Nat × Operand))
  | bimm (e : Nat) (zs : List Value) (n : Nat) (ps : List (Nat × Operand))
  | load (n : Option Nat) (a : Operand)
  | store (n : Option Nat) (a x : Operand)
  | nilchk (x : Operand)
  | bin (op : BinOp) (ek : Nat) (ty : TypeId) (x y : Operand)
  | un (op : UnOp) (x : Operand)
  | conv (k : IntKind) (x : Operand)
  | mkif (t : TypeId) (x : Operand)
  | mkfn (fn : Fn) (cap : List Operand)
  | slc (e : Nat) (x : Operand) (lo hi mx : Option Operand)
  | sslc (x : Operand) (lo hi : Option Operand)
  | faddr (off : Nat) (x : Operand)
  | fld (off : Nat) (n : Option Nat) (x : Operand)
  | iaddr (e : Nat) (x i : Operand)
  | sidx (x i : Operand)
  | ext (x : Operand) (i : Nat)
  | len (x : Operand)
  | slen (x : Operand)
  | mx (x y : Operand)
  | mn (x y : Operand)
  | app (e bytes : Nat) (keep : Bool) (s x : Operand)
  | cpy (e : Nat) (d s : Operand)
  | mk (e bytes : Nat) (zs : List Value) (len cap : Operand)
  | capx (x : Operand)
  | clr (e : Nat) (zs : List Value) (x : Operand)
  /-- the beginning of a list of one's own, which is read no more as it was. -/
  | trunc (e : Nat) (x hi : Operand)
  /-- so many zero values behind a slice that has no room for them. -/
  | appz (e bytes : Nat) (zs : List Value) (s x : Operand)
  /-- do two slices share memory? (The function has no text of its own.) -/
  | ovl (g : Nat) (x y : Operand)
  | call (g : Nat) (xs : List Operand)
  | callv (g : Operand) (xs : List Operand)
  | inv (r : Operand) (tbl : List (TypeId × Nat)) (xs : List Operand)
  /-- what no run of the machine does. -/
  | bad

structure SI where
  dst : Option Nat
  op : SOp
  guard : Option (Nat × Bool)

inductive SC where
  | skip
  | reg (l : List SI)
  | dreg (l : List SI) (pairs : List (Nat × Nat))
  | seq (a b : SC)
  | cond (c : Operand) (a b : SC)
  | block (id : Nat) (b : SC)
  | loop (b : SC)
  | exit (id : Nat)
  | ret
  | keep (ts bs : List Nat)

/-- What an operation touches beside its slots. -/
inductive Lab where
  | p | lr (k : Nat) | lw (k : Nat) | hr | hw | he
  deriving DecidableEq

def Lab.compat : Lab → Lab → Bool
  | .p, _ | _, .p => true
  | .lr _, .lr _ => true
  | .lr j, .lw k | .lw j, .lr k | .lw j, .lw k => j != k
  | .hr, .hr => true
  | .hr, .he => true
  | .hr, .hw | .hw, .hr | .hw, .hw | .he, .hr | .he, .hw | .hw, .he | .he, .he => false
  | _, _ => true

/-- A heap that has grown: what there was is there. -/
def AHeap.ext (σ τ : AHeap) : Prop := σ.size ≤ τ.size ∧ ∀ b, b < σ.size → τ[b]? = σ[b]?

def b2i (b : Bool) : Value := .bool b

/-- == of values without addresses, and of nil with what may be nil; the first number: 1 bools, 2 pointers, 3 slices, 4 functions, 5 interfaces. -/
def aEq : Nat → Value → Value → Option Bool
  | 1, .bool a, .bool b => some (a == b)
  | 2, .pointer none, .pointer b => some b.isNone
  | 2, .pointer (some _), .pointer none => some false
  | 3, .slice none _ _, .slice b _ _ => some b.isNone
  | 3, .slice (some _) _ _, .slice none _ _ => some false
  | 4, .nilFunc, .nilFunc => some true
  | 4, .nilFunc, .func .. => some false
  | 4, .func .., .nilFunc => some false
  | 5, .nilIface, .nilIface => some true
  | 5, .iface _ _, .nilIface => some false
  | 5, .nilIface, .iface _ _ => some false
  | _, _, _ => none

def aBin (op : BinOp) (ek : Nat) (x y : Value) : Option Value :=
  match x, y with
  | .int k a, .int k' b =>
    match op with
    | .shl => if b < 0 then none else some (.int k (k.wrap (a * 2 ^ (min b.toNat k.bits))))
    | .shr => if b < 0 then none else some (.int k (a.fdiv (2 ^ (min b.toNat k.bits))))
    | .add => if k = k' then some (.int k (k.wrap (a + b))) else none
    | .sub => if k = k' then some (.int k (k.wrap (a - b))) else none
    | .mul => if k = k' then some (.int k (k.wrap (a * b))) else none
    | .quo => if k = k' ∧ b ≠ 0 then some (.int k (k.wrap (a.tdiv b))) else none
    | .rem => if k = k' ∧ b ≠ 0 then some (.int k (a.tmod b)) else none
    | .eql => if k = k' then some (.bool (a == b)) else none
    | .neq => if k = k' then some (.bool (a != b)) else none
    | .lss => if k = k' then some (.bool (decide (a < b))) else none
    | .leq => if k = k' then some (.bool (decide (a ≤ b))) else none
    | .gtr => if k = k' then some (.bool (decide (a > b))) else none
    | .geq => if k = k' then some (.bool (decide (a ≥ b))) else none
    | _ => none
  | .string a, .string b =>
    match op with
    | .add => if ((a.size + b.size : Nat) : Int) > IntKind.i64.max then none else some (.string (a ++ b))
    | .eql => some (.bool (a.toList == b.toList))
    | .neq => some (.bool !(a.toList == b.toList))
    | .lss => some (.bool (Op.bytesLess a.toList b.toList))
    | .leq => some (.bool (Op.bytesLess a.toList b.toList || a.toList == b.toList))
    | .gtr => some (.bool !(Op.bytesLess a.toList b.toList || a.toList == b.toList))
    | .geq => some (.bool !(Op.bytesLess a.toList b.toList))
    | _ => none
  | x, y =>
    match op with
    | .eql => (aEq ek x y).map .bool
    | .neq => (aEq ek x y).map fun b => .bool !b
    | _ => none

def aUn : UnOp → Value → Option Value
  | .not, .bool b => some (.bool !b)
  | .neg, .int k n => some (.int k (k.wrap (0 - n)))
  | _, _ => none

/-- Parts laid into cells. -/
def fillP : List Value → List (Nat × Nat × Value) → Option (List Value)
  | cs, [] => some cs
  | cs, (off, n, v) :: r =>
    if v.cells.size = n ∧ off + n ≤ cs.length ∧ v.cells.toList.all oneCell then fillP (cs.take off ++ v.cells.toList ++ cs.drop (off + n)) r else none

def evParts (f : AFr) : List (Nat × Nat × Operand) → Option (List (Nat × Nat × Value))
  | [] => some []
  | (o, n, x) :: r => (f.evV x).bind fun v => (evParts f r).bind fun l => some ((o, n, v) :: l)

def evElems (f : AFr) (e : Nat) : List (Nat × Operand) → Option (List (Nat × Nat × Value))
  | [] => some []
  | (i, x) :: r => (f.evV x).bind fun v => (evElems f e r).bind fun l => some ((i * e, e, v) :: l)

def evAll (f : AFr) : List Operand → Option (List Value)
  | [] => some []
  | x :: r => (f.evV x).bind fun v => (evAll f r).bind fun l => some (v :: l)

/-- The arguments of a call: a fresh row becomes a row of the heap that is read alone. -/
def evArgs (f : AFr) : List Operand → AHeap → Option (List Value × AHeap)
  | [], σ => some ([], σ)
  | x :: r, σ => match f.ev x with
    | some (.v v) => (evArgs f r σ).bind fun (l, σ') => some (v :: l, σ')
    | some (.imm cs e n) => (evArgs f r (σ.push (.row cs e .R))).bind fun (l, σ') => some (.slice (some ⟨σ.size, 0, none⟩) n (n + e) :: l, σ')
    | _ => none

def zeros (zs : List Value) : Nat → List Value
  | 0 => []
  | n + 1 => zs ++ zeros zs n

/-- A part of cells as a value. -/
def cut (n : Option Nat) (cs : List Value) (off : Nat) : Option Value :=
  match n with
  | some n => if off + n ≤ cs.length then some (.agg ((cs.drop off).take n).toArray) else none
  | none => cs[off]?

def splice (cs : List Value) (off : Nat) (vs : List Value) : List Value := cs.take off ++ vs ++ cs.drop (off + vs.length)

/-- The cells of a value that is stored: so many, each of one cell. -/
def cellsOf (n : Option Nat) (v : Value) : Option (List Value) :=
  match n, v with
  | some n, .agg cs => if cs.size = n ∧ cs.toList.all oneCell then some cs.toList else none
  | some _, _ => none
  | none, v => if oneCell v then some [v] else none

def intOf? : Value → Option Int
  | .int _ n => some n
  | _ => none

def bnd (f : AFr) (x : Option Operand) (dflt : Nat) (most : Nat) : Option Nat :=
  match x with
  | none => some dflt
  | some o => (f.evV o).bind fun v => (intOf? v).bind fun n => if 0 ≤ n ∧ n ≤ most then some n.toNat else none

def AFr.setb (f : AFr) (u : Option (Nat × List Value)) : AFr :=
  match u with
  | some p => ⟨f.tmps, p :: f.boxes⟩
  | none => f

/-- What is appended: cells, how many elements. -/
def srcOf (f : AFr) (σ : AHeap) (e : Nat) (x : Operand) : Option (List Value × Nat) :=
  match f.ev x with
  | some (.v (.slice none 0 0)) => some ([], 0)
  | some (.v (.slice (some ⟨_, _, _⟩) 0 _)) => some ([], 0)
  | some (.v (.slice (some ⟨b, o, _⟩) n _)) => match σ[b]? with
    | some (.row cs _ _) => if o + n * e ≤ cs.length then some ((cs.drop o).take (n * e), n) else none
    | _ => none
  | some (.imm cs _ n) => if cs.length = n * e then some (cs, n) else none
  | _ => none

/-- An operation that calls nothing: the value, the boxes, the heap, what it touched. -/
def stepOp (d : Option Nat) (f : AFr) (σ : AHeap) : SOp → Option (AV × Option (Nat × List Value) × AHeap × Lab)
  | .mov x => match f.ev x with
    | some (.v v) => some (.v v, none, σ, .p)
    | some (.l k o) => some (.l k o, none, σ, .p)
    | _ => none
  | .pick c a b => match f.evV c with
    | some (.bool t) => match (if t then f.ev a else f.ev b) with
      | some (.v v) => some (.v v, none, σ, .p)
      | _ => none
    | _ => none
  | .lalloc zs => match d with
    | some k => if (f.box k).isNone ∧ zs.all oneCell then some (.l k 0, some (k, zs), σ, .lw k) else none
    | none => none
  | .lbox x => match d, f.evV x with
    | some k, some v => if (f.box k).isNone ∧ v.cells.toList.all oneCell then some (.l k 0, some (k, v.cells.toList), σ, .lw k) else none
    | _, _ => none
  | .halloc zs => if zs.all oneCell then some (.v (.pointer (some ⟨σ.size, 0, none⟩)), none, σ.push (.row zs 0 .W), .hw) else none
  | .hbox x => match f.evV x with
    | some v => if v.cells.toList.all oneCell then some (.v (.pointer (some ⟨σ.size, 0, none⟩)), none, σ.push (.row v.cells.toList 0 .W), .hw) else none
    | none => none
  | .build zs ps => (evParts f ps).bind fun l => (fillP zs l).bind fun cs => some (.v (.agg cs.toArray), none, σ, .p)
  | .bslice e zs n ps => (evElems f e ps).bind fun l => (fillP (zeros zs n) l).bind fun cs =>
    if cs.all oneCell then some (.v (.slice (some ⟨σ.size, 0, none⟩) n (n + e)), none, σ.push (.row cs e .W), .hw) else none
  | .bimm e zs n ps => (evElems f e ps).bind fun l => (fillP (zeros zs n) l).bind fun cs =>
    if cs.all oneCell then some (.imm cs e n, none, σ, .p) else none
  | .load n a => match f.ev a with
    | some (.l k o) => (f.box k).bind fun cs => (cut n cs o).bind fun v => some (.v v, none, σ, .lr k)
    | some (.v (.pointer (some ⟨b, o, none⟩))) => match σ[b]? with
      | some (.row cs _ _) => (cut n cs o).bind fun v => some (.v v, none, σ, .hr)
      | _ => none
    | _ => none
  | .store n a x => (f.evV x).bind fun v => (cellsOf n v).bind fun vs => match f.ev a with
    | some (.l k o) => (f.box k).bind fun cs => if o + vs.length ≤ cs.length then some (.v undef, some (k, splice cs o vs), σ, .lw k) else none
    | some (.v (.pointer (some ⟨b, o, none⟩))) => match σ[b]? with
      | some (.row cs e .W) => if o + vs.length ≤ cs.length then some (.v undef, none, σ.setIfInBounds b (.row (splice cs o vs) e .W), .hw) else none
      | _ => none
    | _ => none
  | .nilchk x => match f.evV x with
    | some (.pointer (some a)) => some (.v (.pointer (some a)), none, σ, .p)
    | _ => none
  | .bin op ek _ x y => (f.evV x).bind fun a => (f.evV y).bind fun b => (aBin op ek a b).bind fun v => some (.v v, none, σ, .p)
  | .un op x => (f.evV x).bind fun a => (aUn op a).bind fun v => some (.v v, none, σ, .p)
  | .conv k x => match f.evV x with
    | some (.int _ n) => some (.v (.int k (k.wrap n)), none, σ, .p)
    | _ => none
  | .mkif t x => (f.evV x).bind fun v => some (.v (.iface t v), none, σ, .p)
  | .mkfn fn cap => (evAll f cap).bind fun l => some (.v (.func fn #[] l.toArray), none, σ, .p)
  | .slc e x lo hi mx => match f.evV x with
    | some (.slice none 0 0) => (bnd f hi 0 0).bind fun _ => (bnd f lo 0 0).bind fun _ => (bnd f mx 0 0).bind fun _ => some (.v (.slice none 0 0), none, σ, .p)
    | some (.slice (some ⟨b, o, none⟩) n c) => match mx with
      | some m => (f.evV m).bind fun v => (intOf? v).bind fun m => if 0 ≤ m ∧ m ≤ n then (bnd f hi n m.toNat).bind fun h => (bnd f lo 0 h).bind fun l =>
          if h = m.toNat then some (.v (.slice (some ⟨b, o + l * e, none⟩) (h - l) (h - l)), none, σ, .p) else none else none
      | none => (bnd f hi n n).bind fun h => (bnd f lo 0 h).bind fun l =>
          if c = n + e then some (.v (.slice (some ⟨b, o + l * e, none⟩) (h - l) (h - l + e)), none, σ, .p)
          else if c = n ∧ h = n then some (.v (.slice (some ⟨b, o + l * e, none⟩) (h - l) (h - l)), none, σ, .p) else none
    | some (.slice (some ⟨b, o, some e'⟩) n c) => if e' = e then match mx with
      | some m => (bnd f (some m) 0 c).bind fun m => (bnd f hi n m).bind fun h => (bnd f lo 0 h).bind fun l => if h ≤ m then some (.v (.slice (some ⟨b, o + l * e, some e⟩) (h - l) (m - l)), none, σ, .p) else none
      | none => (bnd f hi n c).bind fun h => (bnd f lo 0 h).bind fun l => if h ≤ c then some (.v (.slice (some ⟨b, o + l * e, some e⟩) (h - l) (c - l)), none, σ, .p) else none else none
    | _ => none
  | .sslc x lo hi => match f.evV x with
    | some (.string s) => (bnd f hi s.size s.size).bind fun h => (bnd f lo 0 h).bind fun l => some (.v (.string (s.extract l h)), none, σ, .p)
    | _ => none
  | .faddr off x => match f.ev x with
    | some (.l k o) => some (.l k (o + off), none, σ, .p)
    | some (.v (.pointer (some ⟨b, o, none⟩))) => some (.v (.pointer (some ⟨b, o + off, none⟩)), none, σ, .p)
    | _ => none
  | .fld off n x => match f.evV x with
    | some (.agg cs) => (cut n cs.toList off).bind fun v => some (.v v, none, σ, .p)
    | _ => none
  | .iaddr e x i => match f.evV x, f.evV i with
    | some (.slice (some ⟨b, o, none⟩) n _), some (.int _ j) => if 0 ≤ j ∧ j < n then some (.v (.pointer (some ⟨b, o + j.toNat * e, none⟩)), none, σ, .p) else none
    | _, _ => none
  | .sidx x i => match f.evV x, f.evV i with
    | some (.string s), some (.int _ j) => match (if 0 ≤ j then s[j.toNat]? else none) with
      | some b => some (.v (.int .u8 b.toNat), none, σ, .p)
      | none => none
    | _, _ => none
  | .ext x i => match f.evV x with
    | some (.tuple vs) => match vs[i]? with
      | some v => some (.v v, none, σ, .p)
      | none => none
    | _ => none
  | .len x => match f.evV x with
    | some (.slice _ n _) => some (.v (.int .i64 n), none, σ, .p)
    | _ => none
  | .slen x => match f.evV x with
    | some (.string s) => some (.v (.int .i64 s.size), none, σ, .p)
    | _ => none
  | .mx x y => match f.evV x, f.evV y with
    | some (.int k a), some (.int _ b) => some (.v (.int k (if b > a then b else a)), none, σ, .p)
    | _, _ => none
  | .mn x y => match f.evV x, f.evV y with
    | some (.int k a), some (.int _ b) => some (.v (.int k (if b < a then b else a)), none, σ, .p)
    | _, _ => none
  | .app e bytes keep s x => (srcOf f σ e x).bind fun (new, m) =>
    match f.evV s with
    | some (.slice none 0 0) =>
      if m = 0 then some (.v (.slice none 0 0), none, σ, .hw)
      else if m * bytes ≤ 140737488355328 then some (.v (.slice (some ⟨σ.size, 0, none⟩) m (m + e)), none, σ.push (.row new e .W), .hw) else none
    | some (.slice (some ⟨b, o, none⟩) 0 0) =>
      if m = 0 then some (.v (.slice (some ⟨b, o, none⟩) 0 0), none, σ, .hw)
      else if m * bytes ≤ 140737488355328 then some (.v (.slice (some ⟨σ.size, 0, none⟩) m (m + e)), none, σ.push (.row new e .W), .hw) else none
    | some (.slice (some ⟨b, o, none⟩) n c) =>
      if m = 0 then some (.v (.slice (some ⟨b, o, none⟩) n c), none, σ, .hw) else
      match σ[b]? with
      | some (.row cs e' md) =>
        if o + n * e ≤ cs.length ∧ (n + m) * bytes ≤ 140737488355328 then
          let old := (cs.drop o).take (n * e)
          if c = n then some (.v (.slice (some ⟨σ.size, 0, none⟩) (n + m) (n + m + e)), none, σ.push (.row (old ++ new) e .W), .hw)
          else if c = n + e ∧ md ≠ .R ∧ o + n * e = cs.length then
            some (.v (.slice (some ⟨σ.size, 0, none⟩) (n + m) (n + m + e)), none,
              (σ.setIfInBounds b (if keep then .row cs e' .R else .dead)).push (.row (old ++ new) e (if keep then .T else md)), .hw)
          else none
        else none
      | _ => none
    | some (.slice (some ⟨b, o, some e2⟩) n c) =>
      if m = 0 then some (.v (.slice (some ⟨b, o, some e2⟩) n c), none, σ, .hw) else
      match σ[b]? with
      | some (.row cs e' md) =>
        if n + m ≤ c then
          if md = .W ∧ e2 = e ∧ o + n * e ≤ cs.length then some (.v (.slice (some ⟨b, o, some e⟩) (n + m) c), none, σ.setIfInBounds b (.row (splice cs (o + n * e) new) e' .W), .hw) else none
        else if o + n * e ≤ cs.length ∧ (n + m) * bytes ≤ 140737488355328 then
          some (.v (.slice (some ⟨σ.size, 0, none⟩) (n + m) (n + m + e)), none, σ.push (.row ((cs.drop o).take (n * e) ++ new) e .W), .hw)
        else none
      | _ => none
    | _ => none
  | .cpy e d s => match f.evV d, f.evV s with
    | some (.slice none 0 0), some (.slice _ _ _) => some (.v (.int .i64 0), none, σ, .hw)
    | some (.slice (some _) _ _), some (.slice none 0 0) => some (.v (.int .i64 0), none, σ, .hw)
    | some (.slice (some ⟨b, o, sp⟩) n _), some (.slice (some ⟨b', o', _⟩) n' _) =>
      match σ[b]?, σ[b']? with
      | some (.row cs e0 .W), some (.row cs' _ _) =>
        if (o + n * e ≤ cs.length ∨ sp = some e ∧ o ≤ cs.length) ∧ o' + min n' n * e ≤ cs'.length then
          some (.v (.int .i64 (min n' n : Nat)), none, σ.setIfInBounds b (.row (splice cs o ((cs'.drop o').take (min n' n * e))) e0 .W), .hw)
        else none
      | _, _ => none
    | _, _ => none
  | .mk e bytes zs len cap => match f.evV len, f.evV cap with
    | some (.int _ n), some (.int _ c) =>
      if 0 ≤ n ∧ n ≤ c ∧ c * bytes ≤ 140737488355328 ∧ zs.all oneCell ∧ c < 9223372036854775807 then
        some (.v (.slice (some ⟨σ.size, 0, none⟩) n.toNat (n.toNat + e)), none, σ.push (.row (zeros zs n.toNat) e .W), .hw)
      else none
    | _, _ => none
  | .call .. | .callv .. | .inv .. | .bad => none
  | .capx x => match f.evV x with
    | some (.slice none 0 0) => some (.v (.int .i64 0), none, σ, .p)
    | some (.slice (some ⟨_, _, some _⟩) _ c) => some (.v (.int .i64 c), none, σ, .p)
    | _ => none
  | .clr e zs x => match f.evV x with
    | some (.slice none 0 0) => some (.v (.tuple #[]), none, σ, .hw)
    | some (.slice (some ⟨b, o, _⟩) n _) => if n = 0 then some (.v (.tuple #[]), none, σ, .hw) else match σ[b]? with
      | some (.row cs e0 .W) => if o + n * e ≤ cs.length ∧ zs.all oneCell then some (.v (.tuple #[]), none, σ.setIfInBounds b (.row (splice cs o (zeros zs n)) e0 .W), .hw) else none
      | _ => none
    | _ => none
  | .trunc e x hi => match f.evV x, f.evV hi with
    | some (.slice none 0 0), some (.int _ 0) => some (.v (.slice none 0 0), none, σ, .hw)
    | some (.slice (some ⟨b, o, none⟩) n c), some (.int _ h) => match σ[b]? with
      | some (.row cs _ .W) => if c = n + e ∧ 0 ≤ h ∧ h ≤ n ∧ o + n * e ≤ cs.length then
          some (.v (.slice (some ⟨σ.size, 0, none⟩) h.toNat (h.toNat + e)), none, (σ.setIfInBounds b .dead).push (.row ((cs.drop o).take (h.toNat * e)) e .W), .hw) else none
      | _ => none
    | _, _ => none
  | .appz e bytes zs s x => match f.evV s, f.evV x with
    | some (.slice none 0 0), some (.int _ k) => if 0 < k ∧ k * bytes ≤ 140737488355328 ∧ zs.all oneCell then
        some (.v (.slice (some ⟨σ.size, 0, none⟩) k.toNat (k.toNat + e)), none, σ.push (.row (zeros zs k.toNat) e .W), .hw) else none
    | some (.slice (some ⟨b, o, some e'⟩) n c), some (.int _ k) => match σ[b]? with
      | some (.row cs _ _) => if e' = e ∧ 0 < k ∧ c < n + k.toNat ∧ o + n * e ≤ cs.length ∧ (n + k.toNat) * bytes ≤ 140737488355328 ∧ zs.all oneCell then
          some (.v (.slice (some ⟨σ.size, 0, none⟩) (n + k.toNat) (n + k.toNat + e)), none, σ.push (.row ((cs.drop o).take (n * e) ++ zeros zs k.toNat) e .W), .hw) else none
      | _ => none
    | _, _ => none
  | .ovl _ x y => match f.evV x, f.evV y with
    | some (.slice (some ⟨b, _, _⟩) _ _), some (.slice (some ⟨b', _, _⟩) _ _) => match σ[b]?, σ[b']? with
      | some (.row cs _ m), some (.row cs' _ m') => if b ≠ b' ∧ (m = .W ∨ m' = .W) ∧ cs ≠ [] ∧ cs' ≠ [] then some (.v (.bool false), none, σ, .hw) else none
      | _, _ => none
    | _, _ => none

/-- Whom an operation calls, with what, and the heap then. -/
def callee (f : AFr) (σ : AHeap) : SOp → Option (Nat × List Value × AHeap)
  | .call g xs => (evArgs f xs σ).bind fun (l, σ') => some (g, l, σ')
  | .callv g xs => match f.evV g with
    | some (.func (.func h) _ cap) => (evArgs f xs σ).bind fun (l, σ') => some (h, l ++ cap.toList, σ')
    | _ => none
  | .inv r tbl xs => match f.evV r with
    | some (.iface t v) => match tbl.lookup t with
      | some h => (evArgs f xs σ).bind fun (l, σ') => some (h, v :: l, σ')
      | none => none
    | _ => none
  | _ => none

/-- Is an operation wanted? none: that can't be told. -/
def SI.wanted (i : SI) (f : AFr) : Option Bool :=
  match i.guard with
  | none => some true
  | some (g, b) => match f.get g with
    | some (.v (.bool t)) => some (t == b)
    | some (.v (.tuple _)) => some false
    | _ => none

def AFr.keep (f : AFr) (ts bs : List Nat) : Option AFr :=
  let ts' := ts.filterMap fun t => (f.get t).map fun x => (t, x)
  let bs' := bs.filterMap fun k => (f.box k).map fun x => (k, x)
  if ts'.all fun p => match p.2 with
    | .l k _ => (bs'.lookup k).isSome
    | _ => true
  then some ⟨ts', bs'⟩ else none

inductive AX where
  | nrm | ex (id : Nat) | ret

inductive SRes where
  | tmp (t : Nat)
  | cell (t : Nat) (n : Option Nat)

structure SFn where
  body : SC
  res : List SRes

def resOf (f : AFr) (σ : AHeap) : SRes → Option Value
  | .tmp t => match f.get t with
    | some (.v x) => some x
    | _ => none
  | .cell t n => match f.get t with
    | some (.l k o) => (f.box k).bind fun cs => cut n cs o
    | some (.v (.pointer (some ⟨b, o, none⟩))) => match σ[b]? with
      | some (.row cs _ _) => cut n cs o
      | _ => none
    | _ => none

def resAll (f : AFr) (σ : AHeap) : List SRes → Option (List Value)
  | [] => some []
  | r :: l => (resOf f σ r).bind fun v => (resAll f σ l).bind fun vs => some (v :: vs)

def tupleOf : List Value → Value
  | [v] => v
  | l => .tuple l.toArray

def argsFr (args : List Value) : AFr := ⟨args.zipIdx.map fun (v, i) => (i, .v v), []⟩

structure AProg where
  fn : Nat → Option SFn
  prim : Nat → List Value → AHeap → Value → AHeap → Prop
  /-- == of two values without addresses, as the program's types have it. -/
  eqv : TypeId → Value → Value → Bool → Prop

inductive Task where
  | ops (l : List SI) (f : AFr) (σ : AHeap) (ls : List Lab) (f' : AFr) (σ' : AHeap)
  | code (c : SC) (f : AFr) (σ : AHeap) (x : AX) (f' : AFr) (σ' : AHeap)
  | call (g : Nat) (args : List Value) (σ : AHeap) (r : Value) (σ' : AHeap)

def pairsOk (pairs : List (Nat × Nat)) (ls : List Lab) : Bool :=
  pairs.all fun (i, j) => (ls.getD i .p).compat (ls.getD j .p)

inductive Ev (A : AProg) : Task → Prop where
  | opsNil (f σ) : Ev A (.ops [] f σ [] f σ)
  | opsSkip {i l f σ ls f' σ'} (hw : i.wanted f = some false) (h : Ev A (.ops l (f.put i.dst (.v undef)) σ ls f' σ')) : Ev A (.ops (i :: l) f σ (.p :: ls) f' σ')
  | opsStep {i l f σ v u σ1 lab ls f' σ'} (hw : i.wanted f = some true) (hs : stepOp i.dst f σ i.op = some (v, u, σ1, lab))
      (h : Ev A (.ops l ((f.setb u).put i.dst v) σ1 ls f' σ')) : Ev A (.ops (i :: l) f σ (lab :: ls) f' σ')
  | opsEq {i l f σ op ek ty x y a b t ls f' σ'} (hw : i.wanted f = some true) (ho : i.op = .bin op ek ty x y) (hop : op = .eql ∨ op = .neq) (ha : f.evV x = some a) (hb : f.evV y = some b)
      (hn : aBin op ek a b = none) (he : A.eqv ty a b t) (h : Ev A (.ops l (f.put i.dst (.v (.bool (if op = .eql then t else !t)))) σ ls f' σ')) : Ev A (.ops (i :: l) f σ (.p :: ls) f' σ')
  | opsCall {i l f σ g vals σ1 r σ2 lab ls f' σ'} (hw : i.wanted f = some true) (hc : callee f σ i.op = some (g, vals, σ1)) (hr : Ev A (.call g vals σ1 r σ2)) (hl : lab = .hw ∨ lab = .he ∧ σ1.ext σ2)
      (h : Ev A (.ops l (f.put i.dst (.v r)) σ2 ls f' σ')) : Ev A (.ops (i :: l) f σ (lab :: ls) f' σ')
  | skip (f σ) : Ev A (.code .skip f σ .nrm f σ)
  | reg {l f σ ls f' σ'} (h : Ev A (.ops l f σ ls f' σ')) : Ev A (.code (.reg l) f σ .nrm f' σ')
  | dreg {l pairs f σ ls f' σ'} (h : Ev A (.ops l f σ ls f' σ')) (hp : pairsOk pairs ls = true) : Ev A (.code (.dreg l pairs) f σ .nrm f' σ')
  | seqN {a b f σ f1 σ1 x f' σ'} (h1 : Ev A (.code a f σ .nrm f1 σ1)) (h2 : Ev A (.code b f1 σ1 x f' σ')) : Ev A (.code (.seq a b) f σ x f' σ')
  | seqX {a b f σ x f' σ'} (hx : x ≠ .nrm) (h : Ev A (.code a f σ x f' σ')) : Ev A (.code (.seq a b) f σ x f' σ')
  | cond {c a b f σ t x f' σ'} (hc : f.evV c = some (.bool t)) (h : Ev A (.code (if t then a else b) f σ x f' σ')) : Ev A (.code (.cond c a b) f σ x f' σ')
  | blockN {id b f σ x f' σ'} (hx : x = .nrm ∨ x = .ex id) (h : Ev A (.code b f σ x f' σ')) : Ev A (.code (.block id b) f σ .nrm f' σ')
  | blockX {id b f σ x f' σ'} (hx : x ≠ .nrm ∧ x ≠ .ex id) (h : Ev A (.code b f σ x f' σ')) : Ev A (.code (.block id b) f σ x f' σ')
  | loopN {b f σ f1 σ1 x f' σ'} (h1 : Ev A (.code b f σ .nrm f1 σ1)) (h2 : Ev A (.code (.loop b) f1 σ1 x f' σ')) : Ev A (.code (.loop b) f σ x f' σ')
  | loopX {b f σ x f' σ'} (hx : x ≠ .nrm) (h : Ev A (.code b f σ x f' σ')) : Ev A (.code (.loop b) f σ x f' σ')
  | exit (id f σ) : Ev A (.code (.exit id) f σ (.ex id) f σ)
  | ret (f σ) : Ev A (.code .ret f σ .ret f σ)
  | keep {ts bs f σ f'} (hk : f.keep ts bs = some f') : Ev A (.code (.keep ts bs) f σ .nrm f' σ)
  | call {g args σ sf x f' σ' vs} (hf : A.fn g = some sf) (h : Ev A (.code sf.body (argsFr args) σ x f' σ')) (hx : x = .nrm ∨ x = .ret) (hr : resAll f' σ' sf.res = some vs) :
      Ev A (.call g args σ (tupleOf vs) σ')
  | prim {g args σ r σ'} (h : A.prim g args σ r σ') : Ev A (.call g args σ r σ')

end Go.Am

namespace Go.Am

def veq : Value → Value → Bool
  | .bool a, .bool b => a == b
  | .int k a, .int j b => k == j && a == b
  | .string a, .string b => a.data == b.data
  | .pointer none, .pointer none => true
  | .slice none 0 0, .slice none 0 0 => true
  | .map none, .map none => true
  | .nilFunc, .nilFunc => true
  | .nilIface, .nilIface => true
  | _, _ => false

theorem veq_eq {a b : Value} (h : veq a b = true) : a = b := by
  unfold veq at h
  split at h <;> first | (simp_all; done) | (exact congrArg Value.string (ByteArray.ext (by simpa using h)))

def vseq : List Value → List Value → Bool
  | [], [] => true
  | a :: l, b :: m => veq a b && vseq l m
  | _, _ => false

theorem vseq_eq : ∀ {l m : List Value}, vseq l m = true → l = m
  | [], [], _ => rfl
  | a :: l, b :: m, h => by
    simp only [vseq, Bool.and_eq_true] at h
    rw [veq_eq h.1, vseq_eq h.2]
  | [], _ :: _, h => by simp [vseq] at h
  | _ :: _, [], h => by simp [vseq] at h

def oeq : Operand → Operand → Bool
  | .tmp a, .tmp b => a == b
  | .const a, .const b => veq a b
  | .func a, .func b => a == b
  | _, _ => false

theorem oeq_eq {a b : Operand} (h : oeq a b = true) : a = b := by
  unfold oeq at h
  split at h
  · simp_all
  · rw [veq_eq h]
  · simp_all
  · simp at h

def oseq : List Operand → List Operand → Bool
  | [], [] => true
  | a :: l, b :: m => oeq a b && oseq l m
  | _, _ => false

theorem oseq_eq : ∀ {l m : List Operand}, oseq l m = true → l = m
  | [], [], _ => rfl
  | a :: l, b :: m, h => by
    simp only [oseq, Bool.and_eq_true] at h
    rw [oeq_eq h.1, oseq_eq h.2]
  | [], _ :: _, h => by simp [oseq] at h
  | _ :: _, [], h => by simp [oseq] at h

def ooeq : Option Operand → Option Operand → Bool
  | none, none => true
  | some a, some b => oeq a b
  | _, _ => false

theorem ooeq_eq {a b : Option Operand} (h : ooeq a b = true) : a = b := by
  unfold ooeq at h
  split at h
  · rfl
  · rw [oeq_eq h]
  · simp at h

/-- The number of cells of a type; whether it is an aggregate. -/
def tsize (P : Program) (t : TypeId) : Option Nat := (P.info? t).map (·.size)
def tbytes (P : Program) (t : TypeId) : Option Nat := (P.info? t).map (·.bytes)
def tzero (P : Program) (t : TypeId) : Option (List Value) := ((P.info? t).bind (·.zero)).map fun z => z.cells.toList
def tagg (P : Program) (t : TypeId) : Option Bool := (P.underlying t).map fun | .struct _ | .array _ _ => true | _ => false

/-- How a variable of a type is loaded: as an aggregate of so many cells, or as one cell. -/
def mLoad (P : Program) (t : TypeId) (n : Option Nat) : Bool :=
  match tagg P t, n with
  | some true, some n => tsize P t == some n
  | some false, none => tsize P t == some 1
  | _, _ => false

def mZero (P : Program) (t : TypeId) (zs : List Value) : Bool :=
  match tzero P t with
  | some l => vseq l zs
  | none => false

def mElem (P : Program) (t : TypeId) (e : Nat) : Bool :=
  match P.underlying t with
  | some (.slice el) => tsize P el == some e
  | _ => false

def mParts (P : Program) (place : Nat → Option (Nat × Nat)) : List (Nat × Operand) → List (Nat × Nat × Operand) → Bool
  | [], [] => true
  | (i, x) :: l, (o, n, y) :: m => place i == some (o, n) && oeq x y && mParts P place l m
  | _, _ => false

def mFields (P : Program) (fields : Array Field) (i : Nat) : Option (Nat × Nat) :=
  match fields[i]? with
  | some f => (tsize P f.type).map fun n => (f.offset, n)
  | none => none

def mElems : List (Nat × Operand) → List (Nat × Operand) → Bool
  | [], [] => true
  | (i, x) :: l, (j, y) :: m => i == j && oeq x y && mElems l m
  | _, _ => false

def eqKind : TypeDesc → Nat
  | .bool => 1
  | .pointer _ => 2
  | .slice _ => 3
  | .func _ _ _ => 4
  | .interface _ => 5
  | _ => 0

def isNilIface : Operand → Bool
  | .const .nilIface => true
  | _ => false

def mEq (P : Program) (ek : Nat) (ty : TypeId) (x y : Operand) : Bool :=
  ek == 0 || ((match P.underlying ty with
    | some d => eqKind d == ek
    | none => false) && (ek != 5 || isNilIface x || isNilIface y))

def mMeth (P : Program) (name : String) : List (TypeId × Nat) → Bool
  | [] => true
  | (t, g) :: l =>
    (match P.info? t with
     | some i => match i.methods.find? (·.name == name) with
       | some m => m.path.isEmpty && m.func == some (g, true) && (match P.underlying t with | some (.pointer _) => true | _ => false)
       | none => false
     | none => false) && mMeth P name l

def calls (P : Program) (g : Nat) : Bool :=
  match P.funcs[g]? with
  | some fn => fn.body.isSome && !(fn.name == "runtime.NumGoroutine")
  | none => false

/-- Is a function without a text that which tells whether two slices share memory? -/
def isOvl (P : Program) (g : Nat) : Bool :=
  match P.funcs[g]? with
  | some fn => fn.body.isNone && !(fn.name == "runtime.NumGoroutine") && (Extern.findNext fn).isNone && (Extern.allGenericRows.lookup fn.name).isNone && (Extern.allTypedRows.lookup fn.name).isNone &&
    (Extern.allRows.lookup fn.name).isNone && fn.origin == "slices.overlaps" && (match fn.params.toList with
      | [t, t'] => t == t' && (match P.underlying t with
        | some (.slice el) => (tsize P el).isSome
        | _ => false)
      | _ => false) && fn.resultTypes.size == 1
  | none => false

def mCall (P : Program) (c : Call) (s : SOp) : Bool :=
  match c.callee, s with
  | .builtin .len, .len x => match c.args.toList, c.argTypes.toList with
    | [y], [t] => oeq y x && (match P.underlying t with | some (.slice _) => true | _ => false)
    | _, _ => false
  | .builtin .len, .slen x => match c.args.toList, c.argTypes.toList with
    | [y], [t] => oeq y x && (match P.underlying t with | some .string => true | _ => false)
    | _, _ => false
  | .builtin .max, .mx x y => oseq c.args.toList [x, y]
  | .builtin .min, .mn x y => oseq c.args.toList [x, y]
  | .builtin .append, .app e bytes _ s x => oseq c.args.toList [s, x] && (match c.argTypes.toList with
    | [t, t'] => t == t' && mElem P t e && 0 < e && 0 < bytes && (match P.underlying t with
      | some (.slice el) => tbytes P el == some bytes && (match tzero P el with | some z => z.length == e | none => false)
      | _ => false)
    | _ => false)
  | .builtin .append, .appz e bytes zs s x => oseq c.args.toList [s, x] && (match c.argTypes.toList with
    | [t, t'] => mElem P t e && 0 < e && 0 < bytes && (match P.underlying t' with | some (.int _) => true | _ => false) && (match P.underlying t with
      | some (.slice el) => tbytes P el == some bytes && mZero P el zs && zs.length == e
      | _ => false)
    | _ => false)
  | .builtin .copy, .cpy e d s => oseq c.args.toList [d, s] && (match c.argTypes.toList with
    | [t, _] => mElem P t e && 0 < e
    | _ => false)
  | .builtin .cap, .capx x => match c.args.toList, c.argTypes.toList with
    | [y], [t] => oeq y x && (match P.underlying t with | some (.slice _) => true | _ => false)
    | _, _ => false
  | .builtin .clear, .clr e zs x => match c.args.toList, c.argTypes.toList with
    | [y], [t] => oeq y x && mElem P t e && 0 < e && (match P.underlying t with
      | some (.slice el) => mZero P el zs && zs.length == e
      | _ => false)
    | _, _ => false
  | .value (.func g), .call g' xs => g == g' && calls P g && oseq c.args.toList xs
  | .value (.func g), .ovl g' x y => g == g' && isOvl P g && oseq c.args.toList [x, y]
  | .value f, .callv f' xs => oeq f f' && oseq c.args.toList xs
  | .invoke r name, .inv r' tbl xs => oeq r r' && mMeth P name tbl && oseq c.args.toList xs
  | _, _ => false

def mOp (P : Program) : Op → SOp → Bool
  | _, .bad => true
  | .move x, .mov y | .assign x, .mov y => oeq x y
  | .pick c a b, .pick c' a' b' => oeq c c' && oeq a a' && oeq b b'
  | .alloc t, .lalloc zs | .alloc t, .halloc zs => mZero P t zs
  | .box _ x, .lbox y | .box _ x, .hbox y => oeq x y
  | .build t ps, .build zs ps' => mZero P t zs && (match P.underlying t with
    | some (.struct fields) => fields.toList.all (fun f => (tsize P f.type).isSome) && mParts P (mFields P fields) ps.toList ps'
    | _ => false)
  | .buildSlice t n ps, .bslice e zs n' ps' | .buildSlice t n ps, .bimm e zs n' ps' => n == n' && mElem P t e && 0 < e && decide (n * e ≤ 2 ^ 24) && mElems ps.toList ps' &&
    (match P.underlying t with
     | some (.slice el) => (match tzero P el with
       | some z => vseq z zs && zs.length == e
       | none => false)
     | _ => false)
  | .load t a, .load n b => mLoad P t n && oeq a b
  | .store t a x, .store n b y => mLoad P t n && oeq a b && oeq x y
  | .nilCheck x, .nilchk y => oeq x y
  | .binOp op t x y _, .bin op' ek t' x' y' => op == op' && t == t' && mEq P ek t x y && oeq x x' && oeq y y'
  | .unOp op _ x, .un op' y => op == op' && oeq x y
  | .convert s d x, .conv k y => oeq x y && (P.underlying s).isSome && (match P.underlying d with | some (.int k') => k == k' | _ => false)
  | .makeInterface t x, .mkif t' y => t == t' && oeq x y && (match P.underlying t with | some (.interface _) | none => false | _ => true)
  | .makeFunc fn first cap, .mkfn fn' cap' => fn == fn' && first.isEmpty && oseq cap.toList cap'
  | .slice t x lo hi mx, .slc e x' lo' hi' mx' => mElem P t e && 0 < e && oeq x x' && ooeq lo lo' && ooeq hi hi' && ooeq mx mx' && (mx.isNone || hi.isSome)
  | .slice t x lo hi mx, .trunc e x' hi' => mElem P t e && 0 < e && oeq x x' && lo.isNone && mx.isNone && ooeq hi (some hi')
  | .slice t x lo hi mx, .sslc x' lo' hi' => (match P.underlying t with | some .string => true | _ => false) && oeq x x' && ooeq lo lo' && ooeq hi hi' && mx.isNone
  | .fieldAddr s x i, .faddr off y => oeq x y && (match P.underlying s with
    | some (.struct fields) => (match fields[i]? with
      | some f => f.offset == off && (match tsize P f.type with | some n => n != 0 | none => false)
      | none => false)
    | _ => false)
  | .field t x i, .fld off n y => oeq x y && (match P.underlying t with
    | some (.struct fields) => (match fields[i]? with
      | some f => f.offset == off && mLoad P f.type n
      | none => false)
    | _ => false)
  | .indexAddr t x i, .iaddr e y j => mElem P t e && oeq x y && oeq i j
  | .index t x i, .sidx y j => (match P.underlying t with | some .string => true | _ => false) && oeq x y && oeq i j
  | .extract x i, .ext y j => oeq x y && i == j
  | .makeSlice t l c, .mk e bytes zs l' c' => mElem P t e && 0 < e && oeq l l' && oeq c c' && (match P.underlying t with
    | some (.slice el) => tbytes P el == some bytes && mZero P el zs && zs.length == e
    | _ => false)
  | .call c, s => mCall P c s
  | _, _ => false

def mGuard (ops : Array Oper) : Option (Nat × Bool) → Option (Nat × Bool) → Bool
  | none, none => true
  | some (j, b), some (g, b') => ((ops[j]?).bind (·.dst)) == some g && b == b'
  | _, _ => false

def mSI (P : Program) (nt : Nat) (ops : Array Oper) (o : Oper) (s : SI) : Bool := o.dst == s.dst && (match s.dst with | some d => decide (d < nt) | none => true) && mGuard ops o.guard s.guard && mOp P o.op s.op

def mOps (P : Program) (nt : Nat) (ops : Array Oper) : List Oper → List SI → Bool
  | [], [] => true
  | o :: l, s :: m => mSI P nt ops o s && mOps P nt ops l m
  | _, _ => false

/-- Operations that touch their slots alone. -/
def SOp.pureOp : SOp → Bool
  | .mov _ | .pick .. | .build .. | .bimm .. | .nilchk _ | .bin .. | .un .. | .conv .. | .mkif .. | .mkfn .. | .slc .. | .sslc .. | .faddr .. | .fld .. | .iaddr .. | .sidx .. | .ext .. | .len _ | .slen _ | .mx .. | .mn .. | .capx _ => true
  | _ => false

/-- Of each operation, as bits, those that come ahead of it in whatever order. -/
def mask (acc : Array Nat) (o : Oper) : Nat := o.after.toList.foldl (fun s e => if Region.binds .any e then s ||| 2 ^ e.on ||| acc.getD e.on 0 else s) 0
def befs : List Oper → Array Nat → Array Nat
  | [], acc => acc
  | o :: l, acc => befs l (acc.push (mask acc o))

/-- The operands that an operation looks at. -/
def SOp.rd : SOp → List Operand
  | .mov x | .lbox x | .hbox x | .nilchk x | .un _ x | .conv _ x | .mkif _ x | .faddr _ x | .fld _ _ x | .ext x _ | .len x | .slen x | .load _ x | .capx x | .clr _ _ x => [x]
  | .pick c a b => [c, a, b]
  | .lalloc _ | .halloc _ | .bad => []
  | .build _ ps => ps.map (·.2.2)
  | .bslice _ _ _ ps | .bimm _ _ _ ps => ps.map (·.2)
  | .store _ a x | .bin _ _ _ a x | .iaddr _ a x | .sidx a x | .mx a x | .mn a x | .app _ _ _ a x | .cpy _ a x | .mk _ _ _ a x | .trunc _ a x | .appz _ _ _ a x | .ovl _ a x => [a, x]
  | .mkfn _ l | .call _ l => l
  | .slc _ x lo hi lim => x :: (lo.toList ++ hi.toList ++ lim.toList)
  | .sslc x lo hi => x :: (lo.toList ++ hi.toList)
  | .callv g l => g :: l
  | .inv r _ l => r :: l

def tmpOf : Operand → Option Nat
  | .tmp t => some t
  | _ => none

def SI.reads (i : SI) : List Nat := i.op.rd.filterMap tmpOf ++ (match i.guard with | some (g, _) => [g] | none => [])

def SI.apart (x y : SI) : Bool :=
  (match x.dst with
   | some d => !y.reads.contains d && y.dst != some d
   | none => true) &&
  (match y.dst with
   | some d => !x.reads.contains d
   | none => true)

/-- Of each two operations that may come in either order: their slots are apart; those of which both touch more are listed. -/
def mPairs (ops : Array Oper) (l : Array SI) (pairs : List (Nat × Nat)) : Bool :=
  let b := befs ops.toList #[]
  (List.range ops.size).all fun j =>
    ((ops[j]?).map fun o => o.after.all fun e => !Region.binds .any e || e.on < j).getD false &&
    (List.range j).all fun i =>
      (b.getD j 0).testBit i || (match l[i]?, l[j]? with
        | some s, some t => s.apart t && (s.op.pureOp || t.op.pureOp || pairs.contains (i, j))
        | _, _ => false)

def mC (P : Program) (nt : Nat) : SC → Code → Bool
  | .skip, .skip => true
  | .reg l, .region _ ops false => mOps P nt ops ops.toList l
  | .dreg l pairs, .region _ ops true => mOps P nt ops ops.toList l && mPairs ops l.toArray pairs && (P.follows .mixedOrders || !Region.departs ops)
  | .seq (.keep _ _) b, c => mC P nt b c
  | .seq a b, .seq c d => mC P nt a c && mC P nt b d
  | .cond x a b, .cond y c d => oeq y x && mC P nt a c && mC P nt b d
  | .block i a, .block j c => i == j && mC P nt a c
  | .loop a, .loop c => mC P nt a c
  | .exit i, .exit j => i == j
  | .ret, .ret => true
  | _, _ => false

def mRes (P : Program) : List ResultVar → List SRes → Bool
  | [], [] => true
  | .tmp t :: l, .tmp u :: m => t == u && mRes P l m
  | .cell a t :: l, .cell b n :: m => a == b && mLoad P t n && mRes P l m
  | _, _ => false

def mFn (P : Program) (g : Nat) (s : SFn) : Bool :=
  match P.funcs[g]? with
  | some fn => (match fn.body with
    | some c => mC P fn.ntmps s.body c
    | none => false) && mRes P fn.results.toList s.res && !(fn.name == "runtime.NumGoroutine")
  | none => false

end Go.Am

namespace Go.Am

section
variable (A : AProg)

def C (g : Nat) (args : List Value) (σ : AHeap) (R : Value → AHeap → Prop) : Prop := ∃ r σ', Ev A (.call g args σ r σ') ∧ R r σ'

def W (c : SC) (K : AX → AFr → AHeap → Prop) (f : AFr) (σ : AHeap) : Prop := ∃ x f' σ', Ev A (.code c f σ x f' σ') ∧ K x f' σ'

inductive KI where
  | seq (b : SC)
  | blk (id : Nat)
  | lp (b : SC)

abbrev Post := AX → AFr → AHeap → Prop

/-- What is behind a piece of code. -/
def Un : List KI → Post → Post
  | [], R, x, f, σ => R x f σ
  | .seq b :: k, R, .nrm, f, σ => W A b (Un k R) f σ
  | .seq _ :: k, R, .ex i, f, σ => Un k R (.ex i) f σ
  | .seq _ :: k, R, .ret, f, σ => Un k R .ret f σ
  | .blk _ :: k, R, .nrm, f, σ => Un k R .nrm f σ
  | .blk id :: k, R, .ex i, f, σ => if i = id then Un k R .nrm f σ else Un k R (.ex i) f σ
  | .blk _ :: k, R, .ret, f, σ => Un k R .ret f σ
  | .lp b :: k, R, .nrm, f, σ => W A (.loop b) (Un k R) f σ
  | .lp _ :: k, R, .ex i, f, σ => Un k R (.ex i) f σ
  | .lp _ :: k, R, .ret, f, σ => Un k R .ret f σ

def St (c : SC) (k : List KI) (R : Post) (f : AFr) (σ : AHeap) : Prop := W A c (Un A k R) f σ

def So (l : List SI) (acc : List Lab) (ps : List (Nat × Nat)) (k : List KI) (R : Post) (f : AFr) (σ : AHeap) : Prop :=
  ∃ ls f' σ', Ev A (.ops l f σ ls f' σ') ∧ pairsOk ps (acc.reverse ++ ls) = true ∧ Un A k R .nrm f' σ'

def Cc (g : Nat) (vals : List Value) (σ1 : AHeap) (d : Option Nat) (l : List SI) (acc : List Lab) (ps : List (Nat × Nat)) (k : List KI) (R : Post) (f : AFr) : Prop :=
  (C A g vals σ1 fun r σ2 => So A l (.hw :: acc) ps k R (f.put d (.v r)) σ2) ∨ C A g vals σ1 fun r σ2 => σ1.ext σ2 ∧ So A l (.he :: acc) ps k R (f.put d (.v r)) σ2

def Cd (t : Bool) (a b : SC) (k : List KI) (R : Post) (f : AFr) (σ : AHeap) : Prop := St A (if t then a else b) k R f σ

def Lp (b : SC) (k : List KI) (R : Post) (f : AFr) (σ : AHeap) : Prop := St A (.loop b) k R f σ

/-- A step that calls nothing. -/
def Sr (r : Option (AV × Option (Nat × List Value) × AHeap × Lab)) (d : Option Nat) (l : List SI) (acc : List Lab) (ps : List (Nat × Nat)) (k : List KI) (R : Post) (f : AFr) : Prop :=
  match r with
  | some (v, bs, σ1, lab) => So A l (lab :: acc) ps k R ((f.setb bs).put d v) σ1
  | none => False

def Sc (r : Option (Nat × List Value × AHeap)) (d : Option Nat) (l : List SI) (acc : List Lab) (ps : List (Nat × Nat)) (k : List KI) (R : Post) (f : AFr) : Prop :=
  match r with
  | some (g, vals, σ1) => Cc A g vals σ1 d l acc ps k R f
  | none => False

/-- == of values that the types must tell. -/
def Be (op : BinOp) (ty : TypeId) (x y : Value) (d : Option Nat) (l : List SI) (acc : List Lab) (ps : List (Nat × Nat)) (k : List KI) (R : Post) (f : AFr) (σ : AHeap) : Prop :=
  (op = .eql ∨ op = .neq) ∧ ∃ t, A.eqv ty x y t ∧ So A l (.p :: acc) ps k R (f.put d (.v (.bool (if op = .eql then t else !t)))) σ

def Sb (r : Option Value) (op : BinOp) (ty : TypeId) (x y : Option Value) (d : Option Nat) (l : List SI) (acc : List Lab) (ps : List (Nat × Nat)) (k : List KI) (R : Post) (f : AFr) (σ : AHeap) : Prop :=
  match r, x, y with
  | some v, _, _ => So A l (.p :: acc) ps k R (f.put d (.v v)) σ
  | none, some a, some b => Be A op ty a b d l acc ps k R f σ
  | _, _, _ => False

/-- One operation, then the rest. -/
def Sq (op : SOp) (d : Option Nat) (l : List SI) (acc : List Lab) (ps : List (Nat × Nat)) (k : List KI) (R : Post) (f : AFr) (σ : AHeap) : Prop :=
  match op with
  | .call g xs => Sc A (callee f σ (.call g xs)) d l acc ps k R f
  | .callv g xs => Sc A (callee f σ (.callv g xs)) d l acc ps k R f
  | .inv r tbl xs => Sc A (callee f σ (.inv r tbl xs)) d l acc ps k R f
  | .bin op ek ty x y => Sb A ((f.evV x).bind fun a => (f.evV y).bind fun b => aBin op ek a b) op ty (f.evV x) (f.evV y) d l acc ps k R f σ
  | op => Sr A (stepOp d f σ op) d l acc ps k R f

/-- An operation under a guard: is it wanted? -/
def Sg (t : Option Bool) (op : SOp) (d : Option Nat) (l : List SI) (acc : List Lab) (ps : List (Nat × Nat)) (k : List KI) (R : Post) (f : AFr) (σ : AHeap) : Prop :=
  match t with
  | some true => Sq A op d l acc ps k R f σ
  | some false => So A l (.p :: acc) ps k R (f.put d (.v undef)) σ
  | none => False

def RetK (res : List SRes) (R : Value → AHeap → Prop) : Post := fun x f σ => (x = .nrm ∨ x = .ret) ∧ ∃ vs, resAll f σ res = some vs ∧ R (tupleOf vs) σ

variable {A}

theorem W_mono {c : SC} {K K' : Post} {f σ} (h : W A c K f σ) (hk : ∀ x f σ, K x f σ → K' x f σ) : W A c K' f σ := by
  obtain ⟨x, f', σ', h1, h2⟩ := h
  exact ⟨x, f', σ', h1, hk _ _ _ h2⟩

theorem C_mono {g args σ} {R R' : Value → AHeap → Prop} (h : C A g args σ R) (hr : ∀ r σ', R r σ' → R' r σ') : C A g args σ R' := by
  obtain ⟨r, σ', h1, h2⟩ := h
  exact ⟨r, σ', h1, hr _ _ h2⟩

/-- A call by its code. -/
theorem C_fn {g args σ} {R : Value → AHeap → Prop} (sf : SFn) (hf : A.fn g = some sf) (h : St A sf.body [] (RetK sf.res R) (argsFr args) σ) : C A g args σ R := by
  obtain ⟨x, f', σ', h1, hx, vs, h2, h3⟩ := h
  exact ⟨_, σ', .call hf h1 hx h2, h3⟩

theorem C_prim {g args σ} {R : Value → AHeap → Prop} {r σ'} (h : A.prim g args σ r σ') (hR : R r σ') : C A g args σ R := ⟨r, σ', .prim h, hR⟩

section rules
variable {a b : SC} {k : List KI} {R : Post} {f : AFr} {σ : AHeap} {l : List SI} {acc : List Lab} {ps : List (Nat × Nat)} {d : Option Nat}

theorem Un_nrm_nil : Un A [] R .nrm f σ = R .nrm f σ := rfl
theorem Un_ret_nil : Un A [] R .ret f σ = R .ret f σ := rfl
theorem Un_nrm_seq : Un A (.seq b :: k) R .nrm f σ = St A b k R f σ := rfl
theorem Un_nrm_blk {id} : Un A (.blk id :: k) R .nrm f σ = Un A k R .nrm f σ := rfl
theorem Un_nrm_lp : Un A (.lp b :: k) R .nrm f σ = Lp A b k R f σ := rfl
theorem Un_ex_seq {i} : Un A (.seq b :: k) R (.ex i) f σ = Un A k R (.ex i) f σ := rfl
theorem Un_ex_lp {i} : Un A (.lp b :: k) R (.ex i) f σ = Un A k R (.ex i) f σ := rfl
theorem Un_ex_blk {i id} : Un A (.blk id :: k) R (.ex i) f σ = if i = id then Un A k R .nrm f σ else Un A k R (.ex i) f σ := rfl

theorem Un_ret : ∀ {k : List KI}, Un A k R .ret f σ = R .ret f σ
  | [] => rfl
  | .seq _ :: k => Un_ret (k := k)
  | .blk _ :: k => Un_ret (k := k)
  | .lp _ :: k => Un_ret (k := k)

theorem St_skip : St A .skip k R f σ = Un A k R .nrm f σ := by
  refine propext ⟨?_, fun h => ⟨_, _, _, .skip f σ, h⟩⟩
  rintro ⟨x, f', σ', h, hk⟩
  cases h
  exact hk

theorem St_reg : St A (.reg l) k R f σ = So A l [] [] k R f σ := by
  refine propext ⟨?_, ?_⟩
  · rintro ⟨x, f', σ', h, hk⟩
    cases h with
    | reg h => exact ⟨_, _, _, h, rfl, hk⟩
  · rintro ⟨ls, f', σ', h, _, hk⟩
    exact ⟨_, _, _, .reg h, hk⟩

theorem St_dreg : St A (.dreg l ps) k R f σ = So A l [] ps k R f σ := by
  refine propext ⟨?_, ?_⟩
  · rintro ⟨x, f', σ', h, hk⟩
    cases h with
    | dreg h hp => exact ⟨_, _, _, h, hp, hk⟩
  · rintro ⟨ls, f', σ', h, hp, hk⟩
    exact ⟨_, _, _, .dreg h hp, hk⟩

theorem St_seq : St A (.seq a b) k R f σ = St A a (.seq b :: k) R f σ := by
  refine propext ⟨?_, ?_⟩
  · rintro ⟨x, f', σ', h, hk⟩
    cases h with
    | seqN h1 h2 => exact ⟨_, _, _, h1, _, _, _, h2, hk⟩
    | seqX hx h =>
      refine ⟨_, _, _, h, ?_⟩
      cases x with
      | nrm => exact absurd rfl hx
      | ex i => exact hk
      | ret => exact hk
  · rintro ⟨x, f', σ', h, hk⟩
    cases x with
    | nrm => obtain ⟨_, _, _, h2, hk⟩ := hk; exact ⟨_, _, _, .seqN h h2, hk⟩
    | ex i => exact ⟨_, _, _, .seqX (by simp) h, hk⟩
    | ret => exact ⟨_, _, _, .seqX (by simp) h, hk⟩

theorem St_cond {c : Operand} {t : Bool} (hc : f.evV c = some (.bool t)) : St A (.cond c a b) k R f σ = Cd A t a b k R f σ := by
  refine propext ⟨?_, ?_⟩
  · rintro ⟨x, f', σ', h, hk⟩
    cases h with
    | cond hc' h =>
      rw [hc] at hc'
      injection hc' with hc'
      injection hc' with hc'
      subst hc'
      exact ⟨_, _, _, h, hk⟩
  · rintro ⟨x, f', σ', h, hk⟩
    exact ⟨_, _, _, .cond hc h, hk⟩

theorem St_block {id : Nat} : St A (.block id b) k R f σ = St A b (.blk id :: k) R f σ := by
  refine propext ⟨?_, ?_⟩
  · rintro ⟨x, f', σ', h, hk⟩
    cases h with
    | blockN hx h =>
      refine ⟨_, _, _, h, ?_⟩
      rcases hx with rfl | rfl
      · exact hk
      · simpa [Un] using hk
    | blockX hx h =>
      refine ⟨_, _, _, h, ?_⟩
      cases x with
      | nrm => exact absurd rfl hx.1
      | ex i => have : i ≠ id := fun e => hx.2 (by rw [e]); simpa [Un, this] using hk
      | ret => exact hk
  · rintro ⟨x, f', σ', h, hk⟩
    cases x with
    | nrm => exact ⟨_, _, _, .blockN (.inl rfl) h, hk⟩
    | ret => exact ⟨_, _, _, .blockX (by simp) h, hk⟩
    | ex i =>
      by_cases e : i = id
      · subst e; exact ⟨_, _, _, .blockN (.inr rfl) h, by simpa [Un] using hk⟩
      · exact ⟨_, _, _, .blockX (by simp [e]) h, by simpa [Un, e] using hk⟩

theorem St_loop : St A (.loop b) k R f σ = Lp A b k R f σ := rfl

theorem Lp_round (h : St A b (.lp b :: k) R f σ) : Lp A b k R f σ := by
  obtain ⟨x, f', σ', h, hk⟩ := h
  cases x with
  | nrm => obtain ⟨_, _, _, h2, hk⟩ := hk; exact ⟨_, _, _, .loopN h h2, hk⟩
  | ex i => exact ⟨_, _, _, .loopX (by simp) h, hk⟩
  | ret => exact ⟨_, _, _, .loopX (by simp) h, hk⟩

theorem St_exit {i : Nat} : St A (.exit i) k R f σ = Un A k R (.ex i) f σ := by
  refine propext ⟨?_, fun h => ⟨_, _, _, .exit i f σ, h⟩⟩
  rintro ⟨x, f', σ', h, hk⟩
  cases h
  exact hk

theorem St_ret : St A .ret k R f σ = R .ret f σ := by
  refine Eq.trans (b := Un A k R .ret f σ) (propext ⟨?_, fun h => ⟨_, _, _, .ret f σ, h⟩⟩) Un_ret
  rintro ⟨x, f', σ', h, hk⟩
  cases h
  exact hk

theorem St_keep {ts bs : List Nat} {f' : AFr} (hk : f.keep ts bs = some f') : St A (.keep ts bs) k R f σ = Un A k R .nrm f' σ := by
  refine propext ⟨?_, fun h => ⟨_, _, _, .keep hk, h⟩⟩
  rintro ⟨x, f1, σ', h, hK⟩
  cases h with
  | keep hk' => rw [hk] at hk'; injection hk' with e; subst e; exact hK

theorem Cd_true : Cd A true a b k R f σ = St A a k R f σ := rfl
theorem Cd_false : Cd A false a b k R f σ = St A b k R f σ := rfl
theorem Cd_split {t : Bool} (h1 : t = true → St A a k R f σ) (h2 : t = false → St A b k R f σ) : Cd A t a b k R f σ := by
  cases t
  · exact h2 rfl
  · exact h1 rfl

theorem So_nil : So A [] acc ps k R f σ = (pairsOk ps acc.reverse = true ∧ Un A k R .nrm f σ) := by
  refine propext ⟨?_, fun h => ⟨_, _, _, .opsNil f σ, by simpa using h.1, h.2⟩⟩
  rintro ⟨ls, f', σ', h, hp, hk⟩
  cases h
  exact ⟨by simpa using hp, hk⟩

theorem So_nil0 : So A [] acc [] k R f σ = Un A k R .nrm f σ := by
  rw [So_nil]; simp [pairsOk]

theorem So_of {i : SI} {ls : List Lab} {f' σ' lab f1 σ1} (h1 : Ev A (.ops l f1 σ1 ls f' σ') → Ev A (.ops (i :: l) f σ (lab :: ls) f' σ'))
    (h : Ev A (.ops l f1 σ1 ls f' σ') ∧ pairsOk ps ((lab :: acc).reverse ++ ls) = true ∧ Un A k R .nrm f' σ') : So A (i :: l) acc ps k R f σ :=
  ⟨lab :: ls, f', σ', h1 h.1, by simpa using h.2.1, h.2.2⟩

theorem Sr_sound {op : SOp} {g : Option (Nat × Bool)} (hw : (⟨d, op, g⟩ : SI).wanted f = some true) (h : Sr A (stepOp d f σ op) d l acc ps k R f) : So A (⟨d, op, g⟩ :: l) acc ps k R f σ := by
  unfold Sr at h
  split at h
  · rename_i v bs σ1 lab hs
    obtain ⟨ls, f', σ', h⟩ := h
    exact So_of (.opsStep hw hs) h
  · exact h.elim

theorem Sc_sound {op : SOp} {g : Option (Nat × Bool)} (hw : (⟨d, op, g⟩ : SI).wanted f = some true) (h : Sc A (callee f σ op) d l acc ps k R f) : So A (⟨d, op, g⟩ :: l) acc ps k R f σ := by
  unfold Sc at h
  split at h
  · rename_i g vals σ1 hs
    rcases h with ⟨r, σ2, hr, ls, f', σ', h⟩ | ⟨r, σ2, hr, hx, ls, f', σ', h⟩
    · exact So_of (.opsCall hw hs hr (.inl rfl)) h
    · exact So_of (.opsCall hw hs hr (.inr ⟨rfl, hx⟩)) h
  · exact h.elim

theorem bin_step {op : BinOp} {ek ty x y} {v bs σ1 lab} : stepOp d f σ (.bin op ek ty x y) = some (v, bs, σ1, lab) ↔
    ∃ u, ((f.evV x).bind fun a => (f.evV y).bind fun b => aBin op ek a b) = some u ∧ v = .v u ∧ bs = none ∧ σ1 = σ ∧ lab = .p := by
  simp only [stepOp]
  cases f.evV x with
  | none => simp
  | some a =>
    cases f.evV y with
    | none => simp
    | some b =>
      simp only [Option.bind_some]
      cases aBin op ek a b with
      | none => simp
      | some u => simp [eq_comm]

theorem Sb_sound {op : BinOp} {ek ty x y} {g : Option (Nat × Bool)} (hw : (⟨d, .bin op ek ty x y, g⟩ : SI).wanted f = some true)
    (h : Sb A ((f.evV x).bind fun a => (f.evV y).bind fun b => aBin op ek a b) op ty (f.evV x) (f.evV y) d l acc ps k R f σ) : So A (⟨d, .bin op ek ty x y, g⟩ :: l) acc ps k R f σ := by
  cases hs : ((f.evV x).bind fun a => (f.evV y).bind fun b => aBin op ek a b) with
  | some v =>
    rw [hs] at h
    obtain ⟨ls, f', σ', h⟩ := h
    exact So_of (.opsStep hw (bin_step.2 ⟨v, hs, rfl, rfl, rfl, rfl⟩)) h
  | none =>
    rw [hs] at h
    cases hx : f.evV x with
    | none => rw [hx] at h; exact h.elim
    | some a =>
      cases hy : f.evV y with
      | none => rw [hx, hy] at h; exact h.elim
      | some b =>
        rw [hx, hy] at h
        obtain ⟨hop, t, he, ls, f', σ', h⟩ := h
        simp only [hx, hy, Option.bind_some] at hs
        exact So_of (.opsEq hw rfl hop hx hy hs he) h

theorem Sq_sound {op : SOp} {g : Option (Nat × Bool)} (hw : (⟨d, op, g⟩ : SI).wanted f = some true) (h : Sq A op d l acc ps k R f σ) : So A (⟨d, op, g⟩ :: l) acc ps k R f σ := by
  unfold Sq at h
  split at h
  · exact Sc_sound hw h
  · exact Sc_sound hw h
  · exact Sc_sound hw h
  · exact Sb_sound hw h
  · exact Sr_sound hw h

theorem Sq_whole {op : SOp} {g : Option (Nat × Bool)} (hw : (⟨d, op, g⟩ : SI).wanted f = some true) (h : So A (⟨d, op, g⟩ :: l) acc ps k R f σ) : Sq A op d l acc ps k R f σ := by
  obtain ⟨ls, f', σ', h, hp, hk⟩ := h
  cases h with
  | opsSkip hw' => rw [hw] at hw'; simp at hw'
  | @opsStep _ _ _ _ _ _ _ lab _ _ _ hw' hs h =>
    have tail : So A l (lab :: acc) ps k R _ _ := ⟨_, _, _, h, by simpa using hp, hk⟩
    unfold Sq
    split
    · simp [stepOp] at hs
    · simp [stepOp] at hs
    · simp [stepOp] at hs
    · obtain ⟨u, hu, rfl, rfl, rfl, rfl⟩ := bin_step.1 hs
      unfold Sb
      rw [hu]
      exact tail
    · unfold Sr
      rw [hs]
      exact tail
  | opsEq hw' ho hop ha hb hn he h =>
    have ho : op = _ := ho
    subst ho
    have tail : So A l (.p :: acc) ps k R _ _ := ⟨_, _, _, h, by simpa using hp, hk⟩
    simp only [Sq]
    unfold Sb
    simp only [ha, hb, Option.bind_some, hn]
    exact ⟨hop, _, he, tail⟩
  | opsCall hw' hc hr hl h =>
    rename_i gg vals σ1 r σ2 lab ls
    have hc : callee f σ op = _ := hc
    have tail : Cc A gg vals σ1 d l acc ps k R f := by
      rcases hl with rfl | ⟨rfl, hx⟩
      · exact .inl ⟨_, _, hr, _, _, _, h, by simpa using hp, hk⟩
      · exact .inr ⟨_, _, hr, hx, _, _, _, h, by simpa using hp, hk⟩
    unfold Sq
    split
    · unfold Sc; rw [hc]; exact tail
    · unfold Sc; rw [hc]; exact tail
    · unfold Sc; rw [hc]; exact tail
    · simp [callee] at hc
    · rename_i h1 h2 h3 h4
      cases op <;> simp [callee] at hc <;> simp_all

theorem So_cons {op : SOp} : So A (⟨d, op, none⟩ :: l) acc ps k R f σ = Sq A op d l acc ps k R f σ := propext ⟨Sq_whole rfl, Sq_sound rfl⟩

theorem So_guard {op : SOp} {g : Nat} {b : Bool} : So A (⟨d, op, some (g, b)⟩ :: l) acc ps k R f σ = Sg A ((⟨d, op, some (g, b)⟩ : SI).wanted f) op d l acc ps k R f σ := by
  refine propext ⟨?_, ?_⟩
  · intro h
    unfold Sg
    split
    · rename_i hw; exact Sq_whole hw h
    · rename_i hw
      obtain ⟨ls, f', σ', h, hp, hk⟩ := h
      cases h with
      | opsSkip hw' h => exact ⟨_, _, _, h, by simpa using hp, hk⟩
      | opsStep hw' => rw [hw] at hw'; simp at hw'
      | opsEq hw' => rw [hw] at hw'; simp at hw'
      | opsCall hw' => rw [hw] at hw'; simp at hw'
    · rename_i hw
      obtain ⟨ls, f', σ', h, hp, hk⟩ := h
      cases h with
      | opsSkip hw' h => rw [hw] at hw'; simp at hw'
      | opsStep hw' => rw [hw] at hw'; simp at hw'
      | opsEq hw' => rw [hw] at hw'; simp at hw'
      | opsCall hw' => rw [hw] at hw'; simp at hw'
  · intro h
    unfold Sg at h
    split at h
    · rename_i hw; exact Sq_sound hw h
    · rename_i hw
      obtain ⟨ls, f', σ', h⟩ := h
      exact So_of (.opsSkip hw) h
    · exact h.elim

end rules
end
end Go.Am

namespace Go.Am

/-- Where a block of the abstract heap lies: in which block, from which cell on, how many cells an element has, how many cells there are for it to grow. -/
structure IB where
  c : Nat
  o : Nat
  e : Nat
  M : Nat

abbrev Inj := Nat → Option IB

mutual
inductive VR (ι : Inj) : Value → Value → Prop where
  | bool (b) : VR ι (.bool b) (.bool b)
  | int (k n) : VR ι (.int k n) (.int k n)
  | float (k n) : VR ι (.float k n) (.float k n)
  | string (s) : VR ι (.string s) (.string s)
  | nilp : VR ι (.pointer none) (.pointer none)
  | ptr {b off p} (h : ι b = some p) : VR ι (.pointer (some ⟨b, off, none⟩)) (.pointer (some ⟨p.c, p.o + off, none⟩))
  | nils : VR ι (.slice none 0 0) (.slice none 0 0)
  | slx {b off n a} (ha : 0 < n → ∃ p, ι b = some p ∧ a = ⟨p.c, p.o + off, none⟩) : VR ι (.slice (some ⟨b, off, none⟩) n n) (.slice (some a) n n)
  | sln {b off n e a cap} (he : 0 < e) (hc : n ≤ cap) (ha : 0 < cap → ∃ p, ι b = some p ∧ a = ⟨p.c, p.o + off, none⟩ ∧ p.e = e ∧ off + cap * e ≤ p.M) :
      VR ι (.slice (some ⟨b, off, none⟩) n (n + e)) (.slice (some a) n cap)
  | sle {b off e n a cap} (hc : n ≤ cap) (ha : 0 < cap → ∃ p, ι b = some p ∧ a = ⟨p.c, p.o + off, none⟩ ∧ p.e = e ∧ off + cap * e ≤ p.M) : VR ι (.slice (some ⟨b, off, some e⟩) n cap) (.slice (some a) n cap)
  | mapn : VR ι (.map none) (.map none)
  | func (fn) {l l' : Array Value} (h : VRL ι l.toList l'.toList) : VR ι (.func fn #[] l) (.func fn #[] l')
  | nilFunc : VR ι .nilFunc .nilFunc
  | nilIface : VR ι .nilIface .nilIface
  | iface (t) {v v'} (h : VR ι v v') : VR ι (.iface t v) (.iface t v')
  | agg {l l' : Array Value} (h : VRL ι l.toList l'.toList) (ho : l.toList.all oneCell = true) : VR ι (.agg l) (.agg l')
  | tuple {l l' : Array Value} (h : VRL ι l.toList l'.toList) : VR ι (.tuple l) (.tuple l')
inductive VRL (ι : Inj) : List Value → List Value → Prop where
  | nil : VRL ι [] []
  | cons {v v' l l'} (h : VR ι v v') (hl : VRL ι l l') : VRL ι (v :: l) (v' :: l')
end

def Inj.le (ι ι' : Inj) : Prop := ∀ b p, ι b = some p → ι' b = some p

theorem Inj.le_refl (ι : Inj) : ι.le ι := fun _ _ h => h
theorem Inj.le_trans {a b c : Inj} (h : a.le b) (k : b.le c) : a.le c := fun x p e => k x p (h x p e)

mutual
theorem VR.mono {ι ι' : Inj} (hi : ι.le ι') : ∀ {v v' : Value}, VR ι v v' → VR ι' v v'
  | _, _, .bool b => .bool b
  | _, _, .int k n => .int k n
  | _, _, .float k n => .float k n
  | _, _, .string s => .string s
  | _, _, .nilp => .nilp
  | _, _, .ptr h => .ptr (hi _ _ h)
  | _, _, .nils => .nils
  | _, _, .slx ha => .slx fun hn => let ⟨p, h, e⟩ := ha hn; ⟨p, hi _ _ h, e⟩
  | _, _, .sln he hc ha => .sln he hc fun hn => let ⟨p, h, e⟩ := ha hn; ⟨p, hi _ _ h, e⟩
  | _, _, .sle hc ha => .sle hc fun hn => let ⟨p, h, e⟩ := ha hn; ⟨p, hi _ _ h, e⟩
  | _, _, .mapn => .mapn
  | _, _, .func fn h => .func fn (VRL.mono hi h)
  | _, _, .nilFunc => .nilFunc
  | _, _, .nilIface => .nilIface
  | _, _, .iface t h => .iface t (VR.mono hi h)
  | _, _, .agg h ho => .agg (VRL.mono hi h) ho
  | _, _, .tuple h => .tuple (VRL.mono hi h)
theorem VRL.mono {ι ι' : Inj} (hi : ι.le ι') : ∀ {l l' : List Value}, VRL ι l l' → VRL ι' l l'
  | _, _, .nil => .nil
  | _, _, .cons h hl => .cons (VR.mono hi h) (VRL.mono hi hl)
end

theorem VRL.length {ι : Inj} : ∀ {l l' : List Value}, VRL ι l l' → l'.length = l.length
  | _, _, .nil => rfl
  | _, _, .cons _ hl => by simp [VRL.length hl]

theorem VRL.get {ι : Inj} : ∀ {l l' : List Value} {i : Nat} {v : Value}, VRL ι l l' → l[i]? = some v → ∃ v', l'[i]? = some v' ∧ VR ι v v'
  | _, _, _, _, .nil, h => by simp at h
  | _, _, 0, _, .cons h _, e => by simp at e; subst e; exact ⟨_, rfl, h⟩
  | _, _, i + 1, _, .cons _ hl, e => by simp at e; simpa using VRL.get hl e

theorem VRL.of_get {ι : Inj} : ∀ {l l' : List Value}, l'.length = l.length → (∀ (i : Nat) v, l[i]? = some v → ∃ v', l'[i]? = some v' ∧ VR ι v v') → VRL ι l l'
  | [], [], _, _ => .nil
  | v :: l, v' :: l', hl, h => by
    obtain ⟨u, hu, hv⟩ := h 0 v rfl
    simp at hu
    subst hu
    exact .cons hv (VRL.of_get (by simpa using hl) fun i x hx => by simpa using h (i + 1) x (by simpa using hx))
  | [], _ :: _, hl, _ => by simp at hl
  | _ :: _, [], hl, _ => by simp at hl

theorem VRL.append {ι : Inj} : ∀ {a a' b b' : List Value}, VRL ι a a' → VRL ι b b' → VRL ι (a ++ b) (a' ++ b')
  | _, _, _, _, .nil, h => h
  | _, _, _, _, .cons h hl, k => .cons h (VRL.append hl k)

theorem VRL.take {ι : Inj} : ∀ {a a' : List Value} (n : Nat), VRL ι a a' → VRL ι (a.take n) (a'.take n)
  | _, _, 0, _ => by simpa using VRL.nil
  | _, _, _ + 1, .nil => by simpa using VRL.nil
  | _, _, n + 1, .cons h hl => by simpa using VRL.cons h (VRL.take n hl)

theorem VRL.drop {ι : Inj} : ∀ {a a' : List Value} (n : Nat), VRL ι a a' → VRL ι (a.drop n) (a'.drop n)
  | _, _, 0, h => by simpa using h
  | _, _, _ + 1, .nil => by simpa using VRL.nil
  | _, _, n + 1, .cons _ hl => by simpa using VRL.drop n hl

theorem VR.one {ι : Inj} {v v' : Value} (h : VR ι v v') : v'.oneCell' = oneCell v := by
  cases h <;> rfl

theorem VRL.one {ι : Inj} : ∀ {l l' : List Value}, VRL ι l l' → l.all oneCell = true → ∀ v ∈ l', v.oneCell' = true
  | _, _, .nil, _ => by simp
  | _, _, .cons h hl, ho => by
    simp only [List.all_cons, Bool.and_eq_true] at ho
    intro v hv
    rcases List.mem_cons.1 hv with rfl | hv
    · rw [h.one]; exact ho.1
    · exact VRL.one hl ho.2 v hv

theorem VR.cells {ι : Inj} {v v' : Value} (h : VR ι v v') : VRL ι v.cells.toList v'.cells.toList := by
  cases h with
  | agg h ho => exact h
  | _ => exact .cons (by constructor <;> assumption) .nil

/-- Values without an address stand for themselves. -/
theorem VR.flat {ι : Inj} {v : Value} (h : veq v v = true) : VR ι v v := by
  unfold veq at h
  split at h <;> first | (simp at h; done) | skip
  all_goals first
    | exact .bool _
    | exact .int _ _
    | exact .string _
    | exact .nilp
    | exact .nils
    | exact .mapn
    | exact .nilFunc
    | exact .nilIface

/-- The abstract heap in memory. B: below it nothing is written. -/
structure Inv (B : Nat) (ι : Inj) (σ : AHeap) (w : World) : Prop where
  blk : ∀ b cs e m, σ[b]? = some (.row cs e m) → ∃ p, ι b = some p ∧ p.e = e ∧ ∀ i v, cs[i]? = some v → ∃ v', w.cell? ⟨p.c, p.o + i, none⟩ = some v' ∧ VR ι v v' ∧ oneCell v = true
  own : ∀ b cs e m p, σ[b]? = some (.row cs e m) → m ≠ .R → ι b = some p → B ≤ p.c ∧ cs.length ≤ p.M ∧ ∃ arr el, w.heap[p.c]? = some (.cells arr el (0, 0)) ∧ p.o + p.M ≤ arr.size
  excl : ∀ b cs e m p b' cs' e' m' p', σ[b]? = some (.row cs e m) → m ≠ .R → ι b = some p → σ[b']? = some (.row cs' e' m') → ι b' = some p' → b ≠ b' → p.c = p'.c →
    m = .T ∧ m' = .R ∧ p'.o + cs'.length ≤ p.o + cs.length
  dom : ∀ b, σ.size ≤ b → ι b = none
  lt : ∀ b p, ι b = some p → p.c < w.heap.size
  base : B ≤ w.heap.size

/-- The blocks that may be written. -/
def Wim (ι : Inj) (σ : AHeap) (c : Nat) : Prop := ∃ b cs e m p, σ[b]? = some (.row cs e m) ∧ m ≠ .R ∧ ι b = some p ∧ p.c = c

theorem Wim.ge {B ι σ w c} (hI : Inv B ι σ w) (h : Wim ι σ c) : B ≤ c := by
  obtain ⟨b, cs, e, m, p, h1, h2, h3, rfl⟩ := h
  exact (hI.own _ _ _ _ _ h1 h2 h3).1

/-- From (w0, ι0, σ0) to (w, ι, σ): what is not to be written has stayed. -/
structure Bs (w0 : World) (ι0 : Inj) (σ0 : AHeap) (w : World) (ι : Inj) (σ : AHeap) : Prop where
  os : w.os = w0.os
  tape : w.tape = w0.tape
  output : w.output = w0.output
  size : w0.heap.size ≤ w.heap.size
  keep : ∀ c, c < w0.heap.size → ¬ Wim ι0 σ0 c → w.heap[c]? = w0.heap[c]?
  ext : ι0.le ι
  img : ∀ b p, ι b = some p → ι0 b = some p ∨ w0.heap.size ≤ p.c ∨ Wim ι0 σ0 p.c
  wim : ∀ c, Wim ι σ c → w0.heap.size ≤ c ∨ Wim ι0 σ0 c

theorem Bs.refl (w ι σ) : Bs w ι σ w ι σ :=
  ⟨rfl, rfl, rfl, Nat.le_refl _, fun _ _ _ => rfl, Inj.le_refl _, fun _ _ h => .inl h, fun _ h => .inr h⟩

theorem Bs.trans {w0 ι0 σ0 w1 ι1 σ1 w2 ι2 σ2} (h : Bs w0 ι0 σ0 w1 ι1 σ1) (k : Bs w1 ι1 σ1 w2 ι2 σ2) : Bs w0 ι0 σ0 w2 ι2 σ2 where
  os := k.os.trans h.os
  tape := k.tape.trans h.tape
  output := k.output.trans h.output
  size := Nat.le_trans h.size k.size
  keep c hc hn := by
    refine (k.keep c (Nat.lt_of_lt_of_le hc h.size) fun hw => ?_).trans (h.keep c hc hn)
    rcases h.wim c hw with h1 | h1
    · omega
    · exact hn h1
  ext := Inj.le_trans h.ext k.ext
  img b p hb := by
    rcases k.img b p hb with h1 | h1 | h1
    · exact h.img b p h1
    · exact .inr (.inl (Nat.le_trans h.size h1))
    · rcases h.wim _ h1 with h2 | h2
      · exact .inr (.inl h2)
      · exact .inr (.inr h2)
  wim c hc := by
    rcases k.wim c hc with h1 | h1
    · exact .inl (Nat.le_trans h.size h1)
    · exact h.wim c h1

/-- What a slot's value stands for. -/
def AVR (N : Nat) (lam : Nat → Nat) (ι : Inj) (σ : AHeap) (f : AFr) (w : World) : AV → Value → Prop
  | .v x, y => VR ι x y
  | .l k o, y => y = .pointer (some ⟨lam k, o, none⟩) ∧ (f.box k).isSome
  | .imm cs e n, y => ∃ c arr el, y = .slice (some ⟨c, 0, none⟩) n n ∧ N ≤ c ∧ w.heap[c]? = some (.cells arr el (0, 0)) ∧ VRL ι cs arr.toList ∧ cs.all oneCell = true ∧
      cs.length = n * e ∧ 0 < e ∧ ¬ Wim ι σ c ∧ ∀ k, (f.box k).isSome → lam k ≠ c

/-- The slots and the local boxes. -/
structure FR (N nt : Nat) (lam : Nat → Nat) (ι : Inj) (σ : AHeap) (f : AFr) (a : Act) (w : World) : Prop where
  nt : nt ≤ a.tmps.size
  defers : a.defers = []
  tmp : ∀ t x, f.get t = some x → AVR N lam ι σ f w x (a.tmps.getD t undef)
  box : ∀ k cs, f.box k = some cs → N ≤ lam k ∧ (∃ arr el, w.heap[lam k]? = some (.cells arr el (0, 0)) ∧ VRL ι cs arr.toList ∧ cs.all oneCell = true) ∧ ∀ b p, ι b = some p → p.c ≠ lam k
  inj : ∀ j k, (f.box j).isSome → (f.box k).isSome → j ≠ k → lam j ≠ lam k

theorem AVR.step {N lam ι σ f w ι' σ' w'} (hB : Bs w ι σ w' ι' σ') {x y} (h : AVR N lam ι σ f w x y) : AVR N lam ι' σ' f w' x y := by
  cases x with
  | v x => exact VR.mono hB.ext h
  | l k o => exact h
  | imm cs e n =>
    obtain ⟨c, arr, el, h1, h2, h3, h4, h5, h6, h7, h8, h9⟩ := h
    have hlt : c < w.heap.size := by
      rcases Nat.lt_or_ge c w.heap.size with h | h
      · exact h
      · simp [Array.getElem?_eq_none h] at h3
    refine ⟨c, arr, el, h1, h2, (hB.keep c hlt h8).trans h3, VRL.mono hB.ext h4, h5, h6, h7, fun hw => ?_, h9⟩
    rcases hB.wim c hw with h | h
    · omega
    · exact h8 h

theorem lt_of_heap {w : World} {c : Nat} {o : Obj} (h : w.heap[c]? = some o) : c < w.heap.size := by
  rcases Nat.lt_or_ge c w.heap.size with h' | h'
  · exact h'
  · simp [Array.getElem?_eq_none h'] at h

theorem FR.step {N nt lam ι σ f a w ι' σ' w'} (hB : Bs w ι σ w' ι' σ') (h : FR N nt lam ι σ f a w) : FR N nt lam ι' σ' f a w' where
  nt := h.nt
  defers := h.defers
  tmp t x hx := AVR.step hB (h.tmp t x hx)
  inj := h.inj
  box k cs hk := by
    obtain ⟨h1, ⟨arr, el, h2, h3, h4⟩, h5⟩ := h.box k cs hk
    have hw : ¬ Wim ι σ (lam k) := fun ⟨b, _, _, _, p, _, _, hb, e⟩ => h5 b p hb e
    refine ⟨h1, ⟨arr, el, (hB.keep _ (lt_of_heap h2) hw).trans h2, VRL.mono hB.ext h3, h4⟩, fun b p hb e => ?_⟩
    rcases hB.img b p hb with h | h | h
    · exact h5 b p h e
    · have := lt_of_heap h2; omega
    · exact hw (e ▸ h)

theorem getD_set (a : Array Value) (d t : Nat) (v : Value) (hd : d < a.size) : (a.setIfInBounds d v).getD t undef = if t = d then v else a.getD t undef := by
  by_cases h : t = d
  · subst h; simp [Array.getD_eq_getD_getElem?, hd]
  · simp [Array.getD_eq_getD_getElem?, Array.getElem?_setIfInBounds_ne (Ne.symm h), h]

theorem get_put_some (f : AFr) (d : Nat) (x : AV) (t : Nat) : (f.put (some d) x).get t = if t = d then some x else f.get t := by
  unfold AFr.put AFr.get
  by_cases h : t = d
  · subst h; simp
  · have : (t == d) = false := by simpa using h
    simp [List.lookup, this, h]

@[simp] theorem box_put (f : AFr) (d : Option Nat) (x : AV) (k : Nat) : (f.put d x).box k = f.box k := by
  cases d <;> rfl

theorem AVR.box_congr {N lam ι σ f g w x y} (hb : ∀ k, (g.box k).isSome = (f.box k).isSome) (h : AVR N lam ι σ f w x y) : AVR N lam ι σ g w x y := by
  cases x with
  | v x => exact h
  | l k o => exact ⟨h.1, by rw [hb]; exact h.2⟩
  | imm cs e n =>
    obtain ⟨c, arr, el, h1, h2, h3, h4, h5, h6, h7, h8, h9⟩ := h
    exact ⟨c, arr, el, h1, h2, h3, h4, h5, h6, h7, h8, fun k hk => h9 k (by rw [← hb]; exact hk)⟩

/-- A slot is written. -/
theorem FR.put {N nt lam ι σ f a w} (h : FR N nt lam ι σ f a w) {d : Option Nat} {x : AV} {y : Value} (hd : ∀ t, d = some t → t < nt) (hx : AVR N lam ι σ f w x y) :
    FR N nt lam ι σ (f.put d x) (a.put d y) w := by
  have hbox : ∀ k, ((f.put d x).box k) = f.box k := fun k => box_put f d x k
  refine ⟨?_, ?_, ?_, fun k cs hk => h.box k cs (by rwa [hbox] at hk), fun j k hj hk => h.inj j k (by rwa [hbox] at hj) (by rwa [hbox] at hk)⟩
  · cases d <;> simp [Act.put, h.nt]
  · cases d <;> simp [Act.put, h.defers]
  · intro t z hz
    refine AVR.box_congr (f := f) (fun k => by rw [hbox]) ?_
    cases d with
    | none => exact h.tmp t z hz
    | some d =>
      rw [get_put_some] at hz
      simp only [Act.put]
      rw [getD_set _ _ _ _ (Nat.lt_of_lt_of_le (hd d rfl) h.nt)]
      by_cases e : t = d
      · simp only [e, if_true] at hz ⊢
        injection hz with hz
        exact hz ▸ hx
      · simp only [e, if_false] at hz ⊢
        exact h.tmp t z hz

end Go.Am

namespace Go.Am

/-- What becomes of an operation. -/
def Sim (P : Program) (B nt : Nat) (w0 : World) (ι0 : Inj) (σ0 : AHeap) (f : AFr) (a : Act) (w : World) (o : Oper) (r : AV × Option (Nat × List Value) × AHeap × Lab) : Prop :=
  ∃ y w' lam' ι', ((execOp a.eval o).run P w = .ok (.value y) w' ∨ ((execOp a.eval o).run P w = .ok .skip w' ∧ y = undef)) ∧
    Inv B ι' r.2.2.1 w' ∧ Bs w0 ι0 σ0 w' ι' r.2.2.1 ∧ FR w0.heap.size nt lam' ι' r.2.2.1 (f.setb r.2.1) a w' ∧ AVR w0.heap.size lam' ι' r.2.2.1 (f.setb r.2.1) w' r.1 y

section
variable {P : Program} {B nt : Nat} {w0 : World} {ι0 ι : Inj} {σ0 σ : AHeap} {lam : Nat → Nat} {f : AFr} {a : Act} {w : World}

theorem oeq_flat {y : Operand} {c : Value} (h : oeq y (.const c) = true) : veq c c = true := by
  have e := oeq_eq h
  subst e
  exact h

theorem ev_rel (hF : FR w0.heap.size nt lam ι σ f a w) {x y : Operand} (hm : oeq y x = true) {v : AV} (hx : f.ev x = some v) : AVR w0.heap.size lam ι σ f w v (a.eval y) := by
  have e := oeq_eq hm
  subst e
  cases y with
  | tmp t => exact hF.tmp t v hx
  | const c => simp only [AFr.ev, Option.some.injEq] at hx; subst hx; exact VR.flat (oeq_flat hm)
  | func g => simp only [AFr.ev, Option.some.injEq] at hx; subst hx; exact .func _ .nil
  | global g => simp [AFr.ev] at hx

theorem evV_some {f : AFr} {x : Operand} {v : Value} (h : f.evV x = some v) : f.ev x = some (.v v) := by
  unfold AFr.evV at h
  cases hx : f.ev x with
  | none => simp [hx] at h
  | some u =>
    rw [hx] at h
    cases u <;> simp [AV.val] at h
    rw [h]

theorem evV_rel (hF : FR w0.heap.size nt lam ι σ f a w) {x y : Operand} (hm : oeq y x = true) {v : Value} (hx : f.evV x = some v) : VR ι v (a.eval y) :=
  ev_rel hF hm (evV_some hx)

/-- An operation on slots alone. -/
theorem Sim.pure (hI : Inv B ι σ w) (hB : Bs w0 ι0 σ0 w ι σ) (hF : FR w0.heap.size nt lam ι σ f a w) {o : Oper} {v : AV} {lab : Lab} {y : Value}
    (hrun : (execOp a.eval o).run P w = .ok (.value y) w) (hv : AVR w0.heap.size lam ι σ f w v y) : Sim P B nt w0 ι0 σ0 f a w o (v, none, σ, lab) :=
  ⟨y, w, lam, ι, .inl hrun, hI, hB, hF, hv⟩

theorem vr_bool {t y} (h : VR ι (.bool t) y) : y = .bool t := by cases h; rfl
theorem vr_int {k n y} (h : VR ι (.int k n) y) : y = .int k n := by cases h; rfl
theorem vr_string {s y} (h : VR ι (.string s) y) : y = .string s := by cases h; rfl
theorem vr_ptr {b off y} (h : VR ι (.pointer (some ⟨b, off, none⟩)) y) : ∃ p, ι b = some p ∧ y = .pointer (some ⟨p.c, p.o + off, none⟩) := by
  cases h with
  | ptr h => exact ⟨_, h, rfl⟩
theorem vr_agg {cs y} (h : VR ι (.agg cs) y) : ∃ cs', y = .agg cs' ∧ VRL ι cs.toList cs'.toList ∧ cs.toList.all oneCell = true := by
  cases h with
  | agg h ho => exact ⟨_, rfl, h, ho⟩
theorem vr_tuple {cs y} (h : VR ι (.tuple cs) y) : ∃ cs', y = .tuple cs' ∧ VRL ι cs.toList cs'.toList := by
  cases h with
  | tuple h => exact ⟨_, rfl, h⟩
theorem vr_slice {a n c y} (h : VR ι (.slice a n c) y) : ∃ a' c', y = .slice a' n c' ∧ a'.isNone = a.isNone := by
  cases h with
  | nils => exact ⟨_, _, rfl, rfl⟩
  | slx _ => exact ⟨_, _, rfl, rfl⟩
  | sln _ _ _ => exact ⟨_, _, rfl, rfl⟩
  | sle _ _ => exact ⟨_, _, rfl, rfl⟩

/-- A slice, whatever is known of its room. -/
theorem vr_sl {b q sp n c y} (h : VR ι (.slice (some ⟨b, q, sp⟩) n c) y) : ∃ ad cap, y = .slice (some ad) n cap ∧ n ≤ cap ∧ (0 < n → ∃ p, ι b = some p ∧ ad = ⟨p.c, p.o + q, none⟩) := by
  cases h with
  | slx ha => exact ⟨_, _, rfl, Nat.le_refl _, ha⟩
  | sln he hc ha => exact ⟨_, _, rfl, hc, fun h0 => let ⟨p, h1, h2, _⟩ := ha (by omega); ⟨p, h1, h2⟩⟩
  | sle hc ha => exact ⟨_, _, rfl, hc, fun h0 => let ⟨p, h1, h2, _⟩ := ha (by omega); ⟨p, h1, h2⟩⟩

/-! ### types -/
theorem run_underlying' {t : TypeId} {d : TypeDesc} (h : P.underlying t = some d) (w : World) : (underlying t).run P w = .ok d w := by
  simp [underlying, h]

theorem run_sizeOf' {t : TypeId} {n : Nat} (h : tsize P t = some n) (w : World) : (sizeOf t).run P w = .ok n w := by
  unfold tsize at h
  cases hi : P.info? t with
  | none => simp [hi] at h
  | some i => simp [hi] at h; simp [sizeOf, typeInfo, hi, h]

theorem run_zero' {t : TypeId} {zs : List Value} (h : tzero P t = some zs) (w : World) : ∃ z, (zeroValue t).run P w = .ok z w ∧ z.cells.toList = zs := by
  unfold tzero at h
  cases hi : P.info? t with
  | none => simp [hi] at h
  | some i =>
    cases hz : i.zero with
    | none => simp [hi, hz] at h
    | some z => simp [hi, hz] at h; exact ⟨z, by simp [zeroValue, typeInfo, hi, hz], h⟩

theorem run_isAgg' {t : TypeId} {b : Bool} (h : tagg P t = some b) (w : World) : (isAgg t).run P w = .ok b w := by
  unfold tagg at h
  cases hu : P.underlying t with
  | none => simp [hu] at h
  | some d =>
    simp [hu] at h
    subst h
    cases d <;> simp [isAgg, underlying, hu]

theorem vseq_flat : ∀ {l m : List Value}, vseq l m = true → VRL ι l l
  | [], [], _ => .nil
  | a :: l, b :: m, h => by
    simp only [vseq, Bool.and_eq_true] at h
    have e := veq_eq h.1
    subst e
    exact .cons (VR.flat h.1) (vseq_flat h.2)
  | [], _ :: _, h => by simp [vseq] at h
  | _ :: _, [], h => by simp [vseq] at h

theorem vseq_one : ∀ {l m : List Value}, vseq l m = true → l.all oneCell = true
  | [], _, _ => rfl
  | a :: l, b :: m, h => by
    simp only [vseq, Bool.and_eq_true] at h
    simp only [List.all_cons, Bool.and_eq_true]
    refine ⟨?_, vseq_one h.2⟩
    have h1 := h.1
    unfold veq at h1
    split at h1 <;> first | rfl | simp at h1
  | _ :: _, [], h => by simp [vseq] at h

/-- A zero value's cells: those of the type, each of them standing for itself. -/
theorem zero_rel {t : TypeId} {zs : List Value} (h : mZero P t zs = true) (w : World) : ∃ z, (zeroValue t).run P w = .ok z w ∧ z.cells.toList = zs ∧ (∀ ι, VRL ι zs zs) ∧ zs.all oneCell = true := by
  unfold mZero at h
  cases hz : tzero P t with
  | none => simp [hz] at h
  | some l =>
    simp [hz] at h
    obtain ⟨z, h1, h2⟩ := run_zero' hz w
    have e := vseq_eq h
    exact ⟨z, h1, h2.trans e, fun ι => e ▸ vseq_flat h, e ▸ vseq_one h⟩

/-! ### a local box -/
def setLam (lam : Nat → Nat) (k c : Nat) : Nat → Nat := fun j => if j = k then c else lam j

theorem box_setb (f : AFr) (k : Nat) (cs : List Value) (j : Nat) : (f.setb (some (k, cs))).box j = if j = k then some cs else f.box j := by
  unfold AFr.setb AFr.box
  by_cases h : j = k
  · subst h; simp
  · have : (j == k) = false := by simpa using h
    simp [List.lookup, this, h]

theorem get_setb (f : AFr) (u : Option (Nat × List Value)) (t : Nat) : (f.setb u).get t = f.get t := by
  cases u <;> rfl

theorem cell_alloc_lt {w : World} {o : Obj} {ad : Addr} {v : Value} (h : w.cell? ad = some v) : (w.alloc o).cell? ad = some v :=
  (World.cell?_alloc_lt (w := w) (a := ad) (o := o) (World.block_lt_of_cell? (w := w) (a := ad) h)).trans h

/-- The heap is there as ever behind a new block. -/
theorem Inv.alloc (hI : Inv B ι σ w) (o : Obj) : Inv B ι σ (w.alloc o) where
  blk b cs e m h := by
    obtain ⟨p, h1, h2, h3⟩ := hI.blk b cs e m h
    refine ⟨p, h1, h2, fun i v hv => ?_⟩
    obtain ⟨v', h4, h5⟩ := h3 i v hv
    exact ⟨v', cell_alloc_lt h4, h5⟩
  own b cs e m p h hm hb := by
    obtain ⟨h1, h2, arr, el, h3, h4⟩ := hI.own b cs e m p h hm hb
    exact ⟨h1, h2, arr, el, (heap_alloc_old w o p.c (lt_of_heap h3)).trans h3, h4⟩
  excl := hI.excl
  dom := hI.dom
  lt b p h := by have := hI.lt b p h; simp; omega
  base := by have := hI.base; simp; omega

theorem Bs.alloc (w ι σ) (o : Obj) : Bs w ι σ (w.alloc o) ι σ where
  os := rfl
  tape := rfl
  output := rfl
  size := by simp
  keep c hc _ := heap_alloc_old w o c hc
  ext := Inj.le_refl _
  img _ _ h := .inl h
  wim _ h := .inr h

/-- A new local box. -/
theorem Sim.box (hI : Inv B ι σ w) (hB : Bs w0 ι0 σ0 w ι σ) (hF : FR w0.heap.size nt lam ι σ f a w) {o : Oper} {k : Nat} {zs : List Value} {arr : Array Value} {el : TypeId} {lab : Lab}
    (hk : (f.box k).isNone) (hzs : VRL ι zs arr.toList) (ho : zs.all oneCell = true)
    (hrun : (execOp a.eval o).run P w = .ok (.value (.pointer (some ⟨w.heap.size, 0, none⟩))) (w.alloc (.cells arr el))) : Sim P B nt w0 ι0 σ0 f a w o (.l k 0, some (k, zs), σ, lab) := by
  have hF' := FR.step (Bs.alloc w ι σ (.cells arr el)) hF
  have hne : ∀ j, (f.box j).isSome → j ≠ k := fun j hj e => by subst e; cases hb : f.box j <;> simp [hb] at hj hk
  have hlt : ∀ j, (f.box j).isSome → lam j < w.heap.size := fun j hj => by
    obtain ⟨cs, hcs⟩ := Option.isSome_iff_exists.1 hj
    obtain ⟨_, ⟨_, _, h, _⟩, _⟩ := hF.box j cs hcs
    exact lt_of_heap h
  refine ⟨_, _, setLam lam k w.heap.size, ι, .inl hrun, hI.alloc _, hB.trans (Bs.alloc w ι σ _), ⟨hF'.nt, hF'.defers, ?_, ?_, ?_⟩, ?_⟩
  · intro t x hx
    rw [get_setb] at hx
    have h := hF'.tmp t x hx
    cases x with
    | v x => exact h
    | l j o =>
      refine ⟨?_, by rw [box_setb]; split <;> simp [h.2]⟩
      rw [h.1]; simp [setLam, hne j h.2]
    | imm cs e n =>
      obtain ⟨c, arr', el', h1, h2, h3, h4, h5, h6, h7, h8, h9⟩ := h
      have h3' := hF.tmp t _ hx
      obtain ⟨c', arr2, el2, e1, _, e3, _⟩ := h3'
      have hc : c < w.heap.size := by
        have := h1.symm.trans e1
        injection this with e _ _
        injection e with e
        injection e with e
        exact e ▸ lt_of_heap e3
      refine ⟨c, arr', el', h1, h2, h3, h4, h5, h6, h7, h8, fun j hj e => ?_⟩
      rw [box_setb] at hj
      simp only [setLam] at e
      by_cases hjk : j = k
      · simp [hjk] at e; omega
      · simp [hjk] at e hj; exact h9 j hj e
  · intro j cs hj
    rw [box_setb] at hj
    simp only [setLam]
    by_cases hjk : j = k
    · simp only [hjk, if_true, Option.some.injEq] at hj ⊢
      subst hj
      refine ⟨hB.size, ⟨arr, el, heap_alloc_new w _, hzs, ho⟩, fun b p hb e => ?_⟩
      have := hI.lt b p hb
      omega
    · simp only [hjk, if_false] at hj ⊢
      exact hF'.box j cs hj
  · intro i j hi hj hij
    rw [box_setb] at hi hj
    simp only [setLam]
    by_cases h1 : i = k
    · by_cases h2 : j = k
      · exact absurd (h1.trans h2.symm) hij
      · simp only [h1, h2, if_true, if_false] at hj ⊢
        have := hlt j hj
        omega
    · by_cases h2 : j = k
      · simp only [h1, h2, if_true, if_false] at hi ⊢
        have := hlt i hi
        omega
      · simp only [h1, h2, if_false] at hi hj ⊢
        exact hF.inj i j hi hj hij
  · exact ⟨by simp [setLam], by rw [box_setb]; simp⟩

/-! ### a new row of the heap -/
def setIota (ι : Inj) (b : Nat) (p : IB) : Inj := fun x => if x = b then some p else ι x

theorem le_setIota {b : Nat} (hd : ι b = none) (p : IB) : ι.le (setIota ι b p) := fun x q h => by
  unfold setIota
  by_cases e : x = b
  · subst e; rw [hd] at h; simp at h
  · simp [e, h]

theorem push_get (σ : AHeap) (x : ABlk) (b : Nat) : (σ.push x)[b]? = if b = σ.size then some x else σ[b]? := by
  rw [Array.getElem?_push]

/-- A row of a new block. -/
theorem Inv.push (hI : Inv B ι σ w) {cs : List Value} {e : Nat} {m : AMode} {arr : Array Value} {el : TypeId} {M : Nat}
    (hcs : VRL ι cs (arr.toList.take cs.length)) (ho : cs.all oneCell = true) (h1 : cs.length ≤ M) (h2 : M ≤ arr.size) :
    Inv B (setIota ι σ.size ⟨w.heap.size, 0, e, M⟩) (σ.push (.row cs e m)) (w.alloc (.cells arr el)) ∧
      Bs w ι σ (w.alloc (.cells arr el)) (setIota ι σ.size ⟨w.heap.size, 0, e, M⟩) (σ.push (.row cs e m)) := by
  have hd : ι σ.size = none := hI.dom _ (Nat.le_refl _)
  have hle := le_setIota hd ⟨w.heap.size, 0, e, M⟩
  have hA := hI.alloc (.cells arr el)
  have old : ∀ b x, (σ.push (.row cs e m))[b]? = some x → b ≠ σ.size → σ[b]? = some x := fun b x h hb => by rwa [push_get, if_neg hb] at h
  have new : ∀ x, (σ.push (.row cs e m))[σ.size]? = some x → x = .row cs e m := fun x h => by simpa [push_get] using h.symm
  have iold : ∀ b, b ≠ σ.size → setIota ι σ.size ⟨w.heap.size, 0, e, M⟩ b = ι b := fun b hb => by simp [setIota, hb]
  have inew : setIota ι σ.size ⟨w.heap.size, 0, e, M⟩ σ.size = some ⟨w.heap.size, 0, e, M⟩ := by simp [setIota]
  refine ⟨⟨?_, ?_, ?_, ?_, ?_, ?_⟩, ⟨rfl, rfl, rfl, by simp, fun c hc _ => heap_alloc_old w _ c hc, hle, ?_, ?_⟩⟩
  · intro b cs' e' m' h
    by_cases hb : b = σ.size
    · subst hb
      have hx := new _ h
      injection hx with x1 x2 x3
      subst x1 x2 x3
      refine ⟨_, inew, rfl, fun i v hv => ?_⟩
      obtain ⟨v', hv', hr⟩ := hcs.get hv
      refine ⟨v', ?_, VR.mono hle hr, List.all_eq_true.1 ho v (List.mem_of_getElem? hv)⟩
      have hlt : i < cs'.length := by
        rcases Nat.lt_or_ge i cs'.length with h | h
        · exact h
        · simp [List.getElem?_eq_none h] at hv
      rw [List.getElem?_take_of_lt hlt] at hv'
      simpa using hv'
    · obtain ⟨p, h3, h4, h5⟩ := hA.blk b cs' e' m' (old _ _ h hb)
      refine ⟨p, (iold b hb).trans h3, h4, fun i v hv => ?_⟩
      obtain ⟨v', h6, h7, h8⟩ := h5 i v hv
      exact ⟨v', h6, VR.mono hle h7, h8⟩
  · intro b cs' e' m' p h hm hp
    by_cases hb : b = σ.size
    · subst hb
      have hx := new _ h
      injection hx with x1 x2 x3
      subst x1 x2 x3
      rw [inew] at hp
      injection hp with hp
      subst hp
      exact ⟨hI.base, h1, arr, el, heap_alloc_new w _, by simpa using h2⟩
    · exact hA.own b cs' e' m' p (old _ _ h hb) hm ((iold b hb).symm.trans hp)
  · intro b cs1 e1 m1 p b' cs2 e2 m2 p' h hm hp h' hp' hne hc
    by_cases hb : b = σ.size
    · subst hb
      rw [inew] at hp
      injection hp with hp
      subst hp
      have := hI.lt b' p' ((iold b' (Ne.symm hne)).symm.trans hp')
      simp only at hc
      omega
    · by_cases hb' : b' = σ.size
      · subst hb'
        rw [inew] at hp'
        injection hp' with hp'
        subst hp'
        have := hI.lt b p ((iold b hb).symm.trans hp)
        simp only at hc
        omega
      · exact hA.excl b cs1 e1 m1 p b' cs2 e2 m2 p' (old _ _ h hb) hm ((iold b hb).symm.trans hp) (old _ _ h' hb') ((iold b' hb').symm.trans hp') hne hc
  · intro b hb
    simp at hb
    have hb' : b ≠ σ.size := by omega
    rw [iold b hb']
    exact hI.dom b (by omega)
  · intro b p hp
    by_cases hb : b = σ.size
    · subst hb; rw [inew] at hp; injection hp with hp; subst hp; simp
    · exact hA.lt b p ((iold b hb).symm.trans hp)
  · exact hA.base
  · intro b p hp
    by_cases hb : b = σ.size
    · subst hb; rw [inew] at hp; injection hp with hp; subst hp; exact .inr (.inl (Nat.le_refl _))
    · exact .inl ((iold b hb).symm.trans hp)
  · rintro c ⟨b, cs', e', m', p, h3, h4, h5, rfl⟩
    by_cases hb : b = σ.size
    · subst hb; rw [inew] at h5; injection h5 with h5; subst h5; exact .inl (Nat.le_refl _)
    · exact .inr ⟨b, cs', e', m', p, old _ _ h3 hb, h4, (iold b hb).symm.trans h5, rfl⟩

end
end Go.Am

namespace Go.Am

section
variable {P : Program} {B nt : Nat} {w0 : World} {ι0 ι : Inj} {σ0 σ : AHeap} {lam : Nat → Nat} {f : AFr} {a : Act} {w : World} {o : Oper} {d : Option Nat}
  {r : AV × Option (Nat × List Value) × AHeap × Lab}
variable (hI : Inv B ι σ w) (hB : Bs w0 ι0 σ0 w ι σ) (hF : FR w0.heap.size nt lam ι σ f a w)
include hI hB hF

theorem sim_mov {x y : Operand} (ho : o.op = .move y ∨ o.op = .assign y) (hm : oeq y x = true) (hs : stepOp d f σ (.mov x) = some r) : Sim P B nt w0 ι0 σ0 f a w o r := by
  have hrun : (execOp a.eval o).run P w = .ok (.value (a.eval y)) w := by rcases ho with ho | ho <;> simp [execOp, ho]
  simp only [stepOp] at hs
  split at hs
  · rename_i v hx; injection hs with hs; subst hs; exact Sim.pure hI hB hF hrun (ev_rel hF hm hx)
  · rename_i k q hx; injection hs with hs; subst hs; exact Sim.pure hI hB hF hrun (ev_rel hF hm hx)
  · simp at hs

theorem sim_pick {c x y c' x' y' : Operand} (ho : o.op = .pick c' x' y') (hc : oeq c' c = true) (hx : oeq x' x = true) (hy : oeq y' y = true) (hs : stepOp d f σ (.pick c x y) = some r) :
    Sim P B nt w0 ι0 σ0 f a w o r := by
  simp only [stepOp] at hs
  split at hs
  · rename_i t hcv
    have e := vr_bool (evV_rel hF hc hcv)
    split at hs
    · rename_i v hv
      injection hs with hs
      subst hs
      cases t with
      | true => exact Sim.pure hI hB hF (y := a.eval x') (by simp [execOp, ho, e, asBool]) (ev_rel hF hx (by simpa using hv))
      | false => exact Sim.pure hI hB hF (y := a.eval y') (by simp [execOp, ho, e, asBool]) (ev_rel hF hy (by simpa using hv))
    · simp at hs
  · simp at hs

theorem sim_lalloc {t : TypeId} {zs : List Value} (ho : o.op = .alloc t) (hz : mZero P t zs = true) (hs : stepOp d f σ (.lalloc zs) = some r) : Sim P B nt w0 ι0 σ0 f a w o r := by
  obtain ⟨z, h1, h2, h3, -⟩ := zero_rel hz w
  simp only [stepOp] at hs
  split at hs
  · rename_i k
    split at hs
    · rename_i hk
      injection hs with hs
      subst hs
      refine Sim.box hI hB hF (arr := z.cells) (el := t) hk.1 (by rw [h2]; exact h3 ι) hk.2 ?_
      simp [execOp, ho, Instr.alloc, h1, newVar, newRow]
    · simp at hs
  · simp at hs

theorem sim_lbox {t : TypeId} {x y : Operand} (ho : o.op = .box t y) (hm : oeq y x = true) (hs : stepOp d f σ (.lbox x) = some r) : Sim P B nt w0 ι0 σ0 f a w o r := by
  simp only [stepOp] at hs
  split at hs
  · rename_i k v hx
    split at hs
    · rename_i hk
      injection hs with hs
      subst hs
      refine Sim.box hI hB hF (arr := (a.eval y).cells) (el := t) hk.1 (VR.cells (evV_rel hF hm hx)) hk.2 ?_
      simp [execOp, ho, Instr.box, newVar, newRow]
    · simp at hs
  · simp at hs

omit hF in
/-- A new row: what is told of it. -/
theorem Sim.row {cs : List Value} {e : Nat} {m : AMode} {arr : Array Value} {el : TypeId} {M : Nat} {v : AV} {y : Value} {lab : Lab} (hF : FR w0.heap.size nt lam ι σ f a w)
    (hcs : VRL ι cs (arr.toList.take cs.length)) (hone : cs.all oneCell = true) (h1 : cs.length ≤ M) (h2 : M ≤ arr.size)
    (hrun : (execOp a.eval o).run P w = .ok (.value y) (w.alloc (.cells arr el)))
    (hv : ∀ ι', ι'.le (setIota ι σ.size ⟨w.heap.size, 0, e, M⟩) → setIota ι σ.size ⟨w.heap.size, 0, e, M⟩ = ι' → ∃ u, v = .v u ∧ VR ι' u y) :
    Sim P B nt w0 ι0 σ0 f a w o (v, none, σ.push (.row cs e m), lab) := by
  obtain ⟨hI', hB'⟩ := hI.push (e := e) (m := m) (el := el) hcs hone h1 h2
  obtain ⟨u, rfl, hu⟩ := hv _ (Inj.le_refl _) rfl
  exact ⟨y, _, lam, _, .inl hrun, hI', hB.trans hB', hF.step hB', hu⟩

theorem sim_halloc {t : TypeId} {zs : List Value} (ho : o.op = .alloc t) (hz : mZero P t zs = true) (hs : stepOp d f σ (.halloc zs) = some r) : Sim P B nt w0 ι0 σ0 f a w o r := by
  obtain ⟨z, h1, h2, h3, -⟩ := zero_rel hz w
  have hl : z.cells.size = zs.length := by rw [← h2]; simp
  simp only [stepOp] at hs
  split at hs
  · rename_i hone
    injection hs with hs
    subst hs
    refine Sim.row hI hB hF (arr := z.cells) (el := t) (M := zs.length) (by rw [h2, List.take_length]; exact h3 ι) hone (Nat.le_refl _) (by omega)
      (y := .pointer (some ⟨w.heap.size, 0, none⟩)) (by simp [execOp, ho, Instr.alloc, h1, newVar, newRow]) ?_
    rintro ι' - rfl
    exact ⟨_, rfl, .ptr (p := ⟨w.heap.size, 0, 0, zs.length⟩) (by simp [setIota])⟩
  · simp at hs

theorem sim_hbox {t : TypeId} {x y : Operand} (ho : o.op = .box t y) (hm : oeq y x = true) (hs : stepOp d f σ (.hbox x) = some r) : Sim P B nt w0 ι0 σ0 f a w o r := by
  simp only [stepOp] at hs
  split at hs
  · rename_i v hx
    have hv := VR.cells (evV_rel hF hm hx)
    have hl := hv.length
    split at hs
    · rename_i hone
      injection hs with hs
      subst hs
      refine Sim.row hI hB hF (arr := (a.eval y).cells) (el := t) (M := v.cells.toList.length) (by rw [← hl, List.take_length]; exact hv) hone (Nat.le_refl _) (by simp at hl ⊢; omega)
        (y := .pointer (some ⟨w.heap.size, 0, none⟩)) (by simp [execOp, ho, Instr.box, newVar, newRow]) ?_
      rintro ι' - rfl
      exact ⟨_, rfl, .ptr (p := ⟨w.heap.size, 0, 0, v.cells.toList.length⟩) (by simp [setIota])⟩
    · simp at hs
  · simp at hs

theorem sim_nilchk {x y : Operand} (ho : o.op = .nilCheck y) (hm : oeq y x = true) (hs : stepOp d f σ (.nilchk x) = some r) : Sim P B nt w0 ι0 σ0 f a w o r := by
  simp only [stepOp] at hs
  split at hs
  · rename_i ad hx
    injection hs with hs
    subst hs
    have hv := evV_rel hF hm hx
    obtain ⟨b, off, sp⟩ := ad
    generalize hy : a.eval y = z at hv
    cases hv with
    | ptr h => exact Sim.pure hI hB hF (y := .pointer (some _)) (by simp [execOp, ho, hy]) (VR.ptr h)
  · simp at hs

theorem sim_un {op : UnOp} {t : TypeId} {x y : Operand} (ho : o.op = .unOp op t y) (hm : oeq y x = true) (hs : stepOp d f σ (.un op x) = some r) : Sim P B nt w0 ι0 σ0 f a w o r := by
  simp only [stepOp] at hs
  cases hx : f.evV x with
  | none => simp [hx] at hs
  | some v =>
    have hv := evV_rel hF hm hx
    simp only [hx, Option.bind_some] at hs
    unfold aUn at hs
    split at hs
    · rename_i b
      simp only [Option.bind_some, Option.some.injEq] at hs
      subst hs
      have e := vr_bool hv
      exact Sim.pure hI hB hF (y := .bool !b) (by simp [execOp, ho, e, Op.unary]) (VR.bool _)
    · rename_i k n
      simp only [Option.bind_some, Option.some.injEq] at hs
      subst hs
      have e := vr_int hv
      exact Sim.pure hI hB hF (y := .int k (k.wrap (0 - n))) (by simp [execOp, ho, e, Op.unary, Op.intArith]) (VR.int _ _)
    · simp at hs

theorem sim_conv {s t : TypeId} {k : IntKind} {x y : Operand} (ho : o.op = .convert s t y) (hm : oeq y x = true) (hsrc : (P.underlying s).isSome = true) (hdst : P.underlying t = some (.int k))
    (hs : stepOp d f σ (.conv k x) = some r) : Sim P B nt w0 ι0 σ0 f a w o r := by
  obtain ⟨ds, hds⟩ := Option.isSome_iff_exists.1 hsrc
  simp only [stepOp] at hs
  split at hs
  · rename_i k' n hx
    injection hs with hs
    subst hs
    have e := vr_int (evV_rel hF hm hx)
    exact Sim.pure hI hB hF (y := .int k (k.wrap n)) (by cases ds <;> simp [execOp, ho, e, convert, run_underlying' hds, run_underlying' hdst, Conv.intToInt]) (VR.int _ _)
  · simp at hs

theorem sim_mkif {t : TypeId} {x y : Operand} (ho : o.op = .makeInterface t y) (hm : oeq y x = true) {dt : TypeDesc} (ht : P.underlying t = some dt) (hni : ∀ ms, dt ≠ .interface ms)
    (hs : stepOp d f σ (.mkif t x) = some r) : Sim P B nt w0 ι0 σ0 f a w o r := by
  simp only [stepOp] at hs
  cases hx : f.evV x with
  | none => simp [hx] at hs
  | some v =>
    simp only [hx, Option.bind_some, Option.some.injEq] at hs
    subst hs
    exact Sim.pure hI hB hF (y := .iface t (a.eval y)) (by cases dt <;> first | (exact absurd rfl (hni _)) | simp [execOp, ho, Instr.makeInterface, run_underlying' ht]) (VR.iface _ (evV_rel hF hm hx))

omit hI hB in
theorem evAll_rel : ∀ {xs ys : List Operand} {l : List Value}, oseq ys xs = true → evAll f xs = some l → VRL ι l (ys.map a.eval)
  | [], [], _, _, h => by simp [evAll] at h; subst h; exact .nil
  | x :: xs, y :: ys, l, hm, h => by
    simp only [oseq, Bool.and_eq_true] at hm
    simp only [evAll] at h
    cases hx : f.evV x with
    | none => simp [hx] at h
    | some v =>
      cases hl : evAll f xs with
      | none => simp [hx, hl] at h
      | some l' =>
        simp only [hx, hl, Option.bind_some, Option.some.injEq] at h
        subst h
        exact .cons (evV_rel hF hm.1 hx) (evAll_rel hm.2 hl)
  | [], _ :: _, _, hm, _ => by simp [oseq] at hm
  | _ :: _, [], _, hm, _ => by simp [oseq] at hm

theorem sim_mkfn {fn : Fn} {first cap : Array Operand} {xs : List Operand} (ho : o.op = .makeFunc fn first cap) (hfi : first.isEmpty = true) (hm : oseq cap.toList xs = true)
    (hs : stepOp d f σ (.mkfn fn xs) = some r) : Sim P B nt w0 ι0 σ0 f a w o r := by
  simp only [stepOp] at hs
  cases hx : evAll f xs with
  | none => simp [hx] at hs
  | some l =>
    simp only [hx, Option.bind_some, Option.some.injEq] at hs
    subst hs
    have hfi : first = #[] := by simpa using hfi
    have hr := evAll_rel hF hm hx
    exact Sim.pure hI hB hF (y := .func fn #[] (cap.map a.eval)) (by simp [execOp, ho, Instr.makeFunc, hfi]) (VR.func fn (by simpa using hr))

theorem sim_ext {x y : Operand} {i : Nat} (ho : o.op = .extract y i) (hm : oeq y x = true) (hs : stepOp d f σ (.ext x i) = some r) : Sim P B nt w0 ι0 σ0 f a w o r := by
  simp only [stepOp] at hs
  split at hs
  · rename_i vs hx
    obtain ⟨vs', e, hr⟩ := vr_tuple (evV_rel hF hm hx)
    split at hs
    · rename_i v hv
      injection hs with hs
      subst hs
      obtain ⟨v', hv', hr'⟩ := hr.get (i := i) (by simpa using hv)
      exact Sim.pure hI hB hF (y := v') (by simp only [execOp, ho, e, Instr.extract]; rw [show vs'[i]? = some v' by simpa using hv']; simp) hr'
    · simp at hs
  · simp at hs

theorem sim_len {t : TypeId} {x y : Operand} {e : TypeId} (ho : o.op = .call { callee := .builtin .len, args := #[y], argTypes := #[t] }) (hm : oeq y x = true) (ht : P.underlying t = some (.slice e))
    (hs : stepOp d f σ (.len x) = some r) : Sim P B nt w0 ι0 σ0 f a w o r := by
  simp only [stepOp] at hs
  split at hs
  · rename_i ad n c hx
    injection hs with hs
    subst hs
    obtain ⟨a', c', ey, _⟩ := vr_slice (evV_rel hF hm hx)
    exact Sim.pure hI hB hF (y := .int .i64 n) (by simp [execOp, ho, resolve, invoke, builtin, Builtin.len_, run_underlying' ht, ey, goInt]) (VR.int _ _)
  · simp at hs

theorem sim_slen {t : TypeId} {x y : Operand} (ho : o.op = .call { callee := .builtin .len, args := #[y], argTypes := #[t] }) (hm : oeq y x = true) (ht : P.underlying t = some .string)
    (hs : stepOp d f σ (.slen x) = some r) : Sim P B nt w0 ι0 σ0 f a w o r := by
  simp only [stepOp] at hs
  split at hs
  · rename_i s hx
    injection hs with hs
    subst hs
    have ey := vr_string (evV_rel hF hm hx)
    exact Sim.pure hI hB hF (y := .int .i64 s.size) (by simp [execOp, ho, resolve, invoke, builtin, Builtin.len_, run_underlying' ht, ey, goInt]) (VR.int _ _)
  · simp at hs

theorem sim_mx {x y x' y' : Operand} {ts : Array TypeId} (ho : o.op = .call { callee := .builtin .max, args := #[x', y'], argTypes := ts }) (hx : oeq x' x = true) (hy : oeq y' y = true)
    (hs : stepOp d f σ (.mx x y) = some r) : Sim P B nt w0 ι0 σ0 f a w o r := by
  simp only [stepOp] at hs
  split at hs
  · rename_i k p k' q h1 h2
    injection hs with hs
    subst hs
    have e1 := vr_int (evV_rel hF hx h1)
    have e2 := vr_int (evV_rel hF hy h2)
    exact Sim.pure hI hB hF (y := .int k (if q > p then q else p)) (by simp [execOp, ho, resolve, invoke, builtin, Builtin.max_, Builtin.max2, e1, e2]) (VR.int _ _)
  · simp at hs

theorem sim_mn {x y x' y' : Operand} {ts : Array TypeId} (ho : o.op = .call { callee := .builtin .min, args := #[x', y'], argTypes := ts }) (hx : oeq x' x = true) (hy : oeq y' y = true)
    (hs : stepOp d f σ (.mn x y) = some r) : Sim P B nt w0 ι0 σ0 f a w o r := by
  simp only [stepOp] at hs
  split at hs
  · rename_i k p k' q h1 h2
    injection hs with hs
    subst hs
    have e1 := vr_int (evV_rel hF hx h1)
    have e2 := vr_int (evV_rel hF hy h2)
    exact Sim.pure hI hB hF (y := .int k (if q < p then q else p)) (by simp [execOp, ho, resolve, invoke, builtin, Builtin.min_, Builtin.min2, e1, e2]) (VR.int _ _)
  · simp at hs

end
end Go.Am

namespace Go.Am

theorem addr_add (c o n : Nat) : (⟨c, o, none⟩ : Addr).add n = ⟨c, o + n, none⟩ := by
  unfold Addr.add
  by_cases h : n = 0
  · simp [h]
  · simp [h]

theorem collect {ι : Inj} {g : Nat → Option Value} : ∀ {l : List Value} {k : Nat}, (∀ i v, l[i]? = some v → ∃ v', g (k + i) = some v' ∧ VR ι v v' ∧ oneCell v = true) →
    ∃ l', l'.length = l.length ∧ (∀ i v', l'[i]? = some v' → g (k + i) = some v') ∧ VRL ι l l' ∧ l.all oneCell = true
  | [], _, _ => ⟨[], rfl, by simp, .nil, rfl⟩
  | v :: l, k, h => by
    obtain ⟨v', h1, h2, h3⟩ := h 0 v rfl
    obtain ⟨l', h4, h5, h6, h7⟩ := collect (g := g) (l := l) (k := k + 1) fun i x hx => by
      have := h (i + 1) x (by simpa using hx)
      rwa [show k + 1 + i = k + (i + 1) by omega]
    refine ⟨v' :: l', by simp [h4], ?_, .cons h2 h6, by simp [h3]; simpa using h7⟩
    intro i x hx
    cases i with
    | zero => simp at hx; subst hx; exact h1
    | succ i => rw [show k + (i + 1) = k + 1 + i by omega]; exact h5 i x (by simpa using hx)

/-- Cells that can be read. -/
def Readable (ι : Inj) (w : World) (c q : Nat) (cs : List Value) : Prop := ∀ i v, cs[i]? = some v → ∃ v', w.cell? ⟨c, q + i, none⟩ = some v' ∧ VR ι v v' ∧ oneCell v = true

theorem Readable.part {ι w c q cs} (h : Readable ι w c q cs) (off n : Nat) (hn : off + n ≤ cs.length) :
    ∃ l', l'.length = n ∧ (∀ i v', l'[i]? = some v' → w.cell? ((⟨c, q + off, none⟩ : Addr).add i) = some v') ∧ VRL ι ((cs.drop off).take n) l' ∧ ((cs.drop off).take n).all oneCell = true := by
  obtain ⟨l', h1, h2, h3, h4⟩ := collect (ι := ι) (g := fun i => w.cell? ⟨c, q + off + i, none⟩) (l := (cs.drop off).take n) (k := 0) (by
    intro i v hv
    have hlt : i < n := by
      rcases Nat.lt_or_ge i n with h | h
      · exact h
      · rw [List.getElem?_take_eq_none h] at hv; simp at hv
    rw [List.getElem?_take_of_lt hlt, List.getElem?_drop] at hv
    obtain ⟨v', h5, h6⟩ := h (off + i) v hv
    exact ⟨v', by rw [Nat.zero_add, Nat.add_assoc]; exact h5, h6⟩)
  refine ⟨l', by rw [h1]; simp; omega, fun i v' hv => ?_, h3, h4⟩
  rw [addr_add]
  simpa using h2 i v' hv

section
variable {P : Program} {B nt : Nat} {w0 : World} {ι0 ι : Inj} {σ0 σ : AHeap} {lam : Nat → Nat} {f : AFr} {a : Act} {w : World} {o : Oper} {d : Option Nat}
  {r : AV × Option (Nat × List Value) × AHeap × Lab}

theorem mLoad_some {t n} (h : mLoad P t (some n) = true) : tagg P t = some true ∧ tsize P t = some n := by
  unfold mLoad at h
  cases ht : tagg P t with
  | none => simp [ht] at h
  | some b => cases b <;> simp [ht] at h; exact ⟨rfl, h⟩

theorem mLoad_none {t} (h : mLoad P t none = true) : tagg P t = some false ∧ tsize P t = some 1 := by
  unfold mLoad at h
  cases ht : tagg P t with
  | none => simp [ht] at h
  | some b => cases b <;> simp [ht] at h; exact ⟨rfl, h⟩

/-- A variable is loaded. -/
theorem load_run {t : TypeId} {n : Option Nat} {c q off : Nat} {cs : List Value} {v : Value} (hm : mLoad P t n = true) (hR : Readable ι w c q cs) (hc : cut n cs off = some v) :
    ∃ y, (loadVar t ⟨c, q + off, none⟩).run P w = .ok y w ∧ VR ι v y := by
  cases n with
  | some n =>
    obtain ⟨h1, h2⟩ := mLoad_some hm
    simp only [cut] at hc
    split at hc
    · rename_i hn
      injection hc with hc
      subst hc
      obtain ⟨l', h3, h4, h5, h6⟩ := hR.part off n hn
      have hl := run_loadCells_list (P := P) w ⟨c, q + off, none⟩ l' h4
      rw [h3] at hl
      refine ⟨.agg l'.toArray, ?_, VR.agg (by simpa using h5) (by simpa using h6)⟩
      simp [loadVar, run_isAgg' h1, run_sizeOf' h2, hl]
    · simp at hc
  | none =>
    obtain ⟨h1, h2⟩ := mLoad_none hm
    simp only [cut] at hc
    obtain ⟨v', h3, h4, _⟩ := hR off v hc
    exact ⟨v', by simp [loadVar, run_isAgg' h1, h3], h4⟩

theorem readable_row {cs : List Value} {arr : Array Value} {c : Nat} {el : TypeId} {fr : Nat × Nat} (hh : w.heap[c]? = some (.cells arr el fr)) (hr : VRL ι cs arr.toList) (ho : cs.all oneCell = true) :
    Readable ι w c 0 cs := fun i v hv => by
  obtain ⟨v', h1, h2⟩ := hr.get hv
  exact ⟨v', by rw [Nat.zero_add, cell_of_row w c i arr el fr hh]; simpa using h1, h2, List.all_eq_true.1 ho v (List.mem_of_getElem? hv)⟩

variable (hI : Inv B ι σ w) (hB : Bs w0 ι0 σ0 w ι σ) (hF : FR w0.heap.size nt lam ι σ f a w)

omit hB hF in
include hI in
theorem readable_blk {b : Nat} {cs e m p} (h : σ[b]? = some (.row cs e m)) (hp : ι b = some p) : Readable ι w p.c p.o cs := by
  obtain ⟨p', h1, h2, h3⟩ := hI.blk b cs e m h
  rw [hp] at h1
  injection h1 with h1
  subst h1
  exact h3

include hI hB hF

theorem sim_load {t : TypeId} {n : Option Nat} {x y : Operand} (ho : o.op = .load t y) (hm : mLoad P t n = true) (hx : oeq y x = true) (hs : stepOp d f σ (.load n x) = some r) :
    Sim P B nt w0 ι0 σ0 f a w o r := by
  simp only [stepOp] at hs
  split at hs
  · rename_i k q hv
    obtain ⟨e, hk⟩ := ev_rel hF hx hv
    obtain ⟨cs, hcs⟩ := Option.isSome_iff_exists.1 hk
    simp only [hcs, Option.bind_some] at hs
    cases hc : cut n cs q with
    | none => simp [hc] at hs
    | some v =>
      simp only [hc, Option.bind_some, Option.some.injEq] at hs
      subst hs
      obtain ⟨_, ⟨arr, el, h1, h2, h3⟩, _⟩ := hF.box k cs hcs
      obtain ⟨z, hz, hvr⟩ := load_run hm (readable_row h1 h2 h3) hc
      exact Sim.pure hI hB hF (y := z) (by rw [Nat.zero_add] at hz; simp [execOp, ho, e, Instr.loadAt, Instr.sureAddr, hz]) hvr
  · rename_i b q hv
    obtain ⟨p, hp, e⟩ := vr_ptr (ev_rel hF hx hv)
    split at hs
    · rename_i cs e' m hb
      cases hc : cut n cs q with
      | none => simp [hc] at hs
      | some v =>
        simp only [hc, Option.bind_some, Option.some.injEq] at hs
        subst hs
        obtain ⟨z, hz, hvr⟩ := load_run hm (readable_blk hI hb hp) hc
        exact Sim.pure hI hB hF (y := z) (by simp [execOp, ho, e, Instr.loadAt, Instr.sureAddr, hz]) hvr
    · simp at hs
  · simp at hs

theorem sim_faddr {s : TypeId} {i off : Nat} {x y : Operand} {fields : Array Field} {fd : Field} {n : Nat} (ho : o.op = .fieldAddr s y i) (hx : oeq y x = true) (hst : P.underlying s = some (.struct fields))
    (hfd : fields[i]? = some fd) (hoff : fd.offset = off) (hsz : tsize P fd.type = some n) (hn : n ≠ 0) (hs : stepOp d f σ (.faddr off x) = some r) : Sim P B nt w0 ι0 σ0 f a w o r := by
  have run : ∀ c q, a.eval y = .pointer (some ⟨c, q, none⟩) → (execOp a.eval o).run P w = .ok (.value (.pointer (some ⟨c, q + off, none⟩))) w := fun c q e => by
    simp [execOp, ho, e, Instr.fieldAt, run_underlying' hst, hfd, Instr.sureAddr, fieldPlace, run_sizeOf' hsz, hn, addr_add, hoff]
  simp only [stepOp] at hs
  split at hs
  · rename_i k q hv
    obtain ⟨e, hk⟩ := ev_rel hF hx hv
    injection hs with hs
    subst hs
    exact Sim.pure hI hB hF (run _ _ e) ⟨rfl, hk⟩
  · rename_i b q hv
    obtain ⟨p, hp, e⟩ := vr_ptr (ev_rel hF hx hv)
    injection hs with hs
    subst hs
    refine Sim.pure hI hB hF (run _ _ e) ?_
    rw [Nat.add_assoc]
    exact VR.ptr hp
  · simp at hs

omit hI hB hF in
theorem part_run {t : TypeId} {n : Option Nat} {off : Nat} {cs cs' : List Value} {v : Value} (hm : mLoad P t n = true) (hr : VRL ι cs cs') (hone : cs.all oneCell = true) (hc : cut n cs off = some v) :
    ∃ y, (part t cs'.toArray off).run P w = .ok y w ∧ VR ι v y := by
  cases n with
  | some n =>
    obtain ⟨h1, h2⟩ := mLoad_some hm
    simp only [cut] at hc
    split at hc
    · rename_i hn
      injection hc with hc
      subst hc
      refine ⟨.agg (((cs'.drop off).take n).toArray), ?_, VR.agg (by simpa using (hr.drop off).take n) ?_⟩
      · simp [part, run_isAgg' h1, run_sizeOf' h2]
      · simp only [List.all_eq_true] at hone ⊢
        exact fun v hv => hone v (List.mem_of_mem_drop (List.mem_of_mem_take (by simpa using hv)))
    · simp at hc
  | none =>
    obtain ⟨h1, h2⟩ := mLoad_none hm
    simp only [cut] at hc
    obtain ⟨v', h3, h4⟩ := hr.get hc
    exact ⟨v', by simp [part, run_isAgg' h1, h3], h4⟩

theorem sim_fld {s : TypeId} {i off : Nat} {n : Option Nat} {x y : Operand} {fields : Array Field} {fd : Field} (ho : o.op = .field s y i) (hx : oeq y x = true) (hst : P.underlying s = some (.struct fields))
    (hfd : fields[i]? = some fd) (hoff : fd.offset = off) (hm : mLoad P fd.type n = true) (hs : stepOp d f σ (.fld off n x) = some r) : Sim P B nt w0 ι0 σ0 f a w o r := by
  simp only [stepOp] at hs
  split at hs
  · rename_i cs hv
    obtain ⟨cs', e, hr, hone⟩ := vr_agg (evV_rel hF hx hv)
    cases hc : cut n cs.toList off with
    | none => simp [hc] at hs
    | some v =>
      simp only [hc, Option.bind_some, Option.some.injEq] at hs
      subst hs
      obtain ⟨z, hz, hvr⟩ := part_run (P := P) (w := w) hm hr hone hc
      exact Sim.pure hI hB hF (y := z) (by simp only [Array.toArray_toList] at hz; simp [execOp, ho, e, Instr.field, run_underlying' hst, hfd, asAgg, hoff, hz]) hvr
  · simp at hs

omit hI hB hF in
theorem mElem_some {t e} (h : mElem P t e = true) : ∃ el, P.underlying t = some (.slice el) ∧ tsize P el = some e := by
  unfold mElem at h
  split at h
  · rename_i el hu; exact ⟨el, hu, by simpa using h⟩
  · simp at h

theorem sim_iaddr {t : TypeId} {e : Nat} {x y i j : Operand} (ho : o.op = .indexAddr t y j) (hm : mElem P t e = true) (hx : oeq y x = true) (hi : oeq j i = true)
    (hs : stepOp d f σ (.iaddr e x i) = some r) : Sim P B nt w0 ι0 σ0 f a w o r := by
  obtain ⟨el, hu, hsz⟩ := mElem_some hm
  simp only [stepOp] at hs
  split at hs
  · rename_i b q n c k z h1 h2
    split at hs
    · rename_i hz
      injection hs with hs
      subst hs
      have ei := vr_int (evV_rel hF hi h2)
      have run : ∀ c' q' cap, a.eval y = .slice (some ⟨c', q', none⟩) n cap → (execOp a.eval o).run P w = .ok (.value (.pointer (some ⟨c', q' + z.toNat * e, none⟩))) w := fun c' q' cap ey => by
        simp [execOp, ho, ey, ei, Instr.indexAt, asIntOf, run_underlying' hu, run_sizeOf' hsz, hz, addr_add]
      have hn : 0 < n := by omega
      have hy := evV_rel hF hx h1
      generalize hyy : a.eval y = yy at hy
      cases hy with
      | slx ha =>
        obtain ⟨p, hp, rfl⟩ := ha hn
        refine Sim.pure hI hB hF (run _ _ _ hyy) ?_
        rw [Nat.add_assoc]
        exact VR.ptr hp
      | sln he hc ha =>
        obtain ⟨p, hp, rfl, _⟩ := ha (by omega)
        refine Sim.pure hI hB hF (run _ _ _ hyy) ?_
        rw [Nat.add_assoc]
        exact VR.ptr hp
    · simp at hs
  · simp at hs

theorem sim_sidx {t : TypeId} {x y i j : Operand} (ho : o.op = .index t y j) (hu : P.underlying t = some .string) (hx : oeq y x = true) (hi : oeq j i = true)
    (hs : stepOp d f σ (.sidx x i) = some r) : Sim P B nt w0 ι0 σ0 f a w o r := by
  simp only [stepOp] at hs
  split at hs
  · rename_i s k z h1 h2
    have es := vr_string (evV_rel hF hx h1)
    have ei := vr_int (evV_rel hF hi h2)
    split at hs
    · rename_i b hb
      injection hs with hs
      subst hs
      exact Sim.pure hI hB hF (y := .int .u8 b.toNat) (by simp only [execOp, ho, es, ei, Instr.index]; simp [asIntOf, run_underlying' hu, hb]) (VR.int _ _)
    · simp at hs
  · simp at hs

/-! ### bounds -/
omit hI hB in
theorem bnd_run {x y : Option Operand} {dflt most h most' : Nat} (hm : ooeq y x = true) (hb : bnd f x dflt most = some h) (hle : most ≤ most') (code : BoundsCode) :
    (x = none ∧ y = none ∧ h = dflt) ∨ ∃ x' y' k z, x = some x' ∧ y = some y' ∧ a.eval y' = .int k z ∧ h = z.toNat ∧ h ≤ most ∧ (Instr.sliceBound (a.eval y') most' code).run P w = .ok h w := by
  have e := ooeq_eq hm
  subst e
  cases y with
  | none => simp [bnd] at hb; exact .inl ⟨rfl, rfl, hb.symm⟩
  | some y =>
    refine .inr ?_
    simp only [bnd] at hb
    cases hv : f.evV y with
    | none => simp [hv] at hb
    | some v =>
      have hvr := evV_rel hF (show oeq y y = true by simpa [ooeq] using hm) hv
      cases v <;> simp [hv, intOf?] at hb
      rename_i k z
      have ez := vr_int hvr
      obtain ⟨⟨h1, h2⟩, rfl⟩ := hb
      exact ⟨y, y, k, z, rfl, rfl, ez, rfl, by omega, by rw [ez, run_sliceBound w k z most' code h1 (by omega)]⟩

theorem sim_sslc {t : TypeId} {x y : Operand} {lo hi lo' hi' : Option Operand} (ho : o.op = .slice t y lo' hi' none) (hu : P.underlying t = some .string) (hx : oeq y x = true) (hl : ooeq lo' lo = true) (hh : ooeq hi' hi = true)
    (hs : stepOp d f σ (.sslc x lo hi) = some r) : Sim P B nt w0 ι0 σ0 f a w o r := by
  simp only [stepOp] at hs
  split at hs
  · rename_i s h1
    have es := vr_string (evV_rel hF hx h1)
    cases hb : bnd f hi s.size s.size with
    | none => simp [hb] at hs
    | some h =>
      cases hb2 : bnd f lo 0 h with
      | none => simp [hb, hb2] at hs
      | some l =>
        simp only [hb, hb2, Option.bind_some, Option.some.injEq] at hs
        subst hs
        refine Sim.pure hI hB hF (y := .string (s.extract l h)) ?_ (VR.string _)
        rcases bnd_run (P := P) (w := w) hF hh hb (Nat.le_refl _) .sliceAlen with ⟨_, e2, e3⟩ | ⟨_, y2, _, _, _, e2, _, _, _, hr⟩
        · rcases bnd_run (P := P) (w := w) hF hl hb2 (Nat.le_refl _) .sliceB with ⟨_, e5, e6⟩ | ⟨_, y5, _, _, _, e5, _, _, _, hr5⟩
          · simp [execOp, ho, es, Instr.sliceAt, Instr.slice, Instr.sliceBounds, run_underlying' hu, e2, e5, e3, e6]
          · rw [e3] at hr5; simp [execOp, ho, es, Instr.sliceAt, Instr.slice, Instr.sliceBounds, run_underlying' hu, e2, e5, e3, hr5]
        · rcases bnd_run (P := P) (w := w) hF hl hb2 (Nat.le_refl _) .sliceB with ⟨_, e5, e6⟩ | ⟨_, y5, _, _, _, e5, _, _, _, hr5⟩
          · simp [execOp, ho, es, Instr.sliceAt, Instr.slice, Instr.sliceBounds, run_underlying' hu, e2, e5, hr, e6]
          · simp [execOp, ho, es, Instr.sliceAt, Instr.slice, Instr.sliceBounds, run_underlying' hu, e2, e5, hr, hr5]
  · simp at hs

end
end Go.Am

namespace Go.Am

section
variable {P : Program} {B nt : Nat} {w0 : World} {ι0 ι : Inj} {σ0 σ : AHeap} {lam : Nat → Nat} {f : AFr} {a : Act} {w : World} {o : Oper} {d : Option Nat}
  {r : AV × Option (Nat × List Value) × AHeap × Lab}
variable (hI : Inv B ι σ w) (hB : Bs w0 ι0 σ0 w ι σ) (hF : FR w0.heap.size nt lam ι σ f a w)
include hI hB hF

theorem run_slice' {t : TypeId} {e : Nat} {el : TypeId} (hu : P.underlying t = some (.slice el)) (hsz : tsize P el = some e) (ad : Option Addr) (len cap : Nat) (lo hi mx : Option Value) {l h m : Nat}
    (hb : (Instr.sliceBounds true len cap lo hi mx).run P w = .ok (l, h, m) w) :
    (Instr.sliceAt t (.slice ad len cap) lo hi mx).run P w = .ok (.slice (if m = l then ad else ad.map (·.add (l * e))) (h - l) (m - l)) w := by
  have := hI; have := hB; have := hF
  simp [Instr.sliceAt, Instr.slice, run_underlying' hu, hb, run_sizeOf' hsz]

theorem bounds2 {lo hi lo' hi' : Option Operand} (hl : ooeq lo' lo = true) (hh : ooeq hi' hi = true) {len cap h l : Nat} (hc : len ≤ cap) (hb : bnd f hi len len = some h) (hb2 : bnd f lo 0 h = some l) :
    (Instr.sliceBounds true len cap (lo'.map a.eval) (hi'.map a.eval) none).run P w = .ok (l, h, cap) w ∧ h ≤ len ∧ l ≤ h := by
  have := hI; have := hB
  rcases bnd_run (P := P) (w := w) hF hh hb hc .sliceAcap with ⟨_, e2, e3⟩ | ⟨_, y2, k2, z2, _, e2, ez2, _, hle, hr⟩
  · rcases bnd_run (P := P) (w := w) hF hl hb2 (Nat.le_refl _) .sliceB with ⟨_, e5, e6⟩ | ⟨_, y5, _, _, _, e5, _, _, hle5, hr5⟩
    · refine ⟨?_, by omega, by omega⟩
      simp [Instr.sliceBounds, e2, e5, e3, e6]
    · refine ⟨?_, by omega, hle5⟩
      rw [e3] at hr5
      simp [Instr.sliceBounds, e2, e5, e3, hr5]
  · rcases bnd_run (P := P) (w := w) hF hl hb2 (Nat.le_refl _) .sliceB with ⟨_, e5, e6⟩ | ⟨_, y5, _, _, _, e5, _, _, hle5, hr5⟩
    · refine ⟨?_, hle, by omega⟩
      simp [Instr.sliceBounds, e2, e5, hr, e6]
    · refine ⟨?_, hle, hle5⟩
      simp [Instr.sliceBounds, e2, e5, hr, hr5]

theorem bounds3 {lo lo' : Option Operand} {hi hi' mx mx' : Operand} (hl : ooeq lo' lo = true) (hh : oeq hi' hi = true) (hm : oeq mx' mx = true) {len cap h l m most : Nat} (hc : most ≤ cap)
    (hb0 : bnd f (some mx) 0 most = some m) (hb : bnd f (some hi) len m = some h) (hb2 : bnd f lo 0 h = some l) :
    (Instr.sliceBounds true len cap (lo'.map a.eval) (some (a.eval hi')) (some (a.eval mx'))).run P w = .ok (l, h, m) w ∧ m ≤ most ∧ h ≤ m ∧ l ≤ h := by
  have := hI; have := hB
  rcases bnd_run (P := P) (w := w) (y := some mx') hF (by simpa [ooeq] using hm) hb0 hc .slice3Acap with ⟨e, _, _⟩ | ⟨_, y0, _, _, _, e0, _, _, hle0, hr0⟩
  · simp at e
  injection e0 with e0
  subst e0
  rcases bnd_run (P := P) (w := w) (y := some hi') hF (by simpa [ooeq] using hh) hb (Nat.le_refl _) .slice3B with ⟨e, _, _⟩ | ⟨_, y2, _, _, _, e2, _, _, hle, hr⟩
  · simp at e
  injection e2 with e2
  subst e2
  rcases bnd_run (P := P) (w := w) hF hl hb2 (Nat.le_refl _) .slice3C with ⟨_, e5, e6⟩ | ⟨_, y5, _, _, _, e5, _, _, hle5, hr5⟩
  · refine ⟨?_, hle0, hle, by omega⟩
    simp [Instr.sliceBounds, e5, hr, hr0, e6]
  · refine ⟨?_, hle0, hle, hle5⟩
    simp [Instr.sliceBounds, e5, hr, hr0, hr5]

theorem bounds2x {lo hi lo' hi' : Option Operand} (hl : ooeq lo' lo = true) (hh : ooeq hi' hi = true) {len cap h l : Nat} (hb : bnd f hi len cap = some h) (hb2 : bnd f lo 0 h = some l) :
    (Instr.sliceBounds true len cap (lo'.map a.eval) (hi'.map a.eval) none).run P w = .ok (l, h, cap) w ∧ l ≤ h := by
  have := hI; have := hB
  rcases bnd_run (P := P) (w := w) hF hh hb (Nat.le_refl _) .sliceAcap with ⟨_, e2, e3⟩ | ⟨_, y2, k2, z2, _, e2, ez2, _, hle, hr⟩
  · rcases bnd_run (P := P) (w := w) hF hl hb2 (Nat.le_refl _) .sliceB with ⟨_, e5, e6⟩ | ⟨_, y5, _, _, _, e5, _, _, hle5, hr5⟩
    · refine ⟨?_, by omega⟩
      simp [Instr.sliceBounds, e2, e5, e3, e6]
    · refine ⟨?_, hle5⟩
      rw [e3] at hr5
      simp [Instr.sliceBounds, e2, e5, e3, hr5]
  · rcases bnd_run (P := P) (w := w) hF hl hb2 (Nat.le_refl _) .sliceB with ⟨_, e5, e6⟩ | ⟨_, y5, _, _, _, e5, _, _, hle5, hr5⟩
    · refine ⟨?_, by omega⟩
      simp [Instr.sliceBounds, e2, e5, hr, e6]
    · refine ⟨?_, hle5⟩
      simp [Instr.sliceBounds, e2, e5, hr, hr5]

theorem sim_slc {t : TypeId} {e : Nat} {x y : Operand} {lo hi mx lo' hi' mx' : Option Operand} (ho : o.op = .slice t y lo' hi' mx') (hm : mElem P t e = true) (he : 0 < e) (hx : oeq y x = true) (hl : ooeq lo' lo = true)
    (hh : ooeq hi' hi = true) (hmx : ooeq mx' mx = true) (hmh : mx'.isNone = true ∨ hi'.isSome = true) (hs : stepOp d f σ (.slc e x lo hi mx) = some r) : Sim P B nt w0 ι0 σ0 f a w o r := by
  obtain ⟨el, hu, hsz⟩ := mElem_some hm
  have run : ∀ {ad : Option Addr} {len cap l h m : Nat}, a.eval y = .slice ad len cap → (Instr.sliceBounds true len cap (lo'.map a.eval) (hi'.map a.eval) (mx'.map a.eval)).run P w = .ok (l, h, m) w →
      (execOp a.eval o).run P w = .ok (.value (.slice (if m = l then ad else ad.map (·.add (l * e))) (h - l) (m - l))) w := fun {ad len cap l h m} ey hb => by
    have h1 := run_slice' hI hB hF hu hsz ad len cap _ _ _ hb
    simp [execOp, ho, ey, h1]
  simp only [stepOp] at hs
  split at hs
  · -- nil
    rename_i h1
    have ey : a.eval y = .slice none 0 0 := by
      have hy := evV_rel hF hx h1
      generalize a.eval y = yy at hy
      cases hy
      rfl
    cases hb : bnd f hi 0 0 with
    | none => simp [hb] at hs
    | some h =>
      cases hb2 : bnd f lo 0 0 with
      | none => simp [hb, hb2] at hs
      | some l =>
        cases hb3 : bnd f mx 0 0 with
        | none => simp [hb, hb2, hb3] at hs
        | some m =>
          simp only [hb, hb2, hb3, Option.bind_some, Option.some.injEq] at hs
          subst hs
          have fin : ∀ {l h m : Nat}, (Instr.sliceBounds true 0 0 (lo'.map a.eval) (hi'.map a.eval) (mx'.map a.eval)).run P w = .ok (l, h, m) w → l = 0 ∧ h = 0 ∧ m = 0 → Sim P B nt w0 ι0 σ0 f a w o (.v (.slice none 0 0), none, σ, .p) := by
            rintro l h m hrun ⟨rfl, rfl, rfl⟩
            exact Sim.pure hI hB hF (y := .slice none 0 0) (by simpa using run ey hrun) VR.nils
          have hmx2 := ooeq_eq hmx
          subst hmx2
          have hh2 := ooeq_eq hh
          subst hh2
          cases mx' with
          | none =>
            have h0 : h = 0 := by
              cases hi' with
              | none => simp [bnd] at hb; exact hb.symm
              | some q => rcases bnd_run (P := P) (w := w) hF hh hb (Nat.le_refl _) .sliceB with ⟨_, _, e3⟩ | ⟨_, _, _, _, _, _, _, _, h7, _⟩ <;> omega
            subst h0
            obtain ⟨hr, h4, h5⟩ := bounds2 (P := P) hI hB hF hl hh (Nat.le_refl 0) hb hb2
            exact fin hr ⟨by omega, rfl, rfl⟩
          | some q =>
            cases hi' with
            | none => simp at hmh
            | some q2 =>
              have h0 : m = 0 := by rcases bnd_run (P := P) (w := w) hF hmx hb3 (Nat.le_refl _) .sliceB with ⟨_, _, e3⟩ | ⟨_, _, _, _, _, _, _, _, h7, _⟩ <;> omega
              have h0' : h = 0 := by rcases bnd_run (P := P) (w := w) hF hh hb (Nat.le_refl _) .sliceB with ⟨_, _, e3⟩ | ⟨_, _, _, _, _, _, _, _, h7, _⟩ <;> omega
              subst h0 h0'
              obtain ⟨hr, h4, h5, h6⟩ := bounds3 (P := P) hI hB hF hl (by simpa [ooeq] using hh) (by simpa [ooeq] using hmx) (Nat.le_refl 0) hb3 hb hb2
              exact fin hr ⟨by omega, rfl, rfl⟩
  · rename_i b q n c h1
    have hy := evV_rel hF hx h1
    split at hs
    · -- with a limit
      rename_i m
      cases mx' with
      | none => simp [ooeq] at hmx
      | some m' =>
      cases hi' with
      | none => simp at hmh
      | some hi'' =>
      cases hi with
      | none => simp [ooeq] at hh
      | some hi =>
        cases hb3 : bnd f (some m) 0 n with
        | none =>
          simp only [bnd] at hb3
          cases hv : f.evV m with
          | none => simp [hv] at hs
          | some v =>
            cases hiv : intOf? v with
            | none => simp [hv, hiv] at hs
            | some z =>
              simp only [hv, hiv, Option.bind_some] at hb3 hs
              split at hs
              · rename_i hz; simp [hz] at hb3
              · simp at hs
        | some mm =>
          have hb3' := hb3
          simp only [bnd] at hb3
          cases hv : f.evV m with
          | none => simp [hv] at hs
          | some v =>
            cases hiv : intOf? v with
            | none => simp [hv, hiv] at hs
            | some z =>
              simp only [hv, hiv, Option.bind_some] at hb3 hs
              split at hs
              · rename_i hz
                rw [if_pos hz] at hb3
                injection hb3 with hb3
                subst hb3
                cases hb : bnd f (some hi) n z.toNat with
                | none => simp [hb] at hs
                | some h =>
                  cases hb2 : bnd f lo 0 h with
                  | none => simp [hb, hb2] at hs
                  | some l =>
                    simp only [hb, hb2, Option.bind_some] at hs
                    split at hs
                    · rename_i hhz
                      injection hs with hs
                      subst hs
                      have fin : ∀ {ad : Addr} {cap : Nat}, a.eval y = .slice (some ad) n cap → n ≤ cap → (0 < n → ∃ p, ι b = some p ∧ ad = ⟨p.c, p.o + q, none⟩) → Sim P B nt w0 ι0 σ0 f a w o (.v (.slice (some ⟨b, q + l * e, none⟩) (h - l) (h - l)), none, σ, .p) := by
                        intro ad cap ey hn ha
                        obtain ⟨hr, h4, h5, h6⟩ := bounds3 (P := P) (len := n) hI hB hF hl (by simpa [ooeq] using hh) (by simpa [ooeq] using hmx) hn hb3' hb hb2
                        have hr' := run ey hr
                        subst hhz
                        by_cases hml : z.toNat = l
                        · refine Sim.pure hI hB hF (y := .slice (some ad) (z.toNat - l) (z.toNat - l)) (by simpa [hml] using hr') (VR.slx fun h0 => ?_)
                          omega
                        · refine Sim.pure hI hB hF (y := .slice (some (ad.add (l * e))) (z.toNat - l) (z.toNat - l)) (by simpa [hml] using hr') (VR.slx fun h0 => ?_)
                          obtain ⟨p, hp, rfl⟩ := ha (by omega)
                          exact ⟨p, hp, by rw [addr_add, Nat.add_assoc]⟩
                      generalize hyy : a.eval y = yy at hy
                      cases hy with
                      | slx ha => exact fin hyy (Nat.le_refl _) ha
                      | sln he' hc ha => exact fin hyy hc fun h0 => let ⟨p, h7, h8, _⟩ := ha (by omega); ⟨p, h7, h8⟩
                    · simp at hs
              · simp at hs
    · -- without
      have hmx2 := ooeq_eq hmx
      subst hmx2
      cases hb : bnd f hi n n with
      | none => simp [hb] at hs
      | some h =>
        cases hb2 : bnd f lo 0 h with
        | none => simp [hb, hb2] at hs
        | some l =>
          simp only [hb, hb2, Option.bind_some] at hs
          generalize hyy : a.eval y = yy at hy
          cases hy with
          | slx ha =>
            obtain ⟨hr, h4, h5⟩ := bounds2 (P := P) hI hB hF hl hh (Nat.le_refl n) hb hb2
            have hr' := run hyy hr
            rw [if_neg (by omega)] at hs
            split at hs
            · rename_i hc
              injection hs with hs
              subst hs
              obtain ⟨_, rfl⟩ := hc
              by_cases hml : h = l
              · refine Sim.pure hI hB hF (y := .slice _ (h - l) (h - l)) (by simpa [hml] using hr') (VR.slx fun h0 => ?_)
                omega
              · refine Sim.pure hI hB hF (y := .slice _ (h - l) (h - l)) (by simpa [hml] using hr') (VR.slx fun h0 => ?_)
                obtain ⟨p, hp, rfl⟩ := ha (by omega)
                exact ⟨p, hp, by rw [addr_add, Nat.add_assoc]⟩
            · simp at hs
          | @sln _ _ _ e' ad cap he' hc ha =>
            obtain ⟨hr, h4, h5⟩ := bounds2 (P := P) hI hB hF hl hh hc hb hb2
            have hr' := run hyy hr
            split at hs
            · rename_i hce
              injection hs with hs
              subst hs
              have hee : e' = e := by omega
              subst hee
              by_cases hml : cap = l
              · refine Sim.pure hI hB hF (y := .slice (some ad) (h - l) (cap - l)) (by simpa [hml] using hr') (VR.sln he (by omega) fun h0 => ?_)
                omega
              · refine Sim.pure hI hB hF (y := .slice (some (ad.add (l * e'))) (h - l) (cap - l)) (by simpa [hml] using hr') (VR.sln he (by omega) fun h0 => ?_)
                have hcl : l + (cap - l) = cap := Nat.add_sub_cancel' (by omega)
                obtain ⟨p, hp, rfl, h6, h7⟩ := ha (by omega)
                refine ⟨p, hp, by rw [addr_add, Nat.add_assoc], h6, ?_⟩
                rw [Nat.add_assoc, ← Nat.add_mul]
                rwa [hcl]
            · rename_i hce
              rw [if_neg (by omega)] at hs
              simp at hs
  · -- room that is known
    rename_i b q e1 n c h1
    have hy := evV_rel hF hx h1
    generalize hyy : a.eval y = yy at hy
    split at hs
    rotate_left
    · simp at hs
    rename_i hee
    subst hee
    cases hy with
    | @sle _ _ _ _ ad _ hc ha =>
      have fin : ∀ {l h m : Nat}, (Instr.sliceBounds true n c (lo'.map a.eval) (hi'.map a.eval) (mx'.map a.eval)).run P w = .ok (l, h, m) w → l ≤ h → h ≤ m → m ≤ c →
          Sim P B nt w0 ι0 σ0 f a w o (.v (.slice (some ⟨b, q + l * e1, some e1⟩) (h - l) (m - l)), none, σ, .p) := by
        intro l h m hr h4 h5 h6
        have hr' := run hyy hr
        by_cases hml : m = l
        · refine Sim.pure hI hB hF (y := .slice (some ad) (h - l) (m - l)) (by simpa [hml] using hr') (VR.sle (by omega) fun h0 => ?_)
          omega
        · refine Sim.pure hI hB hF (y := .slice (some (ad.add (l * e1))) (h - l) (m - l)) (by simpa [hml] using hr') (VR.sle (by omega) fun h0 => ?_)
          have hcl : l + (m - l) ≤ c := by omega
          obtain ⟨p, hp, rfl, h7, h9⟩ := ha (by omega)
          have h8 : l * e1 + (m - l) * e1 ≤ c * e1 := by rw [← Nat.add_mul]; exact Nat.mul_le_mul_right _ hcl
          exact ⟨p, hp, by rw [addr_add, Nat.add_assoc], h7, by omega⟩
      split at hs
      · rename_i m
        cases mx' with
        | none => simp [ooeq] at hmx
        | some m' =>
        cases hi' with
        | none => simp at hmh
        | some hi'' =>
        cases hi with
        | none => simp [ooeq] at hh
        | some hi =>
          cases hb3 : bnd f (some m) 0 c with
          | none => simp [hb3] at hs
          | some mm =>
            cases hb : bnd f (some hi) n mm with
            | none => simp [hb3, hb] at hs
            | some h =>
              cases hb2 : bnd f lo 0 h with
              | none => simp [hb3, hb, hb2] at hs
              | some l =>
                simp only [hb3, hb, hb2, Option.bind_some] at hs
                split at hs
                · injection hs with hs
                  subst hs
                  obtain ⟨hr, h4, h5, h6⟩ := bounds3 (P := P) (len := n) hI hB hF hl (by simpa [ooeq] using hh) (by simpa [ooeq] using hmx) (Nat.le_refl c) hb3 hb hb2
                  exact fin hr h6 h5 h4
                · simp at hs
      · have hmx2 := ooeq_eq hmx
        subst hmx2
        cases hb : bnd f hi n c with
        | none => simp [hb] at hs
        | some h =>
          cases hb2 : bnd f lo 0 h with
          | none => simp [hb, hb2] at hs
          | some l =>
            simp only [hb, hb2, Option.bind_some] at hs
            split at hs
            · rename_i hhc
              injection hs with hs
              subst hs
              obtain ⟨hr, h4⟩ := bounds2x (P := P) hI hB hF hl hh hb hb2
              exact fin hr h4 hhc (Nat.le_refl _)
            · simp at hs
  · simp at hs

end
end Go.Am

namespace Go.Am

/-- Cells with a part written anew. -/
theorem splice_getX (cs vs : List Value) (off i : Nat) (h : off ≤ cs.length) :
    (splice cs off vs)[i]? = if i < off then cs[i]? else if i < off + vs.length then vs[i - off]? else cs[i]? := by
  unfold splice
  have ht : (cs.take off).length = off := by simp; omega
  by_cases h1 : i < off
  · rw [if_pos h1, List.append_assoc, List.getElem?_append_left (by omega), List.getElem?_take_of_lt h1]
  · rw [if_neg h1]
    by_cases h2 : i < off + vs.length
    · rw [if_pos h2, List.append_assoc, List.getElem?_append_right (by omega), ht, List.getElem?_append_left (by omega)]
    · rw [if_neg h2, List.getElem?_append_right (by simp; omega), List.getElem?_drop]
      congr 1
      simp
      omega

theorem splice_get (cs vs : List Value) (off i : Nat) (h : off + vs.length ≤ cs.length) :
    (splice cs off vs)[i]? = if i < off then cs[i]? else if i < off + vs.length then vs[i - off]? else cs[i]? := splice_getX cs vs off i (by omega)

theorem splice_lengthX (cs vs : List Value) (off : Nat) (h : off ≤ cs.length) : (splice cs off vs).length = max cs.length (off + vs.length) := by
  unfold splice; simp; omega

theorem splice_length (cs vs : List Value) (off : Nat) (h : off + vs.length ≤ cs.length) : (splice cs off vs).length = cs.length := by
  unfold splice; simp; omega

theorem VRL.splice {ι : Inj} {cs cs' vs vs' : List Value} (h : VRL ι cs cs') (k : VRL ι vs vs') (off : Nat) : VRL ι (splice cs off vs) (splice cs' off vs') := by
  unfold Am.splice
  rw [k.length]
  exact ((h.take off).append k).append (h.drop _)

theorem splice_all {cs vs : List Value} {off : Nat} (h : cs.all oneCell = true) (k : vs.all oneCell = true) : (splice cs off vs).all oneCell = true := by
  simp only [List.all_eq_true] at *
  intro x hx
  unfold splice at hx
  rcases List.mem_append.1 hx with hx | hx
  · rcases List.mem_append.1 hx with hx | hx
    · exact h x (List.mem_of_mem_take hx)
    · exact k x hx
  · exact h x (List.mem_of_mem_drop hx)

section
variable {P : Program} {B nt : Nat} {w0 : World} {ι0 ι : Inj} {σ0 σ : AHeap} {lam : Nat → Nat} {f : AFr} {a : Act} {w : World} {o : Oper} {d : Option Nat}
  {r : AV × Option (Nat × List Value) × AHeap × Lab}

theorem set_get (σ : AHeap) (b : Nat) (x : ABlk) (j : Nat) (hb : b < σ.size) : (σ.setIfInBounds b x)[j]? = if j = b then some x else σ[j]? := by
  by_cases h : j = b
  · subst h; simp [hb]
  · simp [Array.getElem?_setIfInBounds_ne (Ne.symm h), h]

theorem lt_of_get {σ : AHeap} {b : Nat} {x : ABlk} (h : σ[b]? = some x) : b < σ.size := by
  rcases Nat.lt_or_ge b σ.size with h' | h'
  · exact h'
  · simp [Array.getElem?_eq_none h'] at h

/-- A row that may be written: a part of it is written anew. -/
theorem Inv.writeX (hI : Inv B ι σ w) {b : Nat} {cs : List Value} {e : Nat} {p : IB} (hb : σ[b]? = some (.row cs e .W)) (hp : ι b = some p) {vs vs' : List Value} {off : Nat}
    (hv : VRL ι vs vs') (hone : vs.all oneCell = true) (hoff : off ≤ cs.length) (hle : off + vs.length ≤ p.M) :
    ∃ arr el, w.heap[p.c]? = some (.cells arr el (0, 0)) ∧ p.o + off + vs'.length ≤ arr.size ∧
      Inv B ι (σ.setIfInBounds b (.row (splice cs off vs) e .W)) (w.setRow p.c (arr.toList.take (p.o + off) ++ vs' ++ arr.toList.drop (p.o + off + vs'.length)).toArray) ∧
      Bs w ι σ (w.setRow p.c (arr.toList.take (p.o + off) ++ vs' ++ arr.toList.drop (p.o + off + vs'.length)).toArray) ι (σ.setIfInBounds b (.row (splice cs off vs) e .W)) := by
  obtain ⟨hBc, hM, arr, el, hh, hsz⟩ := hI.own b cs e .W p hb (by simp) hp
  have hlb := lt_of_get hb
  have hvl := hv.length
  have hfit : p.o + off + vs'.length ≤ arr.toList.length := by simp; omega
  have hother : ∀ b' cs' e' m' p', σ[b']? = some (.row cs' e' m') → ι b' = some p' → b' ≠ b → p'.c ≠ p.c := fun b' cs' e' m' p' h1 h2 h3 h4 => by
    have := (hI.excl b cs e .W p b' cs' e' m' p' hb (by simp) hp h1 h2 (Ne.symm h3) h4.symm).1
    simp at this
  refine ⟨arr, el, hh, by simpa using hfit, ⟨?_, ?_, ?_, ?_, ?_, ?_⟩, ⟨rfl, rfl, rfl, by simp, ?_, Inj.le_refl _, fun _ _ h => .inl h, ?_⟩⟩
  · intro b' cs' e' m' h
    rw [set_get _ _ _ _ hlb] at h
    by_cases hbb : b' = b
    · subst hbb
      rw [if_pos rfl] at h
      injection h with h
      injection h with h1 h2 h3
      subst h1 h2 h3
      obtain ⟨p', h4, h5, h6⟩ := hI.blk _ _ _ _ hb
      rw [hp] at h4
      injection h4 with h4
      subst h4
      refine ⟨p, hp, h5, fun i v hiv => ?_⟩
      rw [splice_getX _ _ _ _ hoff] at hiv
      rw [cell_setRow_same w p.c (p.o + i) arr _ el (0, 0) hh]
      have hs := splice_get arr.toList vs' (p.o + off) (p.o + i) hfit
      unfold splice at hs
      by_cases h1 : i < off
      · rw [if_pos h1] at hiv
        obtain ⟨v', h7, h8⟩ := h6 i v hiv
        rw [cell_of_row w p.c _ arr el (0, 0) hh] at h7
        refine ⟨v', ?_, h8⟩
        simp only [List.getElem?_toArray]
        rw [hs, if_pos (by omega)]
        simpa using h7
      · rw [if_neg h1] at hiv
        by_cases h2 : i < off + vs.length
        · rw [if_pos h2] at hiv
          obtain ⟨v', h7, h8⟩ := hv.get hiv
          refine ⟨v', ?_, h8, List.all_eq_true.1 hone v (List.mem_of_getElem? hiv)⟩
          simp only [List.getElem?_toArray]
          rw [hs, if_neg (by omega), if_pos (by omega), show p.o + i - (p.o + off) = i - off by omega]
          exact h7
        · rw [if_neg h2] at hiv
          obtain ⟨v', h7, h8⟩ := h6 i v hiv
          rw [cell_of_row w p.c _ arr el (0, 0) hh] at h7
          refine ⟨v', ?_, h8⟩
          simp only [List.getElem?_toArray]
          rw [hs, if_neg (by omega), if_neg (by omega)]
          simpa using h7
    · rw [if_neg hbb] at h
      obtain ⟨p', h4, h5, h6⟩ := hI.blk _ _ _ _ h
      refine ⟨p', h4, h5, fun i v hiv => ?_⟩
      obtain ⟨v', h7, h8⟩ := h6 i v hiv
      exact ⟨v', by rw [cell_setRow_other w p.c _ _ (hother _ _ _ _ _ h h4 hbb)]; exact h7, h8⟩
  · intro b' cs' e' m' p' h hm hp'
    rw [set_get _ _ _ _ hlb] at h
    by_cases hbb : b' = b
    · subst hbb
      rw [if_pos rfl] at h
      injection h with h
      injection h with h1 h2 h3
      subst h1 h2 h3
      rw [hp] at hp'
      injection hp' with hp'
      subst hp'
      refine ⟨hBc, by rw [splice_lengthX _ _ _ hoff]; omega, _, el, setRow_heap w p.c arr _ el (0, 0) hh, ?_⟩
      simp
      omega
    · rw [if_neg hbb] at h
      obtain ⟨h1, h2, arr', el', h3, h4⟩ := hI.own _ _ _ _ _ h hm hp'
      exact ⟨h1, h2, arr', el', by rw [setRow_other w p.c _ _ (hother _ _ _ _ _ h hp' hbb)]; exact h3, h4⟩
  · intro b1 cs1 e1 m1 p1 b2 cs2 e2 m2 p2 h1 hm h1p h2 h2p hne hc
    rw [set_get _ _ _ _ hlb] at h1 h2
    by_cases hb1 : b1 = b
    · subst hb1
      rw [if_neg (Ne.symm hne)] at h2
      rw [hp] at h1p
      injection h1p with h1p
      subst h1p
      exact absurd hc.symm (hother _ _ _ _ _ h2 h2p (Ne.symm hne))
    · rw [if_neg hb1] at h1
      by_cases hb2 : b2 = b
      · subst hb2
        rw [hp] at h2p
        injection h2p with h2p
        subst h2p
        exact absurd hc (hother _ _ _ _ _ h1 h1p hb1)
      · rw [if_neg hb2] at h2
        exact hI.excl _ _ _ _ _ _ _ _ _ _ h1 hm h1p h2 h2p hne hc
  · intro b' hb'
    exact hI.dom b' (by simpa using hb')
  · intro b' p' h
    simpa using hI.lt b' p' h
  · simpa using hI.base
  · intro c hc hw
    refine setRow_other w p.c c _ fun e => hw ⟨b, cs, _, _, p, hb, by simp, hp, e.symm⟩
  · rintro c ⟨b', cs', e', m', p', h1, h2, h3, rfl⟩
    rw [set_get _ _ _ _ hlb] at h1
    by_cases hbb : b' = b
    · subst hbb
      exact .inr ⟨b', cs, _, _, p', hb, by simp, h3, rfl⟩
    · rw [if_neg hbb] at h1
      exact .inr ⟨b', cs', e', m', p', h1, h2, h3, rfl⟩

theorem Inv.write (hI : Inv B ι σ w) {b : Nat} {cs : List Value} {e : Nat} {p : IB} (hb : σ[b]? = some (.row cs e .W)) (hp : ι b = some p) {vs vs' : List Value} {off : Nat}
    (hv : VRL ι vs vs') (hone : vs.all oneCell = true) (hle : off + vs.length ≤ cs.length) :
    ∃ arr el, w.heap[p.c]? = some (.cells arr el (0, 0)) ∧ p.o + off + vs'.length ≤ arr.size ∧
      Inv B ι (σ.setIfInBounds b (.row (splice cs off vs) e .W)) (w.setRow p.c (arr.toList.take (p.o + off) ++ vs' ++ arr.toList.drop (p.o + off + vs'.length)).toArray) ∧
      Bs w ι σ (w.setRow p.c (arr.toList.take (p.o + off) ++ vs' ++ arr.toList.drop (p.o + off + vs'.length)).toArray) ι (σ.setIfInBounds b (.row (splice cs off vs) e .W)) := by
  have := (hI.own b cs e .W p hb (by simp) hp).2.1
  exact hI.writeX hb hp hv hone (by omega) (by omega)


theorem cellsOf_rel {n : Option Nat} {t : TypeId} {v y : Value} {vs : List Value} (hm : mLoad P t n = true) (h : cellsOf n v = some vs) (hv : VR ι v y) :
    tsize P t = some y.cells.size ∧ VRL ι vs y.cells.toList ∧ vs.all oneCell = true := by
  cases n with
  | some n =>
    obtain ⟨h1, h2⟩ := mLoad_some hm
    cases v <;> simp only [cellsOf] at h <;> try (simp at h; done)
    rename_i cs
    split at h
    · rename_i hc
      injection h with h
      subst h
      obtain ⟨cs', rfl, hr, _⟩ := vr_agg hv
      have := hr.length
      refine ⟨?_, by simpa [Value.cells] using hr, hc.2⟩
      rw [h2]
      simp [Value.cells] at this ⊢
      omega
    · simp at h
  | none =>
    obtain ⟨h1, h2⟩ := mLoad_none hm
    simp only [cellsOf] at h
    split at h
    · rename_i hone
      injection h with h
      subst h
      have hyone : y.oneCell' = true := by rw [hv.one]; exact hone
      have hy : y.cells = #[y] := by cases y <;> first | rfl | (simp [Value.oneCell'] at hyone)
      refine ⟨by rw [h2, hy]; rfl, by rw [hy]; exact .cons hv .nil, by simp [hone]⟩
    · simp at h

/-- A local box is written. -/
theorem Sim.setBox (hI : Inv B ι σ w) (hB : Bs w0 ι0 σ0 w ι σ) (hF : FR w0.heap.size nt lam ι σ f a w) {k off : Nat} {cs vs vs' : List Value} {arr : Array Value} {el : TypeId} {lab : Lab}
    (hcs : f.box k = some cs) (hh : w.heap[lam k]? = some (.cells arr el (0, 0))) (hr : VRL ι cs arr.toList) (hone : cs.all oneCell = true) (hv : VRL ι vs vs') (hvone : vs.all oneCell = true)
    (hrun : (execOp a.eval o).run P w = .ok .skip (w.setRow (lam k) (arr.toList.take off ++ vs' ++ arr.toList.drop (off + vs'.length)).toArray)) :
    Sim P B nt w0 ι0 σ0 f a w o (.v undef, some (k, splice cs off vs), σ, lab) := by
  obtain ⟨hN, _, hpriv⟩ := hF.box k cs hcs
  have hsome : (f.box k).isSome := by rw [hcs]; rfl
  have hbs : ∀ j, ((f.setb (some (k, splice cs off vs))).box j).isSome = (f.box j).isSome := fun j => by
    rw [box_setb]
    by_cases h : j = k
    · subst h; simp [hcs]
    · simp [h]
  refine ⟨undef, _, lam, ι, .inr ⟨hrun, rfl⟩, ⟨?_, ?_, hI.excl, hI.dom, fun b p h => by simpa using hI.lt b p h, by simpa using hI.base⟩, ?_, ⟨hF.nt, hF.defers, ?_, ?_, ?_⟩, VR.tuple .nil⟩
  · intro b cs' e m h
    obtain ⟨p, h1, h2, h3⟩ := hI.blk b cs' e m h
    refine ⟨p, h1, h2, fun i v hiv => ?_⟩
    obtain ⟨v', h4, h5⟩ := h3 i v hiv
    exact ⟨v', by rw [cell_setRow_other w (lam k) _ _ (hpriv b p h1)]; exact h4, h5⟩
  · intro b cs' e m p h hm hp
    obtain ⟨h1, h2, arr', el', h3, h4⟩ := hI.own b cs' e m p h hm hp
    exact ⟨h1, h2, arr', el', by rw [setRow_other w (lam k) _ _ (hpriv b p hp)]; exact h3, h4⟩
  · refine ⟨hB.os, hB.tape, hB.output, by simpa using hB.size, fun c hc hn => ?_, hB.ext, hB.img, hB.wim⟩
    rw [setRow_other w (lam k) c _ (by omega)]
    exact hB.keep c hc hn
  · intro t x hx
    rw [get_setb] at hx
    refine AVR.box_congr hbs ?_
    have h := hF.tmp t x hx
    cases x with
    | v x => exact h
    | l j q => exact h
    | imm cs' e n =>
      obtain ⟨c, arr', el', h1, h2, h3, h4, h5, h6, h7, h8, h9⟩ := h
      exact ⟨c, arr', el', h1, h2, by rw [setRow_other w (lam k) c _ (Ne.symm (h9 k hsome))]; exact h3, h4, h5, h6, h7, h8, h9⟩
  · intro j cs' hj
    rw [box_setb] at hj
    by_cases hjk : j = k
    · subst hjk
      rw [if_pos rfl] at hj
      injection hj with hj
      subst hj
      refine ⟨hN, ⟨_, el, setRow_heap w (lam j) arr _ el (0, 0) hh, ?_, splice_all hone hvone⟩, hpriv⟩
      have := hr.splice hv off
      unfold splice at this ⊢
      simpa using this
    · rw [if_neg hjk] at hj
      obtain ⟨h1, ⟨arr', el', h2, h3⟩, h4⟩ := hF.box j cs' hj
      exact ⟨h1, ⟨arr', el', by rw [setRow_other w (lam k) _ _ (hF.inj j k (by rw [hj]; rfl) hsome hjk)]; exact h2, h3⟩, h4⟩
  · intro i j hi hj hij
    rw [hbs] at hi hj
    exact hF.inj i j hi hj hij

theorem sim_store (hI : Inv B ι σ w) (hB : Bs w0 ι0 σ0 w ι σ) (hF : FR w0.heap.size nt lam ι σ f a w) {t : TypeId} {n : Option Nat} {x y x' y' : Operand} (ho : o.op = .store t y y') (hm : mLoad P t n = true)
    (hx : oeq y x = true) (hx' : oeq y' x' = true) (hs : stepOp d f σ (.store n x x') = some r) : Sim P B nt w0 ι0 σ0 f a w o r := by
  simp only [stepOp] at hs
  cases hv : f.evV x' with
  | none => simp [hv] at hs
  | some v =>
    cases hc : cellsOf n v with
    | none => simp [hv, hc] at hs
    | some vs =>
      have hvr := evV_rel hF hx' hv
      obtain ⟨hsz, hvl, hone⟩ := cellsOf_rel hm hc hvr
      have hlen := hvl.length
      have run : ∀ {c q : Nat} {arr : Array Value} {el : TypeId}, a.eval y = .pointer (some ⟨c, q, none⟩) → w.heap[c]? = some (.cells arr el (0, 0)) → q + (a.eval y').cells.toList.length ≤ arr.size →
          (execOp a.eval o).run P w = .ok .skip (w.setRow c (arr.toList.take q ++ (a.eval y').cells.toList ++ arr.toList.drop (q + (a.eval y').cells.toList.length)).toArray) := fun {c q arr el} e hh hfit => by
        have hst := run_storeCells_at P c q el (a.eval y').cells.toList 0 arr w hh (by simpa using hfit) (fun u hu => VRL.one hvl hone u hu)
        simp only [Nat.add_zero] at hst
        simp [execOp, ho, e, Instr.storeAt, Instr.sureAddr, storeVar, run_sizeOf' hsz, hst]
      simp only [hv, hc, Option.bind_some] at hs
      split at hs
      · rename_i k q hk
        obtain ⟨e, hks⟩ := ev_rel hF hx hk
        obtain ⟨cs, hcs⟩ := Option.isSome_iff_exists.1 hks
        simp only [hcs, Option.bind_some] at hs
        split at hs
        · rename_i hle
          injection hs with hs
          subst hs
          obtain ⟨_, ⟨arr, el, h1, h2, h3⟩, _⟩ := hF.box k cs hcs
          have := h2.length
          exact Sim.setBox hI hB hF hcs h1 h2 h3 hvl hone (run e h1 (by simp at this hlen ⊢; omega))
        · simp at hs
      · rename_i b q hb
        obtain ⟨p, hp, e⟩ := vr_ptr (ev_rel hF hx hb)
        split at hs
        · rename_i cs e' hrow
          split at hs
          · rename_i hle
            injection hs with hs
            subst hs
            obtain ⟨arr, el, h1, h2, h3, h4⟩ := hI.write hrow hp hvl hone hle
            exact ⟨undef, _, lam, ι, .inr ⟨run e h1 h2, rfl⟩, h3, hB.trans h4, hF.step h4, VR.tuple .nil⟩
          · simp at hs
        · simp at hs
      · simp at hs

/-! ### == and its kin -/
theorem equalIn_run {dp : Nat} {ek : Nat} {ty : TypeId} {dd : TypeDesc} {x y x' y' : Value} {t : Bool} (hu : P.underlying ty = some dd) (hk : eqKind dd = ek) (h : aEq ek x y = some t) (hx : VR ι x x') (hy : VR ι y y') :
    (Op.equalIn (dp + 1) ty x' y').run P w = .ok t w := by
  unfold aEq at h
  split at h
  · injection h with h; subst h
    cases hx; cases hy
    cases dd <;> simp [eqKind] at hk
    simp [Op.equalIn, run_underlying' hu]
  · injection h with h; subst h
    cases hx
    cases dd <;> simp [eqKind] at hk
    cases hy <;> simp [Op.equalIn, run_underlying' hu]
  · injection h with h; subst h
    cases hy
    cases dd <;> simp [eqKind] at hk
    cases hx <;> simp [Op.equalIn, run_underlying' hu]
  · injection h with h; subst h
    cases dd <;> simp [eqKind] at hk
    obtain ⟨b', c', rfl, hb⟩ := vr_slice hy
    cases hx
    simp [Op.equalIn, run_underlying' hu, hb]
  · injection h with h; subst h
    cases dd <;> simp [eqKind] at hk
    cases hy
    cases hx <;> simp [Op.equalIn, run_underlying' hu]
  · injection h with h; subst h
    cases hx; cases hy
    cases dd <;> simp [eqKind] at hk
    simp [Op.equalIn, run_underlying' hu]
  · injection h with h; subst h
    cases hx; cases hy
    cases dd <;> simp [eqKind] at hk
    simp [Op.equalIn, run_underlying' hu]
  · injection h with h; subst h
    cases hx; cases hy
    cases dd <;> simp [eqKind] at hk
    simp [Op.equalIn, run_underlying' hu]
  · injection h with h; subst h
    cases hx; cases hy
    cases dd <;> simp [eqKind] at hk
    simp [Op.equalIn, run_underlying' hu]
  · injection h with h; subst h
    cases hx; cases hy
    cases dd <;> simp [eqKind] at hk
    simp [Op.equalIn, run_underlying' hu]
  · injection h with h; subst h
    cases hx; cases hy
    cases dd <;> simp [eqKind] at hk
    simp [Op.equalIn, run_underlying' hu]
  · simp at h

theorem equal_run {ek : Nat} {ty : TypeId} {dd : TypeDesc} {x y x' y' : Value} {t : Bool} (hu : P.underlying ty = some dd) (hk : eqKind dd = ek) (h : aEq ek x y = some t) (hx : VR ι x x') (hy : VR ι y y') :
    (Op.equal ty x' y').run P w = .ok t w := equalIn_run (dp := 9999) hu hk h hx hy

end
end Go.Am

namespace Go.Am

section
variable {P : Program} {B nt : Nat} {w0 : World} {ι0 ι : Inj} {σ0 σ : AHeap} {lam : Nat → Nat} {f : AFr} {a : Act} {w : World} {o : Oper} {d : Option Nat}
  {r : AV × Option (Nat × List Value) × AHeap × Lab}

theorem bin_ints {op : BinOp} {ek : Nat} {ty : TypeId} {x y : Operand} {k k' : IntKind} {p q : Int} {v : Value} (h : aBin op ek (.int k p) (.int k' q) = some v) :
    (do eqGuard op ty x y (.int k p) (.int k' q); binOp op ty (.int k p) (.int k' q) : Sem Value).run P w = .ok v w ∧ ∃ u : Value, v = u ∧ VR ι u u := by
  cases op <;> simp only [aBin] at h
  case shl | shr =>
    split at h
    · simp at h
    · rename_i hb
      injection h with h
      subst h
      exact ⟨by simp [eqGuard, binOp, Op.shift, hb], _, rfl, .int _ _⟩
  case quo | rem =>
    split at h
    · rename_i hk
      obtain ⟨rfl, hq⟩ := hk
      injection h with h
      subst h
      exact ⟨by simp [eqGuard, binOp, Op.intDiv, hq], _, rfl, .int _ _⟩
    · simp at h
  case add | sub | mul =>
    split at h
    · rename_i hk
      subst hk
      injection h with h
      subst h
      exact ⟨by simp [eqGuard, binOp, Op.intArith], _, rfl, .int _ _⟩
    · simp at h
  case eql | neq | lss | leq | gtr | geq =>
    split at h
    · rename_i hk
      subst hk
      injection h with h
      subst h
      exact ⟨by simp [eqGuard, binOp, Op.intCmp], _, rfl, .bool _⟩
    · simp at h
  all_goals simp at h

theorem bin_strings {op : BinOp} {ek : Nat} {ty : TypeId} {x y : Operand} {p q : ByteArray} {v : Value} (h : aBin op ek (.string p) (.string q) = some v) :
    (do eqGuard op ty x y (.string p) (.string q); binOp op ty (.string p) (.string q) : Sem Value).run P w = .ok v w ∧ ∃ u : Value, v = u ∧ VR ι u u := by
  cases op <;> simp only [aBin] at h
  case add =>
    split at h
    · simp at h
    · rename_i hb
      injection h with h
      subst h
      exact ⟨by simp only [eqGuard, binOp, Op.stringOp]; simp only [Sem.run_bind]; rw [if_neg hb]; simp, _, rfl, .string _⟩
  case eql | neq | lss | leq | gtr | geq =>
    injection h with h
    subst h
    exact ⟨by simp [eqGuard, binOp, Op.stringOp], _, rfl, .bool _⟩
  all_goals simp at h

/-- == and != of what is no number and no text. -/
theorem bin_eq {op : BinOp} {ek : Nat} {ty : TypeId} {x y : Operand} {p q p' q' : Value} {t : Bool} (hop : op = .eql ∨ op = .neq) (h : aEq ek p q = some t) (hm : mEq P ek ty x y = true)
    (hx : VR ι p p') (hy : VR ι q q') (hcx : isNilIface x = true → p' = .nilIface) (hcy : isNilIface y = true → q' = .nilIface) :
    (do eqGuard op ty x y p' q'; binOp op ty p' q' : Sem Value).run P w = .ok (.bool (if op = .eql then t else !t)) w := by
  have hek : ek ≠ 0 := by rintro rfl; unfold aEq at h; split at h <;> simp_all
  unfold mEq at hm
  have hek' : (ek == 0) = false := by simpa using hek
  simp only [hek', Bool.false_or, Bool.and_eq_true] at hm
  obtain ⟨hm1, hm2⟩ := hm
  cases hu : P.underlying ty with
  | none => simp [hu] at hm1
  | some dd =>
    simp only [hu, beq_iff_eq] at hm1
    have hr := equal_run (P := P) (w := w) hu hm1 h hx hy
    have hg : (eqGuard op ty x y p' q').run P w = .ok () w := by
      have triv : (∀ u v : Array Value, ¬ (p' = .agg u ∧ q' = .agg v)) → (p' = .nilIface → q' = .nilIface → isNilIface x = true ∨ isNilIface y = true) → (eqGuard op ty x y p' q').run P w = .ok () w := by
        intro h1 h2
        unfold eqGuard
        rcases hop with rfl | rfl <;>
        · simp only [Bool.not_true, Bool.false_eq_true, if_false]
          split
          · rename_i e1
            rcases h2 rfl rfl with h3 | h3
            · unfold isNilIface at h3; split at h3
              · simp
              · simp at h3
            · unfold isNilIface at h3; split at h3
              · simp
              · simp at h3
          · exact absurd ⟨rfl, rfl⟩ (h1 _ _)
          · simp
      refine triv ?_ ?_
      · rintro u v ⟨rfl, rfl⟩
        cases hx
        cases hy
        unfold aEq at h
        split at h <;> simp_all
      · rintro rfl rfl
        cases hx
        cases hy
        have : ek = 5 := by unfold aEq at h; split at h <;> simp_all
        subst this
        simpa using hm2
    have hb : (binOp op ty p' q').run P w = .ok (.bool (if op = .eql then t else !t)) w := by
      have nn : ∀ z z' : Value, (∃ k n, z' = .int k n) ∨ (∃ s, z' = .string s) ∨ (∃ k n, z' = .float k n) → VR ι z z' → ∀ u, aEq ek z u ≠ some t ∧ aEq ek u z ≠ some t := by
        intro z z' hz hv u
        rcases hz with ⟨k, n, rfl⟩ | ⟨s, rfl⟩ | ⟨k, n, rfl⟩ <;> cases hv <;> constructor <;> (unfold aEq; split <;> simp_all)
      have key : (do pure (.bool (← Op.equal ty p' q')) : Sem Value).run P w = .ok (.bool t) w := by simp [hr]
      have key2 : (do pure (.bool (!(← Op.equal ty p' q'))) : Sem Value).run P w = .ok (.bool !t) w := by simp [hr]
      rcases hop with rfl | rfl
      · simp only [if_true]
        unfold aEq at h
        split at h <;> first | (simp at h; done) | skip
        all_goals (cases hx; try cases hy) <;> first | exact key | skip
        all_goals (cases hy <;> exact key)
      · simp only [if_neg (show ¬ (BinOp.neq = BinOp.eql) by decide)]
        unfold aEq at h
        split at h <;> first | (simp at h; done) | skip
        all_goals (cases hx; try cases hy) <;> first | exact key2 | skip
        all_goals (cases hy <;> exact key2)
    simp only [Sem.run_bind, hg, Result.andThen_ok, hb]

theorem nil_operand {x : Operand} (h : isNilIface x = true) : a.eval x = .nilIface := by
  unfold isNilIface at h
  split at h
  · rfl
  · simp at h

theorem sim_bin (hI : Inv B ι σ w) (hB : Bs w0 ι0 σ0 w ι σ) (hF : FR w0.heap.size nt lam ι σ f a w) {op : BinOp} {ek : Nat} {ty yt : TypeId} {x y x' y' : Operand} (ho : o.op = .binOp op ty x' y' yt)
    (hm : mEq P ek ty x' y' = true) (hx : oeq x' x = true) (hy : oeq y' y = true) (hs : stepOp d f σ (.bin op ek ty x y) = some r) : Sim P B nt w0 ι0 σ0 f a w o r := by
  simp only [stepOp] at hs
  cases h1 : f.evV x with
  | none => simp [h1] at hs
  | some p =>
    cases h2 : f.evV y with
    | none => simp [h1, h2] at hs
    | some q =>
      have v1 := evV_rel hF hx h1
      have v2 := evV_rel hF hy h2
      simp only [h1, h2, Option.bind_some] at hs
      cases h3 : aBin op ek p q with
      | none => simp [h3] at hs
      | some v =>
        simp only [h3, Option.bind_some, Option.some.injEq] at hs
        subst hs
        have fin : ∀ {u : Value}, (do eqGuard op ty x' y' (a.eval x') (a.eval y'); binOp op ty (a.eval x') (a.eval y') : Sem Value).run P w = .ok u w → VR ι v u → Sim P B nt w0 ι0 σ0 f a w o (.v v, none, σ, .p) := fun {u} hr hv =>
          Sim.pure hI hB hF (y := u) (by simp only [execOp, ho, Sem.run_bind]; simp only [Sem.run_bind] at hr; rw [hr]; rfl) hv
        have eqc : ∀ {t : Bool}, op = .eql ∨ op = .neq → aEq ek p q = some t → v = .bool (if op = .eql then t else !t) → Sim P B nt w0 ι0 σ0 f a w o (.v v, none, σ, .p) := fun {t} hop he hv =>
          fin (bin_eq (x := x') (y := y') hop he hm v1 v2 nil_operand nil_operand) (by rw [hv]; exact VR.bool _)
        unfold aBin at h3
        split at h3
        · rename_i k pi k' qi
          obtain ⟨hr, u, rfl, hu⟩ := bin_ints (P := P) (w := w) (ι := ι) (ek := ek) (ty := ty) (x := x') (y := y') (k := k) (p := pi) (k' := k') (q := qi) (v := v) (op := op) (by unfold aBin; exact h3)
          refine fin ?_ hu
          rw [vr_int v1, vr_int v2]
          exact hr
        · rename_i pi qi
          obtain ⟨hr, u, rfl, hu⟩ := bin_strings (P := P) (w := w) (ι := ι) (ek := ek) (ty := ty) (x := x') (y := y') (p := pi) (q := qi) (v := v) (op := op) (by unfold aBin; exact h3)
          refine fin ?_ hu
          rw [vr_string v1, vr_string v2]
          exact hr
        · cases op <;> simp only [Option.map_eq_some_iff] at h3 <;> first | (simp at h3; done) | skip
          · obtain ⟨t, ht, rfl⟩ := h3
            exact eqc (.inl rfl) ht rfl
          · obtain ⟨t, ht, rfl⟩ := h3
            exact eqc (.inr rfl) ht (by simp)

end
end Go.Am

namespace Go.Am

/-- Two lists, part by part. -/
inductive F2 {α β : Type} (R : α → β → Prop) : List α → List β → Prop where
  | nil : F2 R [] []
  | cons {a b l m} (h : R a b) (t : F2 R l m) : F2 R (a :: l) (b :: m)

theorem foldl_place (off : Nat) : ∀ (vs : List Value) (k : Nat) (cells : Array Value), off + k + vs.length ≤ cells.size →
    (vs.zipIdx k).foldl (fun cs (c, j) => cs.setIfInBounds (off + j) c) cells = (cells.toList.take (off + k) ++ vs ++ cells.toList.drop (off + k + vs.length)).toArray
  | [], k, cells, _ => by simp
  | v :: vs, k, cells, h => by
    simp only [List.zipIdx_cons, List.foldl_cons]
    rw [foldl_place off vs (k + 1) _ (by simp at h ⊢; omega)]
    simp only [List.length_cons] at h
    congr 1
    have hlt : off + k < cells.toList.length := by simp; omega
    simp only [Array.toList_setIfInBounds]
    rw [show off + (k + 1) = off + k + 1 by omega, List.take_add_one, List.take_set_of_le (Nat.le_refl _), List.getElem?_set_self hlt, List.drop_set_of_lt (by omega)]
    simp only [Option.toList_some, List.append_assoc, List.cons_append, List.nil_append, List.length_cons]
    rw [show off + k + 1 + vs.length = off + k + (vs.length + 1) by omega]

section
variable {P : Program} {B nt : Nat} {w0 : World} {ι0 ι : Inj} {σ0 σ : AHeap} {lam : Nat → Nat} {f : AFr} {a : Act} {w : World} {o : Oper} {d : Option Nat}
  {r : AV × Option (Nat × List Value) × AHeap × Lab}

theorem fill_rel {place : Nat → Option (Nat × Nat)} : ∀ {l : List (Nat × Nat × Value)} {ps : List (Nat × Value)} {cs cs' r : List Value},
    F2 (fun (x : Nat × Nat × Value) (y : Nat × Value) => place y.1 = some (x.1, x.2.1) ∧ VR ι x.2.2 y.2) l ps → VRL ι cs cs' → cs.all oneCell = true → fillP cs l = some r →
    ∃ r', Instr.fill place cs'.toArray ps = some r'.toArray ∧ VRL ι r r' ∧ r.all oneCell = true
  | [], _, cs, cs', r, h, hc, ho, hf => by
    cases h
    simp only [fillP, Option.some.injEq] at hf
    subst hf
    exact ⟨cs', rfl, hc, ho⟩
  | (off, n, v) :: l, _, cs, cs', r, h, hc, ho, hf => by
    cases h with
    | cons h1 h2 =>
      rename_i y ps
      obtain ⟨i, u⟩ := y
      obtain ⟨hp, hv⟩ := h1
      simp only at hp hv
      have hvc := VR.cells hv
      have hl := hvc.length
      have hcl := hc.length
      simp only [fillP] at hf
      split at hf
      · rename_i hcond
        obtain ⟨c1, c2, c3⟩ := hcond
        have hsz : u.cells.size = n := by simp at hl; omega
        have hle : off + u.cells.size ≤ cs'.toArray.size := by simp; omega
        have hfp := foldl_place off u.cells.toList 0 cs'.toArray (by simpa using hle)
        have hs := hc.splice hvc off
        unfold splice at hs
        have hlen : v.cells.toList.length = n := by simpa using c1
        rw [hlen] at hs
        have hlen' : u.cells.toList.length = n := by simpa using hsz
        rw [hlen'] at hs
        obtain ⟨r', h3, h4, h5⟩ := fill_rel (place := place) h2 hs (by
          have := splice_all (off := off) ho c3
          unfold splice at this
          rwa [hlen] at this) hf
        refine ⟨r', ?_, h4, h5⟩
        simp only [Instr.fill, hp]
        rw [if_neg (by simp only [hsz]; simp; omega)]
        have hz : u.cells.zipIdx.foldl (fun cs (c, j) => cs.setIfInBounds (off + j) c) cs'.toArray = (cs'.take off ++ u.cells.toList ++ cs'.drop (off + n)).toArray := by
          rw [← Array.foldl_toList, Array.toList_zipIdx, hfp]
          simp [hsz]
        rw [hz]
        exact h3
      · simp at hf

theorem evParts_rel (hF : FR w0.heap.size nt lam ι σ f a w) {place : Nat → Option (Nat × Nat)} : ∀ {ps : List (Nat × Operand)} {qs : List (Nat × Nat × Operand)} {l}, mParts P place ps qs = true → evParts f qs = some l →
    F2 (fun (x : Nat × Nat × Value) (y : Nat × Value) => place y.1 = some (x.1, x.2.1) ∧ VR ι x.2.2 y.2) l (ps.map fun x => (x.1, a.eval x.2))
  | [], [], l, _, h => by simp [evParts] at h; subst h; exact .nil
  | (i, x) :: ps, (off, n, y) :: qs, l, hm, h => by
    simp only [mParts, Bool.and_eq_true] at hm
    simp only [evParts] at h
    cases hv : f.evV y with
    | none => simp [hv] at h
    | some v =>
      cases hl : evParts f qs with
      | none => simp [hv, hl] at h
      | some l' =>
        simp only [hv, hl, Option.bind_some, Option.some.injEq] at h
        subst h
        exact .cons ⟨by simpa using hm.1.1, evV_rel hF hm.1.2 hv⟩ (evParts_rel hF hm.2 hl)
  | [], _ :: _, _, hm, _ => by simp [mParts] at hm
  | _ :: _, [], _, hm, _ => by simp [mParts] at hm

theorem evElems_rel (hF : FR w0.heap.size nt lam ι σ f a w) {e : Nat} : ∀ {ps qs : List (Nat × Operand)} {l}, mElems ps qs = true → evElems f e qs = some l →
    F2 (fun (x : Nat × Nat × Value) (y : Nat × Value) => (fun i => some (i * e, e)) y.1 = some (x.1, x.2.1) ∧ VR ι x.2.2 y.2) l (ps.map fun x => (x.1, a.eval x.2))
  | [], [], l, _, h => by simp [evElems] at h; subst h; exact .nil
  | (i, x) :: ps, (j, y) :: qs, l, hm, h => by
    simp only [mElems, Bool.and_eq_true, beq_iff_eq] at hm
    simp only [evElems] at h
    cases hv : f.evV y with
    | none => simp [hv] at h
    | some v =>
      cases hl : evElems f e qs with
      | none => simp [hv, hl] at h
      | some l' =>
        simp only [hv, hl, Option.bind_some, Option.some.injEq] at h
        subst h
        exact .cons ⟨by simp [hm.1.1], evV_rel hF hm.1.2 hv⟩ (evElems_rel hF hm.2 hl)
  | [], _ :: _, _, hm, _ => by simp [mElems] at hm
  | _ :: _, [], _, hm, _ => by simp [mElems] at hm

theorem mapM_places : ∀ {l : List Field} (w : World), l.all (fun f => (tsize P f.type).isSome) = true →
    ∃ r : List (Nat × Nat), (l.mapM fun f => do pure (f.offset, ← sizeOf f.type) : Sem (List (Nat × Nat))).run P w = .ok r w ∧ ∀ i : Nat, r[i]? = (l[i]?).bind fun f => (tsize P f.type).map fun n => (f.offset, n)
  | [], w, _ => ⟨[], by simp, by simp⟩
  | fd :: l, w, h => by
    simp only [List.all_cons, Bool.and_eq_true] at h
    obtain ⟨n, hn⟩ := Option.isSome_iff_exists.1 h.1
    obtain ⟨r, h1, h2⟩ := mapM_places w h.2
    refine ⟨(fd.offset, n) :: r, ?_, ?_⟩
    · simp only [List.mapM_cons, Sem.run_bind, run_sizeOf' hn, Result.andThen_ok, Sem.run_pure]
      rw [h1]
      simp
    · intro i
      cases i with
      | zero => simp [hn]
      | succ i => simpa using h2 i

theorem sim_build (hI : Inv B ι σ w) (hB : Bs w0 ι0 σ0 w ι σ) (hF : FR w0.heap.size nt lam ι σ f a w) {t : TypeId} {zs : List Value} {parts : Array (Nat × Operand)} {qs : List (Nat × Nat × Operand)} {fields : Array Field}
    (ho : o.op = .build t parts) (hz : mZero P t zs = true) (hu : P.underlying t = some (.struct fields)) (hall : fields.toList.all (fun f => (tsize P f.type).isSome) = true)
    (hm : mParts P (mFields P fields) parts.toList qs = true) (hs : stepOp d f σ (.build zs qs) = some r) : Sim P B nt w0 ι0 σ0 f a w o r := by
  obtain ⟨z, h1, h2, h3, hone⟩ := zero_rel hz w
  simp only [stepOp] at hs
  cases hl : evParts f qs with
  | none => simp [hl] at hs
  | some l =>
    cases hf : fillP zs l with
    | none => simp [hl, hf] at hs
    | some cs =>
      simp only [hl, hf, Option.bind_some, Option.some.injEq] at hs
      subst hs
      have hp := evParts_rel hF hm hl
      obtain ⟨pl, hpl, hpg⟩ := mapM_places (P := P) w hall
      have hplace : ∀ i, (pl.toArray[i]? : Option (Nat × Nat)) = mFields P fields i := fun i => by
        simp only [List.getElem?_toArray, hpg, mFields]
        rw [Array.getElem?_toList]
        cases fields[i]? <;> rfl
      obtain ⟨r', h4, h5, h6⟩ := fill_rel (place := fun i => pl.toArray[i]?) (cs' := zs) (by simpa only [hplace] using hp) (h3 ι) hone hf
      refine Sim.pure hI hB hF (y := .agg r'.toArray) ?_ (VR.agg (by simpa using h5) (by simpa using h6))
      have hmM : (fields.mapM fun f => do pure (f.offset, ← sizeOf f.type) : Sem (Array (Nat × Nat))).run P w = .ok pl.toArray w := by
        rw [Array.mapM_eq_mapM_toList]
        simp only [Sem.run_map]
        rw [hpl]
        rfl
      have hzc : z.cells = zs.toArray := by rw [← h2]
      simp only [execOp, ho, Instr.build, Sem.run_bind, h1, Result.andThen_ok, run_underlying' hu]
      rw [hmM]
      simp only [Result.andThen_ok, hzc, Array.toList_map]
      rw [show (fun x : Nat × Operand => match x with | (i, x) => (i, a.eval x)) = fun x => (x.1, a.eval x.2) from rfl, h4]
      simp

end
end Go.Am

namespace Go.Am

theorem zeros_length (zs : List Value) : ∀ n, (zeros zs n).length = n * zs.length
  | 0 => by simp [zeros]
  | n + 1 => by simp [zeros, zeros_length zs n, Nat.add_mul]; omega

theorem zeros_get (zs : List Value) (hz : 0 < zs.length) : ∀ (n i : Nat), i < n * zs.length → (zeros zs n)[i]? = zs[i % zs.length]?
  | 0, i, h => by simp at h
  | n + 1, i, h => by
    simp only [zeros]
    by_cases hi : i < zs.length
    · rw [List.getElem?_append_left hi, Nat.mod_eq_of_lt hi]
    · rw [List.getElem?_append_right (by omega), zeros_get zs hz n (i - zs.length) (by rw [Nat.add_mul] at h; omega)]
      congr 1
      rw [Nat.mod_eq_sub_mod (by omega : i ≥ zs.length)]

theorem made_zeros (z : Array Value) (zs : List Value) (hz : z.toList = zs) (h0 : 0 < zs.length) (n : Nat) : ((Array.range (n * zs.length)).map (z[· % z.size]!)).toList = zeros zs n := by
  have hs : z.size = zs.length := by rw [← hz]; simp
  apply List.ext_getElem?
  intro i
  by_cases hi : i < n * zs.length
  · rw [zeros_get zs h0 n i hi]
    have hm : i % zs.length < zs.length := Nat.mod_lt _ h0
    have hzi : (z[i % z.size]! : Value) = zs[i % zs.length]'hm := by
      rw [hs, getElem!_pos z _ (by omega)]
      simp [← hz]
    rw [Array.toList_map, List.getElem?_map, Array.getElem?_toList]
    simp [hi, hzi, List.getElem?_eq_getElem hm]
  · have : (zeros zs n).length ≤ i := by rw [zeros_length]; omega
    rw [List.getElem?_eq_none this, List.getElem?_eq_none (by simp; omega)]

section
variable {P : Program} {B nt : Nat} {w0 : World} {ι0 ι : Inj} {σ0 σ : AHeap} {lam : Nat → Nat} {f : AFr} {a : Act} {w : World} {o : Oper} {d : Option Nat}
  {r : AV × Option (Nat × List Value) × AHeap × Lab}

theorem tzero_run {t : TypeId} {z : List Value} (h : tzero P t = some z) : ∃ i zv, P.info? t = some i ∧ i.zero = some zv ∧ zv.cells.toList = z := by
  unfold tzero at h
  cases hi : P.info? t with
  | none => simp [hi] at h
  | some i =>
    cases hz : i.zero with
    | none => simp [hi, hz] at h
    | some zv => simp [hi, hz] at h; exact ⟨i, zv, rfl, hz, h⟩

theorem tsize_info {t : TypeId} {n : Nat} {i : TypeInfo} (h : tsize P t = some n) (hi : P.info? t = some i) : i.size = n := by
  simp [tsize, hi] at h; exact h

theorem tbytes_info {t : TypeId} {n : Nat} {i : TypeInfo} (h : tbytes P t = some n) (hi : P.info? t = some i) : i.bytes = n := by
  simp [tbytes, hi] at h; exact h

/-- A row literal: what the program makes. -/
theorem run_bslice {t el : TypeId} {e n : Nat} {zs : List Value} {parts : Array (Nat × Value)} {cells : List Value} (hu : P.underlying t = some (.slice el)) (hsz : tsize P el = some e) (hz : tzero P el = some zs)
    (hl : zs.length = e) (he : 0 < e) (hn : n * e ≤ 2 ^ 24) (hf : Instr.fill (fun i => some (i * e, e)) (zeros zs n).toArray parts.toList = some cells.toArray) :
    (Instr.buildSlice t n parts).run P w = .ok (.slice (some ⟨w.heap.size, 0, none⟩) n n) (w.alloc (.cells cells.toArray el)) := by
  obtain ⟨i, zv, hi, hzv, hzc⟩ := tzero_run hz
  have hie := tsize_info hsz hi
  have hsm : ¬ (n * e > 2 ^ 24) := by omega
  by_cases h0 : n * e = 0
  · have hn0 : n = 0 := by
      rcases Nat.mul_eq_zero.1 h0 with h | h
      · exact h
      · omega
    subst hn0
    simp only [zeros] at hf
    simp [Instr.buildSlice, run_underlying' hu, sizeOf, typeInfo, hi, hie, newRow]
    rw [show Array.range 0 = #[] from rfl]
    simp only [Array.map_empty]
    rw [hf]
    simp
  · have hm := made_zeros zv.cells zs hzc (by omega) n
    rw [hl] at hm
    have hm' : (Array.range (n * e)).map (zv.cells[· % zv.cells.size]!) = (zeros zs n).toArray := by
      apply Array.toList_inj.1
      rw [hm]
    simp only [Instr.buildSlice, Sem.run_bind, run_underlying' hu, Result.andThen_ok, run_sizeOf' hsz]
    rw [if_neg hsm]
    simp only [if_neg h0]
    simp [zeroValue, typeInfo, hi, hzv, newRow, hm', hf]

theorem sim_bslice (hI : Inv B ι σ w) (hB : Bs w0 ι0 σ0 w ι σ) (hF : FR w0.heap.size nt lam ι σ f a w) {t el : TypeId} {e n : Nat} {zs z : List Value} {parts : Array (Nat × Operand)} {qs : List (Nat × Operand)}
    (ho : o.op = .buildSlice t n parts) (hu : P.underlying t = some (.slice el)) (hsz : tsize P el = some e) (hz : tzero P el = some z) (hzz : vseq z zs = true) (hl : zs.length = e) (he : 0 < e) (hn : n * e ≤ 2 ^ 24)
    (hm : mElems parts.toList qs = true) (hs : stepOp d f σ (.bslice e zs n qs) = some r ∨ stepOp d f σ (.bimm e zs n qs) = some r) : Sim P B nt w0 ι0 σ0 f a w o r := by
  have ez := vseq_eq hzz
  subst ez
  have hfl : ∀ ι, VRL ι (zeros z n) (zeros z n) := fun ι => by
    have h1 : VRL ι z z := vseq_flat hzz
    have : ∀ n, VRL ι (zeros z n) (zeros z n) := fun n => by
      induction n with
      | zero => exact .nil
      | succ n ih => exact h1.append ih
    exact this n
  have hone : (zeros z n).all oneCell = true := by
    have h1 := vseq_one hzz
    have : ∀ n, (zeros z n).all oneCell = true := fun n => by
      induction n with
      | zero => rfl
      | succ n ih => simp only [zeros, List.all_append, Bool.and_eq_true]; exact ⟨h1, ih⟩
    exact this n
  simp only [stepOp] at hs
  cases hel : evElems f e qs with
  | none => simp [hel] at hs
  | some l =>
    cases hf : fillP (zeros z n) l with
    | none => simp [hel, hf] at hs
    | some cs =>
      simp only [hel, hf, Option.bind_some] at hs
      have hp := evElems_rel hF hm hel
      obtain ⟨r', h4, h5, h6⟩ := fill_rel (place := fun i => some (i * e, e)) (cs' := zeros z n) hp (hfl ι) hone hf
      have hrun : (execOp a.eval o).run P w = .ok (.value (.slice (some ⟨w.heap.size, 0, none⟩) n n)) (w.alloc (.cells r'.toArray el)) := by
        have := run_bslice (P := P) (w := w) (parts := parts.map fun x => (x.1, a.eval x.2)) (cells := r') hu hsz hz hl he hn (by rw [Array.toList_map]; exact h4)
        simp only [execOp, ho, Sem.run_bind]
        rw [show (fun x : Nat × Operand => match x with | (i, x) => (i, a.eval x)) = fun x => (x.1, a.eval x.2) from rfl, this]
        rfl
      have hlen : cs.length = n * e := by
        have : ∀ {l : List (Nat × Nat × Value)} {c r : List Value}, fillP c l = some r → r.length = c.length := by
          intro l
          induction l with
          | nil => intro c r h; simp only [fillP, Option.some.injEq] at h; rw [h]
          | cons x l ih =>
            obtain ⟨off, n, v⟩ := x
            intro c r h
            simp only [fillP] at h
            split at h
            · rename_i hc
              rw [ih h]
              have := hc.1
              simp
              omega
            · simp at h
        rw [this hf, zeros_length, hl]
      have hrl := h5.length
      rcases hs with hs | hs
      · rw [if_pos h6] at hs
        injection hs with hs
        subst hs
        refine Sim.row hI hB hF (arr := r'.toArray) (el := el) (M := n * e) (by simp only []; rw [← hrl, List.take_length]; exact h5) h6 (by omega) (by simp; omega) hrun ?_
        rintro ι' - rfl
        exact ⟨_, rfl, .sln he (Nat.le_refl _) fun _ => ⟨⟨w.heap.size, 0, e, n * e⟩, by simp [setIota], rfl, rfl, by simp⟩⟩
      · rw [if_pos h6] at hs
        injection hs with hs
        subst hs
        have hA := Bs.alloc w ι σ (.cells r'.toArray el)
        refine ⟨_, _, lam, ι, .inl hrun, hI.alloc _, hB.trans hA, hF.step hA, w.heap.size, r'.toArray, el, rfl, hB.size, heap_alloc_new w _, by simpa using h5, h6, hlen, he, ?_, ?_⟩
        · rintro ⟨b, _, _, _, p, _, _, hp, e⟩
          have := hI.lt b p hp
          omega
        · intro k hk e
          obtain ⟨cs', hcs'⟩ := Option.isSome_iff_exists.1 hk
          obtain ⟨_, ⟨_, _, h, _⟩, _⟩ := hF.box k cs' hcs'
          have := lt_of_heap h
          omega

theorem sim_mk (hI : Inv B ι σ w) (hB : Bs w0 ι0 σ0 w ι σ) (hF : FR w0.heap.size nt lam ι σ f a w) {t el : TypeId} {e bytes : Nat} {zs z : List Value} {x y x' y' : Operand}
    (ho : o.op = .makeSlice t x' y') (hu : P.underlying t = some (.slice el)) (hsz : tsize P el = some e) (hby : tbytes P el = some bytes) (hz : tzero P el = some z) (hzz : vseq z zs = true) (hl : zs.length = e) (he : 0 < e)
    (hx : oeq x' x = true) (hy : oeq y' y = true) (hs : stepOp d f σ (.mk e bytes zs x y) = some r) : Sim P B nt w0 ι0 σ0 f a w o r := by
  have ez := vseq_eq hzz
  subst ez
  obtain ⟨i, zv, hi, hzv, hzc⟩ := tzero_run hz
  have hie := tsize_info hsz hi
  have hib := tbytes_info hby hi
  simp only [stepOp] at hs
  split at hs
  · rename_i k n k' c h1 h2
    have e1 := vr_int (evV_rel hF hx h1)
    have e2 := vr_int (evV_rel hF hy h2)
    split at hs
    · rename_i hc
      obtain ⟨c1, c2, c3, c4, c5⟩ := hc
      injection hs with hs
      subst hs
      have hrun := run_make (P := P) w t el i zv hu hi hzv k k' n c c1 c2 (by rw [hib, Int.mul_comm]; omega) (by omega)
      have hm := made_zeros zv.cells z hzc (by omega) c.toNat
      rw [hl, ← hie] at hm
      have hlen : (zeros z n.toNat).length = n.toNat * e := by rw [zeros_length, hl]
      have hle : n.toNat * e ≤ c.toNat * e := Nat.mul_le_mul_right _ (by omega)
      refine Sim.row hI hB hF (arr := madeCells zv.cells (c.toNat * i.size)) (el := el) (M := c.toNat * e) ?_ ?_ (by omega) (by rw [size_madeCells, hie]; exact Nat.le_refl _)
        (y := .slice (some ⟨w.heap.size, 0, none⟩) n.toNat c.toNat) (by simp [execOp, ho, e1, e2, hrun]) ?_
      · unfold madeCells
        rw [hm, hlen]
        have : (zeros z c.toNat).take (n.toNat * e) = zeros z n.toNat := by
          have hh : ∀ a b : Nat, zeros z (a + b) = zeros z a ++ zeros z b := fun a b => by
            induction a with
            | zero => simp [zeros]
            | succ a ih => rw [show a + 1 + b = a + b + 1 by omega]; simp [zeros, ih]
          rw [show c.toNat = n.toNat + (c.toNat - n.toNat) by omega, hh, ← hlen, List.take_left']
          rfl
        rw [this]
        have h1 : VRL ι z z := vseq_flat hzz
        have : ∀ n, VRL ι (zeros z n) (zeros z n) := fun n => by
          induction n with
          | zero => exact .nil
          | succ n ih => exact h1.append ih
        exact this _
      · have h1 := vseq_one hzz
        have : ∀ n, (zeros z n).all oneCell = true := fun n => by
          induction n with
          | zero => rfl
          | succ n ih => simp only [zeros, List.all_append, Bool.and_eq_true]; exact ⟨h1, ih⟩
        exact this _
      · rintro ι' - rfl
        exact ⟨_, rfl, .sln he (by omega) fun _ => ⟨⟨w.heap.size, 0, e, c.toNat * e⟩, by simp [setIota], rfl, rfl, by simp⟩⟩
    · simp at hs
  · simp at hs

/-- A slice's cells. -/
theorem slice_cells (hI : Inv B ι σ w) {b q n c : Nat} {sp : Option Nat} {y : Value} (hv : VR ι (.slice (some ⟨b, q, sp⟩) n c) y) {cs : List Value} {e' e : Nat} {m : AMode} (hb : σ[b]? = some (.row cs e' m)) (hle : q + n * e ≤ cs.length) :
    ∃ ad cap l', y = .slice (some ad) n cap ∧ l'.length = n * e ∧ (∀ i v', l'[i]? = some v' → w.cell? (ad.add i) = some v') ∧ VRL ι ((cs.drop q).take (n * e)) l' ∧ ((cs.drop q).take (n * e)).all oneCell = true := by
  obtain ⟨ad, cap, rfl, _, ha⟩ := vr_sl hv
  have key : ∃ l' : List Value, l'.length = n * e ∧ (∀ i v', l'[i]? = some v' → w.cell? (ad.add i) = some v') ∧ VRL ι ((cs.drop q).take (n * e)) l' ∧
      ((cs.drop q).take (n * e)).all oneCell = true := by
    by_cases hn : 0 < n
    · obtain ⟨p, hp, rfl⟩ := ha hn
      exact (readable_blk hI hb hp).part q (n * e) hle
    · have : n = 0 := by omega
      subst this
      simp
      exact .nil
  obtain ⟨l', h1, h2, h3, h4⟩ := key
  exact ⟨_, _, l', rfl, h1, h2, h3, h4⟩

theorem sim_cpy (hI : Inv B ι σ w) (hB : Bs w0 ι0 σ0 w ι σ) (hF : FR w0.heap.size nt lam ι σ f a w) {t t' el : TypeId} {e : Nat} {x y x' y' : Operand}
    (ho : o.op = .call { callee := .builtin .copy, args := #[x', y'], argTypes := #[t, t'] }) (hu : P.underlying t = some (.slice el)) (hsz : tsize P el = some e) (_he : 0 < e)
    (hx : oeq x' x = true) (hy : oeq y' y = true) (hs : stepOp d f σ (.cpy e x y) = some r) : Sim P B nt w0 ι0 σ0 f a w o r := by
  simp only [stepOp] at hs
  split at hs
  · rename_i ad n c h1 h2
    injection hs with hs
    subst hs
    have v1 := evV_rel hF hx h1
    obtain ⟨ad', c', e2, _⟩ := vr_slice (evV_rel hF hy h2)
    have e1 : a.eval x' = .slice none 0 0 := by generalize a.eval x' = z at v1; cases v1; rfl
    refine Sim.pure hI hB hF (y := .int .i64 0) ?_ (VR.int _ _)
    cases ad' <;> simp [execOp, ho, resolve, invoke, builtin, Builtin.copy_, run_underlying' hu, e1, e2, Builtin.lenOf, run_sizeOf' hsz, Builtin.firstCells, loadCells, loadCellsFrom, goInt]
  · rename_i ad n c h1 h2
    injection hs with hs
    subst hs
    have v2 := evV_rel hF hy h2
    obtain ⟨ad', c', e1, hsome⟩ := vr_slice (evV_rel hF hx h1)
    have e2 : a.eval y' = .slice none 0 0 := by generalize a.eval y' = z at v2; cases v2; rfl
    refine Sim.pure hI hB hF (y := .int .i64 0) ?_ (VR.int _ _)
    cases ad' <;> simp [execOp, ho, resolve, invoke, builtin, Builtin.copy_, run_underlying' hu, e1, e2, Builtin.lenOf, run_sizeOf' hsz, Builtin.firstCells, storeCells, goInt]
  · rename_i b q sp n c b' q' sp' n' c' h1 h2
    have v1 := evV_rel hF hx h1
    have v2 := evV_rel hF hy h2
    split at hs
    · rename_i cs e0 cs' e1' m' hb hb'
      split at hs
      · rename_i hle
        injection hs with hs
        subst hs
        have hk2 : min n' n * e ≤ n * e := Nat.mul_le_mul_right _ (Nat.min_le_right _ _)
        obtain ⟨ad', cap', ey, hnc', ha'⟩ := vr_sl v2
        have key : ∃ l' : List Value, l'.length = min n' n * e ∧ (∀ i v', l'[i]? = some v' → w.cell? (ad'.add i) = some v') ∧ VRL ι ((cs'.drop q').take (min n' n * e)) l' ∧
            ((cs'.drop q').take (min n' n * e)).all oneCell = true := by
          by_cases hn : 0 < n'
          · obtain ⟨p, hp, rfl⟩ := ha' hn
            exact (readable_blk hI hb' hp).part q' (min n' n * e) hle.2
          · have : n' = 0 := by omega
            subst this
            simp
            exact .nil
        obtain ⟨l', g1, g2, hsub, hsone⟩ := key
        have hsl : ((cs'.drop q').take (min n' n * e)).length = min n' n * e := by simp; omega
        have hfc : (Builtin.firstCells e (Nat.min n' n) (.slice (some ad') n' cap')).run P w = .ok l'.toArray w :=
          run_firstCells_some (P := P) w e (Nat.min n' n) ad' n' cap' l' g1 fun j v hv => g2 j v hv
        obtain ⟨ad, cap, ex, hnc, ha⟩ := vr_sl v1
        by_cases hn : 0 < n
        · have hroom : ∃ p, ι b = some p ∧ ad = ⟨p.c, p.o + q, none⟩ ∧ q ≤ cs.length ∧ q + min n' n * e ≤ p.M := by
            rcases hle.1 with h1 | ⟨rfl, h2⟩
            · obtain ⟨p, hp, h3⟩ := ha hn
              have := (hI.own _ _ _ _ _ hb (by simp) hp).2.1
              exact ⟨p, hp, h3, by omega, by omega⟩
            · generalize a.eval x' = xx at v1 ex
              subst ex
              cases v1 with
              | sle hc ha2 =>
                obtain ⟨p, hp, h3, h4, h5⟩ := ha2 (by omega)
                have : n * e ≤ c * e := Nat.mul_le_mul_right _ hc
                exact ⟨p, hp, h3, h2, by omega⟩
          obtain ⟨p, hp, rfl, hq, hM⟩ := hroom
          obtain ⟨arr, el', k1, k2, k3, k4⟩ := hI.writeX hb hp hsub hsone (off := q) hq (by rw [hsl]; exact hM)
          have hst := run_storeCells_at P p.c (p.o + q) el' l' 0 arr w k1 (by simpa using k2) (fun u hu => VRL.one hsub hsone u hu)
          simp only [Nat.add_zero] at hst
          refine ⟨.int .i64 ((min n' n : Nat) : Int), _, lam, ι, .inl ?_, k3, hB.trans k4, hF.step k4, VR.int _ _⟩
          simp only [execOp, ho, resolve, invoke, builtin, Sem.run_bind, List.map_toArray, Builtin.copy_]
          simp [run_underlying' hu, ex, ey, Builtin.lenOf, run_sizeOf' hsz, hfc, hst, goInt]
        · have hn0 : n = 0 := by omega
          subst hn0
          have hσ : σ.setIfInBounds b (.row (splice cs q ((cs'.drop q').take (min n' 0 * e))) e0 .W) = σ := by
            apply Array.ext_getElem?
            intro j
            rw [set_get _ _ _ _ (lt_of_get hb)]
            by_cases hj : j = b
            · subst hj; simp [hb, splice]
            · simp [hj]
          rw [hσ]
          refine ⟨.int .i64 ((min n' 0 : Nat) : Int), w, lam, ι, .inl ?_, hI, hB, hF, VR.int _ _⟩
          have hl0 : l' = [] := by simpa using g1
          subst hl0
          simp at hfc
          simp only [execOp, ho, resolve, invoke, builtin, Sem.run_bind, List.map_toArray, Builtin.copy_]
          simp [run_underlying' hu, ex, ey, Builtin.lenOf, run_sizeOf' hsz, hfc, storeCells, goInt]
      · simp at hs
    · simp at hs
  · simp at hs

end
end Go.Am

namespace Go.Am

section
variable {P : Program} {B nt : Nat} {w0 : World} {ι0 ι : Inj} {σ0 σ : AHeap} {lam : Nat → Nat} {f : AFr} {a : Act} {w : World} {o : Oper} {d : Option Nat}
  {r : AV × Option (Nat × List Value) × AHeap × Lab}

theorem Inv.drew (hI : Inv B ι σ w) : Inv B ι σ w.drew := ⟨hI.blk, hI.own, hI.excl, hI.dom, hI.lt, hI.base⟩

theorem Bs.drew (w ι σ) : Bs w ι σ w.drew ι σ := ⟨rfl, rfl, rfl, Nat.le_refl _, fun _ _ _ => rfl, Inj.le_refl _, fun _ _ h => .inl h, fun _ h => .inr h⟩

/-- A row that was grown: it is read no more, or read alone. -/
theorem Inv.end_ (hI : Inv B ι σ w) {b : Nat} {cs : List Value} {e : Nat} {m : AMode} (hb : σ[b]? = some (.row cs e m)) (hm : m ≠ .R) {p : IB} (hp : ι b = some p) (x : ABlk) (hx : x = .dead ∨ x = .row cs e .R) :
    Inv B ι (σ.setIfInBounds b x) w ∧ Bs w ι σ w ι (σ.setIfInBounds b x) := by
  have hlb := lt_of_get hb
  have old : ∀ b' cs' e' m', (σ.setIfInBounds b x)[b']? = some (.row cs' e' m') → (b' = b ∧ cs' = cs ∧ e' = e ∧ m' = .R) ∨ (b' ≠ b ∧ σ[b']? = some (.row cs' e' m')) := fun b' cs' e' m' h => by
    rw [set_get _ _ _ _ hlb] at h
    by_cases hbb : b' = b
    · rw [if_pos hbb] at h
      injection h with h
      rcases hx with rfl | rfl
      · simp at h
      · injection h with h1 h2 h3; exact .inl ⟨hbb, h1.symm, h2.symm, h3.symm⟩
    · rw [if_neg hbb] at h; exact .inr ⟨hbb, h⟩
  refine ⟨⟨?_, ?_, ?_, ?_, hI.lt, hI.base⟩, ⟨rfl, rfl, rfl, Nat.le_refl _, fun _ _ _ => rfl, Inj.le_refl _, fun _ _ h => .inl h, ?_⟩⟩
  · intro b' cs' e' m' h
    rcases old _ _ _ _ h with ⟨rfl, rfl, rfl, rfl⟩ | ⟨_, h⟩
    · exact hI.blk _ _ _ _ hb
    · exact hI.blk _ _ _ _ h
  · intro b' cs' e' m' p' h hm' hp'
    rcases old _ _ _ _ h with ⟨_, _, _, rfl⟩ | ⟨_, h⟩
    · exact absurd rfl hm'
    · exact hI.own _ _ _ _ _ h hm' hp'
  · intro b1 cs1 e1 m1 p1 b2 cs2 e2 m2 p2 h1 hm1 hp1 h2 hp2 hne hc
    rcases old _ _ _ _ h1 with ⟨_, _, _, rfl⟩ | ⟨_, g1⟩
    · exact absurd rfl hm1
    · rcases old _ _ _ _ h2 with ⟨rfl, rfl, rfl, rfl⟩ | ⟨_, g2⟩
      · have := hI.excl _ _ _ _ _ _ _ _ _ _ g1 hm1 hp1 hb hp2 hne hc
        exact absurd this.2.1 hm
      · exact hI.excl _ _ _ _ _ _ _ _ _ _ g1 hm1 hp1 g2 hp2 hne hc
  · intro b' hb'; exact hI.dom b' (by simpa using hb')
  · rintro c ⟨b', cs', e', m', p', h1, h2, h3, rfl⟩
    rcases old _ _ _ _ h1 with ⟨_, _, _, rfl⟩ | ⟨_, h1⟩
    · exact absurd rfl h2
    · exact .inr ⟨b', cs', e', m', p', h1, h2, h3, rfl⟩

theorem getE_append {cs vs : List Value} {i : Nat} : (cs ++ vs)[i]? = if i < cs.length then cs[i]? else vs[i - cs.length]? := by
  by_cases h : i < cs.length
  · rw [if_pos h, List.getElem?_append_left h]
  · rw [if_neg h, List.getElem?_append_right (by omega)]

/-- A row grows where it lies. -/
theorem Inv.grow (hI : Inv B ι σ w) {b : Nat} {cs : List Value} {e' : Nat} {md : AMode} {p : IB} (hb : σ[b]? = some (.row cs e' md)) (hmd : md ≠ .R) (hp : ι b = some p) {q k e : Nat} (hq : q + k = cs.length)
    {new new' : List Value} (hn : VRL ι new new') (hone : new.all oneCell = true) {M : Nat} (hM : q + M ≤ p.M) (hM2 : k + new.length ≤ M) (x : ABlk) (mN : AMode)
    (hx : (x = .dead ∧ mN = md) ∨ (x = .row cs e' .R ∧ mN = .T)) :
    ∃ arr el, w.heap[p.c]? = some (.cells arr el (0, 0)) ∧ p.o + q + k + new'.length ≤ arr.size ∧
      Inv B (setIota ι σ.size ⟨p.c, p.o + q, e, M⟩) ((σ.setIfInBounds b x).push (.row ((cs.drop q).take k ++ new) e mN)) (w.setRow p.c (arr.toList.take (p.o + q + k) ++ new' ++ arr.toList.drop (p.o + q + k + new'.length)).toArray) ∧
      Bs w ι σ (w.setRow p.c (arr.toList.take (p.o + q + k) ++ new' ++ arr.toList.drop (p.o + q + k + new'.length)).toArray) (setIota ι σ.size ⟨p.c, p.o + q, e, M⟩)
        ((σ.setIfInBounds b x).push (.row ((cs.drop q).take k ++ new) e mN)) := by
  obtain ⟨hBc, hcM, arr, el, hh, hsz⟩ := hI.own b cs e' md p hb hmd hp
  have hlb := lt_of_get hb
  have hd : ι σ.size = none := hI.dom _ (Nat.le_refl _)
  have hle := le_setIota hd ⟨p.c, p.o + q, e, M⟩
  have hnl := hn.length
  have hfit : p.o + q + k + new'.length ≤ arr.toList.length := by simp; omega
  have hss : (σ.setIfInBounds b x).size = σ.size := by simp
  have inew : setIota ι σ.size ⟨p.c, p.o + q, e, M⟩ σ.size = some ⟨p.c, p.o + q, e, M⟩ := by simp [setIota]
  have iold : ∀ b', b' ≠ σ.size → setIota ι σ.size ⟨p.c, p.o + q, e, M⟩ b' = ι b' := fun b' hb' => by simp [setIota, hb']
  have hself := readable_blk hI hb hp
  have ocell : ∀ i, i < p.o + cs.length → (w.setRow p.c (arr.toList.take (p.o + q + k) ++ new' ++ arr.toList.drop (p.o + q + k + new'.length)).toArray).cell? ⟨p.c, i, none⟩ = w.cell? ⟨p.c, i, none⟩ := fun i hi => by
    rw [cell_setRow_same w p.c i arr _ el (0, 0) hh, cell_of_row w p.c i arr el (0, 0) hh]
    have hs := splice_get arr.toList new' (p.o + q + k) i hfit
    unfold splice at hs
    simp only [List.getElem?_toArray]
    rw [hs, if_pos (by omega)]
    simp
  -- what a row of the new heap is
  have what : ∀ b' cs' e2 m', ((σ.setIfInBounds b x).push (.row ((cs.drop q).take k ++ new) e mN))[b']? = some (.row cs' e2 m') →
      (b' = σ.size ∧ cs' = (cs.drop q).take k ++ new ∧ e2 = e ∧ m' = mN) ∨ (b' ≠ σ.size ∧ b' = b ∧ cs' = cs ∧ e2 = e' ∧ m' = .R ∧ mN = .T) ∨ (b' ≠ σ.size ∧ b' ≠ b ∧ σ[b']? = some (.row cs' e2 m')) := fun b' cs' e2 m' h => by
    rw [push_get, hss] at h
    by_cases hb' : b' = σ.size
    · rw [if_pos hb'] at h
      injection h with h
      injection h with h1 h2 h3
      exact .inl ⟨hb', h1.symm, h2.symm, h3.symm⟩
    · rw [if_neg hb', set_get _ _ _ _ hlb] at h
      by_cases hbb : b' = b
      · rw [if_pos hbb] at h
        injection h with h
        rcases hx with ⟨rfl, _⟩ | ⟨rfl, hN⟩
        · simp at h
        · injection h with h1 h2 h3
          exact .inr (.inl ⟨hb', hbb, h1.symm, h2.symm, h3.symm, hN⟩)
      · rw [if_neg hbb] at h
        exact .inr (.inr ⟨hb', hbb, h⟩)
  have hlen : ((cs.drop q).take k).length = k := by simp; omega
  -- rows beside b: elsewhere, or read alone and ending ahead
  have beside : ∀ b' cs' e2 m' p', σ[b']? = some (.row cs' e2 m') → ι b' = some p' → b' ≠ b → p.c = p'.c → md = .T ∧ m' = .R ∧ p'.o + cs'.length ≤ p.o + cs.length := fun b' cs' e2 m' p' h h' hne hc =>
    hI.excl _ _ _ _ _ _ _ _ _ _ hb hmd hp h h' (Ne.symm hne) hc
  have hmN : mN ≠ .R := by rcases hx with ⟨_, rfl⟩ | ⟨_, rfl⟩ <;> simp [hmd]
  refine ⟨arr, el, hh, by simpa using hfit, ⟨?_, ?_, ?_, ?_, ?_, ?_⟩, ⟨rfl, rfl, rfl, by simp, ?_, hle, ?_, ?_⟩⟩
  · intro b' cs' e2 m' h
    rcases what _ _ _ _ h with ⟨rfl, rfl, rfl, rfl⟩ | ⟨hbn, rfl, rfl, rfl, _, _⟩ | ⟨hbn, hbb, h⟩
    · refine ⟨_, inew, rfl, fun i v hiv => ?_⟩
      simp only
      rw [getE_append, hlen] at hiv
      by_cases hi : i < k
      · rw [if_pos hi, List.getElem?_take_of_lt hi, List.getElem?_drop] at hiv
        obtain ⟨v', h1, h2, h3⟩ := hself _ _ hiv
        exact ⟨v', by rw [ocell _ (by omega), Nat.add_assoc]; exact h1, VR.mono hle h2, h3⟩
      · rw [if_neg hi] at hiv
        obtain ⟨v', h1, h2⟩ := hn.get hiv
        refine ⟨v', ?_, VR.mono hle h2, List.all_eq_true.1 hone v (List.mem_of_getElem? hiv)⟩
        have hlt : i - k < new'.length := by
          rcases Nat.lt_or_ge (i - k) new'.length with h | h
          · exact h
          · simp [List.getElem?_eq_none h] at h1
        rw [cell_setRow_same w p.c _ arr _ el (0, 0) hh]
        have hs := splice_get arr.toList new' (p.o + q + k) (p.o + q + i) hfit
        unfold splice at hs
        simp only [List.getElem?_toArray]
        rw [hs, if_neg (by omega), if_pos (by omega), show p.o + q + i - (p.o + q + k) = i - k by omega]
        exact h1
    · obtain ⟨p', h1, h2, h3⟩ := hI.blk _ _ _ _ hb
      refine ⟨p', (iold _ hbn).trans h1, h2, fun i v hiv => ?_⟩
      rw [hp] at h1
      injection h1 with h1
      subst h1
      obtain ⟨v', h4, h5, h6⟩ := h3 i v hiv
      have hlt : i < cs'.length := by
        rcases Nat.lt_or_ge i cs'.length with h | h
        · exact h
        · simp [List.getElem?_eq_none h] at hiv
      exact ⟨v', by rw [ocell _ (by omega)]; exact h4, VR.mono hle h5, h6⟩
    · obtain ⟨p', h1, h2, h3⟩ := hI.blk _ _ _ _ h
      refine ⟨p', (iold _ hbn).trans h1, h2, fun i v hiv => ?_⟩
      obtain ⟨v', h4, h5, h6⟩ := h3 i v hiv
      refine ⟨v', ?_, VR.mono hle h5, h6⟩
      by_cases hc : p.c = p'.c
      · obtain ⟨_, _, h7⟩ := beside _ _ _ _ _ h h1 hbb hc
        have hlt : i < cs'.length := by
          rcases Nat.lt_or_ge i cs'.length with h | h
          · exact h
          · simp [List.getElem?_eq_none h] at hiv
        rw [← hc] at h4 ⊢
        rw [ocell _ (by omega)]
        exact h4
      · rw [cell_setRow_other w p.c _ _ (Ne.symm hc)]
        exact h4
  · intro b' cs' e2 m' p' h hm' hp'
    rcases what _ _ _ _ h with ⟨rfl, rfl, rfl, rfl⟩ | ⟨_, _, _, _, rfl, _⟩ | ⟨hbn, hbb, h⟩
    · rw [inew] at hp'
      injection hp' with hp'
      subst hp'
      refine ⟨hBc, by simp [hlen]; omega, _, el, setRow_heap w p.c arr _ el (0, 0) hh, ?_⟩
      simp
      simp at hfit
      omega
    · exact absurd rfl hm'
    · rw [iold _ hbn] at hp'
      obtain ⟨h1, h2, arr', el', h3, h4⟩ := hI.own _ _ _ _ _ h hm' hp'
      refine ⟨h1, h2, arr', el', ?_, h4⟩
      rw [setRow_other w p.c _ _ ?_]
      · exact h3
      · intro hc
        exact hm' (beside _ _ _ _ _ h hp' hbb hc.symm).2.1
  · intro b1 cs1 e1 m1 p1 b2 cs2 e2 m2 p2 h1 hm1 hp1 h2 hp2 hne hc
    rcases what _ _ _ _ h1 with ⟨rfl, rfl, rfl, rfl⟩ | ⟨_, _, _, _, rfl, _⟩ | ⟨hbn1, hbb1, g1⟩
    · rw [inew] at hp1
      injection hp1 with hp1
      subst hp1
      simp only at hc ⊢
      rcases what _ _ _ _ h2 with ⟨rfl, _, _, _⟩ | ⟨hbn2, rfl, rfl, rfl, rfl, hT⟩ | ⟨hbn2, hbb2, h2⟩
      · exact absurd rfl hne
      · rw [iold _ hbn2, hp] at hp2
        injection hp2 with hp2
        subst hp2
        exact ⟨hT, rfl, by simp [hlen]; omega⟩
      · rw [iold _ hbn2] at hp2
        obtain ⟨h3, h4, h5⟩ := beside _ _ _ _ _ h2 hp2 hbb2 hc
        refine ⟨?_, h4, by simp [hlen]; omega⟩
        rcases hx with ⟨_, rfl⟩ | ⟨_, rfl⟩
        · exact h3
        · rfl
    · exact absurd rfl hm1
    · rw [iold _ hbn1] at hp1
      rcases what _ _ _ _ h2 with ⟨rfl, rfl, rfl, rfl⟩ | ⟨hbn2, rfl, rfl, rfl, rfl, hT⟩ | ⟨hbn2, hbb2, h2⟩
      · rw [inew] at hp2
        injection hp2 with hp2
        subst hp2
        exact absurd (beside _ _ _ _ _ g1 hp1 hbb1 hc.symm).2.1 hm1
      · rw [iold _ hbn2, hp] at hp2
        injection hp2 with hp2
        subst hp2
        exact absurd (beside _ _ _ _ _ g1 hp1 hbb1 hc.symm).2.1 hm1
      · rw [iold _ hbn2] at hp2
        exact hI.excl _ _ _ _ _ _ _ _ _ _ g1 hm1 hp1 h2 hp2 hne hc
  · intro b' hb'
    simp at hb'
    rw [iold _ (by omega)]
    exact hI.dom b' (by omega)
  · intro b' p' h
    rw [size_setRow]
    by_cases hbn : b' = σ.size
    · subst hbn
      rw [inew] at h
      injection h with h
      subst h
      exact lt_of_heap hh
    · rw [iold _ hbn] at h
      exact hI.lt b' p' h
  · rw [size_setRow]; exact hI.base
  · intro c hc hw
    refine setRow_other w p.c c _ fun h => hw ⟨b, cs, _, _, p, hb, hmd, hp, h.symm⟩
  · intro b' p' h
    by_cases hbn : b' = σ.size
    · subst hbn
      rw [inew] at h
      injection h with h
      subst h
      exact .inr (.inr ⟨b, cs, _, _, p, hb, hmd, hp, rfl⟩)
    · rw [iold _ hbn] at h
      exact .inl h
  · rintro c ⟨b', cs', e2, m', p', h1, h2, h3, rfl⟩
    rcases what _ _ _ _ h1 with ⟨rfl, _, _, _⟩ | ⟨_, _, _, _, rfl, _⟩ | ⟨hbn, hbb, h1⟩
    · rw [inew] at h3
      injection h3 with h3
      subst h3
      exact .inr ⟨b, cs, _, _, p, hb, hmd, hp, rfl⟩
    · exact absurd rfl h2
    · rw [iold _ hbn] at h3
      exact .inr ⟨b', cs', e2, m', p', h1, h2, h3, rfl⟩

end
end Go.Am

namespace Go.Am

section
variable {P : Program} {B nt : Nat} {w0 : World} {ι0 ι : Inj} {σ0 σ : AHeap} {lam : Nat → Nat} {f : AFr} {a : Act} {w : World} {o : Oper} {d : Option Nat}
  {r : AV × Option (Nat × List Value) × AHeap × Lab}

theorem run_app0 {t ty el : TypeId} {e : Nat} (hu : P.underlying t = some (.slice el)) (hsz : tsize P el = some e) (base bx : Option Addr) (n cap cx : Nat) (h : n ≤ cap) :
    (Builtin.append_ #[t, t] ty #[.slice base n cap, .slice bx 0 cx]).run P w = .ok (.slice base n cap) w := by
  cases base <;> cases bx <;> simp [Builtin.append_, run_underlying' hu, run_sizeOf' hsz, Builtin.lenOf, h, Builtin.firstCells, loadCells, loadCellsFrom, storeCells]

theorem run_app_room {t ty el : TypeId} {e : Nat} (hu : P.underlying t = some (.slice el)) (hsz : tsize P el = some e) (c q n cap m cx : Nat) (ad : Addr) (cur : Array Value) (el' : TypeId) (hg : w.heap[c]? = some (.cells cur el' (0, 0)))
    (news : List Value) (hl : news.length = m * e) (hnews : ∀ j u, news[j]? = some u → w.cell? (ad.add j) = some u) (h1 : ∀ u ∈ news, u.oneCell' = true) (hroom : n + m ≤ cap) (hfit : q + n * e + news.length ≤ cur.size) :
    (Builtin.append_ #[t, t] ty #[.slice (some ⟨c, q, none⟩) n cap, .slice (some ad) m cx]).run P w =
      .ok (.slice (some ⟨c, q, none⟩) (n + m) cap) (w.setRow c (cur.toList.take (q + n * e) ++ news ++ cur.toList.drop (q + n * e + news.length)).toArray) := by
  have hf := run_firstCells_some (P := P) w e m ad m cx news hl hnews
  have hst := run_storeCells_at P c (q + n * e) el' news 0 cur w hg (by simpa using hfit) h1
  simp only [Nat.add_zero] at hst
  simp [Builtin.append_, run_underlying' hu, run_sizeOf' hsz, Builtin.lenOf, hroom, hf, addr_add, hst]

theorem empty_room {ι : Inj} {b q n c : Nat} {sv : Value} (v : VR ι (.slice (some ⟨b, q, none⟩) n c) sv) (hn : n = 0) (hc : c = 0) : ∃ ads, sv = .slice (some ads) 0 0 := by
  cases v with
  | slx ha => exact ⟨_, by rw [hn]⟩
  | sln he' _ _ => omega

theorem take_arr (l z : List Value) : ((l.toArray ++ z.toArray).toList).take l.length = l := by simp

theorem sim_app (hI : Inv B ι σ w) (hB : Bs w0 ι0 σ0 w ι σ) (hF : FR w0.heap.size nt lam ι σ f a w) {t el : TypeId} {e bytes : Nat} {keep : Bool} {z : List Value} {x s x' s' : Operand}
    (ho : o.op = .call { callee := .builtin .append, args := #[s', x'], argTypes := #[t, t] }) (hu : P.underlying t = some (.slice el)) (hsz : tsize P el = some e) (hby : tbytes P el = some bytes) (hz : tzero P el = some z)
    (hl : z.length = e) (he : 0 < e) (hbp : 0 < bytes) (hx : oeq x' x = true) (hs' : oeq s' s = true) (hs : stepOp d f σ (.app e bytes keep s x) = some r) : Sim P B nt w0 ι0 σ0 f a w o r := by
  obtain ⟨i, zv, hi, hzv, hzc⟩ := tzero_run hz
  have hie := tsize_info hsz hi
  have hib := tbytes_info hby hi
  have hzcs : zv.cells.size = e := by rw [← hl, ← hzc]; simp
  -- the run, in short
  have run : ∀ {sv xv y : Value} {w' : World}, a.eval s' = sv → a.eval x' = xv → (Builtin.append_ #[t, t] o.type #[sv, xv]).run P w = .ok y w' → (execOp a.eval o).run P w = .ok (.value y) w' := fun {sv xv y w'} h1 h2 h => by
    simp only [execOp, ho, resolve, invoke, builtin, Sem.run_bind, List.map_toArray]
    simp [h1, h2, h]
  -- what is appended
  have src : ∀ {new : List Value} {m : Nat}, srcOf f σ e x = some (new, m) →
      ∃ bx cx l', a.eval x' = .slice bx m cx ∧ new.length = m * e ∧ VRL ι new l' ∧ new.all oneCell = true ∧ (0 < m → ∃ ad, bx = some ad ∧ ∀ j u, l'[j]? = some u → w.cell? (ad.add j) = some u) := by
    intro new m h
    unfold srcOf at h
    split at h
    · rename_i hv
      injection h with h
      injection h with h1 h2
      subst h1 h2
      have v := ev_rel hF hx hv
      refine ⟨none, 0, [], ?_, by simp, .nil, rfl, by omega⟩
      change VR ι (.slice none 0 0) (a.eval x') at v
      generalize a.eval x' = y at v
      cases v
      rfl
    · rename_i b q sp c hv
      injection h with h
      injection h with h1 h2
      subst h1 h2
      have v := ev_rel hF hx hv
      change VR ι (.slice (some ⟨b, q, sp⟩) 0 c) (a.eval x') at v
      generalize a.eval x' = y at v
      obtain ⟨_, _, rfl, _, _⟩ := vr_sl v
      exact ⟨_, _, [], rfl, by simp, .nil, rfl, by omega⟩
    · rename_i b q sp n c _ hv
      split at h
      · rename_i cs e' m' hb
        split at h
        · rename_i hle
          injection h with h
          injection h with h1 h2
          subst h1 h2
          obtain ⟨ad, cap, l', h1, h2, h3, h4, h5⟩ := slice_cells hI (ev_rel hF hx hv) (e := e) hb hle
          exact ⟨some ad, cap, l', h1, by simp; omega, h4, h5, fun _ => ⟨ad, rfl, h3⟩⟩
        · simp at h
      · simp at h
    · rename_i cs e' n hv
      split at h
      · rename_i hle
        injection h with h
        injection h with h1 h2
        subst h1 h2
        obtain ⟨c, arr, el', h1, _, h3, h4, h5, h6, _⟩ := ev_rel hF hx hv
        refine ⟨some ⟨c, 0, none⟩, n, arr.toList, h1, hle, h4, h5, fun _ => ⟨_, rfl, fun j u hj => ?_⟩⟩
        rw [addr_add, cell_of_row w c _ arr el' (0, 0) h3]
        simpa using hj
      · simp at h
    · simp at h
  simp only [stepOp] at hs
  generalize hsrc : srcOf f σ e x = S at hs
  cases S with
  | none => simp at hs
  | some nm =>
    obtain ⟨new, m⟩ := nm
    obtain ⟨bx, cx, l', ex, hnl, hvl, hone, had⟩ := src hsrc
    have hll := hvl.length
    simp only [Option.bind_some] at hs
    -- a new array
    have fresh : ∀ {old oldv : List Value} {n cap : Nat} {ι1 : Inj} {σ1 : AHeap} {md : AMode}, Inv B ι1 σ1 w → Bs w ι σ w ι1 σ1 → VRL ι1 old oldv → old.all oneCell = true → old.length = n * e → σ1.size = σ.size → ι1 = ι →
        (execOp a.eval o).run P w = .ok (.value (.slice (some ⟨w.heap.size, 0, none⟩) (n + m) (grownCap w (n + m) cap el))) (w.drew.alloc (.cells (oldv.toArray ++ l'.toArray ++ Builtin.zeroCells zv.cells (grownCap w (n + m) cap el - (n + m))) el)) →
        Sim P B nt w0 ι0 σ0 f a w o (.v (.slice (some ⟨σ.size, 0, none⟩) (n + m) (n + m + e)), none, σ1.push (.row (old ++ new) e md), .hw) := by
      intro old oldv n cap ι1 σ1 md hI1 hB1 hov hoo hol hsize hιι hrun
      subst hιι
      have hge := grownCap_ge w (n + m) cap el
      have holv := hov.length
      have hcs : (old ++ new).length = (n + m) * e := by simp [hol, hnl, Nat.add_mul]
      have hcl : (old ++ new).length ≤ grownCap w (n + m) cap el * e := by rw [hcs]; exact Nat.mul_le_mul_right _ hge
      have hsz2 : (oldv.toArray ++ l'.toArray ++ Builtin.zeroCells zv.cells (grownCap w (n + m) cap el - (n + m))).size = grownCap w (n + m) cap el * e := by
        simp only [Array.size_append, size_zeroCells, hzcs]
        simp only [List.size_toArray]
        rw [holv, hll, hol, hnl, ← Nat.add_mul, ← Nat.add_mul]
        congr 1
        omega
      have htake : ((oldv.toArray ++ l'.toArray ++ Builtin.zeroCells zv.cells (grownCap w (n + m) cap el - (n + m))).toList).take (old ++ new).length = oldv ++ l' := by
        rw [Array.toList_append, Array.toList_append, List.take_left']
        simp [holv, hll]
      obtain ⟨hI2, hB2⟩ := hI1.drew.push (e := e) (m := md) (arr := oldv.toArray ++ l'.toArray ++ Builtin.zeroCells zv.cells (grownCap w (n + m) cap el - (n + m))) (el := el) (M := grownCap w (n + m) cap el * e)
        (cs := old ++ new) (by rw [htake]; exact hov.append hvl) (by simp only [List.all_append, hoo, hone, Bool.and_self]) hcl (by rw [hsz2]; exact Nat.le_refl _)
      have hB3 := (hB1.trans (Bs.drew w ι1 σ1)).trans hB2
      refine ⟨_, _, lam, _, .inl hrun, hI2, hB.trans hB3, hF.step hB3, ?_⟩
      exact VR.sln he hge fun _ => ⟨⟨w.heap.size, 0, e, grownCap w (n + m) cap el * e⟩, by simp [setIota, hsize], rfl, rfl, by simp⟩
    split at hs
    · -- onto nil
      rename_i hv
      have v := evV_rel hF hs' hv
      have es : a.eval s' = .slice none 0 0 := by generalize a.eval s' = y at v; cases v; rfl
      split at hs
      · rename_i hm
        subst hm
        injection hs with hs
        subst hs
        exact Sim.pure hI hB hF (run es ex (run_app0 hu hsz none bx 0 0 cx (Nat.le_refl _))) VR.nils
      · rename_i hm
        split at hs
        · rename_i hbd
          injection hs with hs
          subst hs
          obtain ⟨ad, rfl, hcell⟩ := had (by omega)
          have hmm : m ≤ m * bytes := Nat.le_mul_of_pos_right _ hbp
          have hr := run_append_nil (P := P) w t o.type el i zv hu hi hzv ad m cx l' (by rw [hll, hnl, hie]) hcell (by omega) (by omega) (by rw [hib]; omega)
          have := fresh (old := []) (oldv := []) (n := 0) (cap := 0) (ι1 := ι) (σ1 := σ) (md := .W) hI (Bs.refl _ _ _) .nil rfl (by simp) rfl rfl (by simpa using run es ex hr)
          simpa using this
        · simp at hs
    · -- onto an empty slice without room
      rename_i b q hv
      have v := evV_rel hF hs' hv
      generalize hss : a.eval s' = sv at v
      have hsv : ∃ ads, sv = .slice (some ads) 0 0 := by
        exact empty_room v rfl rfl
      obtain ⟨ads, rfl⟩ := hsv
      split at hs
      · rename_i hm
        subst hm
        injection hs with hs
        subst hs
        exact Sim.pure hI hB hF (run hss ex (run_app0 hu hsz _ bx 0 0 cx (Nat.le_refl _))) v
      · rename_i hm
        split at hs
        · rename_i hbd
          injection hs with hs
          subst hs
          obtain ⟨ad, rfl, hcell⟩ := had (by omega)
          have hmm : m ≤ m * bytes := Nat.le_mul_of_pos_right _ hbp
          have hr := run_append_grow (P := P) w t o.type el i zv hu hi hzv ads 0 0 [] (by simp) (by simp) ad m cx l' (by rw [hll, hnl, hie]) hcell (by omega) (by omega) (by
            rw [hib]; exact growslice_fits (by omega) (by simpa using hbd))
          have := fresh (old := []) (oldv := []) (n := 0) (cap := 0) (ι1 := ι) (σ1 := σ) (md := .W) hI (Bs.refl _ _ _) .nil rfl (by simp) rfl rfl (run hss ex hr)
          simpa using this
        · simp at hs
    · rename_i b q n c _ hv
      have v := evV_rel hF hs' hv
      split at hs
      · rename_i hm
        subst hm
        injection hs with hs
        subst hs
        generalize hss : a.eval s' = sv at v
        cases v with
        | slx ha => exact Sim.pure hI hB hF (run hss ex (run_app0 hu hsz _ bx n n cx (Nat.le_refl _))) (VR.slx ha)
        | sln he' hc ha => exact Sim.pure hI hB hF (run hss ex (run_app0 hu hsz _ bx n _ cx hc)) (VR.sln he' hc ha)
      · rename_i hm
        have hm0 : 0 < m := by omega
        obtain ⟨ad, rfl, hcell⟩ := had hm0
        split at hs
        · rename_i cs e' md hb
          split at hs
          · rename_i hcond
            obtain ⟨hle, hbd⟩ := hcond
            have hnm : n + m ≤ (n + m) * bytes := Nat.le_mul_of_pos_right _ hbp
            obtain ⟨ads, cap, lo, es, ho1, ho2, ho3, ho4⟩ := slice_cells hI v (e := e) hb hle
            have hold : ((cs.drop q).take (n * e)).length = n * e := by simp; omega
            have big : cap < n + m → (execOp a.eval o).run P w = .ok (.value (.slice (some ⟨w.heap.size, 0, none⟩) (n + m) (grownCap w (n + m) cap el)))
                (w.drew.alloc (.cells (lo.toArray ++ l'.toArray ++ Builtin.zeroCells zv.cells (grownCap w (n + m) cap el - (n + m))) el)) := fun hg => by
              refine run es ex (run_append_grow (P := P) w t o.type el i zv hu hi hzv ads n cap lo (by rw [ho1, hie]) ho2 ad m cx l' (by rw [hll, hnl, hie]) hcell hg (by omega) ?_)
              rw [hib]
              exact growslice_fits hg hbd
            split at hs
            · -- a slice whose room is known to be used up
              rename_i hcn
              injection hs with hs
              subst hs
              have hcap : cap = n := by
                rw [es] at v
                cases v with
                | slx ha => rfl
                | sln he' hc ha => omega
              subst hcap
              exact fresh (ι1 := ι) (σ1 := σ) (md := .W) hI (Bs.refl _ _ _) ho3 ho4 hold rfl rfl (big (by omega))
            · split at hs
              · rename_i hcn hcond2
                obtain ⟨hce, hmd, hq⟩ := hcond2
                injection hs with hs
                subst hs
                rw [es] at v
                cases v with
                | slx ha => exact absurd rfl hcn
                | @sln _ _ _ e2 _ _ he' hc ha =>
                  have hee : e2 = e := by omega
                  subst hee
                  by_cases hroom : n + m ≤ cap
                  · -- in place
                    obtain ⟨p, hp, rfl, hpe, hpM⟩ := ha (by omega)
                    have hcapm : (n + m) * e2 ≤ cap * e2 := Nat.mul_le_mul_right _ hroom
                    rw [Nat.add_mul] at hcapm
                    obtain ⟨arr, el', g1, g2, g3, g4⟩ := hI.grow (e := e2) hb hmd hp (q := q) (k := n * e2) hq hvl hone (M := cap * e2) hpM (by omega) (if keep then .row cs e' .R else .dead) (if keep then .T else md)
                      (by cases keep <;> simp)
                    have hrun := run es ex (run_app_room (P := P) (w := w) hu hsz p.c (p.o + q) n cap m cx ad arr el' g1 l' (by omega) hcell (VRL.one hvl hone) hroom (by omega))
                    refine ⟨_, _, lam, _, .inl hrun, g3, hB.trans g4, hF.step g4, ?_⟩
                    exact VR.sln he hroom fun _ => ⟨⟨p.c, p.o + q, e2, cap * e2⟩, by simp [setIota], rfl, rfl, by simp⟩
                  · -- elsewhere
                    obtain ⟨p, hp, _, _⟩ := hI.blk _ _ _ _ hb
                    obtain ⟨g1, g2⟩ := hI.end_ hb hmd hp (if keep then .row cs e' .R else .dead) (by cases keep <;> simp)
                    obtain ⟨_, hpe, _⟩ := hI.blk _ _ _ _ hb
                    exact fresh (ι1 := ι) (md := if keep then .T else md) g1 g2 ho3 ho4 hold (by simp) rfl (big (by omega))
              · simp at hs
          · simp at hs
        · simp at hs
    · -- onto a slice whose room is known
      rename_i b q e2 n c hv
      have v := evV_rel hF hs' hv
      split at hs
      · rename_i hm
        subst hm
        injection hs with hs
        subst hs
        generalize hss : a.eval s' = sv at v
        cases v with
        | sle hc ha => exact Sim.pure hI hB hF (run hss ex (run_app0 hu hsz _ bx n c cx hc)) (VR.sle hc ha)
      · rename_i hm
        have hm0 : 0 < m := by omega
        obtain ⟨ad, rfl, hcell⟩ := had hm0
        split at hs
        · rename_i cs e' md hb
          split at hs
          · rename_i hroom
            split at hs
            · rename_i hcond
              obtain ⟨rfl, rfl, hle⟩ := hcond
              injection hs with hs
              subst hs
              generalize hss : a.eval s' = sv at v
              cases v with
              | @sle _ _ _ _ ads _ hc ha =>
                obtain ⟨p, hp, rfl, hpe, hpM⟩ := ha (by omega)
                have hcapm : (n + m) * e2 ≤ c * e2 := Nat.mul_le_mul_right _ hroom
                rw [Nat.add_mul] at hcapm
                obtain ⟨arr, el', k1, k2, k3, k4⟩ := hI.writeX hb hp hvl hone (off := q + n * e2) hle (by rw [hnl]; omega)
                have hrun := run hss ex (run_app_room (P := P) (w := w) hu hsz p.c (p.o + q) n c m cx ad arr el' k1 l' (by omega) hcell (VRL.one hvl hone) hroom (by rw [← Nat.add_assoc] at k2; simpa using k2))
                rw [← Nat.add_assoc] at k3 k4
                exact ⟨_, _, lam, ι, .inl hrun, k3, hB.trans k4, hF.step k4, VR.sle hroom fun h0 => ⟨p, hp, rfl, hpe, hpM⟩⟩
            · simp at hs
          · rename_i hroom
            split at hs
            · rename_i hcond
              obtain ⟨hle, hbd⟩ := hcond
              injection hs with hs
              subst hs
              have hnm : n + m ≤ (n + m) * bytes := Nat.le_mul_of_pos_right _ hbp
              obtain ⟨ads, cap, lo, es, ho1, ho2, ho3, ho4⟩ := slice_cells hI v (e := e) hb hle
              have hold : ((cs.drop q).take (n * e)).length = n * e := by simp; omega
              have hcap : cap = c := by
                rw [es] at v
                cases v with
                | sle hc ha => rfl
              subst hcap
              refine fresh (ι1 := ι) (σ1 := σ) (md := .W) (cap := cap) hI (Bs.refl _ _ _) ho3 ho4 hold rfl rfl (run es ex (run_append_grow (P := P) w t o.type el i zv hu hi hzv ads n cap lo (by rw [ho1, hie]) ho2 ad m cx l' (by rw [hll, hnl, hie]) hcell (by omega) (by omega) ?_))
              rw [hib]
              exact growslice_fits (by omega) hbd
            · simp at hs
        · simp at hs
    · simp at hs

end
end Go.Am

namespace Go.Am

section
variable {P : Program} {B nt : Nat} {w0 : World} {ι0 ι : Inj} {σ0 σ : AHeap} {lam : Nat → Nat} {f : AFr} {a : Act} {w : World} {o : Oper} {d : Option Nat}
  {r : AV × Option (Nat × List Value) × AHeap × Lab}

/-- Rows of another heap over the same memory: the same rows under other numbers, or parts of such. -/
structure Sub (ι : Inj) (σ : AHeap) (ι2 : Inj) (σ2 : AHeap) (κ : Nat → Nat) : Prop where
  le : ι.le ι2
  row : ∀ b cs e m, σ2[b]? = some (.row cs e m) → ∃ cs0 e0 p p2, σ[κ b]? = some (.row cs0 e0 m) ∧ ι (κ b) = some p ∧ ι2 b = some p2 ∧ p2.e = e ∧ p2.c = p.c ∧
    ((p2 = p ∧ cs0 = cs) ∨ (m = .W ∧ cs.length ≤ p2.M ∧ p2.o + p2.M ≤ p.o + p.M ∧ ∃ q, p2.o = p.o + q ∧ ∀ i v, cs[i]? = some v → cs0[q + i]? = some v))
  inj : ∀ b b' cs e m cs' e' m', σ2[b]? = some (.row cs e m) → σ2[b']? = some (.row cs' e' m') → κ b = κ b' → b = b'
  dom : ∀ b, σ2.size ≤ b → ι2 b = none
  new : ∀ b p, ι2 b = some p → ι b = some p ∨ ∃ b' cs e p', σ[b']? = some (.row cs e .W) ∧ ι b' = some p' ∧ p'.c = p.c

theorem Inv.re {ι2 : Inj} {σ2 : AHeap} {κ : Nat → Nat} (hI : Inv B ι σ w) (hs : Sub ι σ ι2 σ2 κ) : Inv B ι2 σ2 w where
  blk b cs e m h := by
    obtain ⟨cs0, e0, p, p2, h1, h2, h3, h4, h5, h6⟩ := hs.row b cs e m h
    obtain ⟨p', g1, g2, g3⟩ := hI.blk _ _ _ _ h1
    rw [h2] at g1
    injection g1 with g1
    subst g1
    refine ⟨p2, h3, h4, fun i v hv => ?_⟩
    rcases h6 with ⟨rfl, rfl⟩ | ⟨_, _, _, q, hq, hc⟩
    · obtain ⟨v', k1, k2, k3⟩ := g3 i v hv
      exact ⟨v', k1, VR.mono hs.le k2, k3⟩
    · obtain ⟨v', k1, k2, k3⟩ := g3 _ v (hc i v hv)
      exact ⟨v', by rw [h5, hq, Nat.add_assoc]; exact k1, VR.mono hs.le k2, k3⟩
  own b cs e m p2 h hm hb := by
    obtain ⟨cs0, e0, p, p2', h1, h2, h3, h4, h5, h6⟩ := hs.row b cs e m h
    rw [hb] at h3
    injection h3 with h3
    subst h3
    obtain ⟨k1, k2, arr, el, k3, k4⟩ := hI.own _ _ _ _ _ h1 hm h2
    rcases h6 with ⟨rfl, rfl⟩ | ⟨_, h7, h8, _⟩
    · exact ⟨k1, k2, arr, el, k3, k4⟩
    · exact ⟨by rw [h5]; exact k1, h7, arr, el, by rw [h5]; exact k3, by omega⟩
  excl b cs e m p2 b' cs' e' m' p2' h hm hp h' hp' hne hc := by
    obtain ⟨cs0, e0, p, p3, h1, h2, h3, h4, h5, h6⟩ := hs.row b cs e m h
    rw [hp] at h3
    injection h3 with h3
    subst h3
    obtain ⟨cs0', e0', p', p3', h1', h2', h3', h4', h5', h6'⟩ := hs.row b' cs' e' m' h'
    rw [hp'] at h3'
    injection h3' with h3'
    subst h3'
    have hk : κ b ≠ κ b' := fun e => hne (hs.inj _ _ _ _ _ _ _ _ h h' e)
    obtain ⟨k1, k2, k3⟩ := hI.excl _ _ _ _ _ _ _ _ _ _ h1 hm h2 h1' h2' hk (by rw [← h5, ← h5', hc])
    refine ⟨k1, k2, ?_⟩
    rcases h6 with ⟨rfl, rfl⟩ | ⟨hw, _⟩
    · rcases h6' with ⟨rfl, rfl⟩ | ⟨hw, _⟩
      · exact k3
      · rw [hw] at k2; simp at k2
    · rw [hw] at k1; simp at k1
  dom := hs.dom
  lt b p h := by
    rcases hs.new b p h with h | ⟨b', cs, e, p', _, h1, h2⟩
    · exact hI.lt b p h
    · rw [← h2]; exact hI.lt b' p' h1
  base := hI.base

theorem Bs.re {ι2 : Inj} {σ2 : AHeap} {κ : Nat → Nat} (hs : Sub ι σ ι2 σ2 κ) : Bs w ι σ w ι2 σ2 where
  os := rfl
  tape := rfl
  output := rfl
  size := Nat.le_refl _
  keep _ _ _ := rfl
  ext := hs.le
  img b p h := by
    rcases hs.new b p h with h | ⟨b', cs, e, p', h0, h1, h2⟩
    · exact .inl h
    · exact .inr (.inr ⟨b', cs, e, _, p', h0, by simp, h1, h2⟩)
  wim c := by
    rintro ⟨b, cs, e, m, p2, h, hm, hp, rfl⟩
    obtain ⟨cs0, e0, p, p3, h1, h2, h3, h4, h5, h6⟩ := hs.row b cs e m h
    rw [hp] at h3
    injection h3 with h3
    subst h3
    exact .inr ⟨κ b, cs0, e0, m, p, h1, hm, h2, h5.symm⟩

theorem sim_capx (hI : Inv B ι σ w) (hB : Bs w0 ι0 σ0 w ι σ) (hF : FR w0.heap.size nt lam ι σ f a w) {t : TypeId} {x y : Operand} {e : TypeId} (ho : o.op = .call { callee := .builtin .cap, args := #[y], argTypes := #[t] })
    (hm : oeq y x = true) (ht : P.underlying t = some (.slice e)) (hs : stepOp d f σ (.capx x) = some r) : Sim P B nt w0 ι0 σ0 f a w o r := by
  simp only [stepOp] at hs
  split at hs
  · rename_i h1
    injection hs with hs
    subst hs
    have v := evV_rel hF hm h1
    have ey : a.eval y = .slice none 0 0 := by generalize a.eval y = z at v; cases v; rfl
    refine Sim.pure hI hB hF (y := .int .i64 0) ?_ (VR.int _ _)
    simp [execOp, ho, resolve, invoke, builtin, Builtin.cap_, run_underlying' ht, ey, goInt]
  · rename_i b q n c h1
    injection hs with hs
    subst hs
    have v := evV_rel hF hm h1
    generalize ey : a.eval y = z at v
    cases v with
    | sle hc ha =>
      refine Sim.pure hI hB hF (y := .int .i64 c) ?_ (VR.int _ _)
      simp [execOp, ho, resolve, invoke, builtin, Builtin.cap_, run_underlying' ht, ey, goInt]
  · simp at hs

theorem zeros_all {zs : List Value} (h : zs.all oneCell = true) : ∀ n, (zeros zs n).all oneCell = true
  | 0 => rfl
  | n + 1 => by simp only [zeros, List.all_append, Bool.and_eq_true]; exact ⟨h, zeros_all h n⟩

theorem zeros_rel {zs : List Value} (h : VRL ι zs zs) : ∀ n, VRL ι (zeros zs n) (zeros zs n)
  | 0 => .nil
  | n + 1 => VRL.append h (zeros_rel h n)

theorem sim_clr (hI : Inv B ι σ w) (hB : Bs w0 ι0 σ0 w ι σ) (hF : FR w0.heap.size nt lam ι σ f a w) {t el : TypeId} {e : Nat} {zs : List Value} {x y : Operand}
    (ho : o.op = .call { callee := .builtin .clear, args := #[y], argTypes := #[t] }) (hm : oeq y x = true) (hu : P.underlying t = some (.slice el)) (hz : mZero P el zs = true) (hl : zs.length = e)
    (hs : stepOp d f σ (.clr e zs x) = some r) : Sim P B nt w0 ι0 σ0 f a w o r := by
  simp only [stepOp] at hs
  split at hs
  · rename_i h1
    injection hs with hs
    subst hs
    have v := evV_rel hF hm h1
    have ey : a.eval y = .slice none 0 0 := by generalize a.eval y = z at v; cases v; rfl
    refine Sim.pure hI hB hF (y := .tuple #[]) ?_ (VR.tuple .nil)
    simp [execOp, ho, resolve, invoke, builtin, Builtin.clear_, run_underlying' hu, ey]
  · rename_i b q sp n c h1
    have v := evV_rel hF hm h1
    obtain ⟨ad, cap, ey, hnc, ha⟩ := vr_sl v
    split at hs
    · rename_i hn
      subst hn
      injection hs with hs
      subst hs
      refine Sim.pure hI hB hF (y := .tuple #[]) ?_ (VR.tuple .nil)
      simp [execOp, ho, resolve, invoke, builtin, Builtin.clear_, run_underlying' hu, ey]
    · rename_i hn
      split at hs
      · rename_i cs e0 hb
        split at hs
        · rename_i hc
          injection hs with hs
          subst hs
          obtain ⟨p, hp, rfl⟩ := ha (by omega)
          obtain ⟨z, hz1, hz2, hz3, hz4⟩ := zero_rel hz w
          have hzl : (zeros zs n).length = n * e := by rw [zeros_length, hl]
          obtain ⟨arr, el', k1, k2, k3, k4⟩ := hI.write hb hp (zeros_rel (hz3 ι) n) (zeros_all hz4 n) (off := q) (by rw [hzl]; exact hc.1)
          have hzc : (Builtin.zeroCells z.cells n).toList = zeros zs n := by
            rcases Nat.eq_zero_or_pos e with h0 | h0
            · have : zs = [] := List.eq_nil_of_length_eq_zero (by omega)
              subst this
              have hz0 : z.cells = #[] := by simpa using hz2
              have : zeros ([] : List Value) n = [] := List.eq_nil_of_length_eq_zero (by rw [hzl, h0, Nat.mul_zero])
              rw [this]
              apply List.eq_nil_of_length_eq_zero
              rw [Array.length_toList, size_zeroCells, hz0]
              simp
            · have := made_zeros z.cells zs hz2 (by omega) n
              rw [← this]
              unfold Builtin.zeroCells
              rw [hl, ← hl, ← hz2]
              simp
          have hst := run_storeCells_at P p.c (p.o + q) el' (zeros zs n) 0 arr w k1 (by simpa using k2) (fun u hu => VRL.one (zeros_rel (hz3 ι) n) (zeros_all hz4 n) u hu)
          simp only [Nat.add_zero] at hst
          refine ⟨.tuple #[], _, lam, ι, .inl ?_, k3, hB.trans k4, hF.step k4, VR.tuple .nil⟩
          have hn' : n ≠ 0 := hn
          obtain ⟨k, rfl⟩ : ∃ k, n = k + 1 := ⟨n - 1, by omega⟩
          simp only [execOp, ho, resolve, invoke, builtin, Sem.run_bind, List.map_toArray, Builtin.clear_]
          simp [run_underlying' hu, ey, hz1, hzc, hst]
        · simp at hs
      · simp at hs
  · simp at hs

theorem zeroCells_list {z : Value} {zs : List Value} (hz : z.cells.toList = zs) (n : Nat) : (Builtin.zeroCells z.cells n).toList = zeros zs n := by
  rcases Nat.eq_zero_or_pos zs.length with h0 | h0
  · have h1 : zs = [] := List.eq_nil_of_length_eq_zero h0
    subst h1
    have hz0 : z.cells = #[] := by simpa using hz
    have h2 : zeros ([] : List Value) n = [] := List.eq_nil_of_length_eq_zero (by rw [zeros_length]; simp)
    rw [h2]
    apply List.eq_nil_of_length_eq_zero
    rw [Array.length_toList, size_zeroCells, hz0]
    simp
  · have := made_zeros z.cells zs hz h0 n
    rw [← this]
    unfold Builtin.zeroCells
    rw [← hz]
    simp

theorem sim_appz (hI : Inv B ι σ w) (hB : Bs w0 ι0 σ0 w ι σ) (hF : FR w0.heap.size nt lam ι σ f a w) {t t' el : TypeId} {kn : IntKind} {e bytes : Nat} {zs : List Value} {x s x' s' : Operand}
    (ho : o.op = .call { callee := .builtin .append, args := #[s', x'], argTypes := #[t, t'] }) (hu : P.underlying t = some (.slice el)) (hu' : P.underlying t' = some (.int kn)) (hsz : tsize P el = some e) (hby : tbytes P el = some bytes)
    (hz : mZero P el zs = true) (hl : zs.length = e) (he : 0 < e) (hbp : 0 < bytes) (hx : oeq x' x = true) (hs' : oeq s' s = true) (hs : stepOp d f σ (.appz e bytes zs s x) = some r) : Sim P B nt w0 ι0 σ0 f a w o r := by
  obtain ⟨z, hz1, hz2, hz3, hz4⟩ := zero_rel hz w
  have hz' : ∃ l, tzero P el = some l := by
    unfold mZero at hz
    cases h : tzero P el with
    | none => simp [h] at hz
    | some l => exact ⟨l, rfl⟩
  obtain ⟨l, hzl⟩ := hz'
  obtain ⟨i, zv, hi, hzv, hzc⟩ := tzero_run hzl
  have hie := tsize_info hsz hi
  have hib := tbytes_info hby hi
  have hzcs : zv.cells.toList = zs := by
    unfold mZero at hz
    rw [hzl] at hz
    rw [hzc]
    exact vseq_eq hz
  have hzsz : zv.cells.size = e := by rw [← hl, ← hzcs]; simp
  have run : ∀ {sv xv y : Value} {w' : World}, a.eval s' = sv → a.eval x' = xv → (Builtin.append_ #[t, t'] o.type #[sv, xv]).run P w = .ok y w' → (execOp a.eval o).run P w = .ok (.value y) w' := fun {sv xv y w'} h1 h2 h => by
    simp only [execOp, ho, resolve, invoke, builtin, Sem.run_bind, List.map_toArray]
    simp [h1, h2, h]
  have fresh : ∀ {old oldv : List Value} {base : Option Addr} {n cap k : Nat} {kq : IntKind}, a.eval s' = .slice base n cap → a.eval x' = .int kq k → VRL ι old oldv → old.all oneCell = true → old.length = n * e → 0 < k → cap < n + k → (n + k) * bytes ≤ 140737488355328 →
      (Builtin.firstCells i.size n (.slice base n cap)).run P w.drew = .ok oldv.toArray w.drew →
      Sim P B nt w0 ι0 σ0 f a w o (.v (.slice (some ⟨σ.size, 0, none⟩) (n + k) (n + k + e)), none, σ.push (.row (old ++ zeros zs k) e .W), .hw) := by
    intro old oldv base n cap k kq es ex hov hoo hol hk hg hbd hfc
    have hnk : n + k ≤ (n + k) * bytes := Nat.le_mul_of_pos_right _ hbp
    have hkb : k * bytes ≤ (n + k) * bytes := Nat.mul_le_mul_right _ (by omega)
    have hrun := run es ex (Lib.run_append_grow_zeros (P := P) w t t' o.type el i zv kq kn hu hu' hi hzv base n cap oldv hfc k hk (by omega) hg (by omega) (by rw [hib]; omega) (by rw [hib]; exact growslice_fits hg hbd))
    have hge := grownCap_ge w (n + k) cap el
    have holv := hov.length
    have hzk := zeroCells_list hzcs k
    have hzkl : (zeros zs k).length = k * e := by rw [zeros_length, hl]
    have hcs : (old ++ zeros zs k).length = (n + k) * e := by simp [hol, hzkl, Nat.add_mul]
    have hcl : (old ++ zeros zs k).length ≤ grownCap w (n + k) cap el * e := by rw [hcs]; exact Nat.mul_le_mul_right _ hge
    have hsz2 : (oldv.toArray ++ Builtin.zeroCells zv.cells k ++ Builtin.zeroCells zv.cells (grownCap w (n + k) cap el - (n + k))).size = grownCap w (n + k) cap el * e := by
      simp only [Array.size_append, size_zeroCells, hzsz]
      simp only [List.size_toArray]
      rw [holv, hol, ← Nat.add_mul, ← Nat.add_mul]
      congr 1
      omega
    have htake : ((oldv.toArray ++ Builtin.zeroCells zv.cells k ++ Builtin.zeroCells zv.cells (grownCap w (n + k) cap el - (n + k))).toList).take (old ++ zeros zs k).length = oldv ++ zeros zs k := by
      rw [Array.toList_append, Array.toList_append, hzk, List.take_left']
      simp [holv]
    obtain ⟨hI2, hB2⟩ := hI.drew.push (e := e) (m := .W) (arr := oldv.toArray ++ Builtin.zeroCells zv.cells k ++ Builtin.zeroCells zv.cells (grownCap w (n + k) cap el - (n + k))) (el := el) (M := grownCap w (n + k) cap el * e)
      (cs := old ++ zeros zs k) (by rw [htake]; exact hov.append (zeros_rel (hz3 ι) k)) (by simp only [List.all_append, hoo, zeros_all hz4 k, Bool.and_self]) hcl (by rw [hsz2]; exact Nat.le_refl _)
    have hB3 := (Bs.drew w ι σ).trans hB2
    refine ⟨_, _, lam, _, .inl hrun, hI2, hB.trans hB3, hF.step hB3, ?_⟩
    exact VR.sln he hge fun _ => ⟨⟨w.heap.size, 0, e, grownCap w (n + k) cap el * e⟩, by simp [setIota], rfl, rfl, by simp⟩
  simp only [stepOp] at hs
  split at hs
  · rename_i k' k h1 h2
    have v := evV_rel hF hs' h1
    have es : a.eval s' = .slice none 0 0 := by generalize a.eval s' = z at v; cases v; rfl
    have ex := vr_int (evV_rel hF hx h2)
    split at hs
    · rename_i hc
      obtain ⟨k, rfl⟩ : ∃ z : Nat, k = z := ⟨k.toNat, by omega⟩
      injection hs with hs
      subst hs
      have hc2 : k * bytes ≤ 140737488355328 := by have := hc.2.1; omega
      have := fresh (old := []) (oldv := []) es ex .nil rfl (by simp) (by omega) (by omega) (by simpa using hc2) (by simp [Builtin.firstCells])
      simpa using this
    · simp at hs
  · rename_i b q e' n c kq k h1 h2
    have v := evV_rel hF hs' h1
    have ex := vr_int (evV_rel hF hx h2)
    split at hs
    · rename_i cs _ _ hb
      split at hs
      · rename_i hc
        obtain ⟨rfl, hk, hcn, hle, hbd, _⟩ := hc
        obtain ⟨k, rfl⟩ : ∃ z : Nat, k = z := ⟨k.toNat, by omega⟩
        injection hs with hs
        subst hs
        obtain ⟨ads, cap, lo, es, ho1, ho2, ho3, ho4⟩ := slice_cells hI v (e := e') hb hle
        have hcap : cap = c := by
          rw [es] at v
          cases v with
          | sle hc ha => rfl
        subst hcap
        have hfc : (Builtin.firstCells i.size n (.slice (some ads) n cap)).run P w.drew = .ok lo.toArray w.drew :=
          run_firstCells_some (P := P) w.drew i.size n ads n cap lo (by rw [ho1, hie]) (by simpa using ho2)
        exact fresh es ex ho3 ho4 (by simp; omega) (by omega) (by simpa using hcn) (by simpa using hbd) hfc
      · simp at hs
    · simp at hs
  · simp at hs

theorem lookup_overlaps : Extern.allTypedRows.lookup "slices.overlaps" = some Extern.SlicesOverlaps.overlaps := by kernel_rfl
theorem lookup_overlaps0 : Extern.allGenericRows.lookup "slices.overlaps" = none := by kernel_rfl

theorem run_ovl {tS tR el : TypeId} (hu : P.underlying tS = some (.slice el)) {size : Nat} (hsz : tsize P el = some size) (ad ad' : Addr) (n c n' c' : Nat)
    (h : n ≠ 0 → n' ≠ 0 → ad.block ≠ ad'.block ∧ ∃ tA kA tB kB, w.shape? ad.block = some (tA, kA) ∧ w.shape? ad'.block = some (tB, kB) ∧ kA ≠ 0 ∧ kB ≠ 0 ∧ ((∀ off, w.frozen? ⟨ad.block, off, none⟩ = false) ∨ ∀ off, w.frozen? ⟨ad'.block, off, none⟩ = false)) :
    (Extern.SlicesOverlaps.overlaps #[tS, tS] #[tR] #[.slice (some ad) n c, .slice (some ad') n' c']).run P w = .ok (.bool false) w := by
  change Sem.run P (α := Value) (do
    let some t := (#[tS, tS] : Array TypeId)[0]? | stuck "slices.overlaps: no parameter types"
    let .slice elem ← underlying t | stuck "slices.overlaps: slice type expected"
    let size ← sizeOf elem
    match (some ad : Option Addr), (some ad' : Option Addr) with
    | some a, some b =>
      if n = 0 ∨ n' = 0 ∨ size = 0 then pure (Value.bool false)
      else if a.block != b.block && (← frozen a) && (← frozen b) then unsupported .addressObserved
      else do
        if a.block != b.block then do
          noView a; noView b
          if ← mayBeOne a b then return Value.bool ((← choose (.extern "sameAddr.stringBytes" 2)) == 1)
        pure (Value.bool (a.block == b.block && a.off < b.off + n' * size && b.off < a.off + n * size))
    | _, _ => pure (Value.bool false)) w = _
  by_cases h0 : n = 0 ∨ n' = 0 ∨ size = 0
  · simp [run_underlying' hu, run_sizeOf' hsz, h0]
  · obtain ⟨hne, tA, kA, tB, kB, hsa, hsb, hkA, hkB, hfz⟩ := h (fun e => h0 (.inl e)) (fun e => h0 (.inr (.inl e)))
    have hnb : (ad.block != ad'.block) = true := by simpa using hne
    have hnb' : (ad.block == ad'.block) = false := by simpa using hne
    obtain ⟨kA, rfl⟩ : ∃ k, kA = k + 1 := ⟨kA - 1, by omega⟩
    obtain ⟨kB, rfl⟩ : ∃ k, kB = k + 1 := ⟨kB - 1, by omega⟩
    rcases hfz with hf | hf
    · have hfa : w.frozen? ad = false := hf ad.off
      have hfe := hf (kA + 1)
      simp [run_underlying' hu, run_sizeOf' hsz, h0, hnb, hnb', frozen, noView, viewAt, mayBeOne, stringish, shape, Sem.run, hsa, hsb, hfa, hfe]
    · have hfa : w.frozen? ad' = false := hf ad'.off
      have hfe := hf (kB + 1)
      simp [run_underlying' hu, run_sizeOf' hsz, h0, hnb, hnb', frozen, noView, viewAt, mayBeOne, stringish, shape, Sem.run, hsa, hsb, hfa, hfe]

theorem frozen_own {c : Nat} {arr : Array Value} {el : TypeId} (h : w.heap[c]? = some (.cells arr el (0, 0))) (off : Nat) : w.frozen? ⟨c, off, none⟩ = false := by
  simp [World.frozen?, h]

theorem sim_ovl (hI : Inv B ι σ w) (hB : Bs w0 ι0 σ0 w ι σ) (hF : FR w0.heap.size nt lam ι σ f a w) {g : Nat} {x y x' y' : Operand} {c : Call} (ho : o.op = .call c) (hcal : c.callee = .value (.func g)) (hargs : c.args = #[x', y']) (hg : isOvl P g = true)
    (hx : oeq x' x = true) (hy : oeq y' y = true) (hs : stepOp d f σ (.ovl g x y) = some r) : Sim P B nt w0 ι0 σ0 f a w o r := by
  simp only [stepOp] at hs
  split at hs
  · rename_i b q sp n cc b' q' sp' n' cc' h1 h2
    split at hs
    · rename_i cs e m cs' e' m' hb hb'
      split at hs
      · rename_i hc
        obtain ⟨hne, hW, hcs, hcs'⟩ := hc
        injection hs with hs
        subst hs
        obtain ⟨ad, cap, ex, _, ha⟩ := vr_sl (evV_rel hF hx h1)
        obtain ⟨ad', cap', ey, _, ha'⟩ := vr_sl (evV_rel hF hy h2)
        unfold isOvl at hg
        split at hg
        rotate_left
        · simp at hg
        rename_i fn hfn
        simp only [Bool.and_eq_true, Bool.not_eq_true', Option.isNone_iff_eq_none, beq_iff_eq] at hg
        obtain ⟨⟨⟨⟨⟨⟨⟨⟨g1, g2⟩, g3⟩, g4⟩, g5⟩, g6⟩, g7⟩, g8⟩, g9⟩ := hg
        split at g8
        rotate_left
        · simp at g8
        rename_i t t' hpt
        simp only [Bool.and_eq_true, beq_iff_eq] at g8
        obtain ⟨rfl, g8⟩ := g8
        split at g8
        rotate_left
        · simp at g8
        rename_i el hu
        obtain ⟨size, hsz⟩ := Option.isSome_iff_exists.1 g8
        obtain ⟨tR, hR⟩ : ∃ tR, fn.resultTypes = #[tR] := by
          obtain ⟨x, hx⟩ := List.length_eq_one_iff.1 (by simpa using g9 : fn.resultTypes.toList.length = 1)
          exact ⟨x, Array.toList_inj.1 (by simpa using hx)⟩
        have hfind : Extern.find fn = some (Extern.SlicesOverlaps.overlaps #[t, t] #[tR]) := by
          have hp : fn.params = #[t, t] := Array.toList_inj.1 (by simpa using hpt)
          unfold Extern.find
          simp [g4, g5, g6, g7, lookup_overlaps, lookup_overlaps0, hp, hR]
        have hrun := run_callFunc_extern (w := w) hfn g2 (by simp [g1]) g3 hfind #[.slice (some ad) n cap, .slice (some ad') n' cap']
        have hov := run_ovl (P := P) (w := w) (tR := tR) hu hsz ad ad' n cap n' cap' fun hn hn' => by
          obtain ⟨p, hp, rfl⟩ := ha (by omega)
          obtain ⟨p', hp', rfl⟩ := ha' (by omega)
          obtain ⟨v0, l0, hv0⟩ := List.exists_cons_of_ne_nil hcs
          obtain ⟨v1, l1, hv1⟩ := List.exists_cons_of_ne_nil hcs'
          obtain ⟨p2, k1, _, k2⟩ := hI.blk _ _ _ _ hb
          rw [hp] at k1; injection k1 with k1; subst k1
          obtain ⟨p3, k3, _, k4⟩ := hI.blk _ _ _ _ hb'
          rw [hp'] at k3; injection k3 with k3; subst k3
          obtain ⟨u0, c0, _⟩ := k2 0 v0 (by rw [hv0]; rfl)
          obtain ⟨u1, c1, _⟩ := k4 0 v1 (by rw [hv1]; rfl)
          have shp : ∀ {cb off : Nat} {u : Value}, w.cell? ⟨cb, off, none⟩ = some u → ∃ t k, w.shape? cb = some (t, k) ∧ k ≠ 0 := by
            intro cb off u h
            unfold World.cell? at h
            unfold World.shape?
            simp only at h
            split at h
            · rename_i cells el fz hh
              simp only [Option.isSome_none, Bool.false_eq_true, if_false] at h
              refine ⟨el, cells.size, by first | rfl | rw [hh], fun h0 => ?_⟩
              rw [Array.getElem?_eq_none (by omega)] at h
              simp at h
            · simp at h
          obtain ⟨tA, kA, s1, s2⟩ := shp c0
          obtain ⟨tB, kB, s3, s4⟩ := shp c1
          have hpc : p.c ≠ p'.c := fun hcc => by
            rcases hW with rfl | rfl
            · have := (hI.excl _ _ _ _ _ _ _ _ _ _ hb (by simp) hp hb' hp' hne hcc).1
              simp at this
            · have := (hI.excl _ _ _ _ _ _ _ _ _ _ hb' (by simp) hp' hb hp (Ne.symm hne) hcc.symm).1
              simp at this
          refine ⟨hpc, tA, kA, tB, kB, s1, s3, s2, s4, ?_⟩
          rcases hW with rfl | rfl
          · obtain ⟨_, _, arr, el', hh, _⟩ := hI.own _ _ _ _ _ hb (by simp) hp
            exact .inl fun off => frozen_own hh off
          · obtain ⟨_, _, arr, el', hh, _⟩ := hI.own _ _ _ _ _ hb' (by simp) hp'
            exact .inr fun off => frozen_own hh off
        rw [hov] at hrun
        refine Sim.pure hI hB hF (y := .bool false) ?_ (VR.bool _)
        have hcall : (callFunc g (c.args.map a.eval)).run P w = .ok (.value (.bool false)) w := by
          rw [hargs]
          simpa [ex, ey] using hrun
        simp [execOp, ho, resolve, hcal, Act.eval, Deferred.ofValue, invoke, hcall]
      · simp at hs
    · simp at hs
  · simp at hs

/-- The beginning of a list of one's own. -/
theorem sub_trunc (hI : Inv B ι σ w) {b : Nat} {cs : List Value} {e0 : Nat} {p : IB} (hb : σ[b]? = some (.row cs e0 .W)) (hp : ι b = some p) {q k e M : Nat} (_hq : q + k ≤ cs.length) (hM : q + M ≤ p.M) (hk : k ≤ M) :
    Sub ι σ (setIota ι σ.size ⟨p.c, p.o + q, e, M⟩) ((σ.setIfInBounds b .dead).push (.row ((cs.drop q).take k) e .W)) fun x => if x = σ.size then b else x := by
  have hlb := lt_of_get hb
  have hd : ι σ.size = none := hI.dom _ (Nat.le_refl _)
  have hss : (σ.setIfInBounds b .dead).size = σ.size := by simp
  have inew : setIota ι σ.size ⟨p.c, p.o + q, e, M⟩ σ.size = some ⟨p.c, p.o + q, e, M⟩ := by simp [setIota]
  have iold : ∀ b', b' ≠ σ.size → setIota ι σ.size ⟨p.c, p.o + q, e, M⟩ b' = ι b' := fun b' hb' => by simp [setIota, hb']
  have what : ∀ b' cs' e2 m', ((σ.setIfInBounds b .dead).push (.row ((cs.drop q).take k) e .W))[b']? = some (.row cs' e2 m') →
      (b' = σ.size ∧ cs' = (cs.drop q).take k ∧ e2 = e ∧ m' = .W) ∨ (b' ≠ σ.size ∧ b' ≠ b ∧ σ[b']? = some (.row cs' e2 m')) := fun b' cs' e2 m' h => by
    rw [push_get, hss] at h
    by_cases hb' : b' = σ.size
    · rw [if_pos hb'] at h
      injection h with h
      injection h with h1 h2 h3
      exact .inl ⟨hb', h1.symm, h2.symm, h3.symm⟩
    · rw [if_neg hb', set_get _ _ _ _ hlb] at h
      by_cases hbb : b' = b
      · rw [if_pos hbb] at h
        simp at h
      · rw [if_neg hbb] at h
        exact .inr ⟨hb', hbb, h⟩
  refine ⟨le_setIota hd _, ?_, ?_, ?_, ?_⟩
  · intro b' cs' e2 m' h
    rcases what _ _ _ _ h with ⟨rfl, rfl, rfl, rfl⟩ | ⟨h1, h2, h3⟩
    · refine ⟨cs, e0, p, _, by simpa using hb, by simpa using hp, inew, rfl, rfl, .inr ⟨rfl, by simp; omega, by simp only; omega, q, rfl, fun i v hv => ?_⟩⟩
      have hi : i < k := by
        rcases Nat.lt_or_ge i k with h | h
        · exact h
        · rw [List.getElem?_take_eq_none h] at hv; simp at hv
      rwa [List.getElem?_take_of_lt hi, List.getElem?_drop] at hv
    · obtain ⟨p', g1, g2, _⟩ := hI.blk _ _ _ _ h3
      simp only [if_neg h1]
      exact ⟨cs', e2, p', p', h3, g1, (iold _ h1).trans g1, g2, rfl, .inl ⟨rfl, rfl⟩⟩
  · intro b1 b2 cs1 e1 m1 cs2 e2 m2 h1 h2 hk'
    rcases what _ _ _ _ h1 with ⟨rfl, _⟩ | ⟨g1, g2, _⟩ <;> rcases what _ _ _ _ h2 with ⟨rfl, _⟩ | ⟨g3, g4, _⟩
    · rfl
    · rw [if_pos rfl, if_neg g3] at hk'; exact absurd hk'.symm g4
    · rw [if_pos rfl, if_neg g1] at hk'; exact absurd hk' g2
    · rwa [if_neg g1, if_neg g3] at hk'
  · intro b' hb'
    simp at hb'
    rw [iold _ (by omega)]
    exact hI.dom b' (by omega)
  · intro b' p' h
    by_cases hbn : b' = σ.size
    · subst hbn
      rw [inew] at h
      injection h with h
      subst h
      exact .inr ⟨b, cs, e0, p, hb, hp, rfl⟩
    · rw [iold _ hbn] at h
      exact .inl h

theorem sim_trunc (hI : Inv B ι σ w) (hB : Bs w0 ι0 σ0 w ι σ) (hF : FR w0.heap.size nt lam ι σ f a w) {t : TypeId} {e : Nat} {x y hi hi' : Operand} (ho : o.op = .slice t y none (some hi') none) (hm : mElem P t e = true) (he : 0 < e)
    (hx : oeq y x = true) (hh : oeq hi' hi = true) (hs : stepOp d f σ (.trunc e x hi) = some r) : Sim P B nt w0 ι0 σ0 f a w o r := by
  obtain ⟨el, hu, hsz⟩ := mElem_some hm
  have run : ∀ {ad : Option Addr} {len cap h : Nat} {k : IntKind}, a.eval y = .slice ad len cap → a.eval hi' = .int k h → h ≤ cap →
      (execOp a.eval o).run P w = .ok (.value (.slice (if cap = 0 then ad else ad.map (·.add 0)) h cap)) w := fun {ad len cap h k} ey eh hle => by
    have hb : (Instr.sliceBounds true len cap none (some (a.eval hi')) none).run P w = .ok (0, h, cap) w := by
      rw [eh]
      have := run_sliceBound (P := P) w k h cap .sliceAcap (by omega) (by omega)
      simp [Instr.sliceBounds, this]
    have h1 := run_slice' hI hB hF hu hsz ad len cap _ _ _ hb
    simp [execOp, ho, ey, h1]
  simp only [stepOp] at hs
  split at hs
  · rename_i k h1 h2
    injection hs with hs
    subst hs
    have v := evV_rel hF hx h1
    have ey : a.eval y = .slice none 0 0 := by generalize a.eval y = z at v; cases v; rfl
    have eh := vr_int (evV_rel hF hh h2)
    exact Sim.pure hI hB hF (y := .slice none 0 0) (by simpa using run ey eh (Nat.le_refl _)) VR.nils
  · rename_i b q n c k h h1 h2
    have v := evV_rel hF hx h1
    have eh := vr_int (evV_rel hF hh h2)
    split at hs
    · rename_i cs e0 hb
      split at hs
      · rename_i hc
        obtain ⟨hce, h0, hn, hl⟩ := hc
        injection hs with hs
        subst hs
        obtain ⟨z, rfl⟩ : ∃ z : Nat, h = z := ⟨h.toNat, by omega⟩
        obtain ⟨p, hp, _⟩ := hI.blk _ _ _ _ hb
        have hzn : z * e ≤ n * e := Nat.mul_le_mul_right _ (by omega)
        have hoM := (hI.own _ _ _ _ _ hb (by simp) hp).2.1
        generalize hyy : a.eval y = yy at v
        cases v with
        | slx ha => omega
        | @sln _ _ _ e' ad cap he' hcap ha =>
          have hee : e' = e := by omega
          subst hee
          have hrun := run hyy eh (by omega)
          have ha0 : ∀ ad : Addr, ad.add 0 = ad := fun ad => rfl
          simp only [Option.map_some, ha0, ite_self] at hrun
          by_cases hcz : 0 < cap
          · obtain ⟨p2, hp2, rfl, h6, h7⟩ := ha hcz
            rw [hp] at hp2
            injection hp2 with hp2
            subst hp2
            have hs2 := sub_trunc hI hb hp (q := q) (k := z * e') (e := e') (M := cap * e') (by omega) h7 (Nat.mul_le_mul_right _ (by omega))
            refine ⟨_, _, lam, _, .inl hrun, hI.re hs2, hB.trans (Bs.re hs2), hF.step (Bs.re hs2), ?_⟩
            exact VR.sln he (by omega) fun _ => ⟨⟨p.c, p.o + q, e', cap * e'⟩, by simp [setIota], rfl, rfl, by simp⟩
          · have hs2 := sub_trunc hI hb hp (q := q) (k := z * e') (e := e') (M := n * e') (by omega) (by omega) hzn
            refine ⟨_, _, lam, _, .inl hrun, hI.re hs2, hB.trans (Bs.re hs2), hF.step (Bs.re hs2), ?_⟩
            exact VR.sln he (by omega) fun h => absurd h hcz
      · simp at hs
    · simp at hs
  · simp at hs

end
end Go.Am

namespace Go.Am

section
variable {P : Program} {B nt : Nat} {w0 : World} {ι0 ι : Inj} {σ0 σ : AHeap} {lam : Nat → Nat} {f : AFr} {a : Act} {w : World} {o : Oper} {d : Option Nat}
  {r : AV × Option (Nat × List Value) × AHeap × Lab}

theorem args1 {args : Array Operand} {x : Operand} (h : args.toList = [x]) : args = #[x] := by
  apply Array.toList_inj.1; simpa using h

theorem call_form {c : Call} (ho : o.op = .call c) {b : Builtin} {xs : List Operand} {ts : List TypeId} (hb : c.callee = .builtin b) (hx : c.args.toList = xs) (ht : c.argTypes.toList = ts) :
    o.op = .call { callee := .builtin b, args := xs.toArray, argTypes := ts.toArray } := by
  rw [ho]
  obtain ⟨cc, as, tys⟩ := c
  simp only at hb hx ht
  subst hb
  rw [← hx, ← ht]

theorem call_sim (hI : Inv B ι σ w) (hB : Bs w0 ι0 σ0 w ι σ) (hF : FR w0.heap.size nt lam ι σ f a w) {c : Call} (ho : o.op = .call c) {s : SOp} (hm : mCall P c s = true) (hs : stepOp d f σ s = some r) :
    Sim P B nt w0 ι0 σ0 f a w o r := by
  unfold mCall at hm
  split at hm
  · rename_i x hc
    split at hm
    · rename_i y t hy ht
      simp only [Bool.and_eq_true] at hm
      obtain ⟨h1, h2⟩ := hm
      split at h2
      · rename_i el hu; exact sim_len hI hB hF (call_form ho hc hy ht) h1 hu hs
      · simp at h2
    · simp at hm
  · rename_i x hc
    split at hm
    · rename_i y t hy ht
      simp only [Bool.and_eq_true] at hm
      obtain ⟨h1, h2⟩ := hm
      split at h2
      · rename_i hu; exact sim_slen hI hB hF (call_form ho hc hy ht) h1 hu hs
      · simp at h2
    · simp at hm
  · rename_i x y hc
    cases ha : c.args.toList with
    | nil => simp [ha, oseq] at hm
    | cons p l => cases l with
      | nil => simp [ha, oseq] at hm
      | cons q l => cases l with
        | cons _ _ => simp [ha, oseq] at hm
        | nil =>
          simp only [ha, oseq, Bool.and_true, Bool.and_eq_true] at hm
          exact sim_mx hI hB hF (call_form ho hc ha rfl) hm.1 hm.2 hs
  · rename_i x y hc
    cases ha : c.args.toList with
    | nil => simp [ha, oseq] at hm
    | cons p l => cases l with
      | nil => simp [ha, oseq] at hm
      | cons q l => cases l with
        | cons _ _ => simp [ha, oseq] at hm
        | nil =>
          simp only [ha, oseq, Bool.and_true, Bool.and_eq_true] at hm
          exact sim_mn hI hB hF (call_form ho hc ha rfl) hm.1 hm.2 hs
  · -- append
    rename_i e bytes kp sx x hc
    simp only [Bool.and_eq_true] at hm
    obtain ⟨hm0, hm⟩ := hm
    split at hm
    · rename_i t t' ht
      simp only [Bool.and_eq_true, beq_iff_eq, decide_eq_true_eq] at hm
      obtain ⟨⟨⟨⟨rfl, hme⟩, he⟩, hbp⟩, hm⟩ := hm
      obtain ⟨el, hu, hsz⟩ := mElem_some hme
      simp only [hu, Bool.and_eq_true, beq_iff_eq] at hm
      obtain ⟨h3, h4⟩ := hm
      split at h4
      · rename_i z hz
        cases ha : c.args.toList with
        | nil => simp [ha, oseq] at hm0
        | cons p l => cases l with
          | nil => simp [ha, oseq] at hm0
          | cons q l => cases l with
            | cons _ _ => simp [ha, oseq] at hm0
            | nil =>
              simp only [ha, oseq, Bool.and_true, Bool.and_eq_true] at hm0
              exact sim_app hI hB hF (call_form ho hc ha ht) hu hsz h3 hz (by simpa using h4) he hbp hm0.2 hm0.1 hs
      · simp at h4
    · simp at hm
  · -- append of zero values
    rename_i e bytes zs sx x hc
    simp only [Bool.and_eq_true] at hm
    obtain ⟨hm0, hm⟩ := hm
    split at hm
    · rename_i t t' ht
      simp only [Bool.and_eq_true, decide_eq_true_eq] at hm
      obtain ⟨⟨⟨⟨hme, he⟩, hbp⟩, hm1⟩, hm⟩ := hm
      obtain ⟨el, hu, hsz⟩ := mElem_some hme
      simp only [hu, Bool.and_eq_true, beq_iff_eq] at hm
      obtain ⟨⟨h3, h4⟩, h5⟩ := hm
      split at hm1
      · rename_i kn hu'
        cases ha : c.args.toList with
        | nil => simp [ha, oseq] at hm0
        | cons p l => cases l with
          | nil => simp [ha, oseq] at hm0
          | cons q l => cases l with
            | cons _ _ => simp [ha, oseq] at hm0
            | nil =>
              simp only [ha, oseq, Bool.and_true, Bool.and_eq_true] at hm0
              exact sim_appz hI hB hF (call_form ho hc ha ht) hu hu' hsz h3 h4 h5 he hbp hm0.2 hm0.1 hs
      · simp at hm1
    · simp at hm
  · -- copy
    rename_i e dx sx hc
    simp only [Bool.and_eq_true] at hm
    obtain ⟨hm0, hm⟩ := hm
    split at hm
    · rename_i t t' ht
      simp only [Bool.and_eq_true, decide_eq_true_eq] at hm
      obtain ⟨el, hu, hsz⟩ := mElem_some hm.1
      cases ha : c.args.toList with
      | nil => simp [ha, oseq] at hm0
      | cons p l => cases l with
        | nil => simp [ha, oseq] at hm0
        | cons q l => cases l with
          | cons _ _ => simp [ha, oseq] at hm0
          | nil =>
            simp only [ha, oseq, Bool.and_true, Bool.and_eq_true] at hm0
            exact sim_cpy hI hB hF (call_form ho hc ha ht) hu hsz hm.2 hm0.1 hm0.2 hs
    · simp at hm
  · -- cap
    rename_i x hc
    split at hm
    · rename_i y t hy ht
      simp only [Bool.and_eq_true] at hm
      obtain ⟨h1, h2⟩ := hm
      split at h2
      · rename_i el hu; exact sim_capx hI hB hF (call_form ho hc hy ht) h1 hu hs
      · simp at h2
    · simp at hm
  · -- clear
    rename_i e zs x hc
    split at hm
    · rename_i y t hy ht
      simp only [Bool.and_eq_true, decide_eq_true_eq] at hm
      obtain ⟨⟨⟨h1, hme⟩, he⟩, h2⟩ := hm
      obtain ⟨el, hu, hsz⟩ := mElem_some hme
      simp only [hu, Bool.and_eq_true, beq_iff_eq] at h2
      exact sim_clr hI hB hF (call_form ho hc hy ht) h1 hu h2.1 h2.2 hs
    · simp at hm
  · simp [stepOp] at hs
  · -- do they share memory?
    rename_i g g' x y hc
    simp only [Bool.and_eq_true, beq_iff_eq] at hm
    obtain ⟨⟨rfl, hg⟩, hm0⟩ := hm
    cases ha : c.args.toList with
    | nil => simp [ha, oseq] at hm0
    | cons p l => cases l with
      | nil => simp [ha, oseq] at hm0
      | cons q l => cases l with
        | cons _ _ => simp [ha, oseq] at hm0
        | nil =>
          simp only [ha, oseq, Bool.and_true, Bool.and_eq_true] at hm0
          exact sim_ovl hI hB hF ho hc (Array.toList_inj.1 (by simpa using ha)) hg hm0.1 hm0.2 hs
  · simp [stepOp] at hs
  · simp [stepOp] at hs
  · simp at hm

theorem step_sim (hI : Inv B ι σ w) (hB : Bs w0 ι0 σ0 w ι σ) (hF : FR w0.heap.size nt lam ι σ f a w) {op : Op} (ho : o.op = op) {s : SOp} (hm : mOp P op s = true) (hs : stepOp d f σ s = some r) :
    Sim P B nt w0 ι0 σ0 f a w o r := by
  unfold mOp at hm
  split at hm
  · simp [stepOp] at hs
  · exact sim_mov hI hB hF (.inl ho) hm hs
  · exact sim_mov hI hB hF (.inr ho) hm hs
  · simp only [Bool.and_eq_true] at hm; exact sim_pick hI hB hF ho hm.1.1 hm.1.2 hm.2 hs
  · exact sim_lalloc hI hB hF ho hm hs
  · exact sim_halloc hI hB hF ho hm hs
  · exact sim_lbox hI hB hF ho hm hs
  · exact sim_hbox hI hB hF ho hm hs
  · -- build
    simp only [Bool.and_eq_true] at hm
    obtain ⟨hz, hm⟩ := hm
    split at hm
    · rename_i fields hu
      simp only [Bool.and_eq_true] at hm
      exact sim_build hI hB hF ho hz hu hm.1 hm.2 hs
    · simp at hm
  · -- a row literal
    simp only [Bool.and_eq_true, decide_eq_true_eq, beq_iff_eq] at hm
    obtain ⟨⟨⟨⟨⟨hn, hme⟩, he⟩, h24⟩, hel⟩, hm⟩ := hm
    subst hn
    obtain ⟨el, hu, hsz⟩ := mElem_some hme
    simp only [hu] at hm
    split at hm
    · rename_i z hz
      simp only [Bool.and_eq_true, beq_iff_eq] at hm
      exact sim_bslice hI hB hF ho hu hsz hz hm.1 hm.2 he h24 hel (.inl hs)
    · simp at hm
  · simp only [Bool.and_eq_true, decide_eq_true_eq, beq_iff_eq] at hm
    obtain ⟨⟨⟨⟨⟨hn, hme⟩, he⟩, h24⟩, hel⟩, hm⟩ := hm
    subst hn
    obtain ⟨el, hu, hsz⟩ := mElem_some hme
    simp only [hu] at hm
    split at hm
    · rename_i z hz
      simp only [Bool.and_eq_true, beq_iff_eq] at hm
      exact sim_bslice hI hB hF ho hu hsz hz hm.1 hm.2 he h24 hel (.inr hs)
    · simp at hm
  · simp only [Bool.and_eq_true] at hm; exact sim_load hI hB hF ho hm.1 hm.2 hs
  · simp only [Bool.and_eq_true] at hm; exact sim_store hI hB hF ho hm.1.1 hm.1.2 hm.2 hs
  · exact sim_nilchk hI hB hF ho hm hs
  · simp only [Bool.and_eq_true, beq_iff_eq] at hm
    obtain ⟨⟨⟨⟨rfl, rfl⟩, h3⟩, h4⟩, h5⟩ := hm
    exact sim_bin hI hB hF ho h3 h4 h5 hs
  · simp only [Bool.and_eq_true, beq_iff_eq] at hm
    obtain ⟨rfl, h2⟩ := hm
    exact sim_un hI hB hF ho h2 hs
  · -- conv
    simp only [Bool.and_eq_true] at hm
    obtain ⟨⟨h1, h2⟩, h3⟩ := hm
    split at h3
    · rename_i k' hk
      simp only [beq_iff_eq] at h3
      subst h3
      exact sim_conv hI hB hF ho h1 h2 hk hs
    · simp at h3
  · -- mkif
    simp only [Bool.and_eq_true, beq_iff_eq] at hm
    obtain ⟨⟨rfl, h2⟩, h3⟩ := hm
    split at h3
    · simp at h3
    · simp at h3
    · rename_i hni hnn
      generalize ht : P.underlying _ = pu at hni hnn
      cases hu : pu with
      | none => exact absurd hu hnn
      | some dt => exact sim_mkif hI hB hF ho h2 (ht.trans hu) (fun ms e => hni ms (by rw [hu, e])) hs
  · -- mkfn
    simp only [Bool.and_eq_true, beq_iff_eq] at hm
    obtain ⟨⟨rfl, h2⟩, h3⟩ := hm
    exact sim_mkfn hI hB hF ho h2 h3 hs
  · -- slc
    simp only [Bool.and_eq_true, Bool.or_eq_true, decide_eq_true_eq] at hm
    obtain ⟨⟨⟨⟨⟨⟨h1, h0⟩, h2⟩, h3⟩, h4⟩, h5⟩, h6⟩ := hm
    exact sim_slc hI hB hF ho h1 h0 h2 h3 h4 h5 h6 hs
  · -- trunc
    simp only [Bool.and_eq_true, decide_eq_true_eq] at hm
    obtain ⟨⟨⟨⟨⟨h1, h0⟩, h2⟩, h3⟩, h4⟩, h5⟩ := hm
    rename_i t x lo hi mx e x' hi'
    cases lo with
    | some _ => simp at h3
    | none =>
      cases mx with
      | some _ => simp at h4
      | none =>
        cases hi with
        | none => simp [ooeq] at h5
        | some hi => exact sim_trunc hI hB hF ho h1 h0 h2 (by simpa [ooeq] using h5) hs
  · -- sslc
    simp only [Bool.and_eq_true] at hm
    obtain ⟨⟨⟨⟨h1, h2⟩, h3⟩, h4⟩, h5⟩ := hm
    rename_i t x lo hi mx x' lo' hi'
    cases mx with
    | some _ => simp at h5
    | none =>
      split at h1
      · rename_i hu; exact sim_sslc hI hB hF ho hu h2 h3 h4 hs
      · simp at h1
  · -- faddr
    simp only [Bool.and_eq_true] at hm
    obtain ⟨h1, hm⟩ := hm
    split at hm
    · rename_i fields hu
      split at hm
      · rename_i fd hfd
        simp only [Bool.and_eq_true, beq_iff_eq] at hm
        obtain ⟨h2, h3⟩ := hm
        split at h3
        · rename_i n hn
          exact sim_faddr hI hB hF ho h1 hu hfd h2 hn (by simpa using h3) hs
        · simp at h3
      · simp at hm
    · simp at hm
  · -- fld
    simp only [Bool.and_eq_true] at hm
    obtain ⟨h1, hm⟩ := hm
    split at hm
    · rename_i fields hu
      split at hm
      · rename_i fd hfd
        simp only [Bool.and_eq_true, beq_iff_eq] at hm
        exact sim_fld hI hB hF ho h1 hu hfd hm.1 hm.2 hs
      · simp at hm
    · simp at hm
  · simp only [Bool.and_eq_true] at hm; exact sim_iaddr hI hB hF ho hm.1.1 hm.1.2 hm.2 hs
  · -- sidx
    simp only [Bool.and_eq_true] at hm
    obtain ⟨⟨h1, h2⟩, h3⟩ := hm
    split at h1
    · rename_i hu; exact sim_sidx hI hB hF ho hu h2 h3 hs
    · simp at h1
  · simp only [Bool.and_eq_true, beq_iff_eq] at hm
    obtain ⟨h1, rfl⟩ := hm
    exact sim_ext hI hB hF ho h1 hs
  · -- make
    simp only [Bool.and_eq_true, decide_eq_true_eq] at hm
    obtain ⟨⟨⟨⟨hme, he⟩, h1⟩, h2⟩, hm⟩ := hm
    obtain ⟨el, hu, hsz⟩ := mElem_some hme
    simp only [hu, Bool.and_eq_true, beq_iff_eq] at hm
    obtain ⟨⟨h3, h4⟩, h5⟩ := hm
    unfold mZero at h4
    cases hz : tzero P el with
    | none => simp [hz] at h4
    | some z =>
      simp only [hz] at h4
      exact sim_mk hI hB hF ho hu hsz h3 hz h4 h5 he h1 h2 hs
  · exact call_sim hI hB hF ho hm hs
  · simp at hm

end
end Go.Am

namespace Go.Am

/-- What is owed of a function that is called. -/
def Snd (P : Program) (B : Nat) (g : Nat) (args : List Value) (σ : AHeap) (r : Value) (σ' : AHeap) : Prop :=
  calls P g = true ∧ ∀ (w : World) (ι : Inj) (cargs : Array Value), Inv B ι σ w → VRL ι args cargs.toList →
    Calls P g cargs w fun e w' => ∃ v' ι', e = .returned v' ∧ VR ι' r v' ∧ Inv B ι' σ' w' ∧ Bs w ι σ w' ι' σ'

/-- What is owed of == where the types must tell. -/
def EqOk (P : Program) (E : TypeId → Value → Value → Bool → Prop) : Prop :=
  ∀ ty a b t, E ty a b t → ∀ (ι : Inj) (a' b' : Value) (w : World) (op : BinOp) (x y : Operand), VR ι a a' → VR ι b b' → (op = .eql ∨ op = .neq) →
    (do eqGuard op ty x y a' b'; binOp op ty a' b' : Sem Value).run P w = .ok (.bool (if op = .eql then t else !t)) w

abbrev CallR := Nat → List Value → AHeap → Value → AHeap → Prop
abbrev EqR := TypeId → Value → Value → Bool → Prop

/-- One operation of the abstract machine. -/
inductive One (CR : CallR) (E : EqR) : SI → AFr → AHeap → Lab → AFr → AHeap → Prop where
  | skip {i f σ} (hw : i.wanted f = some false) : One CR E i f σ .p (f.put i.dst (.v undef)) σ
  | step {i f σ v u σ1 lab} (hw : i.wanted f = some true) (hs : stepOp i.dst f σ i.op = some (v, u, σ1, lab)) : One CR E i f σ lab ((f.setb u).put i.dst v) σ1
  | eq {i f σ op ek ty x y a b t} (hw : i.wanted f = some true) (ho : i.op = .bin op ek ty x y) (hop : op = .eql ∨ op = .neq) (ha : f.evV x = some a) (hb : f.evV y = some b)
      (he : E ty a b t) : One CR E i f σ .p (f.put i.dst (.v (.bool (if op = .eql then t else !t)))) σ
  | call {i f σ g vals σ1 r σ2} (hw : i.wanted f = some true) (hc : callee f σ i.op = some (g, vals, σ1)) (hr : CR g vals σ1 r σ2) {lab} (hl : lab = .hw ∨ lab = .he ∧ σ1.ext σ2) : One CR E i f σ lab (f.put i.dst (.v r)) σ2

inductive Ops (CR : CallR) (E : EqR) : List SI → AFr → AHeap → List Lab → AFr → AHeap → Prop where
  | nil (f σ) : Ops CR E [] f σ [] f σ
  | cons {i l f σ lab f1 σ1 ls f' σ'} (h : One CR E i f σ lab f1 σ1) (t : Ops CR E l f1 σ1 ls f' σ') : Ops CR E (i :: l) f σ (lab :: ls) f' σ'

/-- The states stand for one another. -/
structure Rl (B nt : Nat) (w0 : World) (ι0 : Inj) (σ0 : AHeap) (f : AFr) (σ : AHeap) (a : Act) (w : World) : Prop where
  ex : ∃ lam ι, Inv B ι σ w ∧ Bs w0 ι0 σ0 w ι σ ∧ FR w0.heap.size nt lam ι σ f a w

section
variable {P : Program} {B nt : Nat} {w0 : World} {ι0 ι : Inj} {σ0 σ : AHeap} {lam : Nat → Nat} {f : AFr} {a : Act} {w : World} {o : Oper} {d : Option Nat}

/-- A fresh row becomes a row of the heap. -/
theorem Inv.mat (hI : Inv B ι σ w) (hB : Bs w0 ι0 σ0 w ι σ) (hF : FR w0.heap.size nt lam ι σ f a w) {cs : List Value} {e n : Nat} {y : Value} (h : AVR w0.heap.size lam ι σ f w (.imm cs e n) y) :
    ∃ ι', Inv B ι' (σ.push (.row cs e .R)) w ∧ Bs w0 ι0 σ0 w ι' (σ.push (.row cs e .R)) ∧ FR w0.heap.size nt lam ι' (σ.push (.row cs e .R)) f a w ∧ ι.le ι' ∧ VR ι' (.slice (some ⟨σ.size, 0, none⟩) n (n + e)) y := by
  obtain ⟨c, arr, el, h1, h2, h3, h4, h5, h6, h7, h8, h9⟩ := h
  have hd : ι σ.size = none := hI.dom _ (Nat.le_refl _)
  have hle := le_setIota hd ⟨c, 0, e, n * e⟩
  have inew : setIota ι σ.size ⟨c, 0, e, n * e⟩ σ.size = some ⟨c, 0, e, n * e⟩ := by simp [setIota]
  have iold : ∀ b, b ≠ σ.size → setIota ι σ.size ⟨c, 0, e, n * e⟩ b = ι b := fun b hb => by simp [setIota, hb]
  have old : ∀ b cs' e' m', (σ.push (.row cs e .R))[b]? = some (.row cs' e' m') → (b = σ.size ∧ cs' = cs ∧ e' = e ∧ m' = .R) ∨ (b ≠ σ.size ∧ σ[b]? = some (.row cs' e' m')) := fun b cs' e' m' h => by
    rw [push_get] at h
    by_cases hb : b = σ.size
    · rw [if_pos hb] at h
      injection h with h
      injection h with x1 x2 x3
      exact .inl ⟨hb, x1.symm, x2.symm, x3.symm⟩
    · rw [if_neg hb] at h; exact .inr ⟨hb, h⟩
  have wim : ∀ c', Wim (setIota ι σ.size ⟨c, 0, e, n * e⟩) (σ.push (.row cs e .R)) c' → Wim ι σ c' := by
    rintro c' ⟨b, cs', e', m', p, k1, k2, k3, rfl⟩
    rcases old _ _ _ _ k1 with ⟨_, _, _, rfl⟩ | ⟨hb, k1⟩
    · exact absurd rfl k2
    · rw [iold _ hb] at k3; exact ⟨b, cs', e', m', p, k1, k2, k3, rfl⟩
  refine ⟨setIota ι σ.size ⟨c, 0, e, n * e⟩, ⟨?_, ?_, ?_, ?_, ?_, hI.base⟩, ⟨hB.os, hB.tape, hB.output, hB.size, hB.keep, Inj.le_trans hB.ext hle, ?_, fun c' hc' => hB.wim c' (wim c' hc')⟩, ⟨hF.nt, hF.defers, ?_, ?_, hF.inj⟩, hle, ?_⟩
  · intro b cs' e' m' k
    rcases old _ _ _ _ k with ⟨rfl, rfl, rfl, rfl⟩ | ⟨hb, k⟩
    · refine ⟨_, inew, rfl, fun i v hv => ?_⟩
      obtain ⟨v', k1, k2⟩ := h4.get hv
      exact ⟨v', by rw [Nat.zero_add, cell_of_row w c i arr el (0, 0) h3]; simpa using k1, VR.mono hle k2, List.all_eq_true.1 h5 v (List.mem_of_getElem? hv)⟩
    · obtain ⟨p, k1, k2, k3⟩ := hI.blk _ _ _ _ k
      refine ⟨p, (iold b hb).trans k1, k2, fun i v hv => ?_⟩
      obtain ⟨v', k4, k5, k6⟩ := k3 i v hv
      exact ⟨v', k4, VR.mono hle k5, k6⟩
  · intro b cs' e' m' p k hm hp
    rcases old _ _ _ _ k with ⟨_, _, _, rfl⟩ | ⟨hb, k⟩
    · exact absurd rfl hm
    · rw [iold _ hb] at hp; exact hI.own _ _ _ _ _ k hm hp
  · intro b1 cs1 e1 m1 p1 b2 cs2 e2 m2 p2 k1 hm k1p k2 k2p hne hc
    rcases old _ _ _ _ k1 with ⟨_, _, _, rfl⟩ | ⟨hb1, g1⟩
    · exact absurd rfl hm
    · rw [iold _ hb1] at k1p
      rcases old _ _ _ _ k2 with ⟨rfl, rfl, rfl, rfl⟩ | ⟨hb2, g2⟩
      · rw [inew] at k2p
        injection k2p with k2p
        subst k2p
        exact absurd ⟨b1, cs1, e1, m1, p1, g1, hm, k1p, hc⟩ h8
      · rw [iold _ hb2] at k2p
        exact hI.excl _ _ _ _ _ _ _ _ _ _ g1 hm k1p g2 k2p hne hc
  · intro b hb
    simp at hb
    rw [iold _ (by omega)]
    exact hI.dom b (by omega)
  · intro b p hp
    by_cases hb : b = σ.size
    · subst hb; rw [inew] at hp; injection hp with hp; subst hp; exact lt_of_heap h3
    · rw [iold _ hb] at hp; exact hI.lt b p hp
  · intro b p hp
    by_cases hb : b = σ.size
    · subst hb; rw [inew] at hp; injection hp with hp; subst hp; exact .inr (.inl h2)
    · rw [iold _ hb] at hp; exact hB.img b p hp
  · intro t x hx
    have h := hF.tmp t x hx
    cases x with
    | v x => exact VR.mono hle h
    | l k q => exact h
    | imm cs' e' n' =>
      obtain ⟨c', arr', el', k1, k2, k3, k4, k5, k6, k7, k8, k9⟩ := h
      exact ⟨c', arr', el', k1, k2, k3, VRL.mono hle k4, k5, k6, k7, fun hw => k8 (wim _ hw), k9⟩
  · intro k cs' hk
    obtain ⟨k1, ⟨arr', el', k2, k3, k4⟩, k5⟩ := hF.box k cs' hk
    refine ⟨k1, ⟨arr', el', k2, VRL.mono hle k3, k4⟩, fun b p hp => ?_⟩
    by_cases hb : b = σ.size
    · subst hb; rw [inew] at hp; injection hp with hp; subst hp
      exact Ne.symm (h9 k (by rw [hk]; rfl))
    · rw [iold _ hb] at hp; exact k5 b p hp
  · rw [h1]
    exact VR.sln h7 (Nat.le_refl _) fun _ => ⟨_, inew, by simp, rfl, by simp⟩

theorem evArgs_rel : ∀ {xs ys : List Operand} {σ : AHeap} {ι : Inj} {l : List Value} {σ' : AHeap}, Inv B ι σ w → Bs w0 ι0 σ0 w ι σ → FR w0.heap.size nt lam ι σ f a w → oseq ys xs = true → evArgs f xs σ = some (l, σ') →
    ∃ ι', Inv B ι' σ' w ∧ Bs w0 ι0 σ0 w ι' σ' ∧ FR w0.heap.size nt lam ι' σ' f a w ∧ ι.le ι' ∧ VRL ι' l (ys.map a.eval)
  | [], [], σ, ι, l, σ', hI, hB, hF, _, h => by
    simp only [evArgs, Option.some.injEq, Prod.mk.injEq] at h
    obtain ⟨rfl, rfl⟩ := h
    exact ⟨ι, hI, hB, hF, Inj.le_refl _, .nil⟩
  | x :: xs, y :: ys, σ, ι, l, σ', hI, hB, hF, hm, h => by
    simp only [oseq, Bool.and_eq_true] at hm
    simp only [evArgs] at h
    split at h
    · rename_i v hv
      cases hr : evArgs f xs σ with
      | none => simp [hr] at h
      | some q =>
        obtain ⟨l', σ''⟩ := q
        simp only [hr, Option.bind_some, Option.some.injEq, Prod.mk.injEq] at h
        obtain ⟨rfl, rfl⟩ := h
        obtain ⟨ι', h1, h2, h3, h4, h5⟩ := evArgs_rel hI hB hF hm.2 hr
        exact ⟨ι', h1, h2, h3, h4, .cons (VR.mono h4 (ev_rel hF hm.1 hv)) h5⟩
    · rename_i cs e n hv
      cases hr : evArgs f xs (σ.push (.row cs e .R)) with
      | none => simp [hr] at h
      | some q =>
        obtain ⟨l', σ''⟩ := q
        simp only [hr, Option.bind_some, Option.some.injEq, Prod.mk.injEq] at h
        obtain ⟨rfl, rfl⟩ := h
        obtain ⟨ι1, g1, g2, g3, g4, g5⟩ := hI.mat hB hF (ev_rel hF hm.1 hv)
        obtain ⟨ι', h1, h2, h3, h4, h5⟩ := evArgs_rel g1 g2 g3 hm.2 hr
        exact ⟨ι', h1, h2, h3, Inj.le_trans g4 h4, .cons (VR.mono h4 g5) h5⟩
    · simp at h
  | [], _ :: _, _, _, _, _, _, _, _, hm, _ => by simp [oseq] at hm
  | _ :: _, [], _, _, _, _, _, _, _, hm, _ => by simp [oseq] at hm

theorem run_callFunc {g : Nat} (h : calls P g = true) (args : Array Value) : (callFunc g args).run P w = .ok (.enter g args) w := by
  unfold calls at h
  split at h
  · rename_i fn hf
    simp only [Bool.and_eq_true, Bool.not_eq_true'] at h
    have h1 : ¬ fn.body = none := by cases hb : fn.body <;> simp [hb] at h ⊢
    have h2 : ¬ fn.name = "runtime.NumGoroutine" := by simpa using h.2
    simp [callFunc, hf, h1, h2]
  · simp at h

theorem method_run {fuel : Nat} {t el : TypeId} {i : TypeInfo} {m : Method} {name : String} {h : Nat} {v : Value} (hi : P.info? t = some i) (hfind : i.methods.find? (·.name == name) = some m) (hpath : m.path = #[])
    (hfunc : m.func = some (h, true)) (hu : P.underlying t = some (.pointer el)) : (method (fuel + 1) t v name).run P w = .ok (h, v) w := by
  simp [method, typeInfo, hi, hfind, hpath, follow, hfunc, receiverAt, run_underlying' hu, Place.get]

theorem extract_one (x : Value) (l : Array Value) : (#[x] ++ l).extract 1 (#[x] ++ l).size = l := by
  apply Array.toList_inj.1
  simp

/-- Whom the program calls. -/
theorem callee_run (hI : Inv B ι σ w) (hB : Bs w0 ι0 σ0 w ι σ) (hF : FR w0.heap.size nt lam ι σ f a w) {op : Op} (ho : o.op = op) {s : SOp} (hm : mOp P op s = true) {g : Nat} {vals : List Value} {σ1 : AHeap}
    (hc : callee f σ s = some (g, vals, σ1)) (hg : calls P g = true) :
    ∃ ι1 cargs, (execOp a.eval o).run P w = .ok (.enter g cargs) w ∧ Inv B ι1 σ1 w ∧ Bs w0 ι0 σ0 w ι1 σ1 ∧ FR w0.heap.size nt lam ι1 σ1 f a w ∧ VRL ι1 vals cargs.toList := by
  cases s <;> simp only [callee] at hc <;> try (simp at hc; done)
  case call g' xs =>
    cases op <;> simp only [mOp] at hm <;> try (simp at hm; done)
    rename_i c
    have hm' : ∃ g1, c.callee = .value (.func g1) ∧ g1 = g' ∧ oseq c.args.toList xs = true := by
      unfold mCall at hm
      split at hm <;> first | (simp at hm; done) | skip
      all_goals first
        | (rename_i hs; injection hs; done)
        | skip
      rename_i g1 _ _ hcal hs
      injection hs with e1 e2
      subst e1 e2
      simp only [Bool.and_eq_true, beq_iff_eq] at hm
      exact ⟨g1, hcal, hm.1.1, hm.2⟩
    obtain ⟨g1, hcal, rfl, hargs⟩ := hm'
    cases hr : evArgs f xs σ with
    | none => simp [hr] at hc
    | some q =>
      obtain ⟨l, σ''⟩ := q
      simp only [hr, Option.bind_some, Option.some.injEq, Prod.mk.injEq] at hc
      obtain ⟨rfl, rfl, rfl⟩ := hc
      obtain ⟨ι', h1, h2, h3, h4, h5⟩ := evArgs_rel hI hB hF hargs hr
      refine ⟨ι', c.args.map a.eval, ?_, h1, h2, h3, by simpa using h5⟩
      have := run_callFunc (w := w) hg (c.args.map a.eval)
      simp [execOp, ho, resolve, hcal, Act.eval, Deferred.ofValue, invoke, this]
  case callv gx xs =>
    cases op <;> simp only [mOp] at hm <;> try (simp at hm; done)
    rename_i c
    have hm' : ∃ fo, c.callee = .value fo ∧ oeq fo gx = true ∧ oseq c.args.toList xs = true := by
      unfold mCall at hm
      split at hm <;> first | (simp at hm; done) | skip
      all_goals first
        | (rename_i hs; injection hs; done)
        | skip
      rename_i fo _ _ hcal hs
      injection hs with e1 e2
      subst e1 e2
      simp only [Bool.and_eq_true] at hm
      exact ⟨fo, hcal, hm.1, hm.2⟩
    obtain ⟨fo, hcal, hfo, hargs⟩ := hm'
    split at hc
    · rename_i h fst cap hv
      cases hr : evArgs f xs σ with
      | none => simp [hr] at hc
      | some q =>
        obtain ⟨l, σ''⟩ := q
        simp only [hr, Option.bind_some, Option.some.injEq, Prod.mk.injEq] at hc
        obtain ⟨rfl, rfl, rfl⟩ := hc
        obtain ⟨ι', h1, h2, h3, h4, h5⟩ := evArgs_rel hI hB hF hargs hr
        have v := VR.mono h4 (evV_rel hF hfo hv)
        generalize hy : a.eval fo = y at v
        cases v with
        | func fn hl =>
          rename_i cap'
          refine ⟨ι', c.args.map a.eval ++ cap', ?_, h1, h2, h3, ?_⟩
          · have := run_callFunc (w := w) hg (c.args.map a.eval ++ cap')
            simp [execOp, ho, resolve, hcal, hy, Deferred.ofValue, invoke, this]
          · simp only [Array.toList_append, Array.toList_map]
            exact VRL.append h5 hl
    · simp at hc
  case inv rx tbl xs =>
    cases op <;> simp only [mOp] at hm <;> try (simp at hm; done)
    rename_i c
    have hm' : ∃ ro name, c.callee = .invoke ro name ∧ oeq ro rx = true ∧ mMeth P name tbl = true ∧ oseq c.args.toList xs = true := by
      unfold mCall at hm
      split at hm <;> first | (simp at hm; done) | skip
      all_goals first
        | (rename_i hs; injection hs; done)
        | skip
      rename_i ro name _ _ _ hcal hs
      injection hs with e1 e2 e3
      subst e1 e2 e3
      simp only [Bool.and_eq_true] at hm
      exact ⟨ro, name, hcal, hm.1.1, hm.1.2, hm.2⟩
    obtain ⟨ro, name, hcal, hro, hmeth, hargs⟩ := hm'
    split at hc
    · rename_i t v hv
      split at hc
      · rename_i h hlook
        cases hr : evArgs f xs σ with
        | none => simp [hr] at hc
        | some q =>
          obtain ⟨l, σ''⟩ := q
          simp only [hr, Option.bind_some, Option.some.injEq, Prod.mk.injEq] at hc
          obtain ⟨rfl, rfl, rfl⟩ := hc
          obtain ⟨ι', h1, h2, h3, h4, h5⟩ := evArgs_rel hI hB hF hargs hr
          have hvr := VR.mono h4 (evV_rel hF hro hv)
          generalize hy : a.eval ro = y at hvr
          cases hvr with
          | iface t hv' =>
            rename_i v'
            have hrow : ∀ {tbl : List (TypeId × Nat)}, mMeth P name tbl = true → tbl.lookup t = some h → ∃ i m el, P.info? t = some i ∧ i.methods.find? (·.name == name) = some m ∧ m.path = #[] ∧ m.func = some (h, true) ∧
                P.underlying t = some (.pointer el) := by
              intro tbl
              induction tbl with
              | nil => intro _ h; simp at h
              | cons q tbl ih =>
                obtain ⟨t', g'⟩ := q
                intro hm hl
                simp only [mMeth, Bool.and_eq_true] at hm
                by_cases e : t = t'
                · subst e
                  simp at hl
                  subst hl
                  obtain ⟨hm, _⟩ := hm
                  split at hm
                  · rename_i i hi
                    split at hm
                    · rename_i m hfind
                      simp only [Bool.and_eq_true, beq_iff_eq] at hm
                      obtain ⟨⟨hp, hf⟩, hu⟩ := hm
                      split at hu
                      · rename_i el hel
                        exact ⟨i, m, el, hi, hfind, by simpa using hp, hf, hel⟩
                      · simp at hu
                    · simp at hm
                  · simp at hm
                · have : (t == t') = false := by simpa using e
                  simp [List.lookup, this] at hl
                  exact ih hm.2 hl
            obtain ⟨i, m, el, hi, hfind, hpath, hfunc, hu⟩ := hrow hmeth hlook
            refine ⟨ι', #[v'] ++ c.args.map a.eval, ?_, h1, h2, h3, ?_⟩
            · have hcf := run_callFunc (w := w) hg (#[v'] ++ c.args.map a.eval)
              have hmt : (method (P.types.size + Made.depth) t v' name).run P w = .ok (h, v') w := method_run (fuel := P.types.size + 99) hi hfind hpath hfunc hu
              have hget : (#[Value.iface t v'] ++ c.args.map a.eval)[0]? = some (Value.iface t v') := by rw [Array.getElem?_append_left (by simp)]; rfl
              simp only [execOp, ho, resolve, hcal, hy, Sem.run_bind, Sem.run_pure, Result.andThen_ok, invoke, hget, extract_one]
              simp only [callMethod, Sem.run_bind, run_program, Result.andThen_ok, hmt]
              exact hcf
            · simp only [Array.toList_append, Array.toList_map]
              exact .cons hv' h5
      · simp at hc
    · simp at hc

end
end Go.Am
