/- Symbolic values and states, and what a piece of code does to them, as a proposition that is to be shown. -/
import Derived.Test.YtpobngddiifdpaaGreatZdPlan
set_option linter.unusedSimpArgs false
set_option linter.unusedVariables false
namespace Go.Proofs.YtpobngddiifdpaaGreat.V
open Go Go.RowKit Go.Proofs.YtpobngddiifdpaaGreat.Hz

/-! ### Data types and their meaning -/
inductive Ty where
  | int (k : IntKind)
  | bool
  | sl (t : Ty)
  | nil
  | cons (a b : Ty)
  deriving DecidableEq, Inhabited

abbrev Den : Ty → Type
  | .int _ => Int
  | .bool => Bool
  | .sl t => List (Den t)
  | .nil => Unit
  | .cons a b => Den a × Den b

def dflt : (t : Ty) → Den t
  | .int _ => (0 : Int)
  | .bool => false
  | .sl _ => []
  | .nil => ()
  | .cons a b => (dflt a, dflt b)

def Ty.size : Ty → Nat
  | .int _ => 1
  | .bool => 1
  | .sl _ => 1
  | .nil => 0
  | .cons a b => a.size + b.size

/-! ### Cells, values, boxes, states -/
/-- A cell: a number, a bool, a slice of data (c: its capacity is its length), a nil slice, an empty literal, a pointer into a box, a slice that is an own row, a pointer into an own row's element, or into an element of a slice of data, a function, a map, a slice over a box's array; or nothing that is known. -/
inductive C where
  | int (k : IntKind) (n : Int)
  | bool (b : Bool)
  | sl (t : Ty) (l : List (Den t)) (c : Bool)
  | nilsl
  | emp (t : Ty)
  | ptr (k off : Nat)
  | row (k : Nat)
  | elt (k i sz off : Nat)
  | ielt (t : Ty) (l : List (Den t)) (i off : Nat)
  | fn (f : Nat) (caps : List (Nat × Nat))
  | nilfn
  | map (k : Nat)
  | arr (k off n cap : Nat) (t : Ty)
  | undef

inductive SV where
  | one (c : C)
  | agg (cs : List C)
  | tup (vs : List (Bool × List C))

inductive Box where
  | cells (t : TypeId) (cs : List C)
  | row (e : TypeId) (t : Ty) (l : List (Den t))
  | rowo (e : TypeId) (t : Ty) (l : List (Den t)) (i : Nat) (cs : List C)
  | fmap (m : List (Int × SV))
  | bmap (l : List Int)

structure St where
  tmps : List SV
  mem : List (Nat × Box)
  stk : List (List SV)

/-! ### The table of types -/
inductive TK where
  | int (k : IntKind)
  | bool
  | sl (e : TypeId)
  | ptr (e : TypeId)
  | arr (n : Nat) (e : TypeId)
  | str (fs : List (Nat × TypeId))
  | map (k v : TypeId)
  | fn
  | other
  deriving Inhabited
/-- plainEq: a struct, or an array, of numbers alone. -/
structure TI where
  kind : TK
  ty : Option Ty
  size : Nat
  plainEq : Bool := false
  deriving Inhabited
abbrev Tab := List TI
def TI.no : TI := ⟨.other, none, 0, false⟩
def Tab.at (T : Tab) (t : TypeId) : TI := List.getD T t TI.no

/-! ### Cells of data -/
def flat : (t : Ty) → Den t → List C
  | .int k, n => [.int k n]
  | .bool, b => [.bool b]
  | .sl t, l => [.sl t l false]
  | .nil, _ => []
  | .cons a b, x => flat a x.1 ++ flat b x.2

def zeroC : Ty → List C
  | .int k => [.int k 0]
  | .bool => [.bool false]
  | .sl t => [.sl t [] true]
  | .nil => []
  | .cons a b => zeroC a ++ zeroC b

def castK (t t' : Ty) (l : List (Den t')) (K : List (Den t) → Prop) : Prop :=
  if h : t' = t then (Eq.rec (motive := fun t _ => (List (Den t) → Prop) → Prop) (fun K => K l) h : (List (Den t) → Prop) → Prop) K else False

/-- Data out of cells. -/
def unflatK : (t : Ty) → List C → (Den t → List C → Prop) → Prop
  | .int k, .int k' n :: r, K => if k' = k then K n r else False
  | .bool, .bool b :: r, K => K b r
  | .sl t, .sl t' l _ :: r, K => castK t t' l fun l => K l r
  | .sl _, .nilsl :: r, K => K [] r
  | .sl _, .emp _ :: r, K => K [] r
  | .nil, r, K => K () r
  | .cons a b, r, K => unflatK a r fun x r => unflatK b r fun y r => K (x, y) r
  | _, _, _ => False

/-! ### Lists, step by step -/
def normL : List C → (List C → Prop) → Prop
  | [], K => K []
  | c :: r, K => normL r fun r => K (c :: r)
def getK {α : Type} : List α → Nat → (α → Prop) → Prop
  | [], _, _ => False
  | x :: _, 0, K => K x
  | _ :: r, n + 1, K => getK r n K
def setK {α : Type} : List α → Nat → α → (List α → Prop) → Prop
  | [], _, _, _ => False
  | _ :: r, 0, x, K => K (x :: r)
  | y :: r, n + 1, x, K => setK r n x fun r => K (y :: r)
def findK : List (Nat × Box) → Nat → (Box → Prop) → Prop
  | [], _, _ => False
  | (j, b) :: r, k, K => bif Nat.beq j k then K b else findK r k K
/-- A box is laid at its place. -/
def insK : List (Nat × Box) → Nat → Box → (List (Nat × Box) → Prop) → Prop
  | [], k, b, K => K [(k, b)]
  | (j, c) :: r, k, b, K => bif Nat.beq j k then K ((k, b) :: r) else bif Nat.ble k j then K ((k, b) :: (j, c) :: r) else insK r k b fun r => K ((j, c) :: r)
def remK : List (Nat × Box) → Nat → (List (Nat × Box) → Prop) → Prop
  | [], _, K => K []
  | (j, c) :: r, k, K => bif Nat.beq j k then K r else remK r k fun r => K ((j, c) :: r)
/-- The first o cells, others in the place of the next ones, the rest. -/
def spliceK : List C → Nat → List C → (List C → Prop) → Prop
  | cs, 0, [], K => K cs
  | _ :: cs, 0, d :: ds, K => spliceK cs 0 ds fun r => K (d :: r)
  | c :: cs, n + 1, ds, K => spliceK cs n ds fun r => K (c :: r)
  | [], _, _, _ => False

/-! ### Who speaks of a box -/
def C.says (k : Nat) : C → Bool
  | .ptr j _ => Nat.beq j k
  | .row j => Nat.beq j k
  | .elt j _ _ _ => Nat.beq j k
  | .fn _ caps => caps.any fun p => Nat.beq p.1 k
  | .map j => Nat.beq j k
  | .arr j _ _ _ _ => Nat.beq j k
  | _ => false
def anyC (p : C → Bool) : List C → Bool
  | [] => false
  | c :: r => bif p c then true else anyC p r
def SV.says (k : Nat) : SV → Bool
  | .one c => c.says k
  | .agg cs => anyC (C.says k) cs
  | .tup vs => vs.any fun v => anyC (C.says k) v.2
def Box.says (k : Nat) : Box → Bool
  | .cells _ cs => anyC (C.says k) cs
  | .row _ _ _ => false
  | .rowo _ _ _ _ cs => anyC (C.says k) cs
  | .fmap m => m.any fun p => p.2.says k
  | .bmap _ => false
def tmpsSay (k : Nat) : List SV → Bool
  | [] => false
  | v :: r => bif v.says k then true else tmpsSay k r
def stkSays (k : Nat) : List (List SV) → Bool
  | [] => false
  | v :: r => bif tmpsSay k v then true else stkSays k r
/-- Does a box but this one itself speak of it? -/
def memSays (k : Nat) : List (Nat × Box) → Bool
  | [] => false
  | (j, b) :: r => bif (bif Nat.beq j k then false else b.says k) then true else memSays k r
/-- A row is no longer one's own: what it holds is data, or nothing. -/
def C.frz (c : C) (k : Nat) (d : C) : C :=
  match c with
  | .row j => bif Nat.beq j k then d else .row j
  | .elt j i sz off => bif Nat.beq j k then .undef else .elt j i sz off
  | c => c
def mapK {α : Type} (f : α → α) : List α → (List α → Prop) → Prop
  | [], K => K []
  | c :: r, K => mapK f r fun r => K (f c :: r)
def stkMapK {α : Type} (f : α → α) : List (List α) → (List (List α) → Prop) → Prop
  | [], K => K []
  | l :: r, K => mapK f l fun l => stkMapK f r fun r => K (l :: r)
def frzL (k : Nat) (d : C) : List C → List C
  | [] => []
  | c :: r => c.frz k d :: frzL k d r
def SV.frz (k : Nat) (d : C) : SV → SV
  | .one c => .one (c.frz k d)
  | .agg cs => .agg (frzL k d cs)
  | .tup vs => .tup (vs.map fun v => (v.1, frzL k d v.2))
def Box.frz (k : Nat) (d : C) : Box → Box
  | .cells t cs => .cells t (frzL k d cs)
  | .rowo e t l i cs => .rowo e t l i (frzL k d cs)
  | b => b

/-! ### States -/
def evalK (st : St) (x : Operand) (K : SV → Prop) : Prop :=
  match x with
  | .tmp i => getK st.tmps i K
  | .const (.int k n) => K (.one (.int k n))
  | .const (.bool b) => K (.one (.bool b))
  | .const (.slice none 0 0) => K (.one .nilsl)
  | .const .nilFunc => K (.one .nilfn)
  | .const _ => K (.one .undef)
  | .func f => K (.one (.fn f []))
  | _ => False
def St.withM (st : St) (m : List (Nat × Box)) (K : St → Prop) : Prop :=
  match st with
  | ⟨t, _, s⟩ => K ⟨t, m, s⟩
def St.set (st : St) (i : Nat) (v : SV) (K : St → Prop) : Prop :=
  match st with
  | ⟨t, m, s⟩ => setK t i v fun t => K ⟨t, m, s⟩
def St.put (st : St) (d : Option Tmp) (v : SV) (K : St → Prop) : Prop :=
  match d with
  | none => K st
  | some i => st.set i v K
/-- Row k is removed; what spoke of it says d now. -/
def St.drop (st : St) (k : Nat) (d : C) (K : St → Prop) : Prop :=
  match st with
  | ⟨t, m, s⟩ => remK m k fun m => mapK (SV.frz k d) t fun t => mapK (fun p => (p.1, p.2.frz k d)) m fun m => stkMapK (SV.frz k d) s fun s => K ⟨t, m, s⟩
/-- A new box. -/
def St.new (st : St) (k : Nat) (d : Option Tmp) (b : Box) (K : St → Prop) : Prop :=
  St.put st d (.one .undef) fun st => match st with
    | ⟨t, m, s⟩ => bif tmpsSay k t then False else bif memSays k m then False else bif stkSays k s then False else bif b.says k then False else
      insK m k b fun m => K ⟨t, m, s⟩

/-- A cell of data: own rows are made data. -/
def freezeK0 (st : St) (c : C) (K : St → C → Prop) : Prop :=
  match c with
  | .row k => findK st.mem k fun b => match b with
    | .row _ t l => St.drop st k (.sl t l false) fun st => K st (.sl t l false)
    | _ => False
  | c => K st c
def freezeL0 (st : St) (cs : List C) (K : St → List C → Prop) : Prop :=
  match cs with
  | [] => K st []
  | c :: r => freezeK0 st c fun st c => freezeL0 st r fun st r => K st (c :: r)
/-- An opened element's own rows are made data first. -/
def freezeK (st : St) (c : C) (K : St → C → Prop) : Prop :=
  match c with
  | .row k => findK st.mem k fun b => match b with
    | .row _ t l => St.drop st k (.sl t l false) fun st => K st (.sl t l false)
    | .rowo e t l i cs => freezeL0 st cs fun st cs => unflatK t cs fun y rest => match rest with
      | [] => findK st.mem k fun _ => insK st.mem k (.row e t (l.set i y)) fun m => st.withM m fun st => St.drop st k (.sl t (l.set i y) false) fun st => K st (.sl t (l.set i y) false)
      | _ => False
    | _ => False
  | c => K st c
def freezeL (st : St) (cs : List C) (K : St → List C → Prop) : Prop :=
  match cs with
  | [] => K st []
  | c :: r => freezeK st c fun st c => freezeL st r fun st r => K st (c :: r)
def C.isRow : C → Bool
  | .row _ => true
  | _ => false

/-! ### Operations -/
def wrapK (k : IntKind) (n : Int) : Int :=
  match k with
  | .i64 => wrap64 n
  | k => k.wrap n
/-- A number of a kind, cut to it; hd: it is given a name of its own. -/
def wrapC (hd : Bool) (k : IntKind) (n : Int) (K : SV → Prop) : Prop :=
  match hd with
  | true => match k with
    | .i64 => ∀ z, z = wrap64 n → K (.one (.int .i64 z))
    | k => ∀ z, z = k.wrap n → K (.one (.int k z))
  | false => match k with
    | .i64 => K (.one (.int .i64 (wrap64 n)))
    | k => K (.one (.int k (k.wrap n)))
theorem wrapC_is {hd : Bool} {k : IntKind} {n : Int} {K : SV → Prop} (h : wrapC hd k n K) : K (.one (.int k (wrapK k n))) := by
  cases hd <;> cases k <;> first | exact h | exact h _ rfl

/-- What is loaded from cells. -/
def loadK (T : Tab) (t : TypeId) (cs : List C) (off : Nat) (K : SV → Prop) : Prop :=
  match (T.at t).kind with
  | .str _ | .arr _ _ => normL ((cs.drop off).take (T.at t).size) fun ds => bif Nat.beq ds.length (T.at t).size then K (.agg ds) else False
  | .other => False
  | _ => getK cs off fun c => K (.one c)
def C.isUndef : C → Bool
  | .undef => true
  | _ => false
def SV.cellsK (v : SV) (K : List C → Prop) : Prop :=
  match v with
  | .one c => bif c.isUndef then False else K [c]
  | .agg cs => K cs
  | .tup _ => False

/-- Parts of an aggregate are laid into it. -/
def fillK (place : Nat → Option (Nat × Nat)) (st : St) : List C → List (Nat × Operand) → (List C → Prop) → Prop
  | cs, [], K => K cs
  | cs, (i, x) :: r, K => match place i with
    | none => False
    | some (off, size) => evalK st x fun v => v.cellsK fun ds => bif Nat.beq ds.length size then spliceK cs off ds fun cs => fillK place st cs r K else False
/-- The elements of a literal. -/
def elemsK (t : Ty) : St → Nat → List (Nat × Operand) → (St → List (Den t) → Prop) → Prop
  | st, _, [], K => K st []
  | st, i, (j, x) :: r, K => bif Nat.beq i j then evalK st x fun v => v.cellsK fun ds => freezeL st ds fun st ds => unflatK t ds fun y rest => match rest with
      | [] => elemsK t st (i + 1) r fun st ys => K st (y :: ys)
      | _ => False
    else False

/-- Are two rows of numbers the same? -/
def eqCs : List C → List C → (Bool → Prop) → Prop
  | [], [], K => K true
  | .int .i64 m :: xs, .int .i64 n :: ys, K => eqCs xs ys fun b => K (decide (m = n) && b)
  | _, _, _ => False
def binK (T : Tab) (hd : Bool) (t : TypeId) (op : BinOp) (x y : SV) (K : SV → Prop) : Prop :=
  match x, y with
  | .one (.int k m), .one (.int k' n) =>
    match op with
    | .shl => 0 ≤ n ∧ wrapC hd k (m * 2 ^ (min n.toNat k.bits)) K
    | .shr => 0 ≤ n ∧ K (.one (.int k (m.fdiv (2 ^ (min n.toNat k.bits)))))
    | op => if k = k' then
        match op with
        | .add => wrapC hd k (m + n) K
        | .sub => wrapC hd k (m - n) K
        | .mul => wrapC hd k (m * n) K
        | .quo => n ≠ 0 ∧ wrapC hd k (m.tdiv n) K
        | .rem => n ≠ 0 ∧ K (.one (.int k (m.tmod n)))
        | .and => wrapC hd k ((BitVec.ofInt k.bits m &&& BitVec.ofInt k.bits n).toNat : Int) K
        | .or => wrapC hd k ((BitVec.ofInt k.bits m ||| BitVec.ofInt k.bits n).toNat : Int) K
        | .eql => K (.one (.bool (decide (m = n))))
        | .neq => K (.one (.bool (decide (m ≠ n))))
        | .lss => K (.one (.bool (decide (m < n))))
        | .leq => K (.one (.bool (decide (m ≤ n))))
        | .gtr => K (.one (.bool (decide (n < m))))
        | .geq => K (.one (.bool (decide (n ≤ m))))
        | _ => False
      else False
  | .one (.bool a), .one (.bool b) =>
    match (T.at t).kind with
    | .bool => match op with
      | .eql => K (.one (.bool (a == b)))
      | .neq => K (.one (.bool (!(a == b))))
      | _ => False
    | _ => False
  | .one (.sl _ l _), .one .nilsl =>
    match (T.at t).kind with
    | .sl _ => match op with
      | .eql => ∀ b : Bool, (b = true → l = []) → K (.one (.bool b))
      | _ => False
    | _ => False
  | .one .nilsl, .one .nilsl =>
    match (T.at t).kind with
    | .sl _ => match op with
      | .eql => K (.one (.bool true))
      | _ => False
    | _ => False
  | .one (.fn _ _), .one .nilfn =>
    match (T.at t).kind with
    | .fn => match op with
      | .eql => K (.one (.bool false))
      | .neq => K (.one (.bool true))
      | _ => False
    | _ => False
  | .one .nilfn, .one .nilfn =>
    match (T.at t).kind with
    | .fn => match op with
      | .eql => K (.one (.bool true))
      | .neq => K (.one (.bool false))
      | _ => False
    | _ => False
  | .agg xs, .agg ys =>
    match (T.at t).plainEq with
    | true => match op with
      | .eql => bif Nat.beq xs.length (T.at t).size then eqCs xs ys fun b => K (.one (.bool b)) else False
      | .neq => bif Nat.beq xs.length (T.at t).size then eqCs xs ys fun b => K (.one (.bool (!b))) else False
      | _ => False
    | false => False
  | _, _ => False

def szOk (a b : Nat) : Bool := bif Nat.beq a 0 then false else Nat.beq a b
/-- A cut of a slice of data. -/
def cutK {α : Type} (l : List α) (c : Bool) (lo : Int) (hi mx : Option Int) (K : List α → Bool → Prop) : Prop :=
  match hi, mx with
  | none, none => (0 ≤ lo ∧ lo ≤ l.length) ∧ K (l.drop lo.toNat) c
  | some h, none => (0 ≤ lo ∧ lo ≤ h ∧ h ≤ l.length) ∧ K ((l.take h.toNat).drop lo.toNat) false
  | some h, some m => (0 ≤ lo ∧ lo ≤ h ∧ h = m ∧ m ≤ l.length) ∧ K ((l.take h.toNat).drop lo.toNat) true
  | none, some _ => False
def optIntK (st : St) (x : Option Operand) (K : Option Int → Prop) : Prop :=
  match x with
  | none => K none
  | some x => evalK st x fun v => match v with
    | .one (.int .i64 n) => K (some n)
    | _ => False
/-- A type of an element's size, for a slice of an array: functions lie in one cell. -/
def sTy (i : TI) : Option Ty := match i.ty, i.kind with
  | some t, _ => some t
  | none, .fn => some .bool
  | none, _ => none
def sliceK (T : Tab) (t : TypeId) (x : SV) (lo hi mx : Option Int) (K : SV → Prop) : Prop :=
  match (T.at t).kind, x with
  | .sl e, .one (.sl ty l c) => bif szOk (T.at e).size ty.size then cutK l c (lo.getD 0) hi mx fun l c => K (.one (.sl ty l c)) else False
  | .sl e, .one (.emp ty) => bif szOk (T.at e).size ty.size then match lo, hi, mx with
    | none, some h, none => h = 0 ∧ K (.one (.sl ty [] true))
    | _, _, _ => False
    else False
  | .arr n e, .one (.ptr k off) => bif Nat.beq (T.at e).size 0 then False else match lo, mx, sTy (T.at e) with
    | none, none, some ty => match hi with
      | none => K (.one (.arr k off n n ty))
      | some h => (0 ≤ h ∧ h ≤ n) ∧ K (.one (.arr k off h.toNat n ty))
    | _, _, _ => False
  | _, _ => False
/-- The address of an element. -/
def indexK (T : Tab) (t : TypeId) (st : St) (x : SV) (i : Int) (K : SV → Prop) : Prop :=
  match (T.at t).kind, x with
  | .sl e, .one (.sl ty l _) => bif szOk (T.at e).size ty.size then (0 ≤ i ∧ i < l.length) ∧ K (.one (.ielt ty l i.toNat 0)) else False
  | .sl e, .one (.row k) => findK st.mem k fun bx => match bx with
    | .row _ ty l => bif szOk (T.at e).size ty.size then (0 ≤ i ∧ i < l.length) ∧ K (.one (.elt k i.toNat ty.size 0)) else False
    | _ => False
  | .sl e, .one (.arr k off n _ ty) => bif szOk (T.at e).size ty.size then (0 ≤ i ∧ i < n) ∧ K (.one (.ptr k (off + i.toNat * ty.size))) else False
  | .arr n e, .one (.ptr k off) => bif Nat.beq (T.at e).size 0 then False else (0 ≤ i ∧ i < n) ∧ K (.one (.ptr k (off + i.toNat * (T.at e).size)))
  | .arr n e, .one (.elt k j sz off) => bif Nat.beq (T.at e).size 0 then False else (0 ≤ i ∧ i < n) ∧ K (.one (.elt k j sz (off + i.toNat * (T.at e).size)))
  | .arr n e, .one (.ielt ty l j off) => bif Nat.beq (T.at e).size 0 then False else (0 ≤ i ∧ i < n) ∧ K (.one (.ielt ty l j (off + i.toNat * (T.at e).size)))
  | _, _ => False
def fieldK (T : Tab) (fs : List (Nat × TypeId)) (f : Nat) (v : SV) (K : SV → Prop) : Prop :=
  match fs[f]? with
  | some (d, ft) => bif Nat.beq (T.at ft).size 0 then False else match v with
    | .one (.ptr k off) => K (.one (.ptr k (off + d)))
    | .one (.elt k i sz off) => K (.one (.elt k i sz (off + d)))
    | .one (.ielt ty l i off) => K (.one (.ielt ty l i (off + d)))
    | _ => False
  | none => False
def lenK (st : St) (x : SV) (K : Nat → Prop) : Prop :=
  match x with
  | .one (.sl _ l _) => K l.length
  | .one .nilsl => K 0
  | .one (.emp _) => K 0
  | .one (.arr _ _ n _ _) => K n
  | .one (.row k) => findK st.mem k fun bx => match bx with
    | .row _ _ l => K l.length
    | _ => False
  | _ => False
def loadAtK (T : Tab) (t : TypeId) (st : St) (v : SV) (K : SV → Prop) : Prop :=
  match v with
  | .one (.ptr k off) => findK st.mem k fun bx => match bx with
    | .cells _ cs => loadK T t cs off K
    | _ => False
  | .one (.elt k i sz off) => findK st.mem k fun bx => match bx with
    | .row _ ty l => bif Nat.beq sz ty.size then i < l.length ∧ loadK T t (flat ty (l.getD i (dflt ty))) off K else False
    | .rowo _ ty _ j cs => bif Nat.beq sz ty.size then i = j ∧ loadK T t cs off K else False
    | _ => False
  | .one (.ielt ty l i off) => loadK T t (flat ty (l.getD i (dflt ty))) off K
  | _ => False
def buildK (T : Tab) (t : TypeId) (st : St) (parts : List (Nat × Operand)) (K : SV → Prop) : Prop :=
  match (T.at t).kind, (T.at t).ty with
  | .str fs, some ty => bif fs.any fun f => Nat.beq (T.at f.2).size 0 then False else normL (zeroC ty) fun z => fillK (fun i => (fs[i]?).map fun f => (f.1, (T.at f.2).size)) st z parts fun cs => K (.agg cs)
  | .arr _ e, some ty => bif Nat.beq (T.at e).size 0 then False else normL (zeroC ty) fun z => fillK (fun i => some (i * (T.at e).size, (T.at e).size)) st z parts fun cs => K (.agg cs)
  | .arr n e, none => match (T.at e).kind with
    | .fn => bif Nat.beq (T.at e).size 0 then False else normL (List.replicate n .nilfn) fun z => fillK (fun i => some (i * (T.at e).size, (T.at e).size)) st z parts fun cs => K (.agg cs)
    | _ => False
  | _, _ => False
def capsK (st : St) : List Operand → (List (Nat × Nat) → Prop) → Prop
  | [], K => K []
  | x :: r, K => evalK st x fun v => match v with
    | .one (.ptr k off) => capsK st r fun ps => K ((k, off) :: ps)
    | _ => False
def extractK (v : SV) (i : Nat) (K : SV → Prop) : Prop :=
  match v with
  | .tup vs => getK vs i fun p => match p with
    | (true, cs) => K (.agg cs)
    | (false, [c]) => K (.one c)
    | _ => False
  | _ => False
def tyCons : Ty → Bool
  | .cons _ _ => true
  | _ => false
def lookupK (key : Int) (zero : SV) : List (Int × SV) → (SV → Prop) → Prop
  | [], K => K zero
  | (k, c) :: r, K => (key = k → K c) ∧ (key ≠ k → lookupK key zero r K)

/-- A nil slice of a type. -/
def typedK (T : Tab) (t : TypeId) (v : SV) (K : SV → Prop) : Prop :=
  match v with
  | .one .nilsl => match (T.at t).kind with
    | .sl e => match (T.at e).ty with
      | some ty => K (.one (.emp ty))
      | none => K v
    | _ => K v
  | v => K v
/-- An operation that looks and reckons, and changes nothing. -/
def vRead (T : Tab) (hd : Bool) (o : Oper) (st : St) (K : SV → Prop) : Prop :=
  match o.op with
  | .move x => evalK st x fun v => typedK T o.type v K
  | .assign x => evalK st x fun v => typedK T o.type v K
  | .pick c x y => evalK st c fun vc => match vc with
    | .one (.bool bc) => match bc with
      | true => evalK st x K
      | false => evalK st y K
    | _ => False
  | .build t parts => buildK T t st parts.toList K
  | .load t x => evalK st x fun v => loadAtK T t st v K
  | .nilCheck x => evalK st x fun v => match v with
    | .one (.ptr _ _) => K v
    | .one (.elt _ _ _ _) => K v
    | .one (.ielt _ _ _ _) => K v
    | _ => False
  | .binOp op t x y _ => evalK st x fun vx => evalK st y fun vy => binK T hd t op vx vy K
  | .unOp op _ x => match op with
    | .not => evalK st x fun v => match v with
      | .one (.bool c) => K (.one (.bool (!c)))
      | _ => False
    | _ => False
  | .convert t0 t x => match (T.at t0).kind with
    | .int _ => evalK st x fun v => match v with
      | .one (.int _ n) => match (T.at t).kind with
        | .int k => wrapC hd k n K
        | _ => False
      | _ => False
    | _ => False
  | .makeFunc f first caps => match f with
    | .func f => match first.toList with
      | [] => capsK st caps.toList fun ps => K (.one (.fn f ps))
      | _ => False
    | _ => False
  | .slice t x lo hi mx => evalK st x fun v => optIntK st lo fun lo => optIntK st hi fun hi => optIntK st mx fun mx => sliceK T t v lo hi mx K
  | .fieldAddr t x f => match (T.at t).kind with
    | .str fs => evalK st x fun v => fieldK T fs f v K
    | _ => False
  | .field t x f => match (T.at t).kind with
    | .str fs => match fs[f]? with
      | some (d, ft) => evalK st x fun v => match v with
        | .agg cs => loadK T ft cs d K
        | _ => False
      | none => False
    | _ => False
  | .indexAddr t x i => evalK st x fun v => evalK st i fun vi => match vi with
    | .one (.int .i64 i) => indexK T t st v i K
    | _ => False
  | .index t x i => evalK st x fun v => evalK st i fun vi => match vi with
    | .one (.int .i64 i) => match v with
      | .agg cs => match (T.at t).kind with
        | .arr n e => (0 ≤ i ∧ i < n) ∧ loadK T e cs (i.toNat * (T.at e).size) K
        | _ => False
      | _ => False
    | _ => False
  | .extract x i => evalK st x fun v => extractK v i K
  | .lookup t x i ok => match ok with
    | false => match (T.at t).kind with
      | .map kt vt => match (T.at kt).kind with
        | .int _ => match (T.at vt).kind with
          | .fn => evalK st x fun v => evalK st i fun vi => match vi with
            | .one (.int .i64 i) => match v with
              | .one (.map k) => findK st.mem k fun bx => match bx with
                | .fmap m => lookupK i (.one .nilfn) m K
                | _ => False
              | _ => False
            | _ => False
          | .bool => match (T.at vt).ty with
            | some .bool => evalK st x fun v => evalK st i fun vi => match vi with
              | .one (.int .i64 i) => match v with
                | .one (.map k) => findK st.mem k fun bx => match bx with
                  | .bmap l => K (.one (.bool (decide (i ∈ l))))
                  | _ => False
                | _ => False
              | _ => False
            | _ => False
          | .arr _ _ => match (T.at vt).ty with
            | some ty => bif tyCons ty then evalK st x fun v => evalK st i fun vi => match vi with
              | .one (.int .i64 i) => match v with
                | .one (.map k) => findK st.mem k fun bx => match bx with
                  | .fmap m => normL (zeroC ty) fun z => lookupK i (.agg z) m K
                  | _ => False
                | _ => False
              | _ => False
              else False
            | none => False
          | _ => False
        | _ => False
      | _ => False
    | true => False
  | .call c => match c.callee with
    | .builtin bn => match bn with
      | .len => match c.args.toList with
        | [x] => match c.argTypes.toList with
          | [t] => match (T.at t).kind with
            | .sl e => bif Nat.beq (T.at e).size 0 then False else evalK st x fun v => lenK st v fun n => K (.one (.int .i64 n))
            | _ => False
          | _ => False
        | _ => False
      | .cap => match c.args.toList with
        | [x] => match c.argTypes.toList with
          | [t] => match (T.at t).kind with
            | .sl _ => evalK st x fun v => match v with
              | .one .nilsl => K (.one (.int .i64 0))
              | .one (.emp _) => K (.one (.int .i64 0))
              | _ => False
            | _ => False
          | _ => False
        | _ => False
      | .max => match c.args.toList with
        | [x, y] => evalK st x fun vx => evalK st y fun vy => match vx with
          | .one (.int k m) => match vy with
            | .one (.int k' n) => if k = k' then K (.one (.int k (if n > m then n else m))) else False
            | _ => False
          | _ => False
        | _ => False
      | _ => False
    | _ => False
  | _ => False
/-- Does it look at no memory? -/
def worldless : Op → Bool
  | .load _ _ => false
  | .lookup _ _ _ _ => false
  | _ => true

/-! ### Operations that make and change memory -/
/-- What is appended: data of the element's type. -/
def dataK (st : St) (ty : Ty) (x : SV) (K : List (Den ty) → Prop) : Prop :=
  match x with
  | .one (.sl ty' l _) => castK ty ty' l K
  | .one .nilsl => K []
  | .one (.emp _) => K []
  | .one (.row k) => findK st.mem k fun bx => match bx with
    | .row _ ty' l => castK ty ty' l K
    | _ => False
  | _ => False

def mostElems : Nat := 100000000000
/-- A new row of one's own, as a value. -/
def St.newRow (st : St) (k : Nat) (e : TypeId) (t : Ty) (l : List (Den t)) (K : St → SV → Prop) : Prop :=
  st.new k none (.row e t l) fun st => K st (.one (.row k))
def appendK (T : Tab) (b : Nat) (d : Option Tmp) (t : TypeId) (st : St) (s x : SV) (K : St → SV → Prop) : Prop :=
  match (T.at t).kind with
  | .sl e => match d with
    | some d => match (T.at e).ty with
      | some ty => dataK st ty x fun ys => match s with
        | .one (.emp _) => ys.length ≤ mostElems ∧ st.newRow (b + d) e ty ys K
        | .one .nilsl => ys.length ≤ mostElems ∧ st.newRow (b + d) e ty ys K
        | .one (.sl ty' l c) => match c with
          | true => castK ty ty' l fun l => (l.length + ys.length ≤ mostElems ∧ ys ≠ []) ∧ st.newRow (b + d) e ty (l ++ ys) K
          | false => False
        | .one (.row k) => findK st.mem k fun bx => match bx with
          | .row e' ty' l => bif Nat.beq e' e then castK ty ty' l fun l => l.length + ys.length ≤ mostElems ∧ st.drop k .undef fun st => st.newRow (b + d) e ty (l ++ ys) K else False
          | _ => False
        | _ => False
      | none => False
    | none => False
  | _ => False
/-- append(nil, make(.., n)...): n zeros. -/
def appendZK (T : Tab) (b : Nat) (d : Option Tmp) (t t' : TypeId) (st : St) (s x : SV) (K : St → SV → Prop) : Prop :=
  match (T.at t).kind with
  | .sl e => match (T.at t').kind with
    | .int _ => match d with
      | some d => match (T.at e).ty with
        | some ty => match x with
          | .one (.int _ n) => match s with
            | .one (.sl ty' l c) => match c with
              | true => castK ty ty' l fun l => (0 < n ∧ l.length + n.toNat ≤ mostElems) ∧ st.newRow (b + d) e ty (l ++ List.replicate n.toNat (dflt ty)) K
              | false => False
            | _ => False
          | _ => False
        | none => False
      | none => False
    | _ => False
  | _ => False
/-- The cells of some elements. -/
def flatL (t : Ty) : List (Den t) → (List C → Prop) → Prop
  | [], K => K []
  | x :: r, K => flatL t r fun cs => K (flat t x ++ cs)
def copyK (T : Tab) (t : TypeId) (st : St) (s x : SV) (K : St → SV → Prop) : Prop :=
  match (T.at t).kind with
  | .sl e => match s with
    | .one (.row k) => match (T.at e).ty with
      | some ty => dataK st ty x fun ys => findK st.mem k fun bx => match bx with
        | .row e' ty' l => castK ty ty' l fun l => insK st.mem k (.row e' ty (ys.take l.length ++ l.drop ys.length)) fun m => st.withM m fun st => K st (.one (.int .i64 ((min ys.length l.length : Nat) : Int)))
        | _ => False
      | none => False
    | .one (.arr k off n _ _) => match (T.at e).ty with
      | some ty => dataK st ty x fun ys => ys.length ≤ n ∧ flatL ty ys fun ds => normL ds fun ds => findK st.mem k fun bx => match bx with
        | .cells t' cs => spliceK cs off ds fun cs => insK st.mem k (.cells t' cs) fun m => st.withM m fun st => K st (.one (.int .i64 (ys.length : Int)))
        | _ => False
      | none => False
    | _ => False
  | _ => False
def storeK (T : Tab) (t : TypeId) (st : St) (v : SV) (ds : List C) (K : St → SV → Prop) : Prop :=
  bif (bif szOk (T.at t).size ds.length then !anyC C.isUndef ds else false) then match v with
    | .one (.ptr k off) => findK st.mem k fun bx => match bx with
      | .cells t' cs => spliceK cs off ds fun cs => insK st.mem k (.cells t' cs) fun m => st.withM m fun st => K st (.one .undef)
      | _ => False
    | .one (.elt k i sz off) => bif anyC C.isRow ds then findK st.mem k fun bx => match bx with
      | .row e ty l => bif Nat.beq sz ty.size then i < l.length ∧ normL (flat ty (l.getD i (dflt ty))) fun cs => spliceK cs off ds fun cs => insK st.mem k (.rowo e ty l i cs) fun m => st.withM m fun st => K st (.one .undef) else False
      | _ => False
      else freezeL st ds fun st ds => findK st.mem k fun bx => match bx with
      | .row e ty l => bif Nat.beq sz ty.size then i < l.length ∧ normL (flat ty (l.getD i (dflt ty))) fun cs => spliceK cs off ds fun cs => unflatK ty cs fun y rest => match rest with
        | [] => insK st.mem k (.row e ty (l.set i y)) fun m => st.withM m fun st => K st (.one .undef)
        | _ => False
        else False
      | _ => False
    | _ => False
  else False
/-- A row is cut: from its beginning. -/
def cutRowK (T : Tab) (b : Nat) (d : Option Tmp) (t : TypeId) (st : St) (k : Nat) (lo hi mx : Option Int) (K : St → SV → Prop) : Prop :=
  match (T.at t).kind with
  | .sl e => findK st.mem k fun bx => match bx with
    | .row e' ty l => bif szOk (T.at e).size ty.size then match d, lo, hi, mx with
      | some d, none, some h, none => (0 ≤ h ∧ h ≤ l.length) ∧ st.drop k .undef fun st => st.newRow (b + d) e' ty (l.take h.toNat) K
      | _, _, _, _ => False
      else False
    | _ => False
  | _ => False
/-- Is a cut to [1:]? -/
def isTail (lo hi mx : Option Operand) : Bool :=
  match lo with
  | some (.const (.int .i64 n)) => match hi with
    | none => match mx with
      | none => decide (n = 1)
      | some _ => false
    | some _ => false
  | _ => false
/-- A row is cut: its first element goes. -/
def cutTailK (T : Tab) (b : Nat) (d : Option Tmp) (t : TypeId) (st : St) (k : Nat) (K : St → SV → Prop) : Prop :=
  match (T.at t).kind with
  | .sl e => findK st.mem k fun bx => match bx with
    | .row e' ty l => bif szOk (T.at e).size ty.size then match d with
      | some d => 1 ≤ l.length ∧ st.drop k .undef fun st => st.newRow (b + d) e' ty (l.drop 1) K
      | none => False
      else False
    | _ => False
  | _ => False
def argsK (st : St) : List Operand → (List SV → Prop) → Prop
  | [], K => K []
  | x :: r, K => evalK st x fun v => argsK st r fun vs => K (v :: vs)
def SV.mapVal : SV → Bool
  | .one (.fn _ []) => true
  | .agg cs => cs.all fun c => match c with
    | .int _ _ => true
    | .bool _ => true
    | _ => false
  | _ => false
def insertK (m : List (Int × SV)) (key : Int) (c : SV) (K : List (Int × SV) → Prop) : Prop :=
  match m with
  | [] => K [(key, c)]
  | (k, c') :: r => bif decide (k = key) then False else insertK r key c fun r => K ((k, c') :: r)
def updateK (T : Tab) (t : TypeId) (st : St) (vm vk vx : SV) (K : St → SV → Prop) : Prop :=
  match (T.at t).kind with
  | .map kt _ => match (T.at kt).kind with
    | .int _ => match vm with
      | .one (.map k) => match vk with
        | .one (.int .i64 i) => match vx with
          | .one (.bool true) => findK st.mem k fun bx => match bx with
            | .bmap l => ¬ i ∈ l ∧ insK st.mem k (.bmap (l ++ [i])) fun mm => st.withM mm fun st => K st (.one .undef)
            | _ => False
          | _ => bif vx.mapVal then findK st.mem k fun bx => match bx with
            | .fmap m => insertK m i vx fun m => insK st.mem k (.fmap m) fun mm => st.withM mm fun st => K st (.one .undef)
            | _ => False
          else False
        | _ => False
      | _ => False
    | _ => False
  | _ => False

/-- One operation; b: where the numbers of this call's boxes begin; call: a call of a function. -/
def vOp (T : Tab) (hd : Bool) (call : Nat → List SV → St → (St → SV → Prop) → Prop) (b : Nat) (o : Oper) (st : St) (K : St → SV → Prop) : Prop :=
  match o.op with
  | .alloc t => match o.dst with
    | some d => match (T.at t).ty with
      | some ty => st.new (b + d) (some d) (.cells t (zeroC ty)) fun st => K st (.one (.ptr (b + d) 0))
      | none => match (T.at t).kind with
        | .arr n e => match (T.at e).kind with
          | .fn => normL (List.replicate n .nilfn) fun z => st.new (b + d) (some d) (.cells t z) fun st => K st (.one (.ptr (b + d) 0))
          | _ => False
        | _ => False
    | none => False
  | .box t x => evalK st x fun v => v.cellsK fun cs => match o.dst with
    | some d => st.new (b + d) (some d) (.cells t cs) fun st => K st (.one (.ptr (b + d) 0))
    | none => False
  | .buildSlice t n parts => match (T.at t).kind with
    | .sl e => match o.dst with
      | some d => match (T.at e).ty with
        | some ty => match n with
          | 0 => match parts.toList with
            | [] => K st (.one (.emp ty))
            | _ => False
          | n + 1 => elemsK ty st 0 parts.toList fun st ys => bif (bif Nat.beq ys.length (n + 1) then Nat.ble ((n + 1) * ty.size) 16777216 else false) then st.newRow (b + d) e ty ys K else False
        | none => False
      | none => False
    | _ => False
  | .store t x y => evalK st x fun v => evalK st y fun u => u.cellsK fun ds => storeK T t st v ds K
  | .makeSlice t x y => evalK st x fun vx => evalK st y fun vy => match vx with
    | .one (.int .i64 n) => match vy with
      | .one (.int .i64 m) => match (T.at t).kind with
        | .sl e => match o.dst with
          | some d => match (T.at e).ty with
            | some ty => (0 ≤ n ∧ n ≤ 1000000000 ∧ m = n) ∧ st.newRow (b + d) e ty (List.replicate n.toNat (dflt ty)) K
            | none => False
          | none => False
        | _ => False
      | _ => False
    | _ => False
  | .slice t x lo hi mx => evalK st x fun v => match v with
    | .one (.row k) => bif isTail lo hi mx then cutTailK T b o.dst t st k K else optIntK st lo fun lo => optIntK st hi fun hi => optIntK st mx fun mx => match lo with
      | none => cutRowK T b o.dst t st k none hi mx K
      | some lo => freezeK st (.row k) fun st c => sliceK T t (.one c) (some lo) hi mx fun v => K st v
    | v => optIntK st lo fun lo => optIntK st hi fun hi => optIntK st mx fun mx => sliceK T t v lo hi mx fun v => K st v
  | .makeMap t r => match r with
    | none => match o.dst with
      | some d => match (T.at t).kind with
        | .map _ vt => match (T.at vt).kind with
          | .bool => st.new (b + d) none (.bmap []) fun st => K st (.one (.map (b + d)))
          | _ => st.new (b + d) none (.fmap []) fun st => K st (.one (.map (b + d)))
        | _ => st.new (b + d) none (.fmap []) fun st => K st (.one (.map (b + d)))
      | none => False
    | some _ => False
  | .insert t m k x => evalK st m fun vm => evalK st k fun vk => evalK st x fun vx => updateK T t st vm vk vx K
  | .mapUpdate t m k x => evalK st m fun vm => evalK st k fun vk => evalK st x fun vx => updateK T t st vm vk vx K
  | .call c => match c.callee with
    | .builtin bn => match bn with
      | .append => match c.args.toList with
        | [x, y] => match c.argTypes.toList with
          | [t, t'] => bif Nat.beq t t' then evalK st x fun vx => evalK st y fun vy => appendK T b o.dst t st vx vy K else evalK st x fun vx => evalK st y fun vy => appendZK T b o.dst t t' st vx vy K
          | _ => False
        | _ => False
      | .copy => match c.args.toList with
        | [x, y] => match c.argTypes.toList with
          | [t, _] => evalK st x fun vx => evalK st y fun vy => copyK T t st vx vy K
          | _ => False
        | _ => False
      | _ => vRead T hd o st fun v => K st v
    | .value f => evalK st f fun vf => match vf with
      | .one (.fn f caps) => argsK st c.args.toList fun vs => call f (vs ++ caps.map fun p => .one (.ptr p.1 p.2)) st K
      | _ => False
    | _ => False
  | _ => vRead T hd o st fun v => K st v

/-- Only these slots and boxes are kept. -/
def keepT (L : List Nat) : Nat → List SV → (List SV → Prop) → Prop
  | _, [], K => K []
  | i, v :: r, K => keepT L (i + 1) r fun r => K ((bif L.any (Nat.beq i) then v else .one .undef) :: r)
def keepM (B : List Nat) : List (Nat × Box) → (List (Nat × Box) → Prop) → Prop
  | [], K => K []
  | (j, b) :: r, K => keepM B r fun r => bif B.any (Nat.beq j) then K ((j, b) :: r) else K r
def St.keep (L B : List Nat) (st : St) (K : St → Prop) : Prop :=
  match st with
  | ⟨t, m, s⟩ => keepT L 0 t fun t => keepM B m fun m => K ⟨t, m, s⟩
def boxK : List (Nat × Box) → Nat → Prop → (Box → Prop) → Prop
  | [], _, N, _ => N
  | (j, b) :: r, k, N, K => bif Nat.beq j k then K b else boxK r k N K
/-- An empty slice in a slot is an own row from now on; (1000000, k): row k is data from now on. -/
def rowsK : List (Nat × Nat × TypeId × Ty) → St → (St → Prop) → Prop
  | [], st, K => K st
  | (i, k, e, t) :: r, st, K => bif Nat.ble 1000000 i then boxK st.mem k (rowsK r st K) fun b => match b with
    | .row _ t l => St.drop st k (.sl t l false) fun st => rowsK r st K
    | _ => rowsK r st K
    else getK st.tmps i fun v => match v with
    | .one (.emp _) => st.new k none (.row e t []) fun st => st.set i (.one (.row k)) fun st => rowsK r st K
    | .one .nilsl => st.new k none (.row e t []) fun st => st.set i (.one (.row k)) fun st => rowsK r st K
    | .one (.row _) => rowsK r st K
    | _ => False

/-! ### Plans: in which order a region that draws its order is gone through -/
/-- take: an operation that looks at what stood at the region's beginning; reck: one that looks at no memory; one: the only one that may come next; two, three, four: those that may come next; late: from here on what was taken may be changed. -/
inductive VPlan where
  | done
  | take (i : Nat) (p : VPlan)
  | reck (i : Nat) (p : VPlan)
  | one (i : Nat) (p : VPlan)
  | two (i j : Nat) (p q : VPlan)
  | three (i j k : Nat) (p q r : VPlan)
  | four (i j k l : Nat) (p q r s : VPlan)
  | late (p : VPlan)

/-- Nothing of a box's own. -/
def hasAny (ks : List Nat) : List (Nat × Box) → Bool
  | [] => false
  | (j, _) :: r => bif ks.any (Nat.beq j) then true else hasAny ks r

/-- The boxes that an operation changes. -/
def valOf (st : St) : Operand → SV
  | .tmp i => st.tmps.getD i (.one .undef)
  | .const (.int k n) => .one (.int k n)
  | .const (.bool b) => .one (.bool b)
  | .const (.slice none 0 0) => .one .nilsl
  | .const .nilFunc => .one .nilfn
  | .const _ => .one .undef
  | .func f => .one (.fn f [])
  | _ => .one .undef
def appendsOf (s : SV) : List Nat := match s with | .one (.row k) => [k] | .one (.arr k _ _ _ _) => [k] | _ => []
def storesTo (v : SV) : List Nat := match v with | .one (.ptr k _) => [k] | .one (.elt k _ _ _) => [k] | _ => []
def mapsOf (v : SV) : List Nat := match v with | .one (.map k) => [k] | _ => []
def wrOf (o : Oper) (st : St) : List Nat :=
  match o.op with
  | .store _ x _ => storesTo (valOf st x)
  | .insert _ m _ _ => mapsOf (valOf st m)
  | .mapUpdate _ m _ _ => mapsOf (valOf st m)
  | .slice _ x _ _ _ => appendsOf (valOf st x)
  | .call c => match c.callee with
    | .builtin .append => (match c.args.toList with | [x, _] => appendsOf (valOf st x) | _ => [])
    | .builtin .copy => (match c.args.toList with | [x, _] => appendsOf (valOf st x) | _ => [])
    | _ => []
  | _ => []

/-- What an operation's guard says: run it? -/
def guardK (ops : List Oper) (o : Oper) (st : St) (K : Bool → St → Prop) : Prop :=
  match o.guard with
  | none => K true st
  | some (j, want) => getK ops j fun oj => match oj.dst with
    | none => False
    | some d => getK st.tmps d fun v => match v with
      | .one (.bool c) => match c with
        | true => st.set d (.one (.bool true)) fun st => K want st
        | false => st.set d (.one (.bool false)) fun st => K (!want) st
      | .tup [] => K false st
      | _ => False

/-- The numbers of a memory's boxes. -/
def keysOf : List (Nat × Box) → List Nat
  | [] => []
  | (j, _) :: r => j :: keysOf r
/-- The boxes that a call is handed pointers into. -/
def ptrsL (st : St) : List Operand → List Nat
  | [] => []
  | x :: r => match valOf st x with
    | .one (.ptr k _) => k :: ptrsL st r
    | _ => ptrsL st r
def ptrsOf (o : Oper) (st : St) : List Nat :=
  match o.op with
  | .call c => match c.callee with
    | .value _ => ptrsL st c.args.toList
    | _ => []
  | _ => []
/-- All numbers but these. -/
def lessK (W : List Nat) : List (Nat × Box) → List Nat
  | [] => []
  | (j, _) :: r => bif W.any (Nat.beq j) then lessK W r else j :: lessK W r
/-- Does an operation change a box that it may not change? -/
def hits (F : List Nat) (o : Oper) (st : St) : Bool :=
  match F with
  | [] => false
  | j :: r => (wrOf o st).any fun k => (Nat.beq k j || r.any (Nat.beq k))
/-- The operations of a region, one by one. F: boxes that are not changed. -/
def vOps (T : Tab) (hd : Bool) (call : List Nat → Nat → List SV → St → (St → SV → Prop) → Prop) (F : List Nat) (b : Nat) (ops : List Oper) : List Oper → St → (St → Prop) → Prop
  | [], st, K => K st
  | o :: r, st, K => guardK ops o st fun run st => match run with
    | true => bif hits F o st then False else vOp T hd (call F) b o st fun st v => st.put o.dst v fun st => vOps T hd call F b ops r st K
    | false => st.put o.dst (.tup []) fun st => vOps T hd call F b ops r st K

/-- An operation that looks at no memory; a row that is cut is made data first. -/
def reckK (T : Tab) (hd : Bool) (o : Oper) (st : St) (K : St → SV → Prop) : Prop :=
  match o.op with
  | .slice t x lo hi mx => evalK st x fun v => match v with
    | .one (.row k) => optIntK st lo fun lo => optIntK st hi fun hi => optIntK st mx fun mx => freezeK st (.row k) fun st c => sliceK T t (.one c) lo hi mx fun v => K st v
    | v => optIntK st lo fun lo => optIntK st hi fun hi => optIntK st mx fun mx => sliceK T t v lo hi mx fun v => K st v
  | _ => vRead T hd o st fun v => K st v
def C.scalar : C → Bool
  | .int _ _ => true
  | .bool _ => true
  | _ => false
def SV.scalar : SV → Bool
  | .one c => c.scalar
  | .agg cs => cs.all C.scalar
  | .tup vs => vs.all fun v => v.2.all C.scalar
/-- What is kept of a later value: numbers. -/
def lateV (v : SV) : SV := bif v.scalar then v else .one .undef
/-- Along a plan. sf: what was known at the beginning and is not changed; tmps that are written later say nothing there. -/
def vPlan (T : Tab) (hd : Bool) (call : List Nat → Nat → List SV → St → (St → SV → Prop) → Prop) (F : List Nat) (b : Nat) (ops : List Oper) : VPlan → St → St → (St → Prop) → Prop
  | .done, _, st, K => K st
  | .take i p, sf, st, K => getK ops i fun o => guardK ops o sf fun run sf => guardK ops o st fun run' st => match run, run' with
    | true, true => vRead T hd o sf fun vf => vRead T hd o st fun v => sf.put o.dst vf fun sf => st.put o.dst v fun st => vPlan T hd call F b ops p sf st K
    | false, false => sf.put o.dst (.tup []) fun sf => st.put o.dst (.tup []) fun st => vPlan T hd call F b ops p sf st K
    | _, _ => True
  | .reck i p, sf, st, K => getK ops i fun o => bif worldless o.op then guardK ops o st fun run st => match run with
      | true => reckK T hd o st fun st v => sf.put o.dst (lateV v) fun sf => st.put o.dst v fun st => vPlan T hd call F b ops p sf st K
      | false => sf.put o.dst (.tup []) fun sf => st.put o.dst (.tup []) fun st => vPlan T hd call F b ops p sf st K
    else False
  | .one i p, sf, st, K => stepK i sf st (fun sf st => vPlan T hd call F b ops p sf st K)
  | .two i j p q, sf, st, K => stepK i sf st (fun sf st => vPlan T hd call F b ops p sf st K) ∧ stepK j sf st (fun sf st => vPlan T hd call F b ops q sf st K)
  | .three i j k p q r, sf, st, K => stepK i sf st (fun sf st => vPlan T hd call F b ops p sf st K) ∧ stepK j sf st (fun sf st => vPlan T hd call F b ops q sf st K) ∧ stepK k sf st (fun sf st => vPlan T hd call F b ops r sf st K)
  | .four i j k l p q r s, sf, st, K => stepK i sf st (fun sf st => vPlan T hd call F b ops p sf st K) ∧ stepK j sf st (fun sf st => vPlan T hd call F b ops q sf st K) ∧ stepK k sf st (fun sf st => vPlan T hd call F b ops r sf st K) ∧ stepK l sf st (fun sf st => vPlan T hd call F b ops s sf st K)
  | .late p, sf, st, K => match sf with | ⟨t, _, s⟩ => vPlan T hd call F b ops p ⟨t, [], s⟩ st K
where
  stepK (i : Nat) (sf st : St) (K : St → St → Prop) : Prop :=
    getK ops i fun o => guardK ops o st fun run st => match run with
      | true => bif hits F o st then False else bif hasAny (wrOf o st) sf.mem then False else vOp T hd (call (F ++ (keysOf sf.mem ++ lessK (ptrsOf o st) st.mem))) b o st fun st v => sf.put o.dst (lateV v) fun sf => st.put o.dst v fun st => K sf st
      | false => sf.put o.dst (.tup []) fun sf => st.put o.dst (.tup []) fun st => K sf st
/-- The plan, for the kernel. -/
def VPlan.len : VPlan → Nat
  | .done => 0
  | .take _ p => p.len + 1
  | .reck _ p => p.len + 1
  | .one _ p => p.len + 1
  | .two _ _ p _ => p.len + 1
  | .three _ _ _ p _ _ => p.len + 1
  | .four _ _ _ _ p _ _ _ => p.len + 1
  | .late p => p.len
/-- The steps of a plan. -/
def VPlan.steps : VPlan → List Nat
  | .done => []
  | .take _ p => p.steps
  | .reck _ p => p.steps
  | .one i p => i :: p.steps
  | .two i j p q => i :: j :: (p.steps ++ q.steps)
  | .three i j k p q r => i :: j :: k :: (p.steps ++ (q.steps ++ r.steps))
  | .four i j k l p q r s => i :: j :: k :: l :: (p.steps ++ (q.steps ++ (r.steps ++ s.steps)))
  | .late p => p.steps
/-- The late steps of a plan. -/
def VPlan.lates : VPlan → List Nat
  | .done => []
  | .take _ p => p.lates
  | .reck _ p => p.lates
  | .one _ p => p.lates
  | .two _ _ p q => p.lates ++ q.lates
  | .three _ _ _ p q r => p.lates ++ (q.lates ++ r.lates)
  | .four _ _ _ _ p q r s => p.lates ++ (q.lates ++ (r.lates ++ s.lates))
  | .late p => p.steps
/-- The operations, not yet listed, that wait for i, themselves or through others. -/
def waitsOf (md : Region.Mode) (ops : Array Oper) (listed : Array Bool) (i : Nat) : List Nat → List Nat → List Nat
  | [], acc => acc
  | j :: r, acc => match ops[j]? with
    | some oj => bif (bif listed.getD j true then false else oj.after.any fun e => Region.binds md e && (Nat.beq e.on i || acc.any (Nat.beq e.on))) then waitsOf md ops listed i r (j :: acc) else waitsOf md ops listed i r acc
    | none => waitsOf md ops listed i r acc
def lateOk (md : Region.Mode) (ops : Array Oper) (listed : Array Bool) (i : Nat) : List Nat → Bool
  | [] => true
  | j :: r => (waitsOf md ops listed i (List.range ops.size) []).any (Nat.beq j) && lateOk md ops listed i r
def VPlan.ok (md : Region.Mode) (ops : Array Oper) (late : List Nat) : VPlan → Bool → Array Bool → Bool
  | .done, _, listed => Region.ready md ops listed == []
  | .take i p, m, listed => Region.free md ops listed i && (Region.ready md ops listed).contains i && !m && lateOk md ops listed i late && p.ok md ops late m (listed.setIfInBounds i true)
  | .reck i p, m, listed => Region.free md ops listed i && (Region.ready md ops listed).contains i && p.ok md ops late m (listed.setIfInBounds i true)
  | .one i p, m, listed => Region.ready md ops listed == [i] && (!m || late.any (Nat.beq i)) && p.ok md ops late m (listed.setIfInBounds i true)
  | .two i j p q, m, listed => Region.ready md ops listed == [i, j] && (!m || (late.any (Nat.beq i) && late.any (Nat.beq j))) && p.len == q.len && p.ok md ops late m (listed.setIfInBounds i true) && q.ok md ops late m (listed.setIfInBounds j true)
  | .three i j k p q r, m, listed => Region.ready md ops listed == [i, j, k] && (!m || (late.any (Nat.beq i) && late.any (Nat.beq j) && late.any (Nat.beq k))) && p.len == q.len && p.len == r.len && p.ok md ops late m (listed.setIfInBounds i true) && q.ok md ops late m (listed.setIfInBounds j true) && r.ok md ops late m (listed.setIfInBounds k true)
  | .four i j k l p q r s, m, listed => Region.ready md ops listed == [i, j, k, l] && (!m || (late.any (Nat.beq i) && late.any (Nat.beq j) && late.any (Nat.beq k) && late.any (Nat.beq l))) && p.len == q.len && p.len == r.len && p.len == s.len && p.ok md ops late m (listed.setIfInBounds i true) && q.ok md ops late m (listed.setIfInBounds j true) && r.ok md ops late m (listed.setIfInBounds k true) && s.ok md ops late m (listed.setIfInBounds l true)
  | .late p, _, listed => p.ok md ops late true listed
def planFits (ops : Array Oper) (p : VPlan) : Bool := Region.noSelect ops && p.ok .any ops p.lates false (Array.replicate ops.size false) && Nat.beq p.len ops.size

/-! ### Calls -/
def C.data : C → Bool
  | .int _ _ => true
  | .bool _ => true
  | .sl _ _ _ => true
  | .nilsl => true
  | .emp _ => true
  | .fn _ [] => true
  | .nilfn => true
  | _ => false
def allData : List C → Bool
  | [] => true
  | c :: r => bif c.data then allData r else false
def SV.data : SV → Bool
  | .one c => c.data
  | .agg cs => allData cs
  | .tup vs => vs.all fun v => allData v.2
def svsData : List SV → Bool
  | [] => true
  | v :: r => bif v.data then svsData r else false
/-- As data: of slices nothing is said of their capacity. -/
def C.clean : C → C
  | .sl t l _ => .sl t l false
  | .emp t => .sl t [] false
  | c => c
def cleanL : List C → List C
  | [] => []
  | c :: r => c.clean :: cleanL r
def SV.clean : SV → SV
  | .one c => .one c.clean
  | .agg cs => .agg (cleanL cs)
  | .tup vs => .tup (vs.map fun v => (v.1, cleanL v.2))
/-- So many elements out of cells. -/
def elemsOfK (t : Ty) : Nat → List C → (List (Den t) → Prop) → Prop
  | 0, _, K => K []
  | n + 1, cs, K => unflatK t cs fun x r => elemsOfK t n r fun l => K (x :: l)
/-- What a cell reads as, own rows looked at as data. -/
def viewK (m : List (Nat × Box)) (c : C) (K : C → Prop) : Prop :=
  match c with
  | .row k => findK m k fun b => match b with
    | .row _ t l => K (.sl t l false)
    | _ => False
  | .sl t l _ => K (.sl t l false)
  | .emp t => K (.sl t [] false)
  | .arr k off n cap t => findK m k fun b => match b with
    | .cells _ cs => bif Nat.ble cap 4096 then elemsOfK t n (cs.drop off) fun l => K (.sl t l false) else False
    | _ => False
  | c => K c
def viewL (m : List (Nat × Box)) : List C → (List C → Prop) → Prop
  | [], K => K []
  | c :: r, K => viewK m c fun c => viewL m r fun r => K (c :: r)
def viewV (m : List (Nat × Box)) (v : SV) (K : SV → Prop) : Prop :=
  match v with
  | .one c => viewK m c fun c => K (.one c)
  | .agg cs => viewL m cs fun cs => K (.agg cs)
  | .tup _ => False
def viewVs (m : List (Nat × Box)) : List SV → (List SV → Prop) → Prop
  | [], K => K []
  | v :: r, K => viewV m v fun v => viewVs m r fun r => K (v :: r)
/-- The own rows of a value are made data. -/
def freezeV (st : St) (v : SV) (K : St → SV → Prop) : Prop :=
  match v with
  | .one c => freezeK st c fun st c => K st (.one c)
  | .agg cs => freezeL st cs fun st cs => K st (.agg cs)
  | .tup vs => freezeT st vs fun st vs => K st (.tup vs)
where
  freezeT (st : St) : List (Bool × List C) → (St → List (Bool × List C) → Prop) → Prop
    | [], K => K st []
    | (b, cs) :: r, K => freezeL st cs fun st cs => freezeT st r fun st r => K st ((b, cs) :: r)
def freezeVs (st : St) : List SV → (St → List SV → Prop) → Prop
  | [], K => K st []
  | v :: r, K => freezeV st v fun st v => freezeVs st r fun st r => K st (v :: r)

end Go.Proofs.YtpobngddiifdpaaGreat.V
/- What a symbolic state says of an activation and a world. -/
namespace Go.Proofs.YtpobngddiifdpaaGreat.V
open Go Go.RowKit Go.Proofs.YtpobngddiifdpaaGreat.Hz

/-! ### Data in memory -/
/-- A slice of n elements that are these cells; or an empty one without room, wherever it points. -/
def SX (X : Nat → Prop) (w : World) (v : Value) (n : Nat) (cs : List Value) : Prop := SC X w v n cs ∨ ((∃ ad, v = .slice (some ad) 0 0) ∧ n = 0 ∧ cs = [])
theorem SX.up {X X' : Nat → Prop} {w w' : World} {v : Value} {n : Nat} {cs : List Value} (h : SX X w v n cs) (k : Off X w w') (hX : ∀ b, b < w.heap.size → X' b → X b) : SX X' w' v n cs := h.imp (fun h => h.up k hX) id
theorem SX.one {X : Nat → Prop} {w : World} {v : Value} {n : Nat} {cs : List Value} (h : SX X w v n cs) : v.oneCell' = true := by
  rcases h with h | ⟨⟨ad, rfl⟩, _⟩
  · exact h.one
  · rfl
theorem SX.len {X : Nat → Prop} {w : World} {v : Value} {n : Nat} {cs : List Value} (h : SX X w v n cs) : ∃ ad c, v = .slice ad n c ∧ n ≤ c ∧ c ≤ maxLen := by
  rcases h with h | ⟨⟨ad, rfl⟩, rfl, _⟩
  · exact h.len
  · exact ⟨_, 0, rfl, Nat.le_refl _, by decide⟩
theorem SX.empty {X : Nat → Prop} {w : World} {base : Option Addr} : SX X w (.slice base 0 0) 0 [] := by
  cases base with
  | none => exact .inl (.inl ⟨rfl, rfl, rfl⟩)
  | some ad => exact .inr ⟨⟨ad, rfl⟩, rfl, rfl⟩
def DC (X : Nat → Prop) (w : World) : (t : Ty) → List Value → Den t → Prop
  | .int k, c, n => c = [.int k n]
  | .bool, c, b => c = [.bool b]
  | .sl t, c, l => ∃ v, c = [v] ∧ ∃ cs, SX X w v (List.length l) cs ∧ Chunks (DC X w t) l cs
  | .nil, c, _ => c = []
  | .cons a b, c, x => ∃ c1 c2, c = c1 ++ c2 ∧ DC X w a c1 x.1 ∧ DC X w b c2 x.2
/-- A slice of data. -/
def RSl (X : Nat → Prop) (w : World) (v : Value) (t : Ty) (l : List (Den t)) : Prop := ∃ cs, SX X w v l.length cs ∧ Chunks (DC X w t) l cs

theorem DC.up {X X' : Nat → Prop} {w w' : World} (k : Off X w w') (hX : ∀ b, b < w.heap.size → X' b → X b) : ∀ {t : Ty} {c : List Value} {x : Den t}, DC X w t c x → DC X' w' t c x
  | .int _, _, _, h => h
  | .bool, _, _, h => h
  | .sl t, _, _, ⟨v, e, cs, h1, h2⟩ => ⟨v, e, cs, h1.up k hX, h2.mono fun _ _ h => DC.up k hX (t := t) h⟩
  | .nil, _, _, h => h
  | .cons _ _, _, _, ⟨c1, c2, e, h1, h2⟩ => ⟨c1, c2, e, DC.up k hX h1, DC.up k hX h2⟩
theorem RSl.up {X X' : Nat → Prop} {w w' : World} {v : Value} {t : Ty} {l : List (Den t)} (h : RSl X w v t l) (k : Off X w w') (hX : ∀ b, b < w.heap.size → X' b → X b) : RSl X' w' v t l :=
  h.elim fun cs h => ⟨cs, h.1.up k hX, h.2.mono fun _ _ h => DC.up k hX h⟩
theorem DC.len {X : Nat → Prop} {w : World} : ∀ {t : Ty} {c : List Value} {x : Den t}, DC X w t c x → c.length = t.size
  | .int _, _, _, h => by rw [show _ = _ from h]; rfl
  | .bool, _, _, h => by rw [show _ = _ from h]; rfl
  | .sl _, _, _, ⟨v, e, _⟩ => by rw [e]; rfl
  | .nil, _, _, h => by rw [show _ = _ from h]; rfl
  | .cons a b, _, _, ⟨c1, c2, e, h1, h2⟩ => by rw [e, List.length_append, DC.len h1, DC.len h2]; rfl
theorem DC.one {X : Nat → Prop} {w : World} : ∀ {t : Ty} {c : List Value} {x : Den t}, DC X w t c x → ∀ u ∈ c, u.oneCell' = true
  | .int _, _, _, h, u, hu => by rw [show _ = _ from h, List.mem_singleton] at hu; rw [hu]; rfl
  | .bool, _, _, h, u, hu => by rw [show _ = _ from h, List.mem_singleton] at hu; rw [hu]; rfl
  | .sl _, _, _, ⟨v, e, _, h, _⟩, u, hu => by rw [e, List.mem_singleton] at hu; rw [hu]; exact h.one
  | .nil, _, _, h, u, hu => by rw [show _ = _ from h] at hu; cases hu
  | .cons _ _, _, _, ⟨c1, c2, e, h1, h2⟩, u, hu => by
    rw [e, List.mem_append] at hu
    rcases hu with hu | hu
    · exact DC.one h1 u hu
    · exact DC.one h2 u hu
theorem chunks_one {X : Nat → Prop} {w : World} {t : Ty} {l : List (Den t)} {cs : List Value} (h : Chunks (DC X w t) l cs) : ∀ u ∈ cs, u.oneCell' = true :=
  Chunks.all (fun u => u.oneCell' = true) (fun _ _ h => DC.one h) h

/-! ### Cells, values -/
structure Env where
  blk : Nat → Nat
  rv : Nat → Value
  live : Nat → Bool

/-- An empty slice that has no room. -/
def Emp (_X : Nat → Prop) (_w : World) (v : Value) : Prop := ∃ base, v = .slice base 0 0
theorem Emp.up {X X' : Nat → Prop} {w w' : World} {v : Value} (h : Emp X w v) (_k : Off X w w') (_hX : ∀ b, b < w.heap.size → X' b → X b) : Emp X' w' v := h
/-- Where in its block a slice begins. -/
def ofV : Value → Nat
  | .slice (some ad) _ _ => ad.off
  | _ => 0
def RC (X : Nat → Prop) (w : World) (E : Env) : Value → C → Prop
  | v, .int k n => v = .int k n
  | v, .bool b => v = .bool b
  | v, .sl t l c => RSl X w v t l ∧ (c = true → ∃ ad, v = .slice ad l.length l.length)
  | v, .nilsl => v = .slice none 0 0
  | v, .emp _ => Emp X w v
  | v, .ptr k off => v = .pointer (some ⟨E.blk k, off, none⟩)
  | v, .row k => v = E.rv k ∧ v.oneCell' = true
  | v, .elt k i sz off => v = .pointer (some ⟨E.blk k, ofV (E.rv k) + i * sz + off, none⟩)
  | v, .ielt t l i off => i < l.length ∧ ∃ b o cs, v = .pointer (some ⟨b, o + i * t.size + off, none⟩) ∧ ¬ X b ∧ b < w.heap.size ∧ Chunks (DC X w t) l cs ∧ Row w b o cs
  | v, .fn f caps => v = .func (.func f) #[] (caps.map fun p => Value.pointer (some ⟨E.blk p.1, p.2, none⟩)).toArray
  | v, .nilfn => v = .nilFunc
  | v, .map k => v = .map (some (E.blk k))
  | v, .arr k off n cap _ => v = .slice (some ⟨E.blk k, off, none⟩) n cap ∧ n ≤ cap
  | _, .undef => True

def RCs (X : Nat → Prop) (w : World) (E : Env) : List Value → List C → Prop
  | [], [] => True
  | v :: vs, c :: cs => RC X w E v c ∧ RCs X w E vs cs
  | _, _ => False

/-- How a component of a tuple reads. -/
def RP (X : Nat → Prop) (w : World) (E : Env) (v : Value) (p : Bool × List C) : Prop :=
  match p.1 with
  | true => ∃ vs, v = .agg vs.toArray ∧ RCs X w E vs p.2
  | false => ∃ c, p.2 = [c] ∧ RC X w E v c
def RPs (X : Nat → Prop) (w : World) (E : Env) : List Value → List (Bool × List C) → Prop
  | [], [] => True
  | v :: vs, c :: cs => RP X w E v c ∧ RPs X w E vs cs
  | _, _ => False
def RV (X : Nat → Prop) (w : World) (E : Env) : Value → SV → Prop
  | v, .one c => RC X w E v c
  | v, .agg cs => ∃ vs, v = .agg vs.toArray ∧ RCs X w E vs cs
  | v, .tup l => ∃ vs, v = .tuple vs.toArray ∧ RPs X w E vs l
def RVs (X : Nat → Prop) (w : World) (E : Env) : List Value → List SV → Prop
  | [], [] => True
  | v :: vs, c :: cs => RV X w E v c ∧ RVs X w E vs cs
  | _, _ => False

/-- Two environments agree on what is said. -/
def Env.agree (E E' : Env) (p : Nat → Bool) : Prop := ∀ j, p j = true → E'.blk j = E.blk j ∧ E'.rv j = E.rv j

section
variable {X X' : Nat → Prop} {w w' : World} {E E' : Env}
theorem RC.up {v : Value} {c : C} (h : RC X w E v c) (k : Off X w w') (hX : ∀ b, b < w.heap.size → X' b → X b) (hE : E.agree E' (fun j => c.says j)) : RC X' w' E' v c := by
  cases c with
  | int => exact h
  | bool => exact h
  | sl t l c => exact ⟨h.1.up k hX, h.2⟩
  | nilsl => exact h
  | emp => exact Emp.up h k hX
  | ptr j off => have := (hE j (by simp [C.says])).1; show v = .pointer (some ⟨E'.blk j, off, none⟩); rw [this]; exact h
  | row j => have := (hE j (by simp [C.says])).2; show v = E'.rv j ∧ _; rw [this]; exact h
  | elt j i sz off => have := hE j (by simp [C.says]); show v = .pointer (some ⟨E'.blk j, ofV (E'.rv j) + i * sz + off, none⟩); rw [this.1, this.2]; exact h
  | ielt t l i off =>
    obtain ⟨hi, b, o, cs, e, h1, h2, h3, h4⟩ := h
    exact ⟨hi, b, o, cs, e, fun hx => h1 (hX b h2 hx), Nat.lt_of_lt_of_le h2 k.size, h3.mono fun _ _ h => DC.up k hX h, h4.to (k.block b h2 h1)⟩
  | fn f caps =>
    show v = .func (.func f) #[] (caps.map fun p => Value.pointer (some ⟨E'.blk p.1, p.2, none⟩)).toArray
    rw [show v = .func (.func f) #[] (caps.map fun p => Value.pointer (some ⟨E.blk p.1, p.2, none⟩)).toArray from h]
    congr 2
    apply List.map_congr_left
    intro p hp
    rw [(hE p.1 (by simp only [C.says, List.any_eq_true]; exact ⟨p, hp, by simp⟩)).1]
  | nilfn => exact h
  | map j => have := (hE j (by simp [C.says])).1; show v = .map (some (E'.blk j)); rw [this]; exact h
  | arr j off n cap t => have := (hE j (by simp [C.says])).1; show v = .slice (some ⟨E'.blk j, off, none⟩) n cap ∧ _; rw [this]; exact h
  | undef => trivial
theorem anyC_iff {p : C → Bool} : ∀ {cs : List C}, anyC p cs = true ↔ ∃ c ∈ cs, p c = true
  | [] => by simp [anyC]
  | c :: r => by
    unfold anyC
    cases hp : p c <;> simp [hp, anyC_iff (cs := r)]
theorem anyC_cons (p : C → Bool) (c : C) (cs : List C) : anyC p (c :: cs) = (p c || anyC p cs) := by
  show (bif p c then true else anyC p cs) = _
  cases p c <;> rfl
theorem tmpsSay_cons (k : Nat) (c : SV) (cs : List SV) : tmpsSay k (c :: cs) = (c.says k || tmpsSay k cs) := by
  show (bif c.says k then true else tmpsSay k cs) = _
  cases c.says k <;> rfl
theorem Env.agree.mono {p q : Nat → Bool} (h : E.agree E' p) (hq : ∀ j, q j = true → p j = true) : E.agree E' q := fun j hj => h j (hq j hj)
theorem RCs.up : ∀ {vs : List Value} {cs : List C}, RCs X w E vs cs → Off X w w' → (∀ b, b < w.heap.size → X' b → X b) → E.agree E' (fun j => anyC (C.says j) cs) → RCs X' w' E' vs cs
  | [], [], _, _, _, _ => trivial
  | _ :: _, c :: cs, h, k, hX, hE => ⟨h.1.up k hX <| hE.mono fun j hj => by simp only [anyC_cons, Bool.or_eq_true]; exact .inl hj, RCs.up h.2 k hX <| hE.mono fun j hj => by simp only [anyC_cons, Bool.or_eq_true]; exact .inr hj⟩
  | [], _ :: _, h, _, _, _ => h.elim
  | _ :: _, [], h, _, _, _ => h.elim
theorem RP.up {v : Value} {p : Bool × List C} (h : RP X w E v p) (k : Off X w w') (hX : ∀ b, b < w.heap.size → X' b → X b) (hE : E.agree E' (fun j => anyC (C.says j) p.2)) : RP X' w' E' v p := by
  unfold RP at h ⊢
  split at h
  · obtain ⟨vs, e, h⟩ := h; exact ⟨vs, e, h.up k hX hE⟩
  · obtain ⟨c, e, h⟩ := h; exact ⟨c, e, h.up k hX <| hE.mono fun j hj => by simp only [e, anyC_cons, Bool.or_eq_true]; exact .inl hj⟩
theorem RPs.up : ∀ {vs : List Value} {ps : List (Bool × List C)}, RPs X w E vs ps → Off X w w' → (∀ b, b < w.heap.size → X' b → X b) → E.agree E' (fun j => ps.any fun p => anyC (C.says j) p.2) → RPs X' w' E' vs ps
  | [], [], _, _, _, _ => trivial
  | _ :: _, c :: cs, h, k, hX, hE => ⟨h.1.up k hX <| hE.mono fun j hj => by simp only [List.any_cons, Bool.or_eq_true]; exact .inl hj, RPs.up h.2 k hX <| hE.mono fun j hj => by simp only [List.any_cons, Bool.or_eq_true]; exact .inr hj⟩
  | [], _ :: _, h, _, _, _ => h.elim
  | _ :: _, [], h, _, _, _ => h.elim
theorem RV.up {v : Value} {s : SV} (h : RV X w E v s) (k : Off X w w') (hX : ∀ b, b < w.heap.size → X' b → X b) (hE : E.agree E' (fun j => s.says j)) : RV X' w' E' v s := by
  cases s with
  | one c => exact RC.up h k hX hE
  | agg cs => obtain ⟨vs, e, h⟩ := h; exact ⟨vs, e, h.up k hX hE⟩
  | tup ps => obtain ⟨vs, e, h⟩ := h; exact ⟨vs, e, h.up k hX hE⟩
theorem RVs.up : ∀ {vs : List Value} {cs : List SV}, RVs X w E vs cs → Off X w w' → (∀ b, b < w.heap.size → X' b → X b) → E.agree E' (fun j => tmpsSay j cs) → RVs X' w' E' vs cs
  | [], [], _, _, _, _ => trivial
  | _ :: _, c :: cs, h, k, hX, hE => ⟨h.1.up k hX <| hE.mono fun j hj => by simp only [tmpsSay_cons, Bool.or_eq_true]; exact .inl hj, RVs.up h.2 k hX <| hE.mono fun j hj => by simp only [tmpsSay_cons, Bool.or_eq_true]; exact .inr hj⟩
  | [], _ :: _, h, _, _, _ => h.elim
  | _ :: _, [], h, _, _, _ => h.elim
end

/-! ### Boxes and states -/
def RFm (X : Nat → Prop) (w : World) (E : Env) : List MapEntry → List (Int × SV) → Prop
  | [], [] => True
  | e :: es, p :: ps => e.key = .int .i64 p.1 ∧ RV X w E e.val p.2 ∧ RFm X w E es ps
  | _, _ => False
/-- A set of numbers, as a map. -/
def trues (l : List Int) : List (Int × SV) := l.map fun p => (p, .one (.bool true))
theorem trues_says (l : List Int) (k : Nat) : ((trues l).any fun p => p.2.says k) = false := by
  induction l with
  | nil => rfl
  | cons p l ih => exact ih
/-- A row of data that is one's own: the block that holds it, behind what is not reached any more. -/
def RRow (X : Nat → Prop) (w : World) (e : TypeId) (t : Ty) (g : Nat) (v : Value) (l : List (Den t)) : Prop :=
  ∃ (pre : List Value) (cap : Nat) (cur : List Value), v = .slice (some ⟨g, pre.length, none⟩) l.length cap ∧ w.heap[g]? = some (.cells (pre ++ cur).toArray e (0, 0)) ∧ l.length ≤ cap ∧ cap ≤ maxLen ∧ cur.length = cap * t.size ∧ Chunks (DC X w t) l (cur.take (l.length * t.size))
/-- One of its elements is opened: what its cells hold may be own rows. -/
def RRowo (X : Nat → Prop) (w : World) (E : Env) (e : TypeId) (t : Ty) (g : Nat) (v : Value) (l : List (Den t)) (i : Nat) (cs : List C) : Prop :=
  ∃ (pre : List Value) (cap : Nat) (cur us c1 c3 : List Value), v = .slice (some ⟨g, pre.length, none⟩) l.length cap ∧ w.heap[g]? = some (.cells (pre ++ cur).toArray e (0, 0)) ∧ l.length ≤ cap ∧ cap ≤ maxLen ∧ cur.length = cap * t.size ∧ i < l.length ∧
    cur.take (l.length * t.size) = c1 ++ (us ++ c3) ∧ c1.length = i * t.size ∧ us.length = t.size ∧ RCs X w E us cs ∧ Chunks (DC X w t) (l.take i) c1 ∧ Chunks (DC X w t) (l.drop (i + 1)) c3
theorem row_body {w : World} {g : Nat} {pre cur : List Value} {t : TypeId} (h : w.heap[g]? = some (.cells (pre ++ cur).toArray t (0, 0))) : Row w g pre.length cur := by
  have h1 := row_box h
  rw [List.toList_toArray] at h1
  have h2 := h1.right
  rw [Nat.zero_add] at h2
  exact h2
def RB (X : Nat → Prop) (w : World) (E : Env) (k : Nat) : Box → Prop
  | .cells t cs => E.live k = true ∧ ∃ vs, w.heap[E.blk k]? = some (.cells vs.toArray t (0, 0)) ∧ RCs X w E vs cs
  | .row e t l => match E.live k with
    | true => RRow X w e t (E.blk k) (E.rv k) l
    | false => Emp X w (E.rv k) ∧ l = []
  | .rowo e t l i cs => E.live k = true ∧ RRowo X w E e t (E.blk k) (E.rv k) l i cs
  | .fmap m => E.live k = true ∧ ∃ es clock, w.heap[E.blk k]? = some (.map es clock) ∧ RFm X w E es.toList m
  | .bmap l => E.live k = true ∧ ∃ es clock, w.heap[E.blk k]? = some (.map es clock) ∧ RFm X w E es.toList (trues l)

/-- The blocks that this call, or those that called it, may still write. -/
def own (X0 : Nat → Prop) (E : Env) (mem : List (Nat × Box)) : Nat → Prop := fun b => X0 b ∨ ∃ k bx, (k, bx) ∈ mem ∧ E.live k = true ∧ E.blk k = b

def RStk (X : Nat → Prop) (w : World) (E : Env) : List (Array Value) → List (List SV) → Prop
  | [], [] => True
  | a :: as, t :: ts => RVs X w E a.toList t ∧ RStk X w E as ts
  | _, _ => False

def Sorted (m : List (Nat × Box)) : Prop := m.Pairwise fun p q => p.1 < q.1

/-- The slots of those that called; what is asked of each box's number and block. -/
structure Cx where
  as : List (Array Value)
  pr : Nat → Nat → Prop
structure RE (X0 : Nat → Prop) (w0 : World) (as : Cx) (E : Env) (st : St) (a : Act) (w : World) : Prop where
  apart : ∀ b, X0 b → b < w.heap.size ∧ ∀ k bx, (k, bx) ∈ st.mem → E.live k = true → E.blk k ≠ b
  below : Below w0.heap.size w0 w
  defers : a.defers = []
  tmps : RVs (own X0 E st.mem) w E a.tmps.toList st.tmps
  mem : ∀ k bx, (k, bx) ∈ st.mem → RB (own X0 E st.mem) w E k bx
  place : ∀ k bx, (k, bx) ∈ st.mem → E.live k = true → w0.heap.size ≤ E.blk k ∧ E.blk k < w.heap.size
  keys : Sorted st.mem
  inj : ∀ k bx k' bx', (k, bx) ∈ st.mem → (k', bx') ∈ st.mem → E.live k = true → E.live k' = true → E.blk k = E.blk k' → k = k'
  stk : RStk (own X0 E st.mem) w E as.as st.stk
  prot : ∀ k bx, (k, bx) ∈ st.mem → E.live k = true → as.pr k (E.blk k)
  prN : ∀ k b, w.heap.size ≤ b → as.pr k b

def R (X0 : Nat → Prop) (w0 : World) (as : Cx) (st : St) (a : Act) (w : World) : Prop := ∃ E, RE X0 w0 as E st a w

/-! ### Lists, step by step: what it says -/
theorem getK_is {α : Type} {K : α → Prop} : ∀ {l : List α} {i : Nat}, getK l i K → ∃ x, l[i]? = some x ∧ K x
  | [], _, h => h.elim
  | x :: _, 0, h => ⟨x, rfl, h⟩
  | _ :: r, n + 1, h => by simpa using getK_is (l := r) (i := n) h
theorem setK_is {α : Type} {x : α} : ∀ {l : List α} {i : Nat} {K : List α → Prop}, setK l i x K → i < l.length ∧ K (l.set i x)
  | [], _, _, h => h.elim
  | _ :: _, 0, _, h => ⟨by simp, h⟩
  | _ :: r, n + 1, _, h => by have := setK_is (l := r) (i := n) h; exact ⟨by simpa using this.1, this.2⟩
theorem normL_is : ∀ {l : List C} {K : List C → Prop}, normL l K → K l
  | [], _, h => h
  | c :: r, K, h => normL_is (l := r) (K := fun r => K (c :: r)) h
theorem mapK_is {α : Type} {f : α → α} : ∀ {l : List α} {K : List α → Prop}, mapK f l K → K (l.map f)
  | [], _, h => h
  | c :: r, K, h => mapK_is (l := r) (K := fun r => K (f c :: r)) h
theorem stkMapK_is {α : Type} {f : α → α} : ∀ {l : List (List α)} {K : List (List α) → Prop}, stkMapK f l K → K (l.map fun l => l.map f)
  | [], _, h => h
  | c :: r, K, h => stkMapK_is (l := r) (K := fun r => K (c.map f :: r)) (mapK_is h)
theorem findK_is {K : Box → Prop} : ∀ {m : List (Nat × Box)} {k : Nat}, findK m k K → ∃ b, (k, b) ∈ m ∧ K b
  | [], _, h => h.elim
  | (j, b) :: r, k, h => by
    unfold findK at h
    cases hj : Nat.beq j k with
    | true => rw [hj] at h; exact ⟨b, by rw [Nat.eq_of_beq_eq_true hj]; simp, h⟩
    | false => rw [hj] at h; obtain ⟨b', h1, h2⟩ := findK_is (m := r) h; exact ⟨b', List.mem_cons_of_mem _ h1, h2⟩
theorem ble_false {k j : Nat} (h : Nat.ble k j = false) : j < k := by
  rcases Nat.lt_or_ge j k with c | c
  · exact c
  · rw [Nat.ble_eq_true_of_le c] at h; cases h
theorem beq_false {k j : Nat} (h : Nat.beq j k = false) : j ≠ k := fun e => by rw [e, Nat.beq_refl] at h; cases h
theorem insK_is {b : Box} : ∀ {m : List (Nat × Box)} {k : Nat} {K : List (Nat × Box) → Prop}, insK m k b K → Sorted m →
    ∃ m', K m' ∧ Sorted m' ∧ (∀ p, p ∈ m' ↔ p = (k, b) ∨ p ∈ m ∧ p.1 ≠ k)
  | [], k, K, h, _ => ⟨[(k, b)], h, by simp [Sorted], by simp⟩
  | (j, c) :: r, k, K, h, hs => by
    have hs' := List.pairwise_cons.1 hs
    unfold insK at h
    cases hj : Nat.beq j k with
    | true =>
      rw [hj] at h
      have e := Nat.eq_of_beq_eq_true hj
      subst e
      refine ⟨_, h, List.pairwise_cons.2 ⟨fun p hp => hs'.1 p hp, hs'.2⟩, fun p => ?_⟩
      simp only [List.mem_cons]
      constructor
      · rintro (rfl | hp)
        · exact .inl rfl
        · have := hs'.1 p hp; exact .inr ⟨.inr hp, by simp at this; omega⟩
      · rintro (rfl | ⟨rfl | hp, hn⟩)
        · exact .inl rfl
        · exact absurd rfl hn
        · exact .inr hp
    | false =>
      rw [hj] at h
      have hne := beq_false hj
      cases hb : Nat.ble k j with
      | true =>
        rw [hb] at h
        have hlt : k < j := by have := Nat.le_of_ble_eq_true hb; omega
        refine ⟨_, h, List.pairwise_cons.2 ⟨fun p hp => ?_, hs⟩, fun p => ?_⟩
        · rcases List.mem_cons.1 hp with rfl | hp
          · exact hlt
          · have := hs'.1 p hp; simp at this ⊢; omega
        · rw [List.mem_cons]
          constructor
          · rintro (rfl | hp)
            · exact .inl rfl
            · refine .inr ⟨hp, ?_⟩
              rcases List.mem_cons.1 hp with rfl | hp
              · simp; omega
              · have := hs'.1 p hp; simp at this; omega
          · rintro (rfl | ⟨hp, _⟩)
            · exact .inl rfl
            · exact .inr hp
      | false =>
        rw [hb] at h
        have hlt := ble_false hb
        obtain ⟨m', h1, h2, h3⟩ := insK_is (m := r) h hs'.2
        refine ⟨_, h1, List.pairwise_cons.2 ⟨fun p hp => ?_, h2⟩, fun p => ?_⟩
        · rcases (h3 p).1 hp with rfl | ⟨hp, _⟩
          · exact hlt
          · exact hs'.1 p hp
        · simp only [List.mem_cons, h3]
          constructor
          · rintro (rfl | rfl | ⟨hp, hn⟩)
            · exact .inr ⟨.inl rfl, hne⟩
            · exact .inl rfl
            · exact .inr ⟨.inr hp, hn⟩
          · rintro (rfl | ⟨rfl | hp, hn⟩)
            · exact .inr (.inl rfl)
            · exact .inl rfl
            · exact .inr (.inr ⟨hp, hn⟩)
theorem remK_is : ∀ {m : List (Nat × Box)} {k : Nat} {K : List (Nat × Box) → Prop}, remK m k K → Sorted m →
    ∃ m', K m' ∧ Sorted m' ∧ (∀ p, p ∈ m' ↔ p ∈ m ∧ p.1 ≠ k)
  | [], k, K, h, _ => ⟨[], h, by simp [Sorted], by simp⟩
  | (j, c) :: r, k, K, h, hs => by
    have hs' := List.pairwise_cons.1 hs
    unfold remK at h
    cases hj : Nat.beq j k with
    | true =>
      rw [hj] at h
      have e := Nat.eq_of_beq_eq_true hj
      subst e
      refine ⟨_, h, hs'.2, fun p => ?_⟩
      rw [List.mem_cons]
      constructor
      · intro hp; have := hs'.1 p hp; exact ⟨.inr hp, by simp at this; omega⟩
      · rintro ⟨rfl | hp, hn⟩
        · exact absurd rfl hn
        · exact hp
    | false =>
      rw [hj] at h
      have hne := beq_false hj
      obtain ⟨m', h1, h2, h3⟩ := remK_is (m := r) h hs'.2
      refine ⟨_, h1, List.pairwise_cons.2 ⟨fun p hp => hs'.1 p ((h3 p).1 hp).1, h2⟩, fun p => ?_⟩
      simp only [List.mem_cons, h3]
      constructor
      · rintro (rfl | ⟨hp, hn⟩)
        · exact ⟨.inl rfl, hne⟩
        · exact ⟨.inr hp, hn⟩
      · rintro ⟨rfl | hp, hn⟩
        · exact .inl rfl
        · exact .inr ⟨hp, hn⟩
theorem spliceK_is : ∀ {ds cs : List C} {o : Nat} {K : List C → Prop}, spliceK cs o ds K → o + ds.length ≤ cs.length ∧ K (cs.take o ++ (ds ++ cs.drop (o + ds.length)))
  | [], cs, 0, K, h => by cases cs <;> simpa [spliceK] using h
  | d :: ds, c :: cs, 0, K, h => by
    have := spliceK_is (ds := ds) (cs := cs) (o := 0) (K := fun r => K (d :: r)) h
    refine ⟨by have := this.1; simp at this ⊢; omega, ?_⟩
    have h2 := this.2
    simp only [Nat.zero_add] at h2
    simpa using h2
  | [], c :: cs, o + 1, K, h => by
    have := spliceK_is (ds := []) (cs := cs) (o := o) (K := fun r => K (c :: r)) h
    refine ⟨by have := this.1; simp at this ⊢; omega, ?_⟩
    simpa using this.2
  | d :: ds, c :: cs, o + 1, K, h => by
    have := spliceK_is (ds := d :: ds) (cs := cs) (o := o) (K := fun r => K (c :: r)) h
    refine ⟨by have := this.1; simp at this ⊢; omega, ?_⟩
    have h2 := this.2
    rw [show o + 1 + (d :: ds).length = (o + (d :: ds).length) + 1 by omega]
    simpa using h2
  | [], [], o + 1, _, h => by simp [spliceK] at h
  | d :: ds, [], o, _, h => by cases o <;> simp [spliceK] at h
end Go.Proofs.YtpobngddiifdpaaGreat.V
/- How a state goes on: a slot is set, a box is made, changed, given up. -/
namespace Go.Proofs.YtpobngddiifdpaaGreat.V
open Go Go.RowKit Go.Proofs.YtpobngddiifdpaaGreat.Hz

section
variable {X X' X0 : Nat → Prop} {w w' w0 : World} {E E' : Env} {as : Cx} {st : St} {a : Act}

theorem RVs.len : ∀ {vs : List Value} {cs : List SV}, RVs X w E vs cs → vs.length = cs.length
  | [], [], _ => rfl
  | _ :: _, _ :: _, h => by simp [RVs.len h.2]
  | [], _ :: _, h => h.elim
  | _ :: _, [], h => h.elim
theorem RVs.at : ∀ {vs : List Value} {cs : List SV} {i : Nat} {c : SV}, RVs X w E vs cs → cs[i]? = some c → ∃ v, vs[i]? = some v ∧ RV X w E v c
  | [], [], _, _, _, hc => by simp at hc
  | v :: _, c' :: _, 0, c, h, hc => ⟨v, rfl, (show c' = c by simpa using hc) ▸ h.1⟩
  | _ :: vs, _ :: cs, i + 1, c, h, hc => by simpa using RVs.at (i := i) h.2 (by simpa using hc)
  | [], _ :: _, _, _, h, _ => h.elim
  | _ :: _, [], _, _, h, _ => h.elim
theorem RVs.set : ∀ {vs : List Value} {cs : List SV} {i : Nat} {v : Value} {c : SV}, RVs X w E vs cs → RV X w E v c → RVs X w E (vs.set i v) (cs.set i c)
  | [], [], _, _, _, _, _ => trivial
  | _ :: _, _ :: _, 0, _, _, h, hv => ⟨hv, h.2⟩
  | _ :: _, _ :: _, _ + 1, _, _, h, hv => ⟨h.1, RVs.set h.2 hv⟩
  | [], _ :: _, _, _, _, h, _ => h.elim
  | _ :: _, [], _, _, _, h, _ => h.elim
theorem RCs.len : ∀ {vs : List Value} {cs : List C}, RCs X w E vs cs → vs.length = cs.length
  | [], [], _ => rfl
  | _ :: _, _ :: _, h => by simp [RCs.len h.2]
  | [], _ :: _, h => h.elim
  | _ :: _, [], h => h.elim
theorem RCs.at : ∀ {vs : List Value} {cs : List C} {i : Nat} {c : C}, RCs X w E vs cs → cs[i]? = some c → ∃ v, vs[i]? = some v ∧ RC X w E v c
  | [], [], _, _, _, hc => by simp at hc
  | v :: _, c' :: _, 0, c, h, hc => ⟨v, rfl, (show c' = c by simpa using hc) ▸ h.1⟩
  | _ :: vs, _ :: cs, i + 1, c, h, hc => by simpa using RCs.at (i := i) h.2 (by simpa using hc)
  | [], _ :: _, _, _, h, _ => h.elim
  | _ :: _, [], _, _, h, _ => h.elim
theorem RCs.append : ∀ {vs us : List Value} {cs ds : List C}, RCs X w E vs cs → RCs X w E us ds → RCs X w E (vs ++ us) (cs ++ ds)
  | [], _, [], _, _, k => k
  | _ :: _, _, _ :: _, _, h, k => ⟨h.1, RCs.append h.2 k⟩
  | [], _, _ :: _, _, h, _ => h.elim
  | _ :: _, _, [], _, h, _ => h.elim
theorem RCs.take : ∀ {vs : List Value} {cs : List C} (n : Nat), RCs X w E vs cs → RCs X w E (vs.take n) (cs.take n)
  | _, _, 0, _ => trivial
  | [], [], _ + 1, _ => trivial
  | _ :: _, _ :: _, n + 1, h => ⟨h.1, RCs.take n h.2⟩
  | [], _ :: _, _ + 1, h => h.elim
  | _ :: _, [], _ + 1, h => h.elim
theorem RCs.drop : ∀ {vs : List Value} {cs : List C} (n : Nat), RCs X w E vs cs → RCs X w E (vs.drop n) (cs.drop n)
  | _, _, 0, h => h
  | [], [], _ + 1, _ => trivial
  | _ :: _, _ :: _, n + 1, h => RCs.drop n h.2
  | [], _ :: _, _ + 1, h => h.elim
  | _ :: _, [], _ + 1, h => h.elim
theorem RB.up {k : Nat} {bx : Box} (h : RB X w E k bx) (hk : Off X w w') (hX : ∀ b, b < w.heap.size → X' b → X b) (hE : E.agree E' (fun j => bx.says j))
    (hs : E'.live k = E.live k ∧ E'.blk k = E.blk k ∧ E'.rv k = E.rv k) (hb : E.live k = true → w'.heap[E.blk k]? = w.heap[E.blk k]?) : RB X' w' E' k bx := by
  cases bx with
  | cells t cs =>
    obtain ⟨h1, vs, h2, h3⟩ := h
    exact ⟨by rw [hs.1]; exact h1, vs, by rw [hs.2.1, hb h1]; exact h2, h3.up hk hX hE⟩
  | row e t l =>
    unfold RB at h ⊢
    simp only [hs.1, hs.2.1, hs.2.2]
    cases hl : E.live k with
    | false => rw [hl] at h; exact ⟨h.1.up hk hX, h.2⟩
    | true =>
      rw [hl] at h
      obtain ⟨pre, cap, cur, e1, e2, e3, e4, e5, e6⟩ := h
      exact ⟨pre, cap, cur, e1, by rw [hb hl]; exact e2, e3, e4, e5, e6.mono fun _ _ h => DC.up hk hX h⟩
  | rowo e t l i cs =>
    obtain ⟨h1, pre, cap, cur, us, c1, c3, e1, e2, e3, e4, e5, e6, e7, e8, e9, e10, e11, e12⟩ := h
    exact ⟨by rw [hs.1]; exact h1, pre, cap, cur, us, c1, c3, by rw [hs.2.1, hs.2.2]; exact e1, by rw [hs.2.1, hb h1]; exact e2, e3, e4, e5, e6, e7, e8, e9, e10.up hk hX hE, e11.mono fun _ _ h => DC.up hk hX h, e12.mono fun _ _ h => DC.up hk hX h⟩
  | fmap m =>
    obtain ⟨h1, es, cl, h2, h3⟩ := h
    refine ⟨by rw [hs.1]; exact h1, es, cl, by rw [hs.2.1, hb h1]; exact h2, ?_⟩
    have key : ∀ (es : List MapEntry) (m : List (Int × SV)), RFm X w E es m → E.agree E' (fun j => m.any fun p => p.2.says j) → RFm X' w' E' es m := by
      intro es
      induction es with
      | nil => intro m h _; cases m with
        | nil => trivial
        | cons => exact h.elim
      | cons e es ih => intro m h hE; cases m with
        | nil => exact h.elim
        | cons p ps => exact ⟨h.1, h.2.1.up hk hX <| hE.mono fun j hj => by simp only [List.any_cons, Bool.or_eq_true]; exact .inl hj, ih ps h.2.2 <| hE.mono fun j hj => by simp only [List.any_cons, Bool.or_eq_true]; exact .inr hj⟩
    exact key _ _ h3 hE
  | bmap l =>
    obtain ⟨h1, es, cl, h2, h3⟩ := h
    refine ⟨by rw [hs.1]; exact h1, es, cl, by rw [hs.2.1, hb h1]; exact h2, ?_⟩
    have key : ∀ (es : List MapEntry) (m : List (Int × SV)), RFm X w E es m → E.agree E' (fun j => m.any fun p => p.2.says j) → RFm X' w' E' es m := by
      intro es
      induction es with
      | nil => intro m h _; cases m with
        | nil => trivial
        | cons => exact h.elim
      | cons e es ih => intro m h hE; cases m with
        | nil => exact h.elim
        | cons p ps => exact ⟨h.1, h.2.1.up hk hX <| hE.mono fun j hj => by simp only [List.any_cons, Bool.or_eq_true]; exact .inl hj, ih ps h.2.2 <| hE.mono fun j hj => by simp only [List.any_cons, Bool.or_eq_true]; exact .inr hj⟩
    exact key _ _ h3 fun j hj => absurd ((trues_says l j).symm.trans hj) (by decide)

theorem stkSays_cons (k : Nat) (c : List SV) (cs : List (List SV)) : stkSays k (c :: cs) = (tmpsSay k c || stkSays k cs) := by
  show (bif tmpsSay k c then true else stkSays k cs) = _
  cases tmpsSay k c <;> rfl
theorem RStk.up : ∀ {as : List (Array Value)} {ts : List (List SV)}, RStk X w E as ts → Off X w w' → (∀ b, b < w.heap.size → X' b → X b) → E.agree E' (fun j => stkSays j ts) → RStk X' w' E' as ts
  | [], [], _, _, _, _ => trivial
  | _ :: _, _ :: _, h, k, hX, hE => ⟨h.1.up k hX <| hE.mono fun j hj => by simp only [stkSays_cons, Bool.or_eq_true]; exact .inl hj, RStk.up h.2 k hX <| hE.mono fun j hj => by simp only [stkSays_cons, Bool.or_eq_true]; exact .inr hj⟩
  | [], _ :: _, h, _, _, _ => h.elim
  | _ :: _, [], h, _, _, _ => h.elim

/-! ### A slot is set -/
theorem RE.set {K : St → Prop} {i : Nat} {v : SV} {u : Value} (h : RE X0 w0 as E st a w) (hu : RV (own X0 E st.mem) w E u v) (hk : st.set i v K) :
    ∃ t, K ⟨t, st.mem, st.stk⟩ ∧ t = st.tmps.set i v ∧ RE X0 w0 as E ⟨t, st.mem, st.stk⟩ (a.put (some i) u) w := by
  obtain ⟨t, m, s⟩ := st
  obtain ⟨h1, h2⟩ := setK_is hk
  exact ⟨_, h2, rfl, h.apart, h.below, h.defers, by simp only [Act.put, Array.toList_setIfInBounds]; exact h.tmps.set hu, h.mem, h.place, h.keys, h.inj, h.stk, h.prot, h.prN⟩
theorem RE.put {K : St → Prop} {d : Option Tmp} {v : SV} {u : Value} (h : RE X0 w0 as E st a w) (hu : RV (own X0 E st.mem) w E u v) (hk : st.put d v K) :
    ∃ st', K st' ∧ RE X0 w0 as E st' (a.put d u) w := by
  cases d with
  | none => exact ⟨st, hk, h⟩
  | some i => obtain ⟨t, h1, _, h2⟩ := h.set hu hk; exact ⟨_, h1, h2⟩
/-- What a slot says may be forgotten. -/
theorem RVs.forget : ∀ {vs : List Value} {cs : List SV} {i : Nat}, RVs X w E vs cs → RVs X w E vs (cs.set i (.one .undef))
  | [], [], _, _ => trivial
  | _ :: _, _ :: _, 0, h => ⟨trivial, h.2⟩
  | _ :: _, _ :: _, _ + 1, h => ⟨h.1, RVs.forget h.2⟩
  | [], _ :: _, _, h => h.elim
  | _ :: _, [], _, h => h.elim
theorem RE.forget {K : St → Prop} {d : Option Tmp} (h : RE X0 w0 as E st a w) (hk : st.put d (.one .undef) K) : ∃ t, K ⟨t, st.mem, st.stk⟩ ∧ RE X0 w0 as E ⟨t, st.mem, st.stk⟩ a w := by
  cases d with
  | none => exact ⟨st.tmps, hk, h⟩
  | some i =>
    obtain ⟨t, m, s⟩ := st
    obtain ⟨h1, h2⟩ := setK_is hk
    exact ⟨_, h2, h.apart, h.below, h.defers, h.tmps.forget, h.mem, h.place, h.keys, h.inj, h.stk, h.prot, h.prN⟩

/-! ### A new box -/
def Env.with (E : Env) (k g : Nat) (v : Value) (l : Bool) : Env := ⟨fun j => if j = k then g else E.blk j, fun j => if j = k then v else E.rv j, fun j => if j = k then l else E.live j⟩
theorem Env.with_agree (E : Env) (k g : Nat) (v : Value) (l : Bool) {p : Nat → Bool} (hp : p k = false) : E.agree (E.with k g v l) p := fun j hj => by
  have hne : j ≠ k := fun e => by rw [e, hp] at hj; cases hj
  simp [Env.with, hne]
theorem memSays_false {k : Nat} : ∀ {m : List (Nat × Box)}, memSays k m = false → ∀ j b, (j, b) ∈ m → j ≠ k → b.says k = false
  | [], _, _, _, h, _ => by cases h
  | (i, c) :: r, h, j, b, hm, hne => by
    unfold memSays at h
    cases hb : (bif Nat.beq i k then false else c.says k) with
    | true => rw [hb] at h; cases h
    | false =>
      rw [hb] at h
      rcases List.mem_cons.1 hm with e | hm
      · obtain ⟨rfl, rfl⟩ := Prod.mk.inj e
        have : Nat.beq j k = false := by
          cases hj : Nat.beq j k with
          | true => exact absurd (Nat.eq_of_beq_eq_true hj) hne
          | false => rfl
        rw [this] at hb; exact hb
      · exact memSays_false (m := r) h j b hm hne

/-- A box is made: in a new block, in one that is given up (in X0 till now, not in X1), or in none. -/
theorem RE.new {X1 : Nat → Prop} {K : St → Prop} {k g : Nat} {d : Option Tmp} {bx : Box} {v : Value} {l : Bool} (h : RE X0 w0 as E st a w) (hk : st.new k d bx K)
    (hB : Below w0.heap.size w0 w') (hsz : w.heap.size ≤ w'.heap.size) (hold : ∀ b, b < w.heap.size → b ≠ g ∨ l = false → w'.heap[b]? = w.heap[b]?)
    (hg : l = true → (X0 g ∧ as.pr k g ∨ w.heap.size ≤ g) ∧ w0.heap.size ≤ g ∧ g < w'.heap.size) (h1 : ∀ b, X1 b → X0 b ∧ (l = true → b ≠ g))
    (hbx : ∀ X' E', (∀ b, b < w.heap.size → X' b → own X0 E st.mem b) → Off (own X0 E st.mem) w w' → E.agree E' (fun j => bx.says j) → E'.blk k = g → E'.rv k = v → E'.live k = l → (∀ b, X1 b → X' b) → (l = true → X' g) → RB X' w' E' k bx) :
    ∃ E' st', K st' ∧ RE X1 w0 as E' st' a w' ∧ E'.blk k = g ∧ E'.rv k = v ∧ E'.live k = l ∧ (k, bx) ∈ st'.mem ∧ E.agree E' (fun j => !Nat.beq j k) := by
  obtain ⟨t1, hk, h⟩ := h.forget hk
  obtain ⟨t, m, s⟩ := st
  simp only at hk h
  cases c1 : tmpsSay k t1 with
  | true => rw [c1] at hk; exact hk.elim
  | false =>
  cases c2 : memSays k m with
  | true => rw [c1, c2] at hk; exact hk.elim
  | false =>
  cases c3 : stkSays k s with
  | true => rw [c1, c2, c3] at hk; exact hk.elim
  | false =>
  cases c4 : bx.says k with
  | true => rw [c1, c2, c3, c4] at hk; exact hk.elim
  | false =>
  rw [c1, c2, c3, c4] at hk
  simp only [cond_false] at hk
  obtain ⟨m', hK, hs, hm⟩ := insK_is hk h.keys
  have hw : ∀ (p : Nat → Bool), p k = false → E.agree (E.with k g v l) p := fun p hp => E.with_agree k g v l hp
  have hown : ∀ b, b < w.heap.size → own X1 (E.with k g v l) m' b → own X0 E m b := by
    rintro b hb (hx | ⟨j, bj, hj, hl, he⟩)
    · exact .inl (h1 b hx).1
    · rcases (hm (j, bj)).1 hj with e | ⟨hj, hne⟩
      · obtain ⟨rfl, rfl⟩ := Prod.mk.inj e
        simp [Env.with] at hl he
        subst hl he
        rcases (hg rfl).1 with c | c
        · exact .inl c.1
        · omega
      · simp only at hne
        simp [Env.with, hne] at hl he
        exact .inr ⟨j, bj, hj, hl, he⟩
  have hoff : Off (own X0 E m) w w' := ⟨hsz, fun b hb hx => hold b hb (by
    cases l with
    | false => exact .inr rfl
    | true =>
      refine .inl fun e => ?_
      subst e
      rcases (hg rfl).1 with c | c
      · exact hx (.inl c.1)
      · omega)⟩
  have hne_of : ∀ j bj, (j, bj) ∈ m → j ≠ k → E.live j = true → l = true → E.blk j ≠ g := fun j bj hj _ hl hlt e => by
    rcases (hg hlt).1 with c | c
    · exact (h.apart g c.1).2 j bj hj hl e
    · have := (h.place j bj hj hl).2; omega
  refine ⟨E.with k g v l, ⟨t1, m', s⟩, hK, ⟨?_, hB, h.defers, ?_, ?_, ?_, hs, ?_, ?_, fun j bj hj hl => ?_, fun j b hb => h.prN j b (Nat.le_trans hsz hb)⟩, by simp [Env.with], by simp [Env.with], by simp [Env.with], (hm _).2 (.inl rfl), fun j hj => ?_⟩
  · intro b hb
    obtain ⟨hb0, hbg⟩ := h1 b hb
    refine ⟨Nat.lt_of_lt_of_le (h.apart b hb0).1 hsz, fun j bj hj hl => ?_⟩
    rcases (hm (j, bj)).1 hj with e | ⟨hj, hne⟩
    · obtain ⟨rfl, rfl⟩ := Prod.mk.inj e
      simp [Env.with] at hl ⊢
      exact fun e => hbg hl e.symm
    · simp only at hne
      simp [Env.with, hne] at hl ⊢
      exact (h.apart b hb0).2 j bj hj hl
  · exact h.tmps.up hoff hown (hw _ c1)
  · intro j bj hj
    rcases (hm (j, bj)).1 hj with e | ⟨hj', hne⟩
    · obtain ⟨rfl, rfl⟩ := Prod.mk.inj e
      exact hbx _ _ hown hoff (hw _ c4) (by simp [Env.with]) (by simp [Env.with]) (by simp [Env.with]) (fun b hb => .inl hb) (fun hl => .inr ⟨j, bj, hj, by simp [Env.with, hl], by simp [Env.with]⟩)
    · simp only at hne
      refine (h.mem j bj hj').up hoff hown (hw _ (memSays_false c2 j bj hj' hne)) (by simp [Env.with, hne]) fun hl => hold _ (h.place j bj hj' hl).2 ?_
      cases hlt : l with
      | false => exact .inr rfl
      | true => exact .inl (hne_of j bj hj' hne hl hlt)
  · intro j bj hj hl
    rcases (hm (j, bj)).1 hj with e | ⟨hj, hne⟩
    · obtain ⟨rfl, rfl⟩ := Prod.mk.inj e
      simp [Env.with] at hl ⊢
      exact ⟨(hg hl).2.1, (hg hl).2.2⟩
    · simp only at hne
      simp [Env.with, hne] at hl ⊢
      have := h.place j bj hj hl
      exact ⟨this.1, Nat.lt_of_lt_of_le this.2 hsz⟩
  · intro i bi j bj hi hj hli hlj he
    rcases (hm (i, bi)).1 hi with e1 | ⟨hi, hni⟩
    · obtain ⟨rfl, rfl⟩ := Prod.mk.inj e1
      rcases (hm (j, bj)).1 hj with e2 | ⟨hj, hnj⟩
      · exact (Prod.mk.inj e2).1.symm
      · simp only at hnj
        simp [Env.with, hnj] at hli hlj he
        exact absurd he.symm (hne_of j bj hj hnj hlj hli)
    · simp only at hni
      rcases (hm (j, bj)).1 hj with e2 | ⟨hj, hnj⟩
      · obtain ⟨rfl, rfl⟩ := Prod.mk.inj e2
        simp [Env.with, hni] at hli hlj he
        exact absurd he (hne_of i bi hi hni hli hlj)
      · simp only at hnj
        simp [Env.with, hni, hnj] at hli hlj he
        exact h.inj i bi j bj hi hj hli hlj he
  · exact h.stk.up hoff hown (hw _ c3)
  · rcases (hm (j, bj)).1 hj with e | ⟨hj, hne⟩
    · obtain ⟨rfl, rfl⟩ := Prod.mk.inj e
      simp [Env.with] at hl ⊢
      rcases (hg hl).1 with c | c
      · exact c.2
      · exact h.prN _ _ c
    · simp only at hne
      simp [Env.with, hne] at hl ⊢
      exact h.prot j bj hj hl
  · have hne : j ≠ k := fun e => by subst e; simp at hj
    simp [Env.with, hne]

/-! ### A box is changed -/
theorem RE.boxM {K : St → Prop} {k : Nat} {bx bx' : Box} (h : RE X0 w0 as E st a w) (hm : (k, bx) ∈ st.mem) (hl : E.live k = true) (hk : insK st.mem k bx' fun m => st.withM m K)
    (hB : Below w0.heap.size w0 w') (hsz : w.heap.size ≤ w'.heap.size) (hold : ∀ b, b < w.heap.size → b ≠ E.blk k → w'.heap[b]? = w.heap[b]?)
    (hbx : ∀ X', (∀ b, X' b → own X0 E st.mem b) → Off (own X0 E st.mem) w w' → RB X' w' E k bx') :
    ∃ st', K st' ∧ RE X0 w0 as E st' a w' ∧ (∀ b, own X0 E st'.mem b → own X0 E st.mem b) ∧ (k, bx') ∈ st'.mem ∧ (∀ j bj, (j, bj) ∈ st'.mem → ∃ b, (j, b) ∈ st.mem) := by
  obtain ⟨t, m, s⟩ := st
  obtain ⟨m', hK, hs, hm'⟩ := insK_is hk h.keys
  simp only at hm h hm'
  have hown : ∀ b, own X0 E m' b → own X0 E m b := by
    rintro b (hx | ⟨j, bj, hj, hl, he⟩)
    · exact .inl hx
    · rcases (hm' (j, bj)).1 hj with e | ⟨hj, hne⟩
      · obtain ⟨rfl, rfl⟩ := Prod.mk.inj e
        exact .inr ⟨j, bx, hm, hl, he⟩
      · exact .inr ⟨j, bj, hj, hl, he⟩
  have hin : own X0 E m (E.blk k) := .inr ⟨k, bx, hm, hl, rfl⟩
  have hoff : Off (own X0 E m) w w' := ⟨hsz, fun b hb hx => hold b hb fun e => hx (e ▸ hin)⟩
  have hag : ∀ p, E.agree E p := fun p j _ => ⟨rfl, rfl⟩
  have hne_of : ∀ j bj, (j, bj) ∈ m → j ≠ k → E.live j = true → E.blk j ≠ E.blk k := fun j bj hj hne hlj e => hne (h.inj j bj k bx hj hm hlj hl e)
  have hback : ∀ j bj, (j, bj) ∈ m' → ∃ bj', (j, bj') ∈ m := fun j bj hj => by
    rcases (hm' (j, bj)).1 hj with e | ⟨hj, _⟩
    · obtain ⟨rfl, rfl⟩ := Prod.mk.inj e; exact ⟨bx, hm⟩
    · exact ⟨bj, hj⟩
  refine ⟨⟨t, m', s⟩, hK, ⟨fun b hb => ⟨Nat.lt_of_lt_of_le (h.apart b hb).1 hsz, fun j bj hj hlj => ?_⟩, hB, h.defers, h.tmps.up hoff (fun b _ hx => hown b hx) (hag _), fun j bj hj => ?_, fun j bj hj hlj => ?_, hs, fun i bi j bj hi hj hli hlj he => ?_, h.stk.up hoff (fun b _ hx => hown b hx) (hag _), fun j bj hj hlj => (hback j bj hj).elim fun bj' hj' => h.prot j bj' hj' hlj, fun j b hb => h.prN j b (Nat.le_trans hsz hb)⟩, hown, (hm' (k, bx')).2 (.inl rfl), hback⟩
  · obtain ⟨bj', hj'⟩ := hback j bj hj
    exact (h.apart b hb).2 j bj' hj' hlj
  · rcases (hm' (j, bj)).1 hj with e | ⟨hj', hne⟩
    · obtain ⟨rfl, rfl⟩ := Prod.mk.inj e
      exact hbx _ hown hoff
    · exact (h.mem j bj hj').up hoff (fun b _ hx => hown b hx) (hag _) ⟨rfl, rfl, rfl⟩ fun hlj => hold _ (h.place j bj hj' hlj).2 (hne_of j bj hj' hne hlj)
  · obtain ⟨bj', hj'⟩ := hback j bj hj
    have := h.place j bj' hj' hlj
    exact ⟨this.1, Nat.lt_of_lt_of_le this.2 hsz⟩
  · obtain ⟨bi', hi'⟩ := hback i bi hi
    obtain ⟨bj', hj'⟩ := hback j bj hj
    exact h.inj i bi' j bj' hi' hj' hli hlj he
theorem RE.box {K : St → Prop} {k : Nat} {bx bx' : Box} (h : RE X0 w0 as E st a w) (hm : (k, bx) ∈ st.mem) (hl : E.live k = true) (hk : insK st.mem k bx' fun m => st.withM m K)
    (hB : Below w0.heap.size w0 w') (hsz : w.heap.size ≤ w'.heap.size) (hold : ∀ b, b < w.heap.size → b ≠ E.blk k → w'.heap[b]? = w.heap[b]?)
    (hbx : ∀ X', (∀ b, X' b → own X0 E st.mem b) → Off (own X0 E st.mem) w w' → RB X' w' E k bx') :
    ∃ st', K st' ∧ RE X0 w0 as E st' a w' ∧ (∀ b, own X0 E st'.mem b → own X0 E st.mem b) :=
  (h.boxM hm hl hk hB hsz hold hbx).elim fun st' h => ⟨st', h.1, h.2.1, h.2.2.1⟩

/-- A box that has no block is changed. -/
theorem RE.boxDead {K : St → Prop} {k : Nat} {bx bx' : Box} (h : RE X0 w0 as E st a w) (hm : (k, bx) ∈ st.mem) (hl : E.live k = false) (hk : insK st.mem k bx' fun m => st.withM m K)
    (hbx : ∀ X', (∀ b, X' b → own X0 E st.mem b) → RB X' w E k bx') : ∃ st', K st' ∧ RE X0 w0 as E st' a w := by
  obtain ⟨t, m, s⟩ := st
  obtain ⟨m', hK, hs, hm'⟩ := insK_is hk h.keys
  simp only at hm h hm'
  have hback : ∀ j bj, (j, bj) ∈ m' → ∃ bj', (j, bj') ∈ m := fun j bj hj => by
    rcases (hm' (j, bj)).1 hj with e | ⟨hj, _⟩
    · obtain ⟨rfl, rfl⟩ := Prod.mk.inj e; exact ⟨bx, hm⟩
    · exact ⟨bj, hj⟩
  have hown : ∀ b, own X0 E m' b → own X0 E m b := by
    rintro b (hx | ⟨j, bj, hj, hlj, he⟩)
    · exact .inl hx
    · obtain ⟨bj', hj'⟩ := hback j bj hj
      exact .inr ⟨j, bj', hj', hlj, he⟩
  have hag : ∀ p, E.agree E p := fun p j _ => ⟨rfl, rfl⟩
  have hoff := Off.refl (own X0 E m) w
  refine ⟨⟨t, m', s⟩, hK, ⟨fun b hb => ⟨(h.apart b hb).1, fun j bj hj hlj => ?_⟩, h.below, h.defers, h.tmps.up hoff (fun b _ hx => hown b hx) (hag _), fun j bj hj => ?_, fun j bj hj hlj => ?_, hs, fun i bi j bj hi hj hli hlj he => ?_, h.stk.up hoff (fun b _ hx => hown b hx) (hag _), fun j bj hj hlj => (hback j bj hj).elim fun bj' hj' => h.prot j bj' hj' hlj, h.prN⟩⟩
  · obtain ⟨bj', hj'⟩ := hback j bj hj
    exact (h.apart b hb).2 j bj' hj' hlj
  · rcases (hm' (j, bj)).1 hj with e | ⟨hj', hne⟩
    · obtain ⟨rfl, rfl⟩ := Prod.mk.inj e
      exact hbx _ hown
    · exact (h.mem j bj hj').up hoff (fun b _ hx => hown b hx) (hag _) ⟨rfl, rfl, rfl⟩ fun _ => rfl
  · obtain ⟨bj', hj'⟩ := hback j bj hj
    exact h.place j bj' hj' hlj
  · obtain ⟨bi', hi'⟩ := hback i bi hi
    obtain ⟨bj', hj'⟩ := hback j bj hj
    exact h.inj i bi' j bj' hi' hj' hli hlj he

/-! ### A row is given up -/
theorem RC.frz {u : Value} {c d : C} {k : Nat} (h : RC X w E u c) (hX : ∀ b, X' b → X b) (hd : RC X' w E (E.rv k) d) : RC X' w E u (c.frz k d) := by
  have h' : RC X' w E u c := h.up (Off.refl _ _) (fun b _ hx => hX b hx) fun j _ => ⟨rfl, rfl⟩
  cases c with
  | row j =>
    show RC X' w E u (bif Nat.beq j k then d else .row j)
    cases hj : Nat.beq j k with
    | false => exact h'
    | true =>
      obtain rfl := Nat.eq_of_beq_eq_true hj
      rw [show u = E.rv j from h.1]
      exact hd
  | elt j i sz off =>
    show RC X' w E u (bif Nat.beq j k then .undef else .elt j i sz off)
    cases hj : Nat.beq j k with
    | false => exact h'
    | true => trivial
  | _ => exact h'
theorem RCs.frz {d : C} {k : Nat} (hX : ∀ b, X' b → X b) (hd : RC X' w E (E.rv k) d) : ∀ {us : List Value} {cs : List C}, RCs X w E us cs → RCs X' w E us (frzL k d cs)
  | [], [], _ => trivial
  | _ :: _, _ :: _, h => ⟨h.1.frz hX hd, RCs.frz hX hd h.2⟩
  | [], _ :: _, h => h.elim
  | _ :: _, [], h => h.elim
theorem RPs.frz {d : C} {k : Nat} (hX : ∀ b, X' b → X b) (hd : RC X' w E (E.rv k) d) : ∀ {us : List Value} {cs : List (Bool × List C)}, RPs X w E us cs → RPs X' w E us (cs.map fun v => (v.1, frzL k d v.2))
  | [], [], _ => trivial
  | _ :: _, p :: _, h => ⟨by
      have h1 := h.1
      unfold RP at h1 ⊢
      obtain ⟨b, cs⟩ := p
      cases b with
      | true => obtain ⟨vs, e, h1⟩ := h1; exact ⟨vs, e, RCs.frz hX hd h1⟩
      | false => obtain ⟨c, e, h1⟩ := h1; simp only at e; subst e; exact ⟨c.frz k d, rfl, h1.frz hX hd⟩, RPs.frz hX hd h.2⟩
  | [], _ :: _, h => h.elim
  | _ :: _, [], h => h.elim
theorem RV.frz {d : C} {k : Nat} (hX : ∀ b, X' b → X b) (hd : RC X' w E (E.rv k) d) {u : Value} {v : SV} (h : RV X w E u v) : RV X' w E u (v.frz k d) := by
  cases v with
  | one c => exact RC.frz h hX hd
  | agg cs => obtain ⟨vs, e, h⟩ := h; exact ⟨vs, e, RCs.frz hX hd h⟩
  | tup ps => obtain ⟨vs, e, h⟩ := h; exact ⟨vs, e, RPs.frz hX hd h⟩
theorem RVs.frz {d : C} {k : Nat} (hX : ∀ b, X' b → X b) (hd : RC X' w E (E.rv k) d) : ∀ {us : List Value} {cs : List SV}, RVs X w E us cs → RVs X' w E us (cs.map (SV.frz k d))
  | [], [], _ => trivial
  | _ :: _, _ :: _, h => ⟨RV.frz hX hd h.1, RVs.frz hX hd h.2⟩
  | [], _ :: _, h => h.elim
  | _ :: _, [], h => h.elim
theorem RStk.frz {d : C} {k : Nat} (hX : ∀ b, X' b → X b) (hd : RC X' w E (E.rv k) d) : ∀ {us : List (Array Value)} {cs : List (List SV)}, RStk X w E us cs → RStk X' w E us (cs.map fun l => l.map (SV.frz k d))
  | [], [], _ => trivial
  | _ :: _, _ :: _, h => ⟨RVs.frz hX hd h.1, RStk.frz hX hd h.2⟩
  | [], _ :: _, h => h.elim
  | _ :: _, [], h => h.elim
theorem RB.frz {d : C} {k j : Nat} {bx : Box} (hX : ∀ b, X' b → X b) (hd : RC X' w E (E.rv k) d) (h : RB X w E j bx) : RB X' w E j (bx.frz k d) := by
  cases bx with
  | cells t cs => obtain ⟨h1, vs, h2, h3⟩ := h; exact ⟨h1, vs, h2, RCs.frz hX hd h3⟩
  | row e t l => exact RB.up (k := j) h (Off.refl _ _) (fun b _ hx => hX b hx) (fun _ _ => ⟨rfl, rfl⟩) ⟨rfl, rfl, rfl⟩ fun _ => rfl
  | rowo e t l i cs =>
    obtain ⟨h1, pre, cap, cur, us, c1, c3, e1, e2, e3, e4, e5, e6, e7, e8, e9, e10, e11, e12⟩ := h
    exact ⟨h1, pre, cap, cur, us, c1, c3, e1, e2, e3, e4, e5, e6, e7, e8, e9, RCs.frz hX hd e10, e11.mono fun _ _ h => DC.up (Off.refl _ _) (fun b _ hx => hX b hx) h, e12.mono fun _ _ h => DC.up (Off.refl _ _) (fun b _ hx => hX b hx) h⟩
  | fmap m => exact RB.up (k := j) h (Off.refl _ _) (fun b _ hx => hX b hx) (fun _ _ => ⟨rfl, rfl⟩) ⟨rfl, rfl, rfl⟩ fun _ => rfl
  | bmap l => exact RB.up (k := j) h (Off.refl _ _) (fun b _ hx => hX b hx) (fun _ _ => ⟨rfl, rfl⟩) ⟨rfl, rfl, rfl⟩ fun _ => rfl

/-- Row k is given up: to X1, or to none. -/
theorem RE.drop {X1 : Nat → Prop} {K : St → Prop} {k : Nat} {bx : Box} {d : C} (h : RE X0 w0 as E st a w) (hm : (k, bx) ∈ st.mem) (hk : st.drop k d K)
    (h1 : ∀ b, X1 b → X0 b ∨ E.live k = true ∧ b = E.blk k)
    (hd : ∀ X', (∀ b, X' b → own X0 E st.mem b) → (E.live k = true → X' (E.blk k) → X1 (E.blk k)) → RC X' w E (E.rv k) d) :
    ∃ st', K st' ∧ RE X1 w0 as E st' a w ∧ (∀ b, own X1 E st'.mem b → own X0 E st.mem b) ∧ (∀ u c, RC (own X0 E st.mem) w E u c → RC (own X1 E st'.mem) w E u (c.frz k d)) ∧ st'.tmps = st.tmps.map (SV.frz k d) ∧ (∀ p, p ∈ st'.mem → ∃ b, (p.1, b) ∈ st.mem ∧ p.2 = b.frz k d ∧ p.1 ≠ k) ∧ RC (own X1 E st'.mem) w E (E.rv k) d := by
  obtain ⟨t, m, s⟩ := st
  obtain ⟨m1, hK, hs, hm1⟩ := remK_is hk h.keys
  have hK := mapK_is hK
  have hK := mapK_is hK
  have hK := stkMapK_is hK
  simp only at hm h
  have hmem : ∀ j bj, (j, bj) ∈ m1.map (fun p => (p.1, p.2.frz k d)) → ∃ b, (j, b) ∈ m ∧ bj = b.frz k d ∧ j ≠ k := fun j bj hj => by
    obtain ⟨p, hp, e⟩ := List.mem_map.1 hj
    obtain ⟨rfl, rfl⟩ := Prod.mk.inj e
    have := (hm1 p).1 hp
    exact ⟨p.2, this.1, rfl, this.2⟩
  have hown : ∀ b, own X1 E (m1.map fun p => (p.1, p.2.frz k d)) b → own X0 E m b := by
    rintro b (hx | ⟨j, bj, hj, hl, he⟩)
    · rcases h1 b hx with c | ⟨c, e⟩
      · exact .inl c
      · exact .inr ⟨k, bx, hm, c, e.symm⟩
    · obtain ⟨b', hj, _, _⟩ := hmem j bj hj
      exact .inr ⟨j, b', hj, hl, he⟩
  have hblk : E.live k = true → own X1 E (m1.map fun p => (p.1, p.2.frz k d)) (E.blk k) → X1 (E.blk k) := by
    rintro hl (hx | ⟨j, bj, hj, hlj, he⟩)
    · exact hx
    · obtain ⟨b', hj, _, hne⟩ := hmem j bj hj
      exact absurd (h.inj j b' k bx hj hm hlj hl he) hne
  have hdd := hd _ hown hblk
  refine ⟨⟨t.map (SV.frz k d), m1.map (fun p => (p.1, p.2.frz k d)), s.map (fun l => l.map (SV.frz k d))⟩, hK, ⟨?_, h.below, h.defers, h.tmps.frz hown hdd, ?_, ?_, ?_, ?_, h.stk.frz hown hdd, fun j bj hj hlj => (hmem j bj hj).elim fun b' hj' => h.prot j b' hj'.1 hlj, h.prN⟩, hown, fun u c hc => hc.frz hown hdd, rfl, fun p hp => hmem p.1 p.2 hp, hdd⟩
  · intro b hb
    rcases h1 b hb with c | ⟨c, e⟩
    · refine ⟨(h.apart b c).1, fun j bj hj hl => ?_⟩
      obtain ⟨b', hj, _, _⟩ := hmem j bj hj
      exact (h.apart b c).2 j b' hj hl
    · subst e
      refine ⟨(h.place k bx hm c).2, fun j bj hj hl he => ?_⟩
      obtain ⟨b', hj, _, hne⟩ := hmem j bj hj
      exact hne (h.inj j b' k bx hj hm hl c he)
  · intro j bj hj
    obtain ⟨b', hj2, rfl, _⟩ := hmem j bj hj
    exact (h.mem j b' hj2).frz hown hdd
  · intro j bj hj hl
    obtain ⟨b', hj, _, _⟩ := hmem j bj hj
    exact h.place j b' hj hl
  · unfold Sorted
    rw [List.pairwise_map]
    exact hs
  · intro i bi j bj hi hj hli hlj he
    obtain ⟨bi', hi, _, _⟩ := hmem i bi hi
    obtain ⟨bj', hj, _, _⟩ := hmem j bj hj
    exact h.inj i bi' j bj' hi hj hli hlj he
end
end Go.Proofs.YtpobngddiifdpaaGreat.V
