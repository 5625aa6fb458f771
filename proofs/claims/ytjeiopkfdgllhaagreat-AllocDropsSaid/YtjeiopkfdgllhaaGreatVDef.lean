/- Symbolic values and states, and what a piece of code does to them, as a proposition that is to be shown. -/
import Derived.Test.YtjeiopkfdgllhaaGreatPlan
namespace Go.Proofs.YtjeiopkfdgllhaaGreat.V
open Go Go.RowKit Go.Proofs.YtjeiopkfdgllhaaGreat.Hz

/-! ### Data types and their meaning -/
inductive Ty where
  | int (k : IntKind)
  | bool
  | sl (t : Ty)
  | nil
  | cons (a b : Ty)
  deriving DecidableEq, Inhabited

abbrev Den : Ty → Type
  | .int _ => Int
  | .bool => Bool
  | .sl t => List (Den t)
  | .nil => Unit
  | .cons a b => Den a × Den b

def dflt : (t : Ty) → Den t
  | .int _ => (0 : Int)
  | .bool => false
  | .sl _ => []
  | .nil => ()
  | .cons a b => (dflt a, dflt b)

def Ty.size : Ty → Nat
  | .int _ => 1
  | .bool => 1
  | .sl _ => 1
  | .nil => 0
  | .cons a b => a.size + b.size

/-! ### Cells, values, boxes, states -/
/-- A cell: a number, a bool, a slice of data (c: its capacity is its length), a nil slice, an empty literal, a pointer into a box, a slice that is an own row, a pointer into an own row's element, or into an element of a slice of data, a function, a map, a slice over a box's array; or nothing that is known. -/
inductive C where
  | int (k : IntKind) (n : Int)
  | bool (b : Bool)
  | sl (t : Ty) (l : List (Den t)) (c : Bool)
  | nilsl
  | emp (t : Ty)
  | ptr (k off : Nat)
  | row (k : Nat)
  | elt (k i sz off : Nat)
  | ielt (t : Ty) (l : List (Den t)) (i off : Nat)
  | fn (f : Nat) (caps : List (Nat × Nat))
  | nilfn
  | map (k : Nat)
  | arr (k off n cap : Nat) (t : Ty)
  | undef

inductive SV where
  | one (c : C)
  | agg (cs : List C)
  | tup (vs : List (Bool × List C))

inductive Box where
  | cells (t : TypeId) (cs : List C)
  | row (e : TypeId) (t : Ty) (l : List (Den t))
  | rowo (e : TypeId) (t : Ty) (l : List (Den t)) (i : Nat) (cs : List C)
  | fmap (m : List (Int × C))

structure St where
  tmps : List SV
  mem : List (Nat × Box)
  stk : List (List SV)

/-! ### The table of types -/
inductive TK where
  | int (k : IntKind)
  | bool
  | sl (e : TypeId)
  | ptr (e : TypeId)
  | arr (n : Nat) (e : TypeId)
  | str (fs : List (Nat × TypeId))
  | map (k v : TypeId)
  | fn
  | other
  deriving Inhabited
/-- plainEq: a struct, or an array, of numbers alone. -/
structure TI where
  kind : TK
  ty : Option Ty
  size : Nat
  plainEq : Bool := false
  deriving Inhabited
abbrev Tab := List TI
def TI.no : TI := ⟨.other, none, 0, false⟩
def Tab.at (T : Tab) (t : TypeId) : TI := List.getD T t TI.no

/-! ### Cells of data -/
def flat : (t : Ty) → Den t → List C
  | .int k, n => [.int k n]
  | .bool, b => [.bool b]
  | .sl t, l => [.sl t l false]
  | .nil, _ => []
  | .cons a b, x => flat a x.1 ++ flat b x.2

def zeroC : Ty → List C
  | .int k => [.int k 0]
  | .bool => [.bool false]
  | .sl t => [.sl t [] true]
  | .nil => []
  | .cons a b => zeroC a ++ zeroC b

def castK (t t' : Ty) (l : List (Den t')) (K : List (Den t) → Prop) : Prop :=
  if h : t' = t then (Eq.rec (motive := fun t _ => (List (Den t) → Prop) → Prop) (fun K => K l) h : (List (Den t) → Prop) → Prop) K else False

/-- Data out of cells. -/
def unflatK : (t : Ty) → List C → (Den t → List C → Prop) → Prop
  | .int k, .int k' n :: r, K => if k' = k then K n r else False
  | .bool, .bool b :: r, K => K b r
  | .sl t, .sl t' l _ :: r, K => castK t t' l fun l => K l r
  | .sl _, .nilsl :: r, K => K [] r
  | .sl _, .emp _ :: r, K => K [] r
  | .nil, r, K => K () r
  | .cons a b, r, K => unflatK a r fun x r => unflatK b r fun y r => K (x, y) r
  | _, _, _ => False

/-! ### Lists, step by step -/
def normL : List C → (List C → Prop) → Prop
  | [], K => K []
  | c :: r, K => normL r fun r => K (c :: r)
def getK {α : Type} : List α → Nat → (α → Prop) → Prop
  | [], _, _ => False
  | x :: _, 0, K => K x
  | _ :: r, n + 1, K => getK r n K
def setK {α : Type} : List α → Nat → α → (List α → Prop) → Prop
  | [], _, _, _ => False
  | _ :: r, 0, x, K => K (x :: r)
  | y :: r, n + 1, x, K => setK r n x fun r => K (y :: r)
def findK : List (Nat × Box) → Nat → (Box → Prop) → Prop
  | [], _, _ => False
  | (j, b) :: r, k, K => bif Nat.beq j k then K b else findK r k K
/-- A box is laid at its place. -/
def insK : List (Nat × Box) → Nat → Box → (List (Nat × Box) → Prop) → Prop
  | [], k, b, K => K [(k, b)]
  | (j, c) :: r, k, b, K => bif Nat.beq j k then K ((k, b) :: r) else bif Nat.ble k j then K ((k, b) :: (j, c) :: r) else insK r k b fun r => K ((j, c) :: r)
def remK : List (Nat × Box) → Nat → (List (Nat × Box) → Prop) → Prop
  | [], _, K => K []
  | (j, c) :: r, k, K => bif Nat.beq j k then K r else remK r k fun r => K ((j, c) :: r)
/-- The first o cells, others in the place of the next ones, the rest. -/
def spliceK : List C → Nat → List C → (List C → Prop) → Prop
  | cs, 0, [], K => K cs
  | _ :: cs, 0, d :: ds, K => spliceK cs 0 ds fun r => K (d :: r)
  | c :: cs, n + 1, ds, K => spliceK cs n ds fun r => K (c :: r)
  | [], _, _, _ => False

/-! ### Who speaks of a box -/
def C.says (k : Nat) : C → Bool
  | .ptr j _ => Nat.beq j k
  | .row j => Nat.beq j k
  | .elt j _ _ _ => Nat.beq j k
  | .fn _ caps => caps.any fun p => Nat.beq p.1 k
  | .map j => Nat.beq j k
  | .arr j _ _ _ _ => Nat.beq j k
  | _ => false
def anyC (p : C → Bool) : List C → Bool
  | [] => false
  | c :: r => bif p c then true else anyC p r
def SV.says (k : Nat) : SV → Bool
  | .one c => c.says k
  | .agg cs => anyC (C.says k) cs
  | .tup vs => vs.any fun v => anyC (C.says k) v.2
def Box.says (k : Nat) : Box → Bool
  | .cells _ cs => anyC (C.says k) cs
  | .row _ _ _ => false
  | .rowo _ _ _ _ cs => anyC (C.says k) cs
  | .fmap m => m.any fun p => p.2.says k
def tmpsSay (k : Nat) : List SV → Bool
  | [] => false
  | v :: r => bif v.says k then true else tmpsSay k r
def stkSays (k : Nat) : List (List SV) → Bool
  | [] => false
  | v :: r => bif tmpsSay k v then true else stkSays k r
/-- Does a box but this one itself speak of it? -/
def memSays (k : Nat) : List (Nat × Box) → Bool
  | [] => false
  | (j, b) :: r => bif (bif Nat.beq j k then false else b.says k) then true else memSays k r
/-- A row is no longer one's own: what it holds is data, or nothing. -/
def C.frz (c : C) (k : Nat) (d : C) : C :=
  match c with
  | .row j => bif Nat.beq j k then d else .row j
  | .elt j i sz off => bif Nat.beq j k then .undef else .elt j i sz off
  | c => c
def mapK {α : Type} (f : α → α) : List α → (List α → Prop) → Prop
  | [], K => K []
  | c :: r, K => mapK f r fun r => K (f c :: r)
def stkMapK {α : Type} (f : α → α) : List (List α) → (List (List α) → Prop) → Prop
  | [], K => K []
  | l :: r, K => mapK f l fun l => stkMapK f r fun r => K (l :: r)
def frzL (k : Nat) (d : C) : List C → List C
  | [] => []
  | c :: r => c.frz k d :: frzL k d r
def SV.frz (k : Nat) (d : C) : SV → SV
  | .one c => .one (c.frz k d)
  | .agg cs => .agg (frzL k d cs)
  | .tup vs => .tup (vs.map fun v => (v.1, frzL k d v.2))
def Box.frz (k : Nat) (d : C) : Box → Box
  | .cells t cs => .cells t (frzL k d cs)
  | .rowo e t l i cs => .rowo e t l i (frzL k d cs)
  | b => b

/-! ### States -/
def evalK (st : St) (x : Operand) (K : SV → Prop) : Prop :=
  match x with
  | .tmp i => getK st.tmps i K
  | .const (.int k n) => K (.one (.int k n))
  | .const (.bool b) => K (.one (.bool b))
  | .const (.slice none 0 0) => K (.one .nilsl)
  | .const .nilFunc => K (.one .nilfn)
  | .const _ => K (.one .undef)
  | .func f => K (.one (.fn f []))
  | _ => False
def St.withM (st : St) (m : List (Nat × Box)) (K : St → Prop) : Prop :=
  match st with
  | ⟨t, _, s⟩ => K ⟨t, m, s⟩
def St.set (st : St) (i : Nat) (v : SV) (K : St → Prop) : Prop :=
  match st with
  | ⟨t, m, s⟩ => setK t i v fun t => K ⟨t, m, s⟩
def St.put (st : St) (d : Option Tmp) (v : SV) (K : St → Prop) : Prop :=
  match d with
  | none => K st
  | some i => st.set i v K
/-- Row k is removed; what spoke of it says d now. -/
def St.drop (st : St) (k : Nat) (d : C) (K : St → Prop) : Prop :=
  match st with
  | ⟨t, m, s⟩ => remK m k fun m => mapK (SV.frz k d) t fun t => mapK (fun p => (p.1, p.2.frz k d)) m fun m => stkMapK (SV.frz k d) s fun s => K ⟨t, m, s⟩
/-- A new box. -/
def St.new (st : St) (k : Nat) (d : Option Tmp) (b : Box) (K : St → Prop) : Prop :=
  St.put st d (.one .undef) fun st => match st with
    | ⟨t, m, s⟩ => bif tmpsSay k t then False else bif memSays k m then False else bif stkSays k s then False else bif b.says k then False else
      insK m k b fun m => K ⟨t, m, s⟩

/-- A cell of data: own rows are made data. -/
def freezeK0 (st : St) (c : C) (K : St → C → Prop) : Prop :=
  match c with
  | .row k => findK st.mem k fun b => match b with
    | .row _ t l => St.drop st k (.sl t l false) fun st => K st (.sl t l false)
    | _ => False
  | c => K st c
def freezeL0 (st : St) (cs : List C) (K : St → List C → Prop) : Prop :=
  match cs with
  | [] => K st []
  | c :: r => freezeK0 st c fun st c => freezeL0 st r fun st r => K st (c :: r)
/-- An opened element's own rows are made data first. -/
def freezeK (st : St) (c : C) (K : St → C → Prop) : Prop :=
  match c with
  | .row k => findK st.mem k fun b => match b with
    | .row _ t l => St.drop st k (.sl t l false) fun st => K st (.sl t l false)
    | .rowo e t l i cs => freezeL0 st cs fun st cs => unflatK t cs fun y rest => match rest with
      | [] => findK st.mem k fun _ => insK st.mem k (.row e t (l.set i y)) fun m => st.withM m fun st => St.drop st k (.sl t (l.set i y) false) fun st => K st (.sl t (l.set i y) false)
      | _ => False
    | _ => False
  | c => K st c
def freezeL (st : St) (cs : List C) (K : St → List C → Prop) : Prop :=
  match cs with
  | [] => K st []
  | c :: r => freezeK st c fun st c => freezeL st r fun st r => K st (c :: r)
def C.isRow : C → Bool
  | .row _ => true
  | _ => false

/-! ### Operations -/
def wrapK (k : IntKind) (n : Int) : Int :=
  match k with
  | .i64 => wrap64 n
  | k => k.wrap n
/-- A number of a kind, cut to it; hd: it is given a name of its own. -/
def wrapC (hd : Bool) (k : IntKind) (n : Int) (K : SV → Prop) : Prop :=
  match hd with
  | true => match k with
    | .i64 => ∀ z, z = wrap64 n → K (.one (.int .i64 z))
    | k => ∀ z, z = k.wrap n → K (.one (.int k z))
  | false => match k with
    | .i64 => K (.one (.int .i64 (wrap64 n)))
    | k => K (.one (.int k (k.wrap n)))
theorem wrapC_is {hd : Bool} {k : IntKind} {n : Int} {K : SV → Prop} (h : wrapC hd k n K) : K (.one (.int k (wrapK k n))) := by
  cases hd <;> cases k <;> first | exact h | exact h _ rfl

/-- What is loaded from cells. -/
def loadK (T : Tab) (t : TypeId) (cs : List C) (off : Nat) (K : SV → Prop) : Prop :=
  match (T.at t).kind with
  | .str _ | .arr _ _ => normL ((cs.drop off).take (T.at t).size) fun ds => bif Nat.beq ds.length (T.at t).size then K (.agg ds) else False
  | .other => False
  | _ => getK cs off fun c => K (.one c)
def C.isUndef : C → Bool
  | .undef => true
  | _ => false
def SV.cellsK (v : SV) (K : List C → Prop) : Prop :=
  match v with
  | .one c => bif c.isUndef then False else K [c]
  | .agg cs => K cs
  | .tup _ => False

/-- Parts of an aggregate are laid into it. -/
def fillK (place : Nat → Option (Nat × Nat)) (st : St) : List C → List (Nat × Operand) → (List C → Prop) → Prop
  | cs, [], K => K cs
  | cs, (i, x) :: r, K => match place i with
    | none => False
    | some (off, size) => evalK st x fun v => v.cellsK fun ds => bif Nat.beq ds.length size then spliceK cs off ds fun cs => fillK place st cs r K else False
/-- The elements of a literal. -/
def elemsK (t : Ty) : St → Nat → List (Nat × Operand) → (St → List (Den t) → Prop) → Prop
  | st, _, [], K => K st []
  | st, i, (j, x) :: r, K => bif Nat.beq i j then evalK st x fun v => v.cellsK fun ds => freezeL st ds fun st ds => unflatK t ds fun y rest => match rest with
      | [] => elemsK t st (i + 1) r fun st ys => K st (y :: ys)
      | _ => False
    else False

/-- Rows of data as arguments. -/
inductive RowsAs where
  | mk

/-- Are two rows of numbers the same? -/
def eqCs : List C → List C → (Bool → Prop) → Prop
  | [], [], K => K true
  | .int .i64 m :: xs, .int .i64 n :: ys, K => eqCs xs ys fun b => K (decide (m = n) && b)
  | _, _, _ => False
def binK (T : Tab) (hd : Bool) (t : TypeId) (op : BinOp) (x y : SV) (K : SV → Prop) : Prop :=
  match x, y with
  | .one (.int k m), .one (.int k' n) =>
    match op with
    | .shl => 0 ≤ n ∧ wrapC hd k (m * 2 ^ (min n.toNat k.bits)) K
    | .shr => 0 ≤ n ∧ K (.one (.int k (m.fdiv (2 ^ (min n.toNat k.bits)))))
    | op => if k = k' then
        match op with
        | .add => wrapC hd k (m + n) K
        | .sub => wrapC hd k (m - n) K
        | .mul => wrapC hd k (m * n) K
        | .quo => n ≠ 0 ∧ wrapC hd k (m.tdiv n) K
        | .rem => n ≠ 0 ∧ K (.one (.int k (m.tmod n)))
        | .and => wrapC hd k ((BitVec.ofInt k.bits m &&& BitVec.ofInt k.bits n).toNat : Int) K
        | .or => wrapC hd k ((BitVec.ofInt k.bits m ||| BitVec.ofInt k.bits n).toNat : Int) K
        | .eql => K (.one (.bool (decide (m = n))))
        | .neq => K (.one (.bool (decide (m ≠ n))))
        | .lss => K (.one (.bool (decide (m < n))))
        | .leq => K (.one (.bool (decide (m ≤ n))))
        | .gtr => K (.one (.bool (decide (n < m))))
        | .geq => K (.one (.bool (decide (n ≤ m))))
        | _ => False
      else False
  | .one (.bool a), .one (.bool b) =>
    match (T.at t).kind with
    | .bool => match op with
      | .eql => K (.one (.bool (a == b)))
      | .neq => K (.one (.bool (!(a == b))))
      | _ => False
    | _ => False
  | .one (.sl _ l _), .one .nilsl =>
    match (T.at t).kind with
    | .sl _ => match op with
      | .eql => ∀ b : Bool, (b = true → l = []) → K (.one (.bool b))
      | _ => False
    | _ => False
  | .one .nilsl, .one .nilsl =>
    match (T.at t).kind with
    | .sl _ => match op with
      | .eql => K (.one (.bool true))
      | _ => False
    | _ => False
  | .one (.fn _ _), .one .nilfn =>
    match (T.at t).kind with
    | .fn => match op with
      | .eql => K (.one (.bool false))
      | .neq => K (.one (.bool true))
      | _ => False
    | _ => False
  | .one .nilfn, .one .nilfn =>
    match (T.at t).kind with
    | .fn => match op with
      | .eql => K (.one (.bool true))
      | .neq => K (.one (.bool false))
      | _ => False
    | _ => False
  | .agg xs, .agg ys =>
    match (T.at t).plainEq with
    | true => match op with
      | .eql => bif Nat.beq xs.length (T.at t).size then eqCs xs ys fun b => K (.one (.bool b)) else False
      | .neq => bif Nat.beq xs.length (T.at t).size then eqCs xs ys fun b => K (.one (.bool (!b))) else False
      | _ => False
    | false => False
  | _, _ => False

def szOk (a b : Nat) : Bool := bif Nat.beq a 0 then false else Nat.beq a b
/-- A cut of a slice of data. -/
def cutK {α : Type} (l : List α) (c : Bool) (lo : Int) (hi mx : Option Int) (K : List α → Bool → Prop) : Prop :=
  match hi, mx with
  | none, none => (0 ≤ lo ∧ lo ≤ l.length) ∧ K (l.drop lo.toNat) c
  | some h, none => (0 ≤ lo ∧ lo ≤ h ∧ h ≤ l.length) ∧ K ((l.take h.toNat).drop lo.toNat) false
  | some h, some m => (0 ≤ lo ∧ lo ≤ h ∧ h = m ∧ m ≤ l.length) ∧ K ((l.take h.toNat).drop lo.toNat) true
  | none, some _ => False
def optIntK (st : St) (x : Option Operand) (K : Option Int → Prop) : Prop :=
  match x with
  | none => K none
  | some x => evalK st x fun v => match v with
    | .one (.int .i64 n) => K (some n)
    | _ => False
def sliceK (T : Tab) (t : TypeId) (x : SV) (lo hi mx : Option Int) (K : SV → Prop) : Prop :=
  match (T.at t).kind, x with
  | .sl e, .one (.sl ty l c) => bif szOk (T.at e).size ty.size then cutK l c (lo.getD 0) hi mx fun l c => K (.one (.sl ty l c)) else False
  | .sl e, .one (.emp ty) => bif szOk (T.at e).size ty.size then match lo, hi, mx with
    | none, some h, none => h = 0 ∧ K (.one (.sl ty [] true))
    | _, _, _ => False
    else False
  | .arr n e, .one (.ptr k off) => bif Nat.beq (T.at e).size 0 then False else match lo, mx, (T.at e).ty with
    | none, none, some ty => match hi with
      | none => K (.one (.arr k off n n ty))
      | some h => (0 ≤ h ∧ h ≤ n) ∧ K (.one (.arr k off h.toNat n ty))
    | _, _, _ => False
  | _, _ => False
/-- The address of an element. -/
def indexK (T : Tab) (t : TypeId) (st : St) (x : SV) (i : Int) (K : SV → Prop) : Prop :=
  match (T.at t).kind, x with
  | .sl e, .one (.sl ty l _) => bif szOk (T.at e).size ty.size then (0 ≤ i ∧ i < l.length) ∧ K (.one (.ielt ty l i.toNat 0)) else False
  | .sl e, .one (.row k) => findK st.mem k fun bx => match bx with
    | .row _ ty l => bif szOk (T.at e).size ty.size then (0 ≤ i ∧ i < l.length) ∧ K (.one (.elt k i.toNat ty.size 0)) else False
    | _ => False
  | .sl e, .one (.arr k off n _ ty) => bif szOk (T.at e).size ty.size then (0 ≤ i ∧ i < n) ∧ K (.one (.ptr k (off + i.toNat * ty.size))) else False
  | .arr n e, .one (.ptr k off) => bif Nat.beq (T.at e).size 0 then False else (0 ≤ i ∧ i < n) ∧ K (.one (.ptr k (off + i.toNat * (T.at e).size)))
  | .arr n e, .one (.elt k j sz off) => bif Nat.beq (T.at e).size 0 then False else (0 ≤ i ∧ i < n) ∧ K (.one (.elt k j sz (off + i.toNat * (T.at e).size)))
  | .arr n e, .one (.ielt ty l j off) => bif Nat.beq (T.at e).size 0 then False else (0 ≤ i ∧ i < n) ∧ K (.one (.ielt ty l j (off + i.toNat * (T.at e).size)))
  | _, _ => False
def fieldK (T : Tab) (fs : List (Nat × TypeId)) (f : Nat) (v : SV) (K : SV → Prop) : Prop :=
  match fs[f]? with
  | some (d, ft) => bif Nat.beq (T.at ft).size 0 then False else match v with
    | .one (.ptr k off) => K (.one (.ptr k (off + d)))
    | .one (.elt k i sz off) => K (.one (.elt k i sz (off + d)))
    | .one (.ielt ty l i off) => K (.one (.ielt ty l i (off + d)))
    | _ => False
  | none => False
def lenK (st : St) (x : SV) (K : Nat → Prop) : Prop :=
  match x with
  | .one (.sl _ l _) => K l.length
  | .one .nilsl => K 0
  | .one (.emp _) => K 0
  | .one (.arr _ _ n _ _) => K n
  | .one (.row k) => findK st.mem k fun bx => match bx with
    | .row _ _ l => K l.length
    | _ => False
  | _ => False
def loadAtK (T : Tab) (t : TypeId) (st : St) (v : SV) (K : SV → Prop) : Prop :=
  match v with
  | .one (.ptr k off) => findK st.mem k fun bx => match bx with
    | .cells _ cs => loadK T t cs off K
    | _ => False
  | .one (.elt k i sz off) => findK st.mem k fun bx => match bx with
    | .row _ ty l => bif Nat.beq sz ty.size then i < l.length ∧ loadK T t (flat ty (l.getD i (dflt ty))) off K else False
    | .rowo _ ty _ j cs => bif Nat.beq sz ty.size then i = j ∧ loadK T t cs off K else False
    | _ => False
  | .one (.ielt ty l i off) => loadK T t (flat ty (l.getD i (dflt ty))) off K
  | _ => False
def buildK (T : Tab) (t : TypeId) (st : St) (parts : List (Nat × Operand)) (K : SV → Prop) : Prop :=
  match (T.at t).kind, (T.at t).ty with
  | .str fs, some ty => bif fs.any fun f => Nat.beq (T.at f.2).size 0 then False else normL (zeroC ty) fun z => fillK (fun i => (fs[i]?).map fun f => (f.1, (T.at f.2).size)) st z parts fun cs => K (.agg cs)
  | .arr _ e, some ty => bif Nat.beq (T.at e).size 0 then False else normL (zeroC ty) fun z => fillK (fun i => some (i * (T.at e).size, (T.at e).size)) st z parts fun cs => K (.agg cs)
  | _, _ => False
def capsK (st : St) : List Operand → (List (Nat × Nat) → Prop) → Prop
  | [], K => K []
  | x :: r, K => evalK st x fun v => match v with
    | .one (.ptr k off) => capsK st r fun ps => K ((k, off) :: ps)
    | _ => False
def extractK (v : SV) (i : Nat) (K : SV → Prop) : Prop :=
  match v with
  | .tup vs => getK vs i fun p => match p with
    | (true, cs) => K (.agg cs)
    | (false, [c]) => K (.one c)
    | _ => False
  | _ => False
def lookupK (key : Int) (zero : C) : List (Int × C) → (C → Prop) → Prop
  | [], K => K zero
  | (k, c) :: r, K => (key = k → K c) ∧ (key ≠ k → lookupK key zero r K)

/-- A nil slice of a type. -/
def typedK (T : Tab) (t : TypeId) (v : SV) (K : SV → Prop) : Prop :=
  match v with
  | .one .nilsl => match (T.at t).kind with
    | .sl e => match (T.at e).ty with
      | some ty => K (.one (.emp ty))
      | none => K v
    | _ => K v
  | v => K v
/-- An operation that looks and reckons, and changes nothing. -/
def vRead (T : Tab) (hd : Bool) (o : Oper) (st : St) (K : SV → Prop) : Prop :=
  match o.op with
  | .move x => evalK st x fun v => typedK T o.type v K
  | .assign x => evalK st x fun v => typedK T o.type v K
  | .pick c x y => evalK st c fun vc => match vc with
    | .one (.bool bc) => match bc with
      | true => evalK st x K
      | false => evalK st y K
    | _ => False
  | .build t parts => buildK T t st parts.toList K
  | .load t x => evalK st x fun v => loadAtK T t st v K
  | .nilCheck x => evalK st x fun v => match v with
    | .one (.ptr _ _) => K v
    | .one (.elt _ _ _ _) => K v
    | .one (.ielt _ _ _ _) => K v
    | _ => False
  | .binOp op t x y _ => evalK st x fun vx => evalK st y fun vy => binK T hd t op vx vy K
  | .unOp op _ x => match op with
    | .not => evalK st x fun v => match v with
      | .one (.bool c) => K (.one (.bool (!c)))
      | _ => False
    | _ => False
  | .convert t0 t x => match (T.at t0).kind with
    | .int _ => evalK st x fun v => match v with
      | .one (.int _ n) => match (T.at t).kind with
        | .int k => wrapC hd k n K
        | _ => False
      | _ => False
    | _ => False
  | .makeFunc f first caps => match f with
    | .func f => match first.toList with
      | [] => capsK st caps.toList fun ps => K (.one (.fn f ps))
      | _ => False
    | _ => False
  | .slice t x lo hi mx => evalK st x fun v => optIntK st lo fun lo => optIntK st hi fun hi => optIntK st mx fun mx => sliceK T t v lo hi mx K
  | .fieldAddr t x f => match (T.at t).kind with
    | .str fs => evalK st x fun v => fieldK T fs f v K
    | _ => False
  | .field t x f => match (T.at t).kind with
    | .str fs => match fs[f]? with
      | some (d, ft) => evalK st x fun v => match v with
        | .agg cs => loadK T ft cs d K
        | _ => False
      | none => False
    | _ => False
  | .indexAddr t x i => evalK st x fun v => evalK st i fun vi => match vi with
    | .one (.int .i64 i) => indexK T t st v i K
    | _ => False
  | .index t x i => evalK st x fun v => evalK st i fun vi => match vi with
    | .one (.int .i64 i) => match v with
      | .agg cs => match (T.at t).kind with
        | .arr n e => (0 ≤ i ∧ i < n) ∧ loadK T e cs (i.toNat * (T.at e).size) K
        | _ => False
      | _ => False
    | _ => False
  | .extract x i => evalK st x fun v => extractK v i K
  | .lookup t x i ok => match ok with
    | false => match (T.at t).kind with
      | .map kt vt => match (T.at kt).kind with
        | .int _ => match (T.at vt).kind with
          | .fn => evalK st x fun v => evalK st i fun vi => match vi with
            | .one (.int .i64 i) => match v with
              | .one (.map k) => findK st.mem k fun bx => match bx with
                | .fmap m => lookupK i .nilfn m fun c => K (.one c)
                | _ => False
              | _ => False
            | _ => False
          | _ => False
        | _ => False
      | _ => False
    | true => False
  | .call c => match c.callee with
    | .builtin bn => match bn with
      | .len => match c.args.toList with
        | [x] => match c.argTypes.toList with
          | [t] => match (T.at t).kind with
            | .sl e => bif Nat.beq (T.at e).size 0 then False else evalK st x fun v => lenK st v fun n => K (.one (.int .i64 n))
            | _ => False
          | _ => False
        | _ => False
      | .cap => match c.args.toList with
        | [x] => match c.argTypes.toList with
          | [t] => match (T.at t).kind with
            | .sl _ => evalK st x fun v => match v with
              | .one .nilsl => K (.one (.int .i64 0))
              | .one (.emp _) => K (.one (.int .i64 0))
              | _ => False
            | _ => False
          | _ => False
        | _ => False
      | .max => match c.args.toList with
        | [x, y] => evalK st x fun vx => evalK st y fun vy => match vx with
          | .one (.int k m) => match vy with
            | .one (.int k' n) => if k = k' then K (.one (.int k (if n > m then n else m))) else False
            | _ => False
          | _ => False
        | _ => False
      | _ => False
    | _ => False
  | _ => False
/-- Does it look at no memory? -/
def worldless : Op → Bool
  | .load _ _ => false
  | .lookup _ _ _ _ => false
  | _ => true

/-! ### Operations that make and change memory -/
/-- What is appended: data of the element's type. -/
def dataK (st : St) (ty : Ty) (x : SV) (K : List (Den ty) → Prop) : Prop :=
  match x with
  | .one (.sl ty' l _) => castK ty ty' l K
  | .one .nilsl => K []
  | .one (.emp _) => K []
  | .one (.row k) => findK st.mem k fun bx => match bx with
    | .row _ ty' l => castK ty ty' l K
    | _ => False
  | _ => False

def mostElems : Nat := 100000000000
/-- A new row of one's own, as a value. -/
def St.newRow (st : St) (k : Nat) (e : TypeId) (t : Ty) (l : List (Den t)) (K : St → SV → Prop) : Prop :=
  st.new k none (.row e t l) fun st => K st (.one (.row k))
def appendK (T : Tab) (b : Nat) (d : Option Tmp) (t : TypeId) (st : St) (s x : SV) (K : St → SV → Prop) : Prop :=
  match (T.at t).kind with
  | .sl e => match d with
    | some d => match (T.at e).ty with
      | some ty => dataK st ty x fun ys => match s with
        | .one (.emp _) => ys.length ≤ mostElems ∧ st.newRow (b + d) e ty ys K
        | .one .nilsl => ys.length ≤ mostElems ∧ st.newRow (b + d) e ty ys K
        | .one (.sl ty' l c) => match c with
          | true => castK ty ty' l fun l => (l.length + ys.length ≤ mostElems ∧ ys ≠ []) ∧ st.newRow (b + d) e ty (l ++ ys) K
          | false => False
        | .one (.row k) => findK st.mem k fun bx => match bx with
          | .row e' ty' l => bif Nat.beq e' e then castK ty ty' l fun l => l.length + ys.length ≤ mostElems ∧ st.drop k .undef fun st => st.newRow (b + d) e ty (l ++ ys) K else False
          | _ => False
        | _ => False
      | none => False
    | none => False
  | _ => False
/-- append(nil, make(.., n)...): n zeros. -/
def appendZK (T : Tab) (b : Nat) (d : Option Tmp) (t t' : TypeId) (st : St) (s x : SV) (K : St → SV → Prop) : Prop :=
  match (T.at t).kind with
  | .sl e => match (T.at t').kind with
    | .int _ => match d with
      | some d => match (T.at e).ty with
        | some ty => match x with
          | .one (.int _ n) => match s with
            | .one (.sl ty' l c) => match c with
              | true => castK ty ty' l fun l => (0 < n ∧ l.length + n.toNat ≤ mostElems) ∧ st.newRow (b + d) e ty (l ++ List.replicate n.toNat (dflt ty)) K
              | false => False
            | _ => False
          | _ => False
        | none => False
      | none => False
    | _ => False
  | _ => False
/-- The cells of some elements. -/
def flatL (t : Ty) : List (Den t) → (List C → Prop) → Prop
  | [], K => K []
  | x :: r, K => flatL t r fun cs => K (flat t x ++ cs)
def copyK (T : Tab) (t : TypeId) (st : St) (s x : SV) (K : St → SV → Prop) : Prop :=
  match (T.at t).kind with
  | .sl e => match s with
    | .one (.row k) => match (T.at e).ty with
      | some ty => dataK st ty x fun ys => findK st.mem k fun bx => match bx with
        | .row e' ty' l => castK ty ty' l fun l => insK st.mem k (.row e' ty (ys.take l.length ++ l.drop ys.length)) fun m => st.withM m fun st => K st (.one (.int .i64 ((min ys.length l.length : Nat) : Int)))
        | _ => False
      | none => False
    | .one (.arr k off n _ _) => match (T.at e).ty with
      | some ty => dataK st ty x fun ys => ys.length ≤ n ∧ flatL ty ys fun ds => normL ds fun ds => findK st.mem k fun bx => match bx with
        | .cells t' cs => spliceK cs off ds fun cs => insK st.mem k (.cells t' cs) fun m => st.withM m fun st => K st (.one (.int .i64 (ys.length : Int)))
        | _ => False
      | none => False
    | _ => False
  | _ => False
def storeK (T : Tab) (t : TypeId) (st : St) (v : SV) (ds : List C) (K : St → SV → Prop) : Prop :=
  bif (bif szOk (T.at t).size ds.length then !anyC C.isUndef ds else false) then match v with
    | .one (.ptr k off) => findK st.mem k fun bx => match bx with
      | .cells t' cs => spliceK cs off ds fun cs => insK st.mem k (.cells t' cs) fun m => st.withM m fun st => K st (.one .undef)
      | _ => False
    | .one (.elt k i sz off) => bif anyC C.isRow ds then findK st.mem k fun bx => match bx with
      | .row e ty l => bif Nat.beq sz ty.size then i < l.length ∧ normL (flat ty (l.getD i (dflt ty))) fun cs => spliceK cs off ds fun cs => insK st.mem k (.rowo e ty l i cs) fun m => st.withM m fun st => K st (.one .undef) else False
      | _ => False
      else freezeL st ds fun st ds => findK st.mem k fun bx => match bx with
      | .row e ty l => bif Nat.beq sz ty.size then i < l.length ∧ normL (flat ty (l.getD i (dflt ty))) fun cs => spliceK cs off ds fun cs => unflatK ty cs fun y rest => match rest with
        | [] => insK st.mem k (.row e ty (l.set i y)) fun m => st.withM m fun st => K st (.one .undef)
        | _ => False
        else False
      | _ => False
    | _ => False
  else False
/-- A row is cut: from its beginning. -/
def cutRowK (T : Tab) (b : Nat) (d : Option Tmp) (t : TypeId) (st : St) (k : Nat) (lo hi mx : Option Int) (K : St → SV → Prop) : Prop :=
  match (T.at t).kind with
  | .sl e => findK st.mem k fun bx => match bx with
    | .row e' ty l => bif szOk (T.at e).size ty.size then match d, lo, hi, mx with
      | some d, none, some h, none => (0 ≤ h ∧ h ≤ l.length) ∧ st.drop k .undef fun st => st.newRow (b + d) e' ty (l.take h.toNat) K
      | _, _, _, _ => False
      else False
    | _ => False
  | _ => False
def argsK (st : St) : List Operand → (List SV → Prop) → Prop
  | [], K => K []
  | x :: r, K => evalK st x fun v => argsK st r fun vs => K (v :: vs)
def insertK (m : List (Int × C)) (key : Int) (c : C) (K : List (Int × C) → Prop) : Prop :=
  match m with
  | [] => K [(key, c)]
  | (k, c') :: r => bif decide (k = key) then False else insertK r key c fun r => K ((k, c') :: r)
def updateK (T : Tab) (t : TypeId) (st : St) (vm vk vx : SV) (K : St → SV → Prop) : Prop :=
  match (T.at t).kind with
  | .map kt _ => match (T.at kt).kind with
    | .int _ => match vm with
      | .one (.map k) => match vk with
        | .one (.int .i64 i) => match vx with
          | .one (.fn f []) => findK st.mem k fun bx => match bx with
            | .fmap m => insertK m i (.fn f []) fun m => insK st.mem k (.fmap m) fun mm => st.withM mm fun st => K st (.one .undef)
            | _ => False
          | _ => False
        | _ => False
      | _ => False
    | _ => False
  | _ => False

/-- One operation; b: where the numbers of this call's boxes begin; call: a call of a function. -/
def vOp (T : Tab) (hd : Bool) (call : Nat → List SV → St → (St → SV → Prop) → Prop) (b : Nat) (o : Oper) (st : St) (K : St → SV → Prop) : Prop :=
  match o.op with
  | .alloc t => match o.dst with
    | some d => match (T.at t).ty with
      | some ty => st.new (b + d) (some d) (.cells t (zeroC ty)) fun st => K st (.one (.ptr (b + d) 0))
      | none => False
    | none => False
  | .box t x => evalK st x fun v => v.cellsK fun cs => match o.dst with
    | some d => st.new (b + d) (some d) (.cells t cs) fun st => K st (.one (.ptr (b + d) 0))
    | none => False
  | .buildSlice t n parts => match (T.at t).kind with
    | .sl e => match o.dst with
      | some d => match (T.at e).ty with
        | some ty => match n with
          | 0 => match parts.toList with
            | [] => K st (.one (.emp ty))
            | _ => False
          | n + 1 => elemsK ty st 0 parts.toList fun st ys => bif (bif Nat.beq ys.length (n + 1) then Nat.ble ((n + 1) * ty.size) 16777216 else false) then st.newRow (b + d) e ty ys K else False
        | none => False
      | none => False
    | _ => False
  | .store t x y => evalK st x fun v => evalK st y fun u => u.cellsK fun ds => storeK T t st v ds K
  | .makeSlice t x y => evalK st x fun vx => evalK st y fun vy => match vx with
    | .one (.int .i64 n) => match vy with
      | .one (.int .i64 m) => match (T.at t).kind with
        | .sl e => match o.dst with
          | some d => match (T.at e).ty with
            | some ty => (0 ≤ n ∧ n ≤ 1000000000 ∧ m = n) ∧ st.newRow (b + d) e ty (List.replicate n.toNat (dflt ty)) K
            | none => False
          | none => False
        | _ => False
      | _ => False
    | _ => False
  | .slice t x lo hi mx => evalK st x fun v => match v with
    | .one (.row k) => optIntK st lo fun lo => optIntK st hi fun hi => optIntK st mx fun mx => match lo with
      | none => cutRowK T b o.dst t st k none hi mx K
      | some lo => freezeK st (.row k) fun st c => sliceK T t (.one c) (some lo) hi mx fun v => K st v
    | v => optIntK st lo fun lo => optIntK st hi fun hi => optIntK st mx fun mx => sliceK T t v lo hi mx fun v => K st v
  | .makeMap _ r => match r with
    | none => match o.dst with
      | some d => st.new (b + d) none (.fmap []) fun st => K st (.one (.map (b + d)))
      | none => False
    | some _ => False
  | .insert t m k x => evalK st m fun vm => evalK st k fun vk => evalK st x fun vx => updateK T t st vm vk vx K
  | .mapUpdate t m k x => evalK st m fun vm => evalK st k fun vk => evalK st x fun vx => updateK T t st vm vk vx K
  | .call c => match c.callee with
    | .builtin bn => match bn with
      | .append => match c.args.toList with
        | [x, y] => match c.argTypes.toList with
          | [t, t'] => bif Nat.beq t t' then evalK st x fun vx => evalK st y fun vy => appendK T b o.dst t st vx vy K else evalK st x fun vx => evalK st y fun vy => appendZK T b o.dst t t' st vx vy K
          | _ => False
        | _ => False
      | .copy => match c.args.toList with
        | [x, y] => match c.argTypes.toList with
          | [t, _] => evalK st x fun vx => evalK st y fun vy => copyK T t st vx vy K
          | _ => False
        | _ => False
      | _ => vRead T hd o st fun v => K st v
    | .value f => evalK st f fun vf => match vf with
      | .one (.fn f caps) => argsK st c.args.toList fun vs => call f (vs ++ caps.map fun p => .one (.ptr p.1 p.2)) st K
      | _ => False
    | _ => False
  | _ => vRead T hd o st fun v => K st v

/-- Only these slots and boxes are kept. -/
def keepT (L : List Nat) : Nat → List SV → (List SV → Prop) → Prop
  | _, [], K => K []
  | i, v :: r, K => keepT L (i + 1) r fun r => K ((bif L.any (Nat.beq i) then v else .one .undef) :: r)
def keepM (B : List Nat) : List (Nat × Box) → (List (Nat × Box) → Prop) → Prop
  | [], K => K []
  | (j, b) :: r, K => keepM B r fun r => bif B.any (Nat.beq j) then K ((j, b) :: r) else K r
def St.keep (L B : List Nat) (st : St) (K : St → Prop) : Prop :=
  match st with
  | ⟨t, m, s⟩ => keepT L 0 t fun t => keepM B m fun m => K ⟨t, m, s⟩
def boxK : List (Nat × Box) → Nat → Prop → (Box → Prop) → Prop
  | [], _, N, _ => N
  | (j, b) :: r, k, N, K => bif Nat.beq j k then K b else boxK r k N K
/-- An empty slice in a slot is an own row from now on; (1000000, k): row k is data from now on. -/
def rowsK : List (Nat × Nat × TypeId × Ty) → St → (St → Prop) → Prop
  | [], st, K => K st
  | (i, k, e, t) :: r, st, K => bif Nat.ble 1000000 i then boxK st.mem k (rowsK r st K) fun b => match b with
    | .row _ t l => St.drop st k (.sl t l false) fun st => rowsK r st K
    | _ => rowsK r st K
    else getK st.tmps i fun v => match v with
    | .one (.emp _) => st.new k none (.row e t []) fun st => st.set i (.one (.row k)) fun st => rowsK r st K
    | .one .nilsl => st.new k none (.row e t []) fun st => st.set i (.one (.row k)) fun st => rowsK r st K
    | .one (.row _) => rowsK r st K
    | _ => False

/-! ### Plans: in which order a region that draws its order is gone through -/
/-- take: an operation that looks at what stood at the region's beginning; reck: one that looks at no memory; one: the only one that may come next; fork: those that may come next. -/
inductive VPlan where
  | done
  | take (i : Nat) (p : VPlan)
  | reck (i : Nat) (p : VPlan)
  | one (i : Nat) (p : VPlan)
  | two (i j : Nat) (p q : VPlan)
  | three (i j k : Nat) (p q r : VPlan)

/-- Nothing of a box's own. -/
def hasAny (ks : List Nat) : List (Nat × Box) → Bool
  | [] => false
  | (j, _) :: r => bif ks.any (Nat.beq j) then true else hasAny ks r

/-- The boxes that an operation changes. -/
def valOf (st : St) : Operand → SV
  | .tmp i => st.tmps.getD i (.one .undef)
  | .const (.int k n) => .one (.int k n)
  | .const (.bool b) => .one (.bool b)
  | .const (.slice none 0 0) => .one .nilsl
  | .const .nilFunc => .one .nilfn
  | .const _ => .one .undef
  | .func f => .one (.fn f [])
  | _ => .one .undef
def appendsOf (s : SV) : List Nat := match s with | .one (.row k) => [k] | .one (.arr k _ _ _ _) => [k] | _ => []
def storesTo (v : SV) : List Nat := match v with | .one (.ptr k _) => [k] | .one (.elt k _ _ _) => [k] | _ => []
def mapsOf (v : SV) : List Nat := match v with | .one (.map k) => [k] | _ => []
def wrOf (o : Oper) (st : St) : List Nat :=
  match o.op with
  | .store _ x _ => storesTo (valOf st x)
  | .insert _ m _ _ => mapsOf (valOf st m)
  | .mapUpdate _ m _ _ => mapsOf (valOf st m)
  | .slice _ x _ _ _ => appendsOf (valOf st x)
  | .call c => match c.callee with
    | .builtin .append => (match c.args.toList with | [x, _] => appendsOf (valOf st x) | _ => [])
    | .builtin .copy => (match c.args.toList with | [x, _] => appendsOf (valOf st x) | _ => [])
    | _ => []
  | _ => []

/-- What an operation's guard says: run it? -/
def guardK (ops : List Oper) (o : Oper) (st : St) (K : Bool → St → Prop) : Prop :=
  match o.guard with
  | none => K true st
  | some (j, want) => getK ops j fun oj => match oj.dst with
    | none => False
    | some d => getK st.tmps d fun v => match v with
      | .one (.bool c) => match c with
        | true => st.set d (.one (.bool true)) fun st => K want st
        | false => st.set d (.one (.bool false)) fun st => K (!want) st
      | .tup [] => K false st
      | _ => False

/-- The numbers of a memory's boxes. -/
def keysOf : List (Nat × Box) → List Nat
  | [] => []
  | (j, _) :: r => j :: keysOf r
/-- Does an operation change a box that it may not change? -/
def hits (F : List Nat) (o : Oper) (st : St) : Bool :=
  match F with
  | [] => false
  | j :: r => (wrOf o st).any fun k => (Nat.beq k j || r.any (Nat.beq k))
/-- The operations of a region, one by one. F: boxes that are not changed. -/
def vOps (T : Tab) (hd : Bool) (call : List Nat → Nat → List SV → St → (St → SV → Prop) → Prop) (F : List Nat) (b : Nat) (ops : List Oper) : List Oper → St → (St → Prop) → Prop
  | [], st, K => K st
  | o :: r, st, K => guardK ops o st fun run st => match run with
    | true => bif hits F o st then False else vOp T hd (call F) b o st fun st v => st.put o.dst v fun st => vOps T hd call F b ops r st K
    | false => st.put o.dst (.tup []) fun st => vOps T hd call F b ops r st K

/-- An operation that looks at no memory; a row that is cut is made data first. -/
def reckK (T : Tab) (hd : Bool) (o : Oper) (st : St) (K : St → SV → Prop) : Prop :=
  match o.op with
  | .slice t x lo hi mx => evalK st x fun v => match v with
    | .one (.row k) => optIntK st lo fun lo => optIntK st hi fun hi => optIntK st mx fun mx => freezeK st (.row k) fun st c => sliceK T t (.one c) lo hi mx fun v => K st v
    | v => optIntK st lo fun lo => optIntK st hi fun hi => optIntK st mx fun mx => sliceK T t v lo hi mx fun v => K st v
  | _ => vRead T hd o st fun v => K st v
/-- Along a plan. sf: what was known at the beginning and is not changed; tmps that are written later say nothing there. -/
def vPlan (T : Tab) (hd : Bool) (call : List Nat → Nat → List SV → St → (St → SV → Prop) → Prop) (F : List Nat) (b : Nat) (ops : List Oper) : VPlan → St → St → (St → Prop) → Prop
  | .done, _, st, K => K st
  | .take i p, sf, st, K => getK ops i fun o => guardK ops o sf fun run sf => guardK ops o st fun run' st => match run, run' with
    | true, true => vRead T hd o sf fun vf => vRead T hd o st fun v => sf.put o.dst vf fun sf => st.put o.dst v fun st => vPlan T hd call F b ops p sf st K
    | false, false => sf.put o.dst (.tup []) fun sf => st.put o.dst (.tup []) fun st => vPlan T hd call F b ops p sf st K
    | _, _ => True
  | .reck i p, sf, st, K => getK ops i fun o => bif worldless o.op then guardK ops o st fun run st => match run with
      | true => reckK T hd o st fun st v => sf.put o.dst (.one .undef) fun sf => st.put o.dst v fun st => vPlan T hd call F b ops p sf st K
      | false => sf.put o.dst (.one .undef) fun sf => st.put o.dst (.tup []) fun st => vPlan T hd call F b ops p sf st K
    else False
  | .one i p, sf, st, K => stepK i sf st (fun sf st => vPlan T hd call F b ops p sf st K)
  | .two i j p q, sf, st, K => stepK i sf st (fun sf st => vPlan T hd call F b ops p sf st K) ∧ stepK j sf st (fun sf st => vPlan T hd call F b ops q sf st K)
  | .three i j k p q r, sf, st, K => stepK i sf st (fun sf st => vPlan T hd call F b ops p sf st K) ∧ stepK j sf st (fun sf st => vPlan T hd call F b ops q sf st K) ∧ stepK k sf st (fun sf st => vPlan T hd call F b ops r sf st K)
where
  stepK (i : Nat) (sf st : St) (K : St → St → Prop) : Prop :=
    getK ops i fun o => guardK ops o st fun run st => match run with
      | true => bif hits F o st then False else bif hasAny (wrOf o st) sf.mem then False else vOp T hd (call (F ++ (keysOf sf.mem ++ keysOf st.mem))) b o st fun st v => sf.put o.dst (.one .undef) fun sf => st.put o.dst v fun st => K sf st
      | false => sf.put o.dst (.one .undef) fun sf => st.put o.dst (.tup []) fun st => K sf st
/-- The plan, for the kernel. -/
def VPlan.len : VPlan → Nat
  | .done => 0
  | .take _ p => p.len + 1
  | .reck _ p => p.len + 1
  | .one _ p => p.len + 1
  | .two _ _ p _ => p.len + 1
  | .three _ _ _ p _ _ => p.len + 1
def VPlan.ok (md : Region.Mode) (ops : Array Oper) : VPlan → Array Bool → Bool
  | .done, listed => Region.ready md ops listed == []
  | .take i p, listed => Region.free md ops listed i && (Region.ready md ops listed).contains i && p.ok md ops (listed.setIfInBounds i true)
  | .reck i p, listed => Region.free md ops listed i && (Region.ready md ops listed).contains i && p.ok md ops (listed.setIfInBounds i true)
  | .one i p, listed => Region.ready md ops listed == [i] && p.ok md ops (listed.setIfInBounds i true)
  | .two i j p q, listed => Region.ready md ops listed == [i, j] && p.len == q.len && p.ok md ops (listed.setIfInBounds i true) && q.ok md ops (listed.setIfInBounds j true)
  | .three i j k p q r, listed => Region.ready md ops listed == [i, j, k] && p.len == q.len && p.len == r.len && p.ok md ops (listed.setIfInBounds i true) && q.ok md ops (listed.setIfInBounds j true) && r.ok md ops (listed.setIfInBounds k true)
def planFits (ops : Array Oper) (p : VPlan) : Bool := Region.noSelect ops && p.ok .any ops (Array.replicate ops.size false) && Nat.beq p.len ops.size

/-! ### Calls -/
def C.data : C → Bool
  | .int _ _ => true
  | .bool _ => true
  | .sl _ _ _ => true
  | .nilsl => true
  | .emp _ => true
  | .fn _ [] => true
  | .nilfn => true
  | _ => false
def allData : List C → Bool
  | [] => true
  | c :: r => bif c.data then allData r else false
def SV.data : SV → Bool
  | .one c => c.data
  | .agg cs => allData cs
  | .tup vs => vs.all fun v => allData v.2
def svsData : List SV → Bool
  | [] => true
  | v :: r => bif v.data then svsData r else false
def C.scalar : C → Bool
  | .int _ _ => true
  | .bool _ => true
  | _ => false
def SV.scalar : SV → Bool
  | .one c => c.scalar
  | .agg cs => cs.all C.scalar
  | .tup vs => vs.all fun v => v.2.all C.scalar
/-- As data: of slices nothing is said of their capacity. -/
def C.clean : C → C
  | .sl t l _ => .sl t l false
  | .emp t => .sl t [] false
  | c => c
def cleanL : List C → List C
  | [] => []
  | c :: r => c.clean :: cleanL r
def SV.clean : SV → SV
  | .one c => .one c.clean
  | .agg cs => .agg (cleanL cs)
  | .tup vs => .tup (vs.map fun v => (v.1, cleanL v.2))
/-- So many elements out of cells. -/
def elemsOfK (t : Ty) : Nat → List C → (List (Den t) → Prop) → Prop
  | 0, _, K => K []
  | n + 1, cs, K => unflatK t cs fun x r => elemsOfK t n r fun l => K (x :: l)
/-- What a cell reads as, own rows looked at as data. -/
def viewK (m : List (Nat × Box)) (c : C) (K : C → Prop) : Prop :=
  match c with
  | .row k => findK m k fun b => match b with
    | .row _ t l => K (.sl t l false)
    | _ => False
  | .sl t l _ => K (.sl t l false)
  | .emp t => K (.sl t [] false)
  | .arr k off n cap t => findK m k fun b => match b with
    | .cells _ cs => bif Nat.ble cap 4096 then elemsOfK t n (cs.drop off) fun l => K (.sl t l false) else False
    | _ => False
  | c => K c
def viewL (m : List (Nat × Box)) : List C → (List C → Prop) → Prop
  | [], K => K []
  | c :: r, K => viewK m c fun c => viewL m r fun r => K (c :: r)
def viewV (m : List (Nat × Box)) (v : SV) (K : SV → Prop) : Prop :=
  match v with
  | .one c => viewK m c fun c => K (.one c)
  | .agg cs => viewL m cs fun cs => K (.agg cs)
  | .tup _ => False
def viewVs (m : List (Nat × Box)) : List SV → (List SV → Prop) → Prop
  | [], K => K []
  | v :: r, K => viewV m v fun v => viewVs m r fun r => K (v :: r)
/-- The own rows of a value are made data. -/
def freezeV (st : St) (v : SV) (K : St → SV → Prop) : Prop :=
  match v with
  | .one c => freezeK st c fun st c => K st (.one c)
  | .agg cs => freezeL st cs fun st cs => K st (.agg cs)
  | .tup vs => freezeT st vs fun st vs => K st (.tup vs)
where
  freezeT (st : St) : List (Bool × List C) → (St → List (Bool × List C) → Prop) → Prop
    | [], K => K st []
    | (b, cs) :: r, K => freezeL st cs fun st cs => freezeT st r fun st r => K st ((b, cs) :: r)
def freezeVs (st : St) : List SV → (St → List SV → Prop) → Prop
  | [], K => K st []
  | v :: r, K => freezeV st v fun st v => freezeVs st r fun st r => K st (v :: r)

end Go.Proofs.YtjeiopkfdgllhaaGreat.V
