/- What a symbolic state says of an activation and a world. -/
import Derived.Test.YtjeiopkfdgllhaaGreatVDef
namespace Go.Proofs.YtjeiopkfdgllhaaGreat.V
open Go Go.RowKit Go.Proofs.YtjeiopkfdgllhaaGreat.Hz

/-! ### Data in memory -/
/-- A slice of n elements that are these cells; or an empty one without room, wherever it points. -/
def SX (X : Nat → Prop) (w : World) (v : Value) (n : Nat) (cs : List Value) : Prop := SC X w v n cs ∨ ((∃ ad, v = .slice (some ad) 0 0) ∧ n = 0 ∧ cs = [])
theorem SX.up {X X' : Nat → Prop} {w w' : World} {v : Value} {n : Nat} {cs : List Value} (h : SX X w v n cs) (k : Off X w w') (hX : ∀ b, b < w.heap.size → X' b → X b) : SX X' w' v n cs := h.imp (fun h => h.up k hX) id
theorem SX.one {X : Nat → Prop} {w : World} {v : Value} {n : Nat} {cs : List Value} (h : SX X w v n cs) : v.oneCell' = true := by
  rcases h with h | ⟨⟨ad, rfl⟩, _⟩
  · exact h.one
  · rfl
theorem SX.len {X : Nat → Prop} {w : World} {v : Value} {n : Nat} {cs : List Value} (h : SX X w v n cs) : ∃ ad c, v = .slice ad n c ∧ n ≤ c ∧ c ≤ maxLen := by
  rcases h with h | ⟨⟨ad, rfl⟩, rfl, _⟩
  · exact h.len
  · exact ⟨_, 0, rfl, Nat.le_refl _, by decide⟩
theorem SX.empty {X : Nat → Prop} {w : World} {base : Option Addr} : SX X w (.slice base 0 0) 0 [] := by
  cases base with
  | none => exact .inl (.inl ⟨rfl, rfl, rfl⟩)
  | some ad => exact .inr ⟨⟨ad, rfl⟩, rfl, rfl⟩
def DC (X : Nat → Prop) (w : World) : (t : Ty) → List Value → Den t → Prop
  | .int k, c, n => c = [.int k n]
  | .bool, c, b => c = [.bool b]
  | .sl t, c, l => ∃ v, c = [v] ∧ ∃ cs, SX X w v (List.length l) cs ∧ Chunks (DC X w t) l cs
  | .nil, c, _ => c = []
  | .cons a b, c, x => ∃ c1 c2, c = c1 ++ c2 ∧ DC X w a c1 x.1 ∧ DC X w b c2 x.2
/-- A slice of data. -/
def RSl (X : Nat → Prop) (w : World) (v : Value) (t : Ty) (l : List (Den t)) : Prop := ∃ cs, SX X w v l.length cs ∧ Chunks (DC X w t) l cs

theorem DC.up {X X' : Nat → Prop} {w w' : World} (k : Off X w w') (hX : ∀ b, b < w.heap.size → X' b → X b) : ∀ {t : Ty} {c : List Value} {x : Den t}, DC X w t c x → DC X' w' t c x
  | .int _, _, _, h => h
  | .bool, _, _, h => h
  | .sl t, _, _, ⟨v, e, cs, h1, h2⟩ => ⟨v, e, cs, h1.up k hX, h2.mono fun _ _ h => DC.up k hX (t := t) h⟩
  | .nil, _, _, h => h
  | .cons _ _, _, _, ⟨c1, c2, e, h1, h2⟩ => ⟨c1, c2, e, DC.up k hX h1, DC.up k hX h2⟩
theorem RSl.up {X X' : Nat → Prop} {w w' : World} {v : Value} {t : Ty} {l : List (Den t)} (h : RSl X w v t l) (k : Off X w w') (hX : ∀ b, b < w.heap.size → X' b → X b) : RSl X' w' v t l :=
  h.elim fun cs h => ⟨cs, h.1.up k hX, h.2.mono fun _ _ h => DC.up k hX h⟩
theorem DC.len {X : Nat → Prop} {w : World} : ∀ {t : Ty} {c : List Value} {x : Den t}, DC X w t c x → c.length = t.size
  | .int _, _, _, h => by rw [show _ = _ from h]; rfl
  | .bool, _, _, h => by rw [show _ = _ from h]; rfl
  | .sl _, _, _, ⟨v, e, _⟩ => by rw [e]; rfl
  | .nil, _, _, h => by rw [show _ = _ from h]; rfl
  | .cons a b, _, _, ⟨c1, c2, e, h1, h2⟩ => by rw [e, List.length_append, DC.len h1, DC.len h2]; rfl
theorem DC.one {X : Nat → Prop} {w : World} : ∀ {t : Ty} {c : List Value} {x : Den t}, DC X w t c x → ∀ u ∈ c, u.oneCell' = true
  | .int _, _, _, h, u, hu => by rw [show _ = _ from h, List.mem_singleton] at hu; rw [hu]; rfl
  | .bool, _, _, h, u, hu => by rw [show _ = _ from h, List.mem_singleton] at hu; rw [hu]; rfl
  | .sl _, _, _, ⟨v, e, _, h, _⟩, u, hu => by rw [e, List.mem_singleton] at hu; rw [hu]; exact h.one
  | .nil, _, _, h, u, hu => by rw [show _ = _ from h] at hu; cases hu
  | .cons _ _, _, _, ⟨c1, c2, e, h1, h2⟩, u, hu => by
    rw [e, List.mem_append] at hu
    rcases hu with hu | hu
    · exact DC.one h1 u hu
    · exact DC.one h2 u hu
theorem chunks_one {X : Nat → Prop} {w : World} {t : Ty} {l : List (Den t)} {cs : List Value} (h : Chunks (DC X w t) l cs) : ∀ u ∈ cs, u.oneCell' = true :=
  Chunks.all (fun u => u.oneCell' = true) (fun _ _ h => DC.one h) h

/-! ### Cells, values -/
structure Env where
  blk : Nat → Nat
  rv : Nat → Value
  live : Nat → Bool

/-- An empty slice that has no room. -/
def Emp (_X : Nat → Prop) (_w : World) (v : Value) : Prop := ∃ base, v = .slice base 0 0
theorem Emp.up {X X' : Nat → Prop} {w w' : World} {v : Value} (h : Emp X w v) (_k : Off X w w') (_hX : ∀ b, b < w.heap.size → X' b → X b) : Emp X' w' v := h
theorem Emp.nil {X : Nat → Prop} {w : World} : Emp X w (.slice none 0 0) := ⟨none, rfl⟩

def RC (X : Nat → Prop) (w : World) (E : Env) : Value → C → Prop
  | v, .int k n => v = .int k n
  | v, .bool b => v = .bool b
  | v, .sl t l c => RSl X w v t l ∧ (c = true → ∃ ad, v = .slice ad l.length l.length)
  | v, .nilsl => v = .slice none 0 0
  | v, .emp _ => Emp X w v
  | v, .ptr k off => v = .pointer (some ⟨E.blk k, off, none⟩)
  | v, .row k => v = E.rv k ∧ v.oneCell' = true
  | v, .elt k i sz off => v = .pointer (some ⟨E.blk k, i * sz + off, none⟩)
  | v, .ielt t l i off => i < l.length ∧ ∃ b o cs, v = .pointer (some ⟨b, o + i * t.size + off, none⟩) ∧ ¬ X b ∧ b < w.heap.size ∧ Chunks (DC X w t) l cs ∧ Row w b o cs
  | v, .fn f caps => v = .func (.func f) #[] (caps.map fun p => Value.pointer (some ⟨E.blk p.1, p.2, none⟩)).toArray
  | v, .nilfn => v = .nilFunc
  | v, .map k => v = .map (some (E.blk k))
  | v, .arr k off n cap _ => v = .slice (some ⟨E.blk k, off, none⟩) n cap ∧ n ≤ cap
  | _, .undef => True

def RCs (X : Nat → Prop) (w : World) (E : Env) : List Value → List C → Prop
  | [], [] => True
  | v :: vs, c :: cs => RC X w E v c ∧ RCs X w E vs cs
  | _, _ => False

/-- How a component of a tuple reads. -/
def RP (X : Nat → Prop) (w : World) (E : Env) (v : Value) (p : Bool × List C) : Prop :=
  match p.1 with
  | true => ∃ vs, v = .agg vs.toArray ∧ RCs X w E vs p.2
  | false => ∃ c, p.2 = [c] ∧ RC X w E v c
def RPs (X : Nat → Prop) (w : World) (E : Env) : List Value → List (Bool × List C) → Prop
  | [], [] => True
  | v :: vs, c :: cs => RP X w E v c ∧ RPs X w E vs cs
  | _, _ => False
def RV (X : Nat → Prop) (w : World) (E : Env) : Value → SV → Prop
  | v, .one c => RC X w E v c
  | v, .agg cs => ∃ vs, v = .agg vs.toArray ∧ RCs X w E vs cs
  | v, .tup l => ∃ vs, v = .tuple vs.toArray ∧ RPs X w E vs l
def RVs (X : Nat → Prop) (w : World) (E : Env) : List Value → List SV → Prop
  | [], [] => True
  | v :: vs, c :: cs => RV X w E v c ∧ RVs X w E vs cs
  | _, _ => False

/-- Two environments agree on what is said. -/
def Env.agree (E E' : Env) (p : Nat → Bool) : Prop := ∀ j, p j = true → E'.blk j = E.blk j ∧ E'.rv j = E.rv j

section
variable {X X' : Nat → Prop} {w w' : World} {E E' : Env}
theorem RC.up {v : Value} {c : C} (h : RC X w E v c) (k : Off X w w') (hX : ∀ b, b < w.heap.size → X' b → X b) (hE : E.agree E' (fun j => c.says j)) : RC X' w' E' v c := by
  cases c with
  | int => exact h
  | bool => exact h
  | sl t l c => exact ⟨h.1.up k hX, h.2⟩
  | nilsl => exact h
  | emp => exact Emp.up h k hX
  | ptr j off => have := (hE j (by simp [C.says])).1; show v = .pointer (some ⟨E'.blk j, off, none⟩); rw [this]; exact h
  | row j => have := (hE j (by simp [C.says])).2; show v = E'.rv j ∧ _; rw [this]; exact h
  | elt j i sz off => have := (hE j (by simp [C.says])).1; show v = .pointer (some ⟨E'.blk j, i * sz + off, none⟩); rw [this]; exact h
  | ielt t l i off =>
    obtain ⟨hi, b, o, cs, e, h1, h2, h3, h4⟩ := h
    exact ⟨hi, b, o, cs, e, fun hx => h1 (hX b h2 hx), Nat.lt_of_lt_of_le h2 k.size, h3.mono fun _ _ h => DC.up k hX h, h4.to (k.block b h2 h1)⟩
  | fn f caps =>
    show v = .func (.func f) #[] (caps.map fun p => Value.pointer (some ⟨E'.blk p.1, p.2, none⟩)).toArray
    rw [show v = .func (.func f) #[] (caps.map fun p => Value.pointer (some ⟨E.blk p.1, p.2, none⟩)).toArray from h]
    congr 2
    apply List.map_congr_left
    intro p hp
    rw [(hE p.1 (by simp only [C.says, List.any_eq_true]; exact ⟨p, hp, by simp⟩)).1]
  | nilfn => exact h
  | map j => have := (hE j (by simp [C.says])).1; show v = .map (some (E'.blk j)); rw [this]; exact h
  | arr j off n cap t => have := (hE j (by simp [C.says])).1; show v = .slice (some ⟨E'.blk j, off, none⟩) n cap ∧ _; rw [this]; exact h
  | undef => trivial
theorem anyC_iff {p : C → Bool} : ∀ {cs : List C}, anyC p cs = true ↔ ∃ c ∈ cs, p c = true
  | [] => by simp [anyC]
  | c :: r => by
    unfold anyC
    cases hp : p c <;> simp [hp, anyC_iff (cs := r)]
theorem anyC_cons (p : C → Bool) (c : C) (cs : List C) : anyC p (c :: cs) = (p c || anyC p cs) := by
  show (bif p c then true else anyC p cs) = _
  cases p c <;> rfl
theorem tmpsSay_cons (k : Nat) (c : SV) (cs : List SV) : tmpsSay k (c :: cs) = (c.says k || tmpsSay k cs) := by
  show (bif c.says k then true else tmpsSay k cs) = _
  cases c.says k <;> rfl
theorem Env.agree.mono {p q : Nat → Bool} (h : E.agree E' p) (hq : ∀ j, q j = true → p j = true) : E.agree E' q := fun j hj => h j (hq j hj)
theorem RCs.up : ∀ {vs : List Value} {cs : List C}, RCs X w E vs cs → Off X w w' → (∀ b, b < w.heap.size → X' b → X b) → E.agree E' (fun j => anyC (C.says j) cs) → RCs X' w' E' vs cs
  | [], [], _, _, _, _ => trivial
  | _ :: _, c :: cs, h, k, hX, hE => ⟨h.1.up k hX <| hE.mono fun j hj => by simp only [anyC_cons, Bool.or_eq_true]; exact .inl hj, RCs.up h.2 k hX <| hE.mono fun j hj => by simp only [anyC_cons, Bool.or_eq_true]; exact .inr hj⟩
  | [], _ :: _, h, _, _, _ => h.elim
  | _ :: _, [], h, _, _, _ => h.elim
theorem RP.up {v : Value} {p : Bool × List C} (h : RP X w E v p) (k : Off X w w') (hX : ∀ b, b < w.heap.size → X' b → X b) (hE : E.agree E' (fun j => anyC (C.says j) p.2)) : RP X' w' E' v p := by
  unfold RP at h ⊢
  split at h
  · obtain ⟨vs, e, h⟩ := h; exact ⟨vs, e, h.up k hX hE⟩
  · obtain ⟨c, e, h⟩ := h; exact ⟨c, e, h.up k hX <| hE.mono fun j hj => by simp only [e, anyC_cons, Bool.or_eq_true]; exact .inl hj⟩
theorem RPs.up : ∀ {vs : List Value} {ps : List (Bool × List C)}, RPs X w E vs ps → Off X w w' → (∀ b, b < w.heap.size → X' b → X b) → E.agree E' (fun j => ps.any fun p => anyC (C.says j) p.2) → RPs X' w' E' vs ps
  | [], [], _, _, _, _ => trivial
  | _ :: _, c :: cs, h, k, hX, hE => ⟨h.1.up k hX <| hE.mono fun j hj => by simp only [List.any_cons, Bool.or_eq_true]; exact .inl hj, RPs.up h.2 k hX <| hE.mono fun j hj => by simp only [List.any_cons, Bool.or_eq_true]; exact .inr hj⟩
  | [], _ :: _, h, _, _, _ => h.elim
  | _ :: _, [], h, _, _, _ => h.elim
theorem RV.up {v : Value} {s : SV} (h : RV X w E v s) (k : Off X w w') (hX : ∀ b, b < w.heap.size → X' b → X b) (hE : E.agree E' (fun j => s.says j)) : RV X' w' E' v s := by
  cases s with
  | one c => exact RC.up h k hX hE
  | agg cs => obtain ⟨vs, e, h⟩ := h; exact ⟨vs, e, h.up k hX hE⟩
  | tup ps => obtain ⟨vs, e, h⟩ := h; exact ⟨vs, e, h.up k hX hE⟩
theorem RVs.up : ∀ {vs : List Value} {cs : List SV}, RVs X w E vs cs → Off X w w' → (∀ b, b < w.heap.size → X' b → X b) → E.agree E' (fun j => tmpsSay j cs) → RVs X' w' E' vs cs
  | [], [], _, _, _, _ => trivial
  | _ :: _, c :: cs, h, k, hX, hE => ⟨h.1.up k hX <| hE.mono fun j hj => by simp only [tmpsSay_cons, Bool.or_eq_true]; exact .inl hj, RVs.up h.2 k hX <| hE.mono fun j hj => by simp only [tmpsSay_cons, Bool.or_eq_true]; exact .inr hj⟩
  | [], _ :: _, h, _, _, _ => h.elim
  | _ :: _, [], h, _, _, _ => h.elim
end

/-! ### Boxes and states -/
def RFm (X : Nat → Prop) (w : World) (E : Env) : List MapEntry → List (Int × C) → Prop
  | [], [] => True
  | e :: es, p :: ps => e.key = .int .i64 p.1 ∧ RC X w E e.val p.2 ∧ RFm X w E es ps
  | _, _ => False
/-- A row of data that is one's own: the block that holds it. -/
def RRow (X : Nat → Prop) (w : World) (e : TypeId) (t : Ty) (g : Nat) (v : Value) (l : List (Den t)) : Prop :=
  ∃ cap cur, v = .slice (some ⟨g, 0, none⟩) l.length cap ∧ w.heap[g]? = some (.cells cur e (0, 0)) ∧ l.length ≤ cap ∧ cap ≤ maxLen ∧ cur.size = cap * t.size ∧ Chunks (DC X w t) l (cur.toList.take (l.length * t.size))
/-- One of its elements is opened: what its cells hold may be own rows. -/
def RRowo (X : Nat → Prop) (w : World) (E : Env) (e : TypeId) (t : Ty) (g : Nat) (v : Value) (l : List (Den t)) (i : Nat) (cs : List C) : Prop :=
  ∃ cap cur us c1 c3, v = .slice (some ⟨g, 0, none⟩) l.length cap ∧ w.heap[g]? = some (.cells cur e (0, 0)) ∧ l.length ≤ cap ∧ cap ≤ maxLen ∧ cur.size = cap * t.size ∧ i < l.length ∧
    cur.toList.take (l.length * t.size) = c1 ++ (us ++ c3) ∧ c1.length = i * t.size ∧ us.length = t.size ∧ RCs X w E us cs ∧ Chunks (DC X w t) (l.take i) c1 ∧ Chunks (DC X w t) (l.drop (i + 1)) c3
def RB (X : Nat → Prop) (w : World) (E : Env) (k : Nat) : Box → Prop
  | .cells t cs => E.live k = true ∧ ∃ vs, w.heap[E.blk k]? = some (.cells vs.toArray t (0, 0)) ∧ RCs X w E vs cs
  | .row e t l => match E.live k with
    | true => RRow X w e t (E.blk k) (E.rv k) l
    | false => Emp X w (E.rv k) ∧ l = []
  | .rowo e t l i cs => E.live k = true ∧ RRowo X w E e t (E.blk k) (E.rv k) l i cs
  | .fmap m => E.live k = true ∧ ∃ es clock, w.heap[E.blk k]? = some (.map es clock) ∧ RFm X w E es.toList m

/-- The blocks that this call, or those that called it, may still write. -/
def own (X0 : Nat → Prop) (E : Env) (mem : List (Nat × Box)) : Nat → Prop := fun b => X0 b ∨ ∃ k bx, (k, bx) ∈ mem ∧ E.live k = true ∧ E.blk k = b

def RStk (X : Nat → Prop) (w : World) (E : Env) : List (Array Value) → List (List SV) → Prop
  | [], [] => True
  | a :: as, t :: ts => RVs X w E a.toList t ∧ RStk X w E as ts
  | _, _ => False

def Sorted (m : List (Nat × Box)) : Prop := m.Pairwise fun p q => p.1 < q.1

/-- The slots of those that called; what is asked of each box's number and block. -/
structure Cx where
  as : List (Array Value)
  pr : Nat → Nat → Prop
structure RE (X0 : Nat → Prop) (w0 : World) (as : Cx) (E : Env) (st : St) (a : Act) (w : World) : Prop where
  apart : ∀ b, X0 b → b < w.heap.size ∧ ∀ k bx, (k, bx) ∈ st.mem → E.live k = true → E.blk k ≠ b
  below : Below w0.heap.size w0 w
  defers : a.defers = []
  tmps : RVs (own X0 E st.mem) w E a.tmps.toList st.tmps
  mem : ∀ k bx, (k, bx) ∈ st.mem → RB (own X0 E st.mem) w E k bx
  place : ∀ k bx, (k, bx) ∈ st.mem → E.live k = true → w0.heap.size ≤ E.blk k ∧ E.blk k < w.heap.size
  keys : Sorted st.mem
  inj : ∀ k bx k' bx', (k, bx) ∈ st.mem → (k', bx') ∈ st.mem → E.live k = true → E.live k' = true → E.blk k = E.blk k' → k = k'
  stk : RStk (own X0 E st.mem) w E as.as st.stk
  prot : ∀ k bx, (k, bx) ∈ st.mem → E.live k = true → as.pr k (E.blk k)
  prN : ∀ k b, w.heap.size ≤ b → as.pr k b

def R (X0 : Nat → Prop) (w0 : World) (as : Cx) (st : St) (a : Act) (w : World) : Prop := ∃ E, RE X0 w0 as E st a w

/-! ### Lists, step by step: what it says -/
theorem getK_is {α : Type} {K : α → Prop} : ∀ {l : List α} {i : Nat}, getK l i K → ∃ x, l[i]? = some x ∧ K x
  | [], _, h => h.elim
  | x :: _, 0, h => ⟨x, rfl, h⟩
  | _ :: r, n + 1, h => by simpa using getK_is (l := r) (i := n) h
theorem setK_is {α : Type} {x : α} : ∀ {l : List α} {i : Nat} {K : List α → Prop}, setK l i x K → i < l.length ∧ K (l.set i x)
  | [], _, _, h => h.elim
  | _ :: _, 0, _, h => ⟨by simp, h⟩
  | _ :: r, n + 1, _, h => by have := setK_is (l := r) (i := n) h; exact ⟨by simpa using this.1, this.2⟩
theorem normL_is : ∀ {l : List C} {K : List C → Prop}, normL l K → K l
  | [], _, h => h
  | c :: r, K, h => normL_is (l := r) (K := fun r => K (c :: r)) h
theorem mapK_is {α : Type} {f : α → α} : ∀ {l : List α} {K : List α → Prop}, mapK f l K → K (l.map f)
  | [], _, h => h
  | c :: r, K, h => mapK_is (l := r) (K := fun r => K (f c :: r)) h
theorem stkMapK_is {α : Type} {f : α → α} : ∀ {l : List (List α)} {K : List (List α) → Prop}, stkMapK f l K → K (l.map fun l => l.map f)
  | [], _, h => h
  | c :: r, K, h => stkMapK_is (l := r) (K := fun r => K (c.map f :: r)) (mapK_is h)
theorem findK_is {K : Box → Prop} : ∀ {m : List (Nat × Box)} {k : Nat}, findK m k K → ∃ b, (k, b) ∈ m ∧ K b
  | [], _, h => h.elim
  | (j, b) :: r, k, h => by
    unfold findK at h
    cases hj : Nat.beq j k with
    | true => rw [hj] at h; exact ⟨b, by rw [Nat.eq_of_beq_eq_true hj]; simp, h⟩
    | false => rw [hj] at h; obtain ⟨b', h1, h2⟩ := findK_is (m := r) h; exact ⟨b', List.mem_cons_of_mem _ h1, h2⟩
theorem ble_false {k j : Nat} (h : Nat.ble k j = false) : j < k := by
  rcases Nat.lt_or_ge j k with c | c
  · exact c
  · rw [Nat.ble_eq_true_of_le c] at h; cases h
theorem beq_false {k j : Nat} (h : Nat.beq j k = false) : j ≠ k := fun e => by rw [e, Nat.beq_refl] at h; cases h
theorem insK_is {b : Box} : ∀ {m : List (Nat × Box)} {k : Nat} {K : List (Nat × Box) → Prop}, insK m k b K → Sorted m →
    ∃ m', K m' ∧ Sorted m' ∧ (∀ p, p ∈ m' ↔ p = (k, b) ∨ p ∈ m ∧ p.1 ≠ k)
  | [], k, K, h, _ => ⟨[(k, b)], h, by simp [Sorted], by simp⟩
  | (j, c) :: r, k, K, h, hs => by
    have hs' := List.pairwise_cons.1 hs
    unfold insK at h
    cases hj : Nat.beq j k with
    | true =>
      rw [hj] at h
      have e := Nat.eq_of_beq_eq_true hj
      subst e
      refine ⟨_, h, List.pairwise_cons.2 ⟨fun p hp => hs'.1 p hp, hs'.2⟩, fun p => ?_⟩
      simp only [List.mem_cons]
      constructor
      · rintro (rfl | hp)
        · exact .inl rfl
        · have := hs'.1 p hp; exact .inr ⟨.inr hp, by simp at this; omega⟩
      · rintro (rfl | ⟨rfl | hp, hn⟩)
        · exact .inl rfl
        · exact absurd rfl hn
        · exact .inr hp
    | false =>
      rw [hj] at h
      have hne := beq_false hj
      cases hb : Nat.ble k j with
      | true =>
        rw [hb] at h
        have hlt : k < j := by have := Nat.le_of_ble_eq_true hb; omega
        refine ⟨_, h, List.pairwise_cons.2 ⟨fun p hp => ?_, hs⟩, fun p => ?_⟩
        · rcases List.mem_cons.1 hp with rfl | hp
          · exact hlt
          · have := hs'.1 p hp; simp at this ⊢; omega
        · rw [List.mem_cons]
          constructor
          · rintro (rfl | hp)
            · exact .inl rfl
            · refine .inr ⟨hp, ?_⟩
              rcases List.mem_cons.1 hp with rfl | hp
              · simp; omega
              · have := hs'.1 p hp; simp at this; omega
          · rintro (rfl | ⟨hp, _⟩)
            · exact .inl rfl
            · exact .inr hp
      | false =>
        rw [hb] at h
        have hlt := ble_false hb
        obtain ⟨m', h1, h2, h3⟩ := insK_is (m := r) h hs'.2
        refine ⟨_, h1, List.pairwise_cons.2 ⟨fun p hp => ?_, h2⟩, fun p => ?_⟩
        · rcases (h3 p).1 hp with rfl | ⟨hp, _⟩
          · exact hlt
          · exact hs'.1 p hp
        · simp only [List.mem_cons, h3]
          constructor
          · rintro (rfl | rfl | ⟨hp, hn⟩)
            · exact .inr ⟨.inl rfl, hne⟩
            · exact .inl rfl
            · exact .inr ⟨.inr hp, hn⟩
          · rintro (rfl | ⟨rfl | hp, hn⟩)
            · exact .inr (.inl rfl)
            · exact .inl rfl
            · exact .inr (.inr ⟨hp, hn⟩)
theorem remK_is : ∀ {m : List (Nat × Box)} {k : Nat} {K : List (Nat × Box) → Prop}, remK m k K → Sorted m →
    ∃ m', K m' ∧ Sorted m' ∧ (∀ p, p ∈ m' ↔ p ∈ m ∧ p.1 ≠ k)
  | [], k, K, h, _ => ⟨[], h, by simp [Sorted], by simp⟩
  | (j, c) :: r, k, K, h, hs => by
    have hs' := List.pairwise_cons.1 hs
    unfold remK at h
    cases hj : Nat.beq j k with
    | true =>
      rw [hj] at h
      have e := Nat.eq_of_beq_eq_true hj
      subst e
      refine ⟨_, h, hs'.2, fun p => ?_⟩
      rw [List.mem_cons]
      constructor
      · intro hp; have := hs'.1 p hp; exact ⟨.inr hp, by simp at this; omega⟩
      · rintro ⟨rfl | hp, hn⟩
        · exact absurd rfl hn
        · exact hp
    | false =>
      rw [hj] at h
      have hne := beq_false hj
      obtain ⟨m', h1, h2, h3⟩ := remK_is (m := r) h hs'.2
      refine ⟨_, h1, List.pairwise_cons.2 ⟨fun p hp => hs'.1 p ((h3 p).1 hp).1, h2⟩, fun p => ?_⟩
      simp only [List.mem_cons, h3]
      constructor
      · rintro (rfl | ⟨hp, hn⟩)
        · exact ⟨.inl rfl, hne⟩
        · exact ⟨.inr hp, hn⟩
      · rintro ⟨rfl | hp, hn⟩
        · exact .inl rfl
        · exact .inr ⟨hp, hn⟩
theorem sorted_one {m : List (Nat × Box)} (h : Sorted m) {k : Nat} {b b' : Box} (h1 : (k, b) ∈ m) (h2 : (k, b') ∈ m) : b = b' := by
  induction m with
  | nil => cases h1
  | cons p r ih =>
    have hs := List.pairwise_cons.1 h
    rcases List.mem_cons.1 h1 with e1 | h1
    · rcases List.mem_cons.1 h2 with e2 | h2
      · exact (Prod.mk.inj (e1.trans e2.symm)).2
      · have := hs.1 _ h2; rw [← e1] at this; simp at this
    · rcases List.mem_cons.1 h2 with e2 | h2
      · have := hs.1 _ h1; rw [← e2] at this; simp at this
      · exact ih hs.2 h1 h2
theorem spliceK_is : ∀ {ds cs : List C} {o : Nat} {K : List C → Prop}, spliceK cs o ds K → o + ds.length ≤ cs.length ∧ K (cs.take o ++ (ds ++ cs.drop (o + ds.length)))
  | [], cs, 0, K, h => by cases cs <;> simpa [spliceK] using h
  | d :: ds, c :: cs, 0, K, h => by
    have := spliceK_is (ds := ds) (cs := cs) (o := 0) (K := fun r => K (d :: r)) h
    refine ⟨by have := this.1; simp at this ⊢; omega, ?_⟩
    have h2 := this.2
    simp only [Nat.zero_add] at h2
    simpa using h2
  | [], c :: cs, o + 1, K, h => by
    have := spliceK_is (ds := []) (cs := cs) (o := o) (K := fun r => K (c :: r)) h
    refine ⟨by have := this.1; simp at this ⊢; omega, ?_⟩
    simpa using this.2
  | d :: ds, c :: cs, o + 1, K, h => by
    have := spliceK_is (ds := d :: ds) (cs := cs) (o := o) (K := fun r => K (c :: r)) h
    refine ⟨by have := this.1; simp at this ⊢; omega, ?_⟩
    have h2 := this.2
    rw [show o + 1 + (d :: ds).length = (o + (d :: ds).length) + 1 by omega]
    simpa using h2
  | [], [], o + 1, _, h => by simp [spliceK] at h
  | d :: ds, [], o, _, h => by cases o <;> simp [spliceK] at h
end Go.Proofs.YtjeiopkfdgllhaaGreat.V
