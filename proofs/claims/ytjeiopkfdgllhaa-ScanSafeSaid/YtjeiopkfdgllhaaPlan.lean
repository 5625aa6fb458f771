/- Readings of this program's data in a world: rows of cells, slices, frames, cores, systems; and how they last while other blocks are made and written. -/
import Derived.WalkKit
import Derived.WalkSmall
import Derived.Lib.Hide
import Derived.OrdersHeld
import Derived.RegionTactic
import Derived.Deep.RegionHeld3
import Derived.Laws.AppendOwn
import Derived.Laws.AppendOwnNone
import Derived.Deep.MidRow
import Derived.IntWalk
import Derived.Laws.MakeOwn
set_option linter.unusedSimpArgs false
set_option linter.unusedVariables false
namespace Go.Proofs.Ytjeiopkfdgllhaa.Hz
open Go Go.RowKit

/-! ### The data -/
/-- A frame. -/
structure Frame where
  op : Int
  pc : Int
  r0 : Int
  r1 : Int
  r2 : Int
  r3 : Int
  r4 : Int
  r5 : Int
  r6 : Int
  r7 : Int
  S : List Int
/-- A core. -/
structure Core where
  F : List Frame
  V : Int
  E : Int
  x0 : Int
  x1 : Int
  x2 : Int
  Ret : List Int
/-- What took effect. -/
structure Ev where
  core : Int
  kind : Int
  a : Int
  b : Int
  v : Int
/-- An arena. -/
structure Mem where
  W : List Int
  G : List Int
  Bad : Bool
/-- A system. -/
structure Sys where
  M : Mem
  C : List Core
  L : List Ev

/-! ### Blocks that stay -/
/-- The blocks of w that are not in X stand in w' as they stood. -/
structure Off (X : Nat → Prop) (w w' : World) : Prop where
  size : w.heap.size ≤ w'.heap.size
  block : ∀ b, b < w.heap.size → ¬ X b → w'.heap[b]? = w.heap[b]?

theorem Off.refl (X : Nat → Prop) (w : World) : Off X w w := ⟨Nat.le_refl _, fun _ _ _ => rfl⟩
theorem Off.trans {X : Nat → Prop} {a b c : World} (h : Off X a b) (k : Off X b c) : Off X a c :=
  ⟨Nat.le_trans h.size k.size, fun i hi hx => (k.block i (Nat.lt_of_lt_of_le hi h.size) hx).trans (h.block i hi hx)⟩
theorem Off.below {X : Nat → Prop} {a b c : World} (h : Off X a b) (k : Below b.heap.size b c) : Off X a c :=
  h.trans ⟨k.size, fun i hi _ => k.block i hi⟩
theorem Off.belowAt {X : Nat → Prop} {B : Nat} {a b c : World} (h : Off X a b) (k : Below B b c) (hB : a.heap.size ≤ B) : Off X a c :=
  ⟨Nat.le_trans h.size k.size, fun i hi hx => (k.block i (Nat.lt_of_lt_of_le hi hB)).trans (h.block i hi hx)⟩
theorem Off.alloc {X : Nat → Prop} {a w : World} (h : Off X a w) (o : Obj) : Off X a (w.alloc o) :=
  h.trans ⟨by simp, fun i hi _ => Below.heap_alloc _ _ _ hi⟩
theorem Off.setCell {X : Nat → Prop} {a w : World} (h : Off X a w) {p : Addr} (hp : X p.block ∨ a.heap.size ≤ p.block) (u : Value) : Off X a (w.setCell p u) :=
  ⟨by have := h.size; simp [World.setCell]; exact this, fun i hi hx => by
    have hne : i ≠ p.block := fun e => by
      rcases hp with hp | hp
      · exact hx (e ▸ hp)
      · omega
    rw [Below.heap_setCell _ _ _ _ hne]
    exact h.block i hi hx⟩
theorem Off.drew {X : Nat → Prop} {a w : World} (h : Off X a w) : Off X a w.drew := ⟨h.size, h.block⟩
theorem Off.drewN {X : Nat → Prop} {a w : World} (h : Off X a w) (n : Nat) : Off X a (w.drewN n) := ⟨h.size, h.block⟩
theorem Off.ofBelow {X : Nat → Prop} {w w' : World} (k : Below w.heap.size w w') : Off X w w' := (Off.refl X w).below k

theorem cell_off {X : Nat → Prop} {w w' : World} (h : Off X w w') {b o : Nat} (hb : b < w.heap.size) (hx : ¬ X b) : w'.cell? ⟨b, o, none⟩ = w.cell? ⟨b, o, none⟩ :=
  World.cell?_of_block (w := w) (h.block b hb hx)

/-! ### Rows of cells -/
/-- Cells that stand in a row. -/
def Row (w : World) (b o : Nat) (cs : List Value) : Prop := ∀ (i : Nat) (v : Value), cs[i]? = some v → w.cell? ⟨b, o + i, none⟩ = some v

theorem Row.to {w w' : World} {b o : Nat} {cs : List Value} (h : Row w b o cs) (k : w'.heap[b]? = w.heap[b]?) : Row w' b o cs := fun i v hv =>
  (World.cell?_of_block (w := w) (a := ⟨b, o + i, none⟩) k).trans (h i v hv)
theorem Row.left {w : World} {b o : Nat} {cs ds : List Value} (h : Row w b o (cs ++ ds)) : Row w b o cs := fun i v hv =>
  h i v (by rw [List.getElem?_append_left (List.getElem?_eq_some_iff.1 hv).1]; exact hv)
theorem Row.right {w : World} {b o : Nat} {cs ds : List Value} (h : Row w b o (cs ++ ds)) : Row w b (o + cs.length) ds := fun i v hv => by
  have := h (cs.length + i) v (by rw [List.getElem?_append_right (by omega)]; simpa using hv)
  rw [Nat.add_assoc]; exact this
theorem Row.nil (w : World) (b o : Nat) : Row w b o [] := fun i v hv => by simp at hv
theorem Row.append {w : World} {b o : Nat} {cs ds : List Value} (h : Row w b o cs) (k : Row w b (o + cs.length) ds) : Row w b o (cs ++ ds) := fun i v hv => by
  by_cases c : i < cs.length
  · exact h i v (by rw [List.getElem?_append_left c] at hv; exact hv)
  · rw [List.getElem?_append_right (by omega)] at hv
    have := k _ v hv
    rw [show o + cs.length + (i - cs.length) = o + i by omega] at this
    exact this

/-- A slice of n elements that are these cells. -/
def SC (X : Nat → Prop) (w : World) (v : Value) (n : Nat) (cs : List Value) : Prop :=
  (v = .slice none 0 0 ∧ n = 0 ∧ cs = []) ∨ ∃ b o c, v = .slice (some ⟨b, o, none⟩) n c ∧ ¬ X b ∧ b < w.heap.size ∧ n ≤ c ∧ c ≤ maxLen ∧ Row w b o cs

theorem SC.up {X X' : Nat → Prop} {w w' : World} {v : Value} {n : Nat} {cs : List Value} (h : SC X w v n cs) (k : Off X w w') (hX : ∀ b, b < w.heap.size → X' b → X b) : SC X' w' v n cs := by
  rcases h with h | ⟨b, o, c, rfl, hx, hb, h1, h2, hr⟩
  · exact .inl h
  · exact .inr ⟨b, o, c, rfl, fun e => hx (hX b hb e), Nat.lt_of_lt_of_le hb k.size, h1, h2, hr.to (k.block b hb hx)⟩

theorem SC.one {X : Nat → Prop} {w : World} {v : Value} {n : Nat} {cs : List Value} (h : SC X w v n cs) : v.oneCell' = true := by
  rcases h with ⟨rfl, _⟩ | ⟨b, o, c, rfl, _⟩ <;> rfl

/-! ### Lists of things that take so many cells each -/
/-- The cells of a list of things, one behind the other. -/
def Chunks {α : Type} (R : List Value → α → Prop) : List α → List Value → Prop
  | [], cs => cs = []
  | x :: xs, cs => ∃ c r, cs = c ++ r ∧ R c x ∧ Chunks R xs r

theorem Chunks.mono {α : Type} {R R' : List Value → α → Prop} (hR : ∀ c x, R c x → R' c x) : ∀ {xs : List α} {cs : List Value}, Chunks R xs cs → Chunks R' xs cs
  | [], _, h => h
  | _ :: _, _, ⟨c, r, e, h1, h2⟩ => ⟨c, r, e, hR _ _ h1, Chunks.mono hR h2⟩

theorem Chunks.append {α : Type} {R : List Value → α → Prop} : ∀ {xs ys : List α} {cs ds : List Value}, Chunks R xs cs → Chunks R ys ds → Chunks R (xs ++ ys) (cs ++ ds)
  | [], _, _, _, h, k => by obtain rfl := h; exact k
  | _ :: _, _, _, _, ⟨c, r, e, h1, h2⟩, k => ⟨c, r ++ _, by rw [e, List.append_assoc], h1, Chunks.append h2 k⟩

theorem Chunks.length {α : Type} {R : List Value → α → Prop} (k : Nat) (hk : ∀ c x, R c x → c.length = k) : ∀ {xs : List α} {cs : List Value}, Chunks R xs cs → cs.length = xs.length * k
  | [], _, h => by obtain rfl := h; simp
  | _ :: _, _, ⟨c, r, e, h1, h2⟩ => by
    rw [e, List.length_append, hk _ _ h1, Chunks.length k hk h2, List.length_cons, Nat.add_mul]; omega

/-- One of them, and the others around it. -/
theorem Chunks.at {α : Type} {R : List Value → α → Prop} (k : Nat) (hk : ∀ c x, R c x → c.length = k) : ∀ {xs : List α} {cs : List Value} {i : Nat} {x : α}, Chunks R xs cs → xs[i]? = some x →
    ∃ l c r, cs = l ++ (c ++ r) ∧ l.length = i * k ∧ R c x ∧ Chunks R (xs.take i) l ∧ Chunks R (xs.drop (i + 1)) r
  | [], _, _, _, _, hx => by simp at hx
  | y :: ys, _, 0, x, ⟨c, r, e, h1, h2⟩, hx => by
    obtain rfl : y = x := by simpa using hx
    exact ⟨[], c, r, e, by simp, h1, rfl, by simpa using h2⟩
  | y :: ys, _, i + 1, x, ⟨c, r, e, h1, h2⟩, hx => by
    obtain ⟨l, c', r', e', hl, h3, h4, h5⟩ := Chunks.at k hk h2 (by simpa using hx)
    refine ⟨c ++ l, c', r', by rw [e, e', List.append_assoc], ?_, h3, ⟨c, l, rfl, h1, h4⟩, by simpa using h5⟩
    rw [List.length_append, hk _ _ h1, hl, Nat.add_mul]; omega

theorem Chunks.one {α : Type} {R : List Value → α → Prop} {c : List Value} {x : α} (h : R c x) : Chunks R [x] c := ⟨c, [], by simp, h, rfl⟩

theorem Chunks.split {α : Type} {R : List Value → α → Prop} : ∀ {xs ys : List α} {cs : List Value}, Chunks R (xs ++ ys) cs → ∃ l r, cs = l ++ r ∧ Chunks R xs l ∧ Chunks R ys r
  | [], _, cs, h => ⟨[], cs, rfl, rfl, h⟩
  | _ :: _, _, _, ⟨c, r, e, h1, h2⟩ => by
    obtain ⟨l, r', e', h3, h4⟩ := Chunks.split h2
    exact ⟨c ++ l, r', by rw [e, e', List.append_assoc], ⟨c, l, rfl, h1, h3⟩, h4⟩

theorem Chunks.all {α : Type} {R : List Value → α → Prop} (p : Value → Prop) (hp : ∀ c x, R c x → ∀ u ∈ c, p u) : ∀ {xs : List α} {cs : List Value}, Chunks R xs cs → ∀ u ∈ cs, p u
  | [], _, h, u, hu => by obtain rfl := h; cases hu
  | _ :: _, _, ⟨c, r, e, h1, h2⟩, u, hu => by
    rw [e, List.mem_append] at hu
    rcases hu with hu | hu
    · exact hp _ _ h1 u hu
    · exact Chunks.all p hp h2 u hu

theorem Chunks.set {α : Type} {R : List Value → α → Prop} {xs : List α} {l c r : List Value} {i : Nat} {x' : α} (h4 : Chunks R (xs.take i) l) (h3 : R c x') (h5 : Chunks R (xs.drop (i + 1)) r) (hi : i < xs.length) :
    Chunks R (xs.set i x') (l ++ (c ++ r)) := by
  rw [List.set_eq_take_append_cons_drop, if_pos hi]
  exact h4.append ⟨c, r, rfl, h3, h5⟩

theorem Chunks.setAt {α : Type} {R : List Value → α → Prop} (k : Nat) (hk : ∀ c x, R c x → c.length = k) {xs : List α} {cs c : List Value} {i : Nat} {x' : α} (h : Chunks R xs cs) (hi : i < xs.length) (hc : R c x') :
    Chunks R (xs.set i x') (cs.take (i * k) ++ (c ++ cs.drop (i * k + k))) := by
  obtain ⟨l, d, r, rfl, hl, hd, h4, h5⟩ := Chunks.at k hk h (List.getElem?_eq_getElem hi)
  have e1 : (l ++ (d ++ r)).take (i * k) = l := by rw [← hl]; simp
  have e2 : (l ++ (d ++ r)).drop (i * k + k) = r := by rw [← hl, ← hk _ _ hd, ← List.length_append, ← List.append_assoc]; simp
  rw [e1, e2]
  exact Chunks.set h4 hc h5 hi

/-! ### Each kind of thing -/
def intC (c : List Value) (x : Int) : Prop := c = [.int .i64 x]
def boolC (c : List Value) (x : Bool) : Prop := c = [.bool x]
def evC (c : List Value) (e : Ev) : Prop := c = [.int .i64 e.core, .int .i64 e.kind, .int .i64 e.a, .int .i64 e.b, .int .i64 e.v]

/-- A slice of whole numbers. -/
def RI (X : Nat → Prop) (w : World) (v : Value) (xs : List Int) : Prop := SC X w v xs.length (xs.map (Value.int .i64))
/-- A slice of bools. -/
def RB (X : Nat → Prop) (w : World) (v : Value) (xs : List Bool) : Prop := SC X w v xs.length (xs.map Value.bool)

def frameCells (f : Frame) (S : Value) : List Value := [.int .i64 f.op, .int .i64 f.pc, .int .i64 f.r0, .int .i64 f.r1, .int .i64 f.r2, .int .i64 f.r3, .int .i64 f.r4, .int .i64 f.r5, .int .i64 f.r6, .int .i64 f.r7, S]
def frameC (X : Nat → Prop) (w : World) (c : List Value) (f : Frame) : Prop := ∃ S, c = frameCells f S ∧ RI X w S f.S
/-- A slice of frames. -/
def RFs (X : Nat → Prop) (w : World) (v : Value) (fs : List Frame) : Prop := ∃ cs, Chunks (frameC X w) fs cs ∧ SC X w v fs.length cs
def coreCells (c : Core) (F Ret : Value) : List Value := [F, .int .i64 c.V, .int .i64 c.E, .int .i64 c.x0, .int .i64 c.x1, .int .i64 c.x2, Ret]
def coreC (X : Nat → Prop) (w : World) (cs : List Value) (c : Core) : Prop := ∃ F Ret, cs = coreCells c F Ret ∧ RFs X w F c.F ∧ RI X w Ret c.Ret
/-- A slice of cores. -/
def RCs (X : Nat → Prop) (w : World) (v : Value) (l : List Core) : Prop := ∃ cs, Chunks (coreC X w) l cs ∧ SC X w v l.length cs
/-- A slice of events. -/
def RL (X : Nat → Prop) (w : World) (v : Value) (l : List Ev) : Prop := ∃ cs, Chunks evC l cs ∧ SC X w v l.length cs
/-- An arena. -/
def RMem (X : Nat → Prop) (w : World) (v : Value) (m : Mem) : Prop := ∃ W G, v = .agg #[W, G, .bool m.Bad] ∧ RI X w W m.W ∧ RI X w G m.G
/-- A frame, by value. -/
def RFrame (X : Nat → Prop) (w : World) (v : Value) (f : Frame) : Prop := ∃ S, v = .agg (frameCells f S).toArray ∧ RI X w S f.S
/-- A core, by value. -/
def RCore (X : Nat → Prop) (w : World) (v : Value) (c : Core) : Prop := ∃ F Ret, v = .agg (coreCells c F Ret).toArray ∧ RFs X w F c.F ∧ RI X w Ret c.Ret
/-- A system. -/
def RSys (X : Nat → Prop) (w : World) (v : Value) (s : Sys) : Prop := ∃ W G C L, v = .agg #[W, G, .bool s.M.Bad, C, L] ∧ RI X w W s.M.W ∧ RI X w G s.M.G ∧ RCs X w C s.C ∧ RL X w L s.L

section
variable {X X' : Nat → Prop} {w w' : World} {v : Value}
theorem RI.up {xs : List Int} (h : RI X w v xs) (k : Off X w w') (hX : ∀ b, b < w.heap.size → X' b → X b) : RI X' w' v xs := SC.up h k hX
theorem RB.up {xs : List Bool} (h : RB X w v xs) (k : Off X w w') (hX : ∀ b, b < w.heap.size → X' b → X b) : RB X' w' v xs := SC.up h k hX
theorem frameC_up {c : List Value} {f : Frame} (h : frameC X w c f) (k : Off X w w') (hX : ∀ b, b < w.heap.size → X' b → X b) : frameC X' w' c f := by
  obtain ⟨S, e, h1⟩ := h; exact ⟨S, e, h1.up k hX⟩
theorem RFs.up {fs : List Frame} (h : RFs X w v fs) (k : Off X w w') (hX : ∀ b, b < w.heap.size → X' b → X b) : RFs X' w' v fs := by
  obtain ⟨cs, h1, h2⟩ := h; exact ⟨cs, h1.mono fun _ _ h => frameC_up h k hX, h2.up k hX⟩
theorem coreC_up {c : List Value} {x : Core} (h : coreC X w c x) (k : Off X w w') (hX : ∀ b, b < w.heap.size → X' b → X b) : coreC X' w' c x := by
  obtain ⟨F, R, e, h1, h2⟩ := h; exact ⟨F, R, e, h1.up k hX, h2.up k hX⟩
theorem RCs.up {l : List Core} (h : RCs X w v l) (k : Off X w w') (hX : ∀ b, b < w.heap.size → X' b → X b) : RCs X' w' v l := by
  obtain ⟨cs, h1, h2⟩ := h; exact ⟨cs, h1.mono fun _ _ h => coreC_up h k hX, h2.up k hX⟩
theorem RL.up {l : List Ev} (h : RL X w v l) (k : Off X w w') (hX : ∀ b, b < w.heap.size → X' b → X b) : RL X' w' v l := by
  obtain ⟨cs, h1, h2⟩ := h; exact ⟨cs, h1, h2.up k hX⟩
theorem RMem.up {m : Mem} (h : RMem X w v m) (k : Off X w w') (hX : ∀ b, b < w.heap.size → X' b → X b) : RMem X' w' v m := by
  obtain ⟨W, G, e, h1, h2⟩ := h; exact ⟨W, G, e, h1.up k hX, h2.up k hX⟩
theorem RFrame.up {f : Frame} (h : RFrame X w v f) (k : Off X w w') (hX : ∀ b, b < w.heap.size → X' b → X b) : RFrame X' w' v f := by
  obtain ⟨S, e, h1⟩ := h; exact ⟨S, e, h1.up k hX⟩
theorem RCore.up {c : Core} (h : RCore X w v c) (k : Off X w w') (hX : ∀ b, b < w.heap.size → X' b → X b) : RCore X' w' v c := by
  obtain ⟨F, R, e, h1, h2⟩ := h; exact ⟨F, R, e, h1.up k hX, h2.up k hX⟩
theorem RSys.up {s : Sys} (h : RSys X w v s) (k : Off X w w') (hX : ∀ b, b < w.heap.size → X' b → X b) : RSys X' w' v s := by
  obtain ⟨W, G, C, L, e, h1, h2, h3, h4⟩ := h; exact ⟨W, G, C, L, e, h1.up k hX, h2.up k hX, h3.up k hX, h4.up k hX⟩
end

/-! ### A look at one of them -/
theorem SC.len {X : Nat → Prop} {w : World} {v : Value} {n : Nat} {cs : List Value} (h : SC X w v n cs) : ∃ ad c, v = .slice ad n c ∧ n ≤ c ∧ c ≤ maxLen := by
  rcases h with ⟨rfl, rfl, _⟩ | ⟨b, o, c, rfl, _, _, h1, h2, _⟩
  · exact ⟨none, 0, rfl, Nat.le_refl _, by decide⟩
  · exact ⟨_, c, rfl, h1, h2⟩

theorem frameC_len {X : Nat → Prop} {w : World} (c : List Value) (f : Frame) (h : frameC X w c f) : c.length = 11 := by obtain ⟨S, rfl, _⟩ := h; rfl
theorem coreC_len {X : Nat → Prop} {w : World} (c : List Value) (x : Core) (h : coreC X w c x) : c.length = 7 := by obtain ⟨F, R, rfl, _⟩ := h; rfl
theorem evC_len (c : List Value) (x : Ev) (h : evC c x) : c.length = 5 := by obtain rfl := h; rfl

/-- The row of one of the things of a slice. -/
theorem chunk_row {α : Type} {R : List Value → α → Prop} (k : Nat) (hk : ∀ c x, R c x → c.length = k) {X : Nat → Prop} {w : World} {v : Value} {xs : List α} {cs : List Value} {i : Nat} {x : α}
    (h : Chunks R xs cs) (hs : SC X w v xs.length cs) (hx : xs[i]? = some x) :
    ∃ b o c d, v = .slice (some ⟨b, o, none⟩) xs.length c ∧ ¬ X b ∧ b < w.heap.size ∧ xs.length ≤ c ∧ c ≤ maxLen ∧ R d x ∧ Row w b (o + i * k) d := by
  have hi : i < xs.length := (List.getElem?_eq_some_iff.1 hx).1
  rcases hs with ⟨_, h0, _⟩ | ⟨b, o, c, rfl, h1, h2, h3, h4, hr⟩
  · omega
  · obtain ⟨l, d, r, rfl, hl, hd, _, _⟩ := Chunks.at k hk h hx
    refine ⟨b, o, c, d, rfl, h1, h2, h3, h4, hd, ?_⟩
    have := (hr.right).left
    rw [hl] at this
    exact this

/-- The cells of a core of a slice of cores. -/
structure CoreAt (w : World) (b o : Nat) (c : Core) (F Ret : Value) : Prop where
  c0 : w.cell? ⟨b, o, none⟩ = some F
  c1 : w.cell? ⟨b, o + 1, none⟩ = some (.int .i64 c.V)
  c2 : w.cell? ⟨b, o + 2, none⟩ = some (.int .i64 c.E)
  c3 : w.cell? ⟨b, o + 3, none⟩ = some (.int .i64 c.x0)
  c4 : w.cell? ⟨b, o + 4, none⟩ = some (.int .i64 c.x1)
  c5 : w.cell? ⟨b, o + 5, none⟩ = some (.int .i64 c.x2)
  c6 : w.cell? ⟨b, o + 6, none⟩ = some Ret
theorem CoreAt.of {w : World} {b o : Nat} {c : Core} {F Ret : Value} (h : Row w b o (coreCells c F Ret)) : CoreAt w b o c F Ret :=
  ⟨h 0 _ rfl, h 1 _ rfl, h 2 _ rfl, h 3 _ rfl, h 4 _ rfl, h 5 _ rfl, h 6 _ rfl⟩
theorem RCs.at {X : Nat → Prop} {w : World} {v : Value} {l : List Core} {k : Nat} {c : Core} (h : RCs X w v l) (hk : l[k]? = some c) :
    ∃ b o n F Ret, v = .slice (some ⟨b, o, none⟩) l.length n ∧ ¬ X b ∧ b < w.heap.size ∧ l.length ≤ n ∧ n ≤ maxLen ∧ CoreAt w b (o + k * 7) c F Ret ∧ RFs X w F c.F ∧ RI X w Ret c.Ret := by
  obtain ⟨cs, h1, h2⟩ := h
  obtain ⟨b, o, n, d, e, a1, a2, a3, a4, ⟨F, Ret, rfl, r1, r2⟩, hr⟩ := chunk_row 7 coreC_len h1 h2 hk
  exact ⟨b, o, n, F, Ret, e, a1, a2, a3, a4, .of hr, r1, r2⟩

/-- The cells of a frame of a slice of frames. -/
structure FrameAt (w : World) (b o : Nat) (f : Frame) (S : Value) : Prop where
  c0 : w.cell? ⟨b, o, none⟩ = some (.int .i64 f.op)
  c1 : w.cell? ⟨b, o + 1, none⟩ = some (.int .i64 f.pc)
  c2 : w.cell? ⟨b, o + 2, none⟩ = some (.int .i64 f.r0)
  c3 : w.cell? ⟨b, o + 3, none⟩ = some (.int .i64 f.r1)
  c4 : w.cell? ⟨b, o + 4, none⟩ = some (.int .i64 f.r2)
  c5 : w.cell? ⟨b, o + 5, none⟩ = some (.int .i64 f.r3)
  c6 : w.cell? ⟨b, o + 6, none⟩ = some (.int .i64 f.r4)
  c7 : w.cell? ⟨b, o + 7, none⟩ = some (.int .i64 f.r5)
  c8 : w.cell? ⟨b, o + 8, none⟩ = some (.int .i64 f.r6)
  c9 : w.cell? ⟨b, o + 9, none⟩ = some (.int .i64 f.r7)
  c10 : w.cell? ⟨b, o + 10, none⟩ = some S
theorem FrameAt.of {w : World} {b o : Nat} {f : Frame} {S : Value} (h : Row w b o (frameCells f S)) : FrameAt w b o f S :=
  ⟨h 0 _ rfl, h 1 _ rfl, h 2 _ rfl, h 3 _ rfl, h 4 _ rfl, h 5 _ rfl, h 6 _ rfl, h 7 _ rfl, h 8 _ rfl, h 9 _ rfl, h 10 _ rfl⟩
theorem RFs.at {X : Nat → Prop} {w : World} {v : Value} {l : List Frame} {k : Nat} {f : Frame} (h : RFs X w v l) (hk : l[k]? = some f) :
    ∃ b o n S, v = .slice (some ⟨b, o, none⟩) l.length n ∧ ¬ X b ∧ b < w.heap.size ∧ l.length ≤ n ∧ n ≤ maxLen ∧ FrameAt w b (o + k * 11) f S ∧ RI X w S f.S := by
  obtain ⟨cs, h1, h2⟩ := h
  obtain ⟨b, o, n, d, e, a1, a2, a3, a4, ⟨S, rfl, r1⟩, hr⟩ := chunk_row 11 frameC_len h1 h2 hk
  exact ⟨b, o, n, S, e, a1, a2, a3, a4, .of hr, r1⟩

/-- The cells of an event of a slice of events. -/
structure EvAt (w : World) (b o : Nat) (e : Ev) : Prop where
  c0 : w.cell? ⟨b, o, none⟩ = some (.int .i64 e.core)
  c1 : w.cell? ⟨b, o + 1, none⟩ = some (.int .i64 e.kind)
  c2 : w.cell? ⟨b, o + 2, none⟩ = some (.int .i64 e.a)
  c3 : w.cell? ⟨b, o + 3, none⟩ = some (.int .i64 e.b)
  c4 : w.cell? ⟨b, o + 4, none⟩ = some (.int .i64 e.v)
theorem EvAt.of {w : World} {b o : Nat} {e : Ev} (h : Row w b o [.int .i64 e.core, .int .i64 e.kind, .int .i64 e.a, .int .i64 e.b, .int .i64 e.v]) : EvAt w b o e :=
  ⟨h 0 _ rfl, h 1 _ rfl, h 2 _ rfl, h 3 _ rfl, h 4 _ rfl⟩
theorem RL.at {X : Nat → Prop} {w : World} {v : Value} {l : List Ev} {k : Nat} {e : Ev} (h : RL X w v l) (hk : l[k]? = some e) :
    ∃ b o n, v = .slice (some ⟨b, o, none⟩) l.length n ∧ ¬ X b ∧ b < w.heap.size ∧ l.length ≤ n ∧ n ≤ maxLen ∧ EvAt w b (o + k * 5) e := by
  obtain ⟨cs, h1, h2⟩ := h
  obtain ⟨b, o, n, d, ev, a1, a2, a3, a4, rfl, hr⟩ := chunk_row 5 evC_len h1 h2 hk
  exact ⟨b, o, n, ev, a1, a2, a3, a4, .of hr⟩

theorem RI.at {X : Nat → Prop} {w : World} {v : Value} {xs : List Int} {k : Nat} (h : RI X w v xs) (hk : k < xs.length) :
    ∃ b o n, v = .slice (some ⟨b, o, none⟩) xs.length n ∧ ¬ X b ∧ b < w.heap.size ∧ xs.length ≤ n ∧ n ≤ maxLen ∧ ∀ i, i < xs.length → w.cell? ⟨b, o + i, none⟩ = some (.int .i64 (xs.getD i 0)) := by
  rcases h with ⟨_, h0, _⟩ | ⟨b, o, c, rfl, h1, h2, h3, h4, hr⟩
  · omega
  · refine ⟨b, o, c, rfl, h1, h2, h3, h4, fun i hi => hr i _ ?_⟩
    simp [List.getElem?_map, List.getD, hi]

theorem RI.len {X : Nat → Prop} {w : World} {v : Value} {xs : List Int} (h : RI X w v xs) : ∃ ad c, v = .slice ad xs.length c ∧ xs.length ≤ c ∧ c ≤ maxLen := SC.len h
theorem RCs.len {X : Nat → Prop} {w : World} {v : Value} {xs : List Core} (h : RCs X w v xs) : ∃ ad c, v = .slice ad xs.length c ∧ xs.length ≤ c ∧ c ≤ maxLen := h.elim fun _ h => h.2.len
theorem RFs.len {X : Nat → Prop} {w : World} {v : Value} {xs : List Frame} (h : RFs X w v xs) : ∃ ad c, v = .slice ad xs.length c ∧ xs.length ≤ c ∧ c ≤ maxLen := h.elim fun _ h => h.2.len
theorem RL.len {X : Nat → Prop} {w : World} {v : Value} {xs : List Ev} (h : RL X w v xs) : ∃ ad c, v = .slice ad xs.length c ∧ xs.length ≤ c ∧ c ≤ maxLen := h.elim fun _ h => h.2.len

theorem RI.none (X : Nat → Prop) (w : World) : RI X w (.slice none 0 0) [] := .inl ⟨rfl, rfl, rfl⟩
theorem RFs.none (X : Nat → Prop) (w : World) : RFs X w (.slice none 0 0) [] := ⟨[], rfl, .inl ⟨rfl, rfl, rfl⟩⟩
theorem RCs.none (X : Nat → Prop) (w : World) : RCs X w (.slice none 0 0) [] := ⟨[], rfl, .inl ⟨rfl, rfl, rfl⟩⟩
theorem RL.none (X : Nat → Prop) (w : World) : RL X w (.slice none 0 0) [] := ⟨[], rfl, .inl ⟨rfl, rfl, rfl⟩⟩

end Go.Proofs.Ytjeiopkfdgllhaa.Hz
/- A region that draws its order, walked along one order: what only reads or reckons is taken as soon as it may come up; the other operations come up one by one. S is what all worlds meet, as long as something is left that reads. -/
namespace Go.Proofs.Ytjeiopkfdgllhaa.Hz
open Go

section
variable {P : Program} {ops : Array Oper} {Q : Exit → Act → World → Prop} {md : Region.Mode} {S : World → Prop} {H : Nat → Bool}

/-- Whatever order is picked from here on; behind each operation of H, S holds. -/
def wpAnyG (P : Program) (md : Region.Mode) (ops : Array Oper) (Q : Exit → Act → World → Prop) (S : World → Prop) (H : Nat → Bool) : Nat → Array Bool → Act → World → Prop
  | 0, listed, a, w => Region.ready md ops listed = [] ∧ Q .normal a w
  | fuel + 1, listed, a, w =>
    (Region.ready md ops listed = [] → Q .normal a w) ∧
    ∀ i ∈ Region.ready md ops listed, wpOp P ops Q i (fun a' w' => (H i = true → S w → S w') ∧ wpAnyG P md ops Q S H fuel (listed.setIfInBounds i true) a' w') a w

theorem wpAny_of_G : ∀ (fuel : Nat) (listed : Array Bool) (a : Act) (w : World), wpAnyG P md ops Q S H fuel listed a w → wpAny P md ops Q fuel listed a w
  | 0, _, _, _, h => h
  | fuel + 1, _, _, _, h => ⟨h.1, fun i hi => wpOp_mono (fun a' w' h' => wpAny_of_G fuel _ a' w' h'.2) (h.2 i hi)⟩

theorem not_ready {i j : Nat} {listed : Array Bool} (hi : listed.getD i true = false) (hj : j ∈ Region.ready md ops listed) {oj : Oper} (hoj : ops[j]? = some oj) : ∀ e ∈ oj.after, Region.binds md e = true → e.on ≠ i := fun e he hb heq => by
  obtain ⟨_, o, ho, hall⟩ := mem_ready.1 hj
  obtain rfl : o = oj := Option.some.inj (ho.symm.trans hoj)
  have h1 := hall e he hb
  rw [heq] at h1
  rcases Nat.lt_or_ge i listed.size with h' | h'
  · simp [h'] at hi h1; rw [hi] at h1; cases h1
  · simp [Array.getElem?_eq_none h'] at h1

/-- An operation that reads (S1 is S) or reckons (S1 says nothing) may be taken first, if each other one waits for it, or keeps S1. -/
theorem wpAnyG_first {S1 : World → Prop} {i : Nat} {oi : Oper} {v : Value} (hi : ops[i]? = some oi) (hsel : ∀ (j : Nat) (o : Oper) cs b, ops[j]? = some o → o.op ≠ .select cs b)
    (hQ : ∀ c a w, Q (.panic c) (a.put oi.dst v) w → Q (.panic c) a w)
    (hH : ∀ j oj, ops[j]? = some oj → j ≠ i → (∃ e ∈ oj.after, Region.binds md e = true ∧ e.on = i) ∨ (∀ w w', (H j = true → S w → S w') → S1 w → S1 w')) :
    ∀ (fuel : Nat) (listed : Array Bool) (a : Act) (w : World),
      (∀ j oj, ops[j]? = some oj → j ≠ i → listed.getD j true = false → (∀ e ∈ oj.after, Region.binds md e = true → e.on ≠ i) → oi.apart ops oj = true) →
      i ∈ Region.ready md ops listed → YieldsIf P ops S1 oi v a → S1 w →
      wpAnyG P md ops Q S H fuel (listed.setIfInBounds i true) (a.put oi.dst v) w → wpAnyG P md ops Q S H (fuel + 1) listed a w := by
  intro fuel
  induction fuel with
  | zero =>
    intro listed a w _ hr hy hS h
    refine ⟨fun h0 => (by rw [h0] at hr; cases hr), fun j hj => ?_⟩
    by_cases hji : j = i
    · subst hji; exact hy.wpOp hi hS ⟨fun _ h => h, h⟩
    · have := ready_mono hj hji
      rw [h.1] at this
      cases this
  | succ fuel ih =>
    intro listed a w hfree hr hy hS h
    refine ⟨fun h0 => (by rw [h0] at hr; cases hr), fun j hj => ?_⟩
    by_cases hji : j = i
    · subst hji; exact hy.wpOp hi hS ⟨fun _ h => h, h⟩
    · have h1 := h.2 j (ready_mono hj hji)
      obtain ⟨hjun, oj, hoj, _⟩ := mem_ready.1 hj
      have hnot := not_ready (mem_ready.1 hr).1 hj hoj
      have hHj : ∀ w', (H j = true → S w → S w') → S1 w' := by
        rcases hH j oj hoj hji with ⟨e, he, hb2, hon⟩ | hk
        · exact absurd hon (hnot e he hb2)
        · exact fun w' hw' => hk w w' hw' hS
      have h2 := wpOp_putIf hoj (hfree j oj hoj hji hjun hnot) (fun cs b => hsel i oi cs b hi) (fun cs b => hsel j oj cs b hoj) hQ hy h1
      have hfree' : ∀ k ok, ops[k]? = some ok → k ≠ i → (listed.setIfInBounds j true).getD k true = false →
          (∀ e ∈ ok.after, Region.binds md e = true → e.on ≠ i) → oi.apart ops ok = true := fun k ok hk hki hun hno => by
        refine hfree k ok hk hki ?_ hno
        by_cases hjk : j = k
        · subst hjk; exact hjun
        · rw [getD_set_ne true hjk] at hun; exact hun
      refine wpOp_mono (fun a' w' h3 => ⟨h3.2.1, ih (listed.setIfInBounds j true) a' w' hfree' (ready_mono hr (Ne.symm hji)) h3.1 (hHj w' h3.2.1) ?_⟩) h2
      rw [Array.setIfInBounds_comm _ _ hji]
      exact h3.2.2

/-- The walk along one order: T tells what an operation is: 1: it reads; 2: it reckons; else: another one. -/
def wpAlong (P : Program) (ops : Array Oper) (Q : Exit → Act → World → Prop) (S : World → Prop) (T : Nat → Nat) (H : Nat → Bool) : List Nat → Act → World → Prop
  | [], a, w => Q .normal a w
  | i :: r, a, w =>
    if T i = 1 then ∃ o v, ops[i]? = some o ∧ YieldsIf P ops S o v a ∧ S w ∧ wpAlong P ops Q S T H r (a.put o.dst v) w
    else if T i = 2 then ∃ o v, ops[i]? = some o ∧ YieldsIf P ops (fun _ => True) o v a ∧ wpAlong P ops Q S T H r (a.put o.dst v) w
    else wpOp P ops Q i (fun a' w' => (H i = true → S w → S w') ∧ wpAlong P ops Q S T H r a' w') a w

/-- Does this order serve? For the kernel. -/
def alongOk (md : Region.Mode) (ops : Array Oper) (T : Nat → Nat) (H : Nat → Bool) : List Nat → Array Bool → Bool
  | [], listed => Region.ready md ops listed == []
  | i :: r, listed =>
    (if T i == 1 || T i == 2 then Region.free md ops listed i && (Region.ready md ops listed).contains i &&
        (T i == 2 || (List.range ops.size).all (fun j => j == i || H j || match ops[j]? with | some oj => oj.after.any (fun e => Region.binds md e && e.on == i) | none => true))
      else Region.ready md ops listed == [i]) && alongOk md ops T H r (listed.setIfInBounds i true)

theorem wpAnyG_along {T : Nat → Nat} (hs : Region.noSelect ops = true) (hQ : ∀ c (a : Act) d v w, Q (.panic c) (a.put d v) w → Q (.panic c) a w) :
    ∀ (ord : List Nat) (listed : Array Bool) (a : Act) (w : World), alongOk md ops T H ord listed = true → wpAlong P ops Q S T H ord a w → wpAnyG P md ops Q S H ord.length listed a w
  | [], listed, a, w, hok, h => ⟨by simpa [alongOk] using hok, h⟩
  | i :: r, listed, a, w, hok, h => by
    simp only [alongOk, Bool.and_eq_true] at hok
    obtain ⟨h1, h2⟩ := hok
    by_cases ht : T i = 1
    · rw [if_pos (by simp [ht])] at h1
      simp only [Bool.and_eq_true, List.contains_iff_mem, ht, show ((1 : Nat) == 2) = false from rfl, Bool.false_or, List.all_eq_true] at h1
      obtain ⟨⟨hf, hr⟩, hH⟩ := h1
      simp only [wpAlong, if_pos ht] at h
      obtain ⟨o, v, ho, hy, hS, h⟩ := h
      refine wpAnyG_first ho (Region.noSelect_spec hs) (fun c a w => hQ c a o.dst v w) ?_ r.length listed a w (Region.free_spec ho hf) hr hy hS (wpAnyG_along hs hQ r _ _ _ h2 h)
      intro j oj hj hji
      have h3 := hH j (List.mem_range.2 (Array.getElem?_eq_some_iff.1 hj).1)
      simp only [hj, Bool.or_eq_true, beq_iff_eq, hji, false_or] at h3
      rcases h3 with h3 | h3
      · exact .inr fun w w' hk hw => hk h3 hw
      · obtain ⟨e, he, hb⟩ := Array.any_eq_true'.1 h3
        simp only [Bool.and_eq_true, beq_iff_eq] at hb
        exact .inl ⟨e, he, hb.1, hb.2⟩
    · by_cases ht2 : T i = 2
      · rw [if_pos (by simp [ht2])] at h1
        simp only [Bool.and_eq_true, List.contains_iff_mem] at h1
        obtain ⟨⟨hf, hr⟩, _⟩ := h1
        simp only [wpAlong, if_neg ht, if_pos ht2] at h
        obtain ⟨o, v, ho, hy, h⟩ := h
        exact wpAnyG_first ho (Region.noSelect_spec hs) (fun c a w => hQ c a o.dst v w) (fun _ _ _ _ => .inr fun _ _ _ _ => trivial) r.length listed a w (Region.free_spec ho hf) hr hy trivial (wpAnyG_along hs hQ r _ _ _ h2 h)
      · rw [if_neg (by simp [ht, ht2])] at h1
        simp only [wpAlong, if_neg ht, if_neg ht2] at h
        have hr : Region.ready md ops listed = [i] := by simpa using h1
        refine ⟨fun h0 => (by rw [hr] at h0; cases h0), fun j hj => ?_⟩
        rw [hr] at hj
        obtain rfl : j = i := by simpa using hj
        exact wpOp_mono (fun a' w' h3 => ⟨h3.1, wpAnyG_along hs hQ r _ _ _ h2 h3.2⟩) h

/-- A region that draws, along one order. -/
theorem wp_region_along {id : Nat} {a : Act} {w : World} (T : Nat → Nat) (H : Nat → Bool) (S : World → Prop) (ord : List Nat) (hm : P.follows .mixedOrders = true) (hs : Region.noSelect ops = true)
    (hok : alongOk .any ops T H ord (Array.replicate ops.size false) = true) (hlen : ord.length = ops.size)
    (hQ : ∀ c (a : Act) d v w, Q (.panic c) (a.put d v) w → Q (.panic c) a w)
    (h : wpAlong P ops Q S T H ord a w.drew) : (Code.region id ops true).wp P Q a w := by
  refine wp_region_any hm (wpAny_of_G (S := S) (H := H) _ _ _ _ ?_)
  have h2 := wpAnyG_along hs hQ ord _ _ _ hok h
  rw [hlen] at h2
  exact h2

/-- What stood in the first world stands in the second. -/
def Agree (w w' : World) : Prop := ∀ b, b < w.heap.size → w'.heap[b]? = w.heap[b]?
theorem Agree.drew (w : World) : Agree w w.drew := fun _ _ => rfl
theorem Agree.cell {w w' : World} (h : Agree w w') : ∀ b o, b < w.heap.size → w'.cell? ⟨b, o, none⟩ = w.cell? ⟨b, o, none⟩ := fun b o hb => World.cell?_of_block (w := w) (a := ⟨b, o, none⟩) (h b hb)
theorem Agree.frozen {w w' : World} (h : Agree w w') : ∀ b o, b < w.heap.size → w'.frozen? ⟨b, o, none⟩ = w.frozen? ⟨b, o, none⟩ := fun b o hb => World.frozen?_of_block (w := w) (a := ⟨b, o, none⟩) (h b hb)

/-- A region that draws, along one order, while what stood at its beginning stands. -/
theorem wp_region_agree {id : Nat} {a : Act} {w : World} (T : Nat → Nat) (H : Nat → Bool) (ord : List Nat) (hm : P.follows .mixedOrders = true) (hs : Region.noSelect ops = true)
    (hok : alongOk .any ops T H ord (Array.replicate ops.size false) = true) (hlen : ord.length = ops.size)
    (hQ : ∀ c (a : Act) d v w, Q (.panic c) (a.put d v) w → Q (.panic c) a w)
    (h : wpAlong P ops Q (Agree w) T H ord a w.drew) : (Code.region id ops true).wp P Q a w := wp_region_along T H (Agree w) ord hm hs hok hlen hQ h

/-- One that reads. -/
theorem along_take {T : Nat → Nat} {i : Nat} {r : List Nat} {a : Act} {w : World} (o : Oper) (v : Value) (d : Option Tmp) (ht : T i = 1) (ho : ops[i]? = some o) (hd : o.dst = d) (hw : Region.wanted o (yielded ops a.tmps) = true)
    (hy : ∀ w, S w → (execOp a.eval o).run P w = .ok (.value v) w) (hS : S w) (h : wpAlong P ops Q S T H r (a.put d v) w) : wpAlong P ops Q S T H (i :: r) a w := by
  simp only [wpAlong, if_pos ht]
  subst hd
  exact ⟨o, v, ho, .inl ⟨hw, hy⟩, hS, h⟩

/-- One that reckons. -/
theorem along_reck {T : Nat → Nat} {i : Nat} {r : List Nat} {a : Act} {w : World} (o : Oper) (v : Value) (d : Option Tmp) (ht : T i = 2) (ho : ops[i]? = some o) (hd : o.dst = d) (hw : Region.wanted o (yielded ops a.tmps) = true)
    (hy : ∀ w, (execOp a.eval o).run P w = .ok (.value v) w) (h : wpAlong P ops Q S T H r (a.put d v) w) : wpAlong P ops Q S T H (i :: r) a w := by
  have ht' : ¬ T i = 1 := by rw [ht]; decide
  simp only [wpAlong, if_neg ht', if_pos ht]
  subst hd
  exact ⟨o, v, ho, .inl ⟨hw, fun w _ => hy w⟩, h⟩

/-- Another one; behind it S, if it is of H and S was there. -/
theorem along_step {T : Nat → Nat} {i : Nat} {r : List Nat} {a : Act} {w : World} (o : Oper) (ht : T i = 0) (ho : ops[i]? = some o) (hw : Region.wanted o (yielded ops a.tmps) = true)
    (h : ∀ K : Act → World → Prop, (∀ a w', (H i = true → S w → S w') ∧ wpAlong P ops Q S T H r a w' → K a w') → Oper.wp P o a w K Q) : wpAlong P ops Q S T H (i :: r) a w := by
  have ht' : ¬ T i = 1 := by rw [ht]; decide
  have ht2 : ¬ T i = 2 := by rw [ht]; decide
  simp only [wpAlong, if_neg ht', if_neg ht2]
  refine wpOp_step ho fun K hK => ?_
  rw [if_pos hw]
  exact h K hK

theorem along_done {T : Nat → Nat} {a : Act} {w : World} (h : Q .normal a w) : wpAlong P ops Q S T H [] a w := h

end
end Go.Proofs.Ytjeiopkfdgllhaa.Hz
/- Laws of the walk for this program's data: an append of whatever slice; a row that the call owns, and one of its elements written. -/
namespace Go.Proofs.Ytjeiopkfdgllhaa.Hz
open Go Go.RowKit

section
variable {P : Program}

theorem wp_append_sc {X : Nat → Prop} {w : World} {o : Oper} {a : Act} {K : Act → World → Prop} {Q : Exit → Act → World → Prop} (s x : Operand) (t : TypeId)
    (ho : o.op = .call { callee := .builtin .append, args := #[s, x], argTypes := #[t, t] })
    (base : Nat) (e : TypeId) (i : TypeInfo) (z : Value) (size bytes : Nat) (ht : P.underlying t = some (.slice e)) (hi : P.info? e = some i) (hz : i.zero = some z)
    (hsize : i.size = size) (hby : i.bytes = bytes) (hzs : z.cells.size = size) (hsz : 0 < size)
    (v : Value) (n : Nat) (xs : List Value) (hs : a.eval s = v) (hown : w.ownsRow base e size v n xs)
    (vs : Value) (m : Nat) (news : List Value) (hx : a.eval x = vs) (hsc : SC X w vs m news) (hl : news.length = m * size) (h1 : ∀ u ∈ news, u.oneCell' = true)
    (h63 : n + m ≤ maxLen) (hbytes : (n + m) * bytes ≤ 140737488355328) (hbase : base ≤ w.heap.size)
    (h : ∀ v' w', w'.ownsRow base e size v' (n + m) (xs ++ news) → w.grownBy w' v.ownBlock → K (a.put o.dst v') w') : o.wp P a w K Q := by
  rcases hsc with ⟨rfl, rfl, rfl⟩ | ⟨b, off, c, rfl, _, _, _, _, hr⟩
  · have hrun := run_append_owned_none (P := P) (w := w) base t o.type e i size ht hi v n xs hown
    have hk := h v w (by simpa using hown) ⟨rfl, rfl, rfl, Nat.le_refl _, fun _ _ _ => rfl⟩
    unfold Oper.wp
    simp [execOp, ho, resolve, invoke, builtin, hs, hx, hrun, Result.andThen]
    exact hk
  · exact wp_append_own w s x t ho base e i z size bytes ht hi hz hsize hby hzs hsz v n xs hs hown ⟨b, off, none⟩ m c news hx hl (fun j u hu => by rw [Addr.add_mid]; exact hr j u hu) h1 h63 hbytes hbase
      fun v' w' a1 a2 _ => h v' w' a1 a2

theorem wpList_append_sc {X : Nat → Prop} {w : World} {ops : Array Oper} {rest : List Oper} {o : Oper} {a : Act} {Q : Exit → Act → World → Prop} (hgd : o.guard = none) (s x : Operand) (t : TypeId)
    (ho : o.op = .call { callee := .builtin .append, args := #[s, x], argTypes := #[t, t] })
    (base : Nat) (e : TypeId) (i : TypeInfo) (z : Value) (size bytes : Nat) (ht : P.underlying t = some (.slice e)) (hi : P.info? e = some i) (hz : i.zero = some z)
    (hsize : i.size = size) (hby : i.bytes = bytes) (hzs : z.cells.size = size) (hsz : 0 < size)
    (v : Value) (n : Nat) (xs : List Value) (hs : a.eval s = v) (hown : w.ownsRow base e size v n xs)
    (vs : Value) (m : Nat) (news : List Value) (hx : a.eval x = vs) (hsc : SC X w vs m news) (hl : news.length = m * size) (h1 : ∀ u ∈ news, u.oneCell' = true)
    (h63 : n + m ≤ maxLen) (hbytes : (n + m) * bytes ≤ 140737488355328) (hbase : base ≤ w.heap.size)
    (h : ∀ v' w', w'.ownsRow base e size v' (n + m) (xs ++ news) → w.grownBy w' v.ownBlock → wpList P ops Q rest (a.put o.dst v') w') : wpList P ops Q (o :: rest) a w :=
  wpList_plain hgd fun _ hK => wp_append_sc s x t ho base e i z size bytes ht hi hz hsize hby hzs hsz v n xs hs hown vs m news hx hsc hl h1 h63 hbytes hbase fun v' w' a1 a2 => hK _ _ (h v' w' a1 a2)

/-- An empty literal is the call's own. -/
theorem own_empty (w : World) (base : Nat) (e : TypeId) (size : Nat) (hb : base ≤ w.heap.size) : (w.alloc (.cells #[] e)).ownsRow base e size (.slice (some ⟨w.heap.size, 0, none⟩) 0 0) 0 [] :=
  ⟨by simp, .inr ⟨w.heap.size, 0, #[], rfl, hb, heap_alloc_new _ _, Nat.le_refl _, by decide, by simp, by simp⟩⟩

theorem own_empty_at (w : World) (base : Nat) (e : TypeId) (size g : Nat) (hb : base ≤ w.heap.size) (hg : g = w.heap.size) : (w.alloc (.cells #[] e)).ownsRow base e size (.slice (some ⟨g, 0, none⟩) 0 0) 0 [] := by
  subst hg; exact own_empty w base e size hb

theorem size_alloc (w : World) (o : Obj) : (w.alloc o).heap.size = w.heap.size + 1 := by simp
theorem heap_at (w : World) (o : Obj) (n : Nat) (h : n = w.heap.size) : (w.alloc o).heap[n]? = some o := by subst h; exact heap_alloc_new w o
theorem heap_past (w : World) (o : Obj) (n : Nat) (h : n < w.heap.size) : (w.alloc o).heap[n]? = w.heap[n]? := Below.heap_alloc w o n h
/-- A block that is known whole: its cells, and that they may be written. -/
theorem box_cells {w : World} {g : Nat} {cs : Array Value} {t : TypeId} (h : w.heap[g]? = some (.cells cs t (0, 0))) : ∀ i, w.cell? ⟨g, i, none⟩ = cs[i]? := fun i => cell_of_row w g i cs t (0, 0) h
theorem box_frozen {w : World} {g : Nat} {cs : Array Value} {t : TypeId} (h : w.heap[g]? = some (.cells cs t (0, 0))) : ∀ i, w.frozen? ⟨g, i, none⟩ = false := fun i => frozen_of_row w g i cs t h

theorem own_ptr {w : World} {base : Nat} {e : TypeId} {size : Nat} {v : Value} {n : Nat} {xs : List Value} (h : w.ownsRow base e size v n xs) (hn : 0 < n) :
    ∃ g cap cur, v = .slice (some ⟨g, 0, none⟩) n cap ∧ base ≤ g ∧ g < w.heap.size ∧ w.heap[g]? = some (.cells cur e (0, 0)) ∧ n ≤ cap ∧ cap ≤ maxLen ∧ cur.size = cap * size ∧ cur.toList.take (n * size) = xs := by
  rcases h.2 with ⟨_, h0⟩ | ⟨g, cap, cur, hv, hb, hg, h1, h2, h3, h4⟩
  · omega
  · exact ⟨g, cap, cur, hv, hb, (Array.getElem?_eq_some_iff.1 hg).1, hg, h1, h2, h3, h4⟩

/-- What the call owns reads as a slice. -/
theorem own_sc {X : Nat → Prop} {w : World} {base : Nat} {e : TypeId} {size : Nat} {v : Value} {n : Nat} {xs : List Value} (h : w.ownsRow base e size v n xs) (hsz : 0 < size) (hX : ∀ b, base ≤ b → ¬ X b) : SC X w v n xs := by
  rcases h.2 with ⟨hv, h0⟩ | ⟨g, cap, cur, hv, hb, hg, h1, h2, h3, h4⟩
  · have hl := h.1
    rw [h0, Nat.zero_mul] at hl
    exact .inl ⟨hv, h0, List.eq_nil_of_length_eq_zero hl⟩
  · refine .inr ⟨g, 0, cap, hv, hX g hb, (Array.getElem?_eq_some_iff.1 hg).1, h1, h2, fun i u hu => ?_⟩
    have hlt : i < xs.length := (List.getElem?_eq_some_iff.1 hu).1
    rw [h.1] at hlt
    rw [← h4, List.getElem?_take_of_lt hlt] at hu
    rw [cell_of_row w g _ cur e (0, 0) hg, Nat.zero_add]
    simpa using hu

theorem heap_setCells (g : Nat) : ∀ (vs : List Value) (o : Nat) (w : World) (k : Nat), k ≠ g → (w.setCells g o vs).heap[k]? = w.heap[k]?
  | [], _, _, _, _ => rfl
  | v :: r, o, w, k, h => by
    rw [World.setCells, heap_setCells g r (o + 1) _ k h, Below.heap_setCell _ _ _ _ h]
theorem size_setCells (g : Nat) : ∀ (vs : List Value) (o : Nat) (w : World), (w.setCells g o vs).heap.size = w.heap.size
  | [], _, _ => rfl
  | v :: r, o, w => by
    rw [World.setCells, size_setCells g r (o + 1) _]; simp [World.setCell]
theorem streams_setCells (g : Nat) : ∀ (vs : List Value) (o : Nat) (w : World), (w.setCells g o vs).os = w.os ∧ (w.setCells g o vs).tape = w.tape ∧ (w.setCells g o vs).output = w.output
  | [], _, _ => ⟨rfl, rfl, rfl⟩
  | v :: r, o, w => streams_setCells g r (o + 1) _

theorem below_setCells {B : Nat} {a w : World} (h : Below B a w) {g : Nat} (hg : B ≤ g) (o : Nat) (vs : List Value) : Below B a (w.setCells g o vs) :=
  h.trans ⟨(streams_setCells g vs o w).1, (streams_setCells g vs o w).2.1, (streams_setCells g vs o w).2.2, by rw [size_setCells]; exact Nat.le_refl _, fun k hk => heap_setCells g vs o w k (by omega)⟩
theorem Off.setCells {X : Nat → Prop} {a w : World} (h : Off X a w) {g : Nat} (hg : X g ∨ a.heap.size ≤ g) (o : Nat) (vs : List Value) : Off X a (w.setCells g o vs) :=
  ⟨by rw [size_setCells]; exact h.size, fun i hi hx => by
    have hne : i ≠ g := fun e => by
      rcases hg with hg | hg
      · exact hx (e ▸ hg)
      · omega
    rw [heap_setCells g vs o w i hne]
    exact h.block i hi hx⟩
theorem Off.grown {X : Nat → Prop} {a w w' : World} {row : Option Nat} (h : Off X a w) (k : w.grownBy w' row) (hr : ∀ g, row = some g → X g ∨ a.heap.size ≤ g) : Off X a w' :=
  ⟨Nat.le_trans h.size k.size, fun i hi hx => by
    rw [k.block i (Nat.lt_of_lt_of_le hi h.size) (fun e => by
      rcases hr i e.symm with c | c
      · exact hx c
      · omega)]
    exact h.block i hi hx⟩

theorem Off.setCellAt {X : Nat → Prop} {a w : World} (h : Off X a w) {g o : Nat} (hg : X g ∨ a.heap.size ≤ g) (u : Value) : Off X a (w.setCell ⟨g, o, none⟩ u) := h.setCell hg u
theorem below_setCellAt {B : Nat} {a w : World} (h : Below B a w) {g o : Nat} (hg : B ≤ g) (u : Value) : Below B a (w.setCell ⟨g, o, none⟩ u) := h.setCell hg u
theorem own_setCellAt {w : World} {base : Nat} {e : TypeId} {size : Nat} {v : Value} {n : Nat} {xs : List Value} (h : w.ownsRow base e size v n xs) {g o : Nat} (hg : g < base) (u : Value) : (w.setCell ⟨g, o, none⟩ u).ownsRow base e size v n xs :=
  ownsRow_setCell_below h hg u

/-- The block behind a store into its middle. -/
theorem heap_setCells_same (g : Nat) (e : TypeId) : ∀ (vs : List Value) (o : Nat) (w : World) (cur : Array Value), w.heap[g]? = some (.cells cur e (0, 0)) → o + vs.length ≤ cur.size →
    ∃ cur', (w.setCells g o vs).heap[g]? = some (.cells cur' e (0, 0)) ∧ cur'.toList = cur.toList.take o ++ (vs ++ cur.toList.drop (o + vs.length))
  | [], o, w, cur, h, _ => ⟨cur, h, by simp⟩
  | v :: r, o, w, cur, h, hl => by
    have h1 := heap_setCell_same w g o cur e v h
    rw [List.length_cons] at hl
    obtain ⟨cur', h2, h3⟩ := heap_setCells_same g e r (o + 1) _ _ h1 (by simp; omega)
    refine ⟨cur', h2, ?_⟩
    rw [h3, Array.toList_setIfInBounds]
    have ho : o < cur.toList.length := by simp; omega
    rw [List.take_succ_eq_append_getElem (by simpa using ho), List.getElem_set_self, List.take_set_of_le (Nat.le_refl _), List.drop_set_of_lt (by omega), List.length_cons]
    simp [List.append_assoc, Nat.add_assoc, Nat.add_comm 1]

theorem take_mid (L c : List Value) (p s N : Nat) (hc : c.length = s) (h : p + s ≤ N) (hN : N ≤ L.length) :
    (L.take p ++ (c ++ L.drop (p + s))).take N = (L.take N).take p ++ (c ++ (L.take N).drop (p + s)) := by
  have a1 : (L.take p).length = p := by rw [List.length_take]; omega
  rw [List.take_append, a1, List.take_of_length_le (i := N) (l := L.take p) (by rw [a1]; omega), List.take_append, hc, List.take_of_length_le (i := N - p) (l := c) (by omega), List.take_take, Nat.min_eq_left (by omega), List.drop_take,
    show N - p - s = N - (p + s) by omega]

/-- One element of what the call owns is another one. -/
theorem own_set {w : World} {base : Nat} {e : TypeId} {size : Nat} {n : Nat} {xs : List Value} {g cap : Nat} (h : w.ownsRow base e size (.slice (some ⟨g, 0, none⟩) n cap) n xs) (i : Nat) (hi : i < n) (c : List Value) (hc : c.length = size) :
    (w.setCells g (i * size) c).ownsRow base e size (.slice (some ⟨g, 0, none⟩) n cap) n (xs.take (i * size) ++ (c ++ xs.drop (i * size + size))) := by
  obtain ⟨g', cap', cur, hv, hb, _, hg, h1, h2, h3, h4⟩ := own_ptr h (by omega)
  simp only [Value.slice.injEq, Option.some.injEq, Addr.mk.injEq, true_and, and_true] at hv
  obtain ⟨rfl, rfl⟩ := hv
  have hle : (i + 1) * size ≤ n * size := Nat.mul_le_mul_right _ hi
  rw [Nat.add_mul, Nat.one_mul] at hle
  have hcap : n * size ≤ cap * size := Nat.mul_le_mul_right _ h1
  obtain ⟨cur', h5, h6⟩ := heap_setCells_same g e c (i * size) w cur hg (by rw [hc, h3]; omega)
  have hx : xs.length = n * size := h.1
  refine ⟨?_, .inr ⟨g, cap, cur', rfl, hb, h5, h1, h2, ?_, ?_⟩⟩
  · simp only [List.length_append, List.length_take, List.length_drop, hc, hx]; omega
  · rw [← Array.length_toList, h6]
    simp only [List.length_append, List.length_take, List.length_drop, hc, Array.length_toList, h3]; omega
  · rw [h6, ← h4, hc]
    exact take_mid cur.toList c _ _ _ hc hle (by rw [Array.length_toList, h3]; exact hcap)

theorem grown_cells {w w' : World} {g : Nat} (h : w.grownBy w' (some g)) : ∀ b o, b < w.heap.size → b ≠ g → w'.cell? ⟨b, o, none⟩ = w.cell? ⟨b, o, none⟩ := fun b o hb hne =>
  World.cell?_of_block (w := w) (a := ⟨b, o, none⟩) (h.block b hb (fun e => hne (Option.some.inj e)))
theorem grown_frozen {w w' : World} {g : Nat} (h : w.grownBy w' (some g)) : ∀ b o, b < w.heap.size → b ≠ g → w'.frozen? ⟨b, o, none⟩ = w.frozen? ⟨b, o, none⟩ := fun b o hb hne =>
  World.frozen?_of_block (w := w) (a := ⟨b, o, none⟩) (h.block b hb (fun e => hne (Option.some.inj e)))
theorem setCells_cells (w : World) (g i : Nat) (vs : List Value) : ∀ b o, b ≠ g → (w.setCells g i vs).cell? ⟨b, o, none⟩ = w.cell? ⟨b, o, none⟩ := fun b o hne =>
  World.cell?_of_block (w := w) (a := ⟨b, o, none⟩) (heap_setCells g vs i w b hne)
theorem setCells_frozen (w : World) (g i : Nat) (vs : List Value) : ∀ b o, (w.setCells g i vs).frozen? ⟨b, o, none⟩ = w.frozen? ⟨b, o, none⟩ := fun b o => World.frozen?_setCells g vs i w _

/-- An element's cells are there, and may be written. -/
theorem own_there {w : World} {base : Nat} {e : TypeId} {size : Nat} {n : Nat} {xs : List Value} {g cap : Nat} (h : w.ownsRow base e size (.slice (some ⟨g, 0, none⟩) n cap) n xs) (i : Nat) (hi : i < n) : w.there g (i * size) size := by
  obtain ⟨g', cap', cur, hv, hb, _, hg, h1, h2, h3, h4⟩ := own_ptr h (by omega)
  simp only [Value.slice.injEq, Option.some.injEq, Addr.mk.injEq, true_and, and_true] at hv
  obtain ⟨rfl, rfl⟩ := hv
  have hle : (i + 1) * size ≤ n * size := Nat.mul_le_mul_right _ hi
  rw [Nat.add_mul, Nat.one_mul] at hle
  have hcap : n * size ≤ cap * size := Nat.mul_le_mul_right _ h1
  intro j hj
  refine ⟨?_, frozen_of_row w g _ cur e hg⟩
  rw [cell_of_row w g _ cur e (0, 0) hg]
  have : i * size + j < cur.size := by omega
  simp [this]

end
end Go.Proofs.Ytjeiopkfdgllhaa.Hz
/- More laws of the walk: a store into a block that is known whole, and a world that is put under a name. -/
namespace Go.Proofs.Ytjeiopkfdgllhaa.Hz
open Go Go.RowKit

section
variable {P : Program}

/-- The world at hand, under a name, with what is known of it. -/
theorem name_world {c : Code} {Q : Exit → Act → World → Prop} {a : Act} {w : World} (S : World → Prop) (h : S w) (k : ∀ w2, S w2 → c.wp P Q a w2) : c.wp P Q a w := k w h
theorem name_world_list {ops : Array Oper} {rest : List Oper} {Q : Exit → Act → World → Prop} {a : Act} {w : World} (S : World → Prop) (h : S w) (k : ∀ w2, S w2 → wpList P ops Q rest a w2) : wpList P ops Q rest a w := k w h

/-- Nothing is changed but in block g. -/
structure Only (g : Nat) (w w' : World) : Prop where
  os : w'.os = w.os
  tape : w'.tape = w.tape
  output : w'.output = w.output
  size : w'.heap.size = w.heap.size
  block : ∀ k, k ≠ g → w'.heap[k]? = w.heap[k]?

theorem Only.setCells (w : World) (g o : Nat) (vs : List Value) : Only g w (w.setCells g o vs) :=
  ⟨(streams_setCells g vs o w).1, (streams_setCells g vs o w).2.1, (streams_setCells g vs o w).2.2, size_setCells g vs o w, fun k hk => heap_setCells g vs o w k hk⟩
theorem Off.only {X : Nat → Prop} {a w w' : World} (h : Off X a w) {g : Nat} (k : Only g w w') (hg : X g ∨ a.heap.size ≤ g) : Off X a w' :=
  ⟨by rw [k.size]; exact h.size, fun i hi hx => by
    have hne : i ≠ g := fun e => by
      rcases hg with hg | hg
      · exact hx (e ▸ hg)
      · omega
    rw [k.block i hne]
    exact h.block i hi hx⟩
theorem below_only {B : Nat} {a w w' : World} (h : Below B a w) {g : Nat} (k : Only g w w') (hg : B ≤ g) : Below B a w' :=
  h.trans ⟨k.os, k.tape, k.output, by rw [k.size]; exact Nat.le_refl _, fun i hi => k.block i (by omega)⟩
theorem own_only {w w' : World} {base : Nat} {e : TypeId} {size : Nat} {v : Value} {n : Nat} {xs : List Value} (h : w.ownsRow base e size v n xs) {g : Nat} (k : Only g w w') (hg : g < base) : w'.ownsRow base e size v n xs := by
  obtain ⟨h1, h2⟩ := h
  refine ⟨h1, ?_⟩
  rcases h2 with h2 | ⟨b, cap, cur, e1, e2, e3, e4⟩
  · exact .inl h2
  · exact .inr ⟨b, cap, cur, e1, e2, by rw [k.block b (by omega)]; exact e3, e4⟩

/-- What a block holds behind a store into its middle. -/
def spliced (cs : Array Value) (o : Nat) (vs : List Value) : Array Value := (cs.toList.take o ++ (vs ++ cs.toList.drop (o + vs.length))).toArray
theorem box_store {w : World} {g : Nat} {cs : Array Value} {t : TypeId} (h : w.heap[g]? = some (.cells cs t (0, 0))) (o : Nat) (vs : List Value) (hl : o + vs.length ≤ cs.size) :
    (w.setCells g o vs).heap[g]? = some (.cells (spliced cs o vs) t (0, 0)) := by
  obtain ⟨cur', h1, h2⟩ := heap_setCells_same g t vs o w cs h hl
  rw [h1]
  congr 2
  apply Array.ext'
  rw [h2]; rfl
theorem box_there {w : World} {g : Nat} {cs : Array Value} {t : TypeId} (h : w.heap[g]? = some (.cells cs t (0, 0))) (o n : Nat) (hl : o + n ≤ cs.size) : w.there g o n := fun j hj => by
  refine ⟨?_, frozen_of_row w g _ cs t h⟩
  rw [cell_of_row w g _ cs t (0, 0) h]
  have : o + j < cs.size := by omega
  simp [this]

/-- A struct is stored into a block that is known whole. -/
theorem wp_store_agg {op : Oper} {a : Act} {w : World} {K : Act → World → Prop} {Q : Exit → Act → World → Prop} (ty : TypeId) (x y : Operand) (ho : op.op = .store ty x y)
    (g o : Nat) (cells cs new : Array Value) (t : TypeId) (hx : a.eval x = .pointer (some ⟨g, o, none⟩)) (hy : a.eval y = .agg cells) (hB : w.heap[g]? = some (.cells cs t (0, 0)))
    (hl : o + cells.size ≤ cs.size) (hi : (P.info? ty).map (·.size) = some cells.size) (h1 : cells.all (·.oneCell') = true) (hn : spliced cs o cells.toList = new)
    (h : ∀ w', w'.heap[g]? = some (.cells new t (0, 0)) → Only g w w' → K (a.put op.dst undef) w') : op.wp P a w K Q :=
  wp_store_mid ty x y ho g o cells hx hy (box_there hB o cells.size hl) hi h1 (h _ (by rw [← hn]; exact box_store hB o cells.toList (by simpa using hl)) (Only.setCells w g o _))

/-- One cell is stored into a block that is known whole. -/
theorem wp_store_cell {op : Oper} {a : Act} {w : World} {K : Act → World → Prop} {Q : Exit → Act → World → Prop} (ty : TypeId) (x y : Operand) (ho : op.op = .store ty x y)
    (g o : Nat) (v : Value) (cs new : Array Value) (t : TypeId) (hx : a.eval x = .pointer (some ⟨g, o, none⟩)) (hy : a.eval y = v) (hB : w.heap[g]? = some (.cells cs t (0, 0)))
    (hl : o + 1 ≤ cs.size) (hi : (P.info? ty).map (·.size) = some 1) (h1 : v.oneCell' = true) (hn : spliced cs o [v] = new)
    (h : ∀ w', w'.heap[g]? = some (.cells new t (0, 0)) → Only g w w' → K (a.put op.dst undef) w') : op.wp P a w K Q := by
  have ht := box_there hB o 1 hl
  have hc : v.cells = #[v] := by cases v <;> first | rfl | (simp [Value.oneCell'] at h1)
  have hk := h (w.setCells g o [v]) (by rw [← hn]; exact box_store hB o [v] hl) (Only.setCells w g o [v])
  have hst := run_storeCells_cells (P := P) g o [v] 0 w (fun j hj => by simpa using (ht j (by simpa using hj)).1) (fun j hj => by simpa using (ht j (by simpa using hj)).2) (fun u hu => by rw [List.mem_singleton.1 hu]; exact h1)
  have hrun : (storeVar ty ⟨g, o, none⟩ v).run P w = Result.ok () (w.setCells g o [v]) := by
    cases hq : P.info? ty with
    | none => simp [hq] at hi
    | some i =>
      have hs : i.size = 1 := by simpa [hq] using hi
      simp only [Nat.add_zero] at hst
      simp [storeVar, sizeOf, typeInfo, hq, hc, hs, hst]
  unfold Oper.wp execOp
  simp only [ho, hx, hy, Instr.storeAt, Instr.sureAddr, Sem.run_bind, Sem.run_pure, Result.andThen_ok, hrun]
  exact hk

end
end Go.Proofs.Ytjeiopkfdgllhaa.Hz
/- Laws of single operations, each closed by 'rfl': what an operation yields (ev_..), and what a step does (go_..). -/
namespace Go.Proofs.Ytjeiopkfdgllhaa.Hz
open Go Go.RowKit

section
variable {P : Program} {o : Oper} {a : Act} {w : World}

/-- Where a field lies. -/
def fieldOff (P : Program) (s : TypeId) (f : Nat) : Option Nat :=
  match P.underlying s with
  | some (.struct fs) => match fs[f]? with
    | some fl => match P.info? fl.type with
      | some i => if i.size = 0 then none else some fl.offset
      | none => none
    | none => none
  | _ => none
/-- How many cells a struct or an array has. -/
def aggSize (P : Program) (t : TypeId) : Option Nat :=
  match P.underlying t with
  | some (.struct _) | some (.array _ _) => (P.info? t).map (·.size)
  | _ => none
def plainType (P : Program) (t : TypeId) : Bool :=
  match P.underlying t with
  | some (.struct _) | some (.array _ _) | none => false
  | _ => true
/-- How many cells an element has. -/
def elemSize (P : Program) (t : TypeId) : Option Nat :=
  match P.underlying t with
  | some (.slice e) => (P.info? e).map (·.size)
  | _ => none
def arrElem (P : Program) (t : TypeId) : Option (Nat × Nat) :=
  match P.underlying t with
  | some (.array n e) => (P.info? e).map fun i => (n, i.size)
  | _ => none

theorem ev_move (x : Operand) (v : Value) (ho : o.op = .move x) (hv : a.eval x = v) : (execOp a.eval o).run P w = .ok (.value v) w := by
  unfold execOp; simp only [ho, hv, Sem.run_pure]
theorem ev_assign (x : Operand) (v : Value) (ho : o.op = .assign x) (hv : a.eval x = v) : (execOp a.eval o).run P w = .ok (.value v) w := by
  unfold execOp; simp only [ho, hv, Sem.run_pure]
theorem ev_pick (c x y : Operand) (b : Bool) (v : Value) (ho : o.op = .pick c x y) (hc : a.eval c = .bool b) (hv : (if b then a.eval x else a.eval y) = v) : (execOp a.eval o).run P w = .ok (.value v) w := by
  unfold execOp; simp only [ho, hc, asBool, Sem.run_bind, Sem.run_pure, Result.andThen_ok, hv]
theorem ev_field (s : TypeId) (x : Operand) (f b oo d : Nat) (ho : o.op = .fieldAddr s x f) (hx : a.eval x = .pointer (some ⟨b, oo, none⟩)) (hd : fieldOff P s f = some d) :
    (execOp a.eval o).run P w = .ok (.value (.pointer (some ⟨b, oo + d, none⟩))) w := by
  unfold fieldOff at hd
  split at hd
  · rename_i fs hu
    split at hd
    · rename_i fl hf
      split at hd
      · rename_i i hi
        split at hd
        · cases hd
        · rename_i hz
          obtain rfl := Option.some.inj hd
          unfold execOp
          simp [ho, hx, Instr.fieldAt, Sem.run_bind, run_underlying hu, hf, Instr.sureAddr, fieldPlace, sizeOf, typeInfo, hi, hz, Addr.add_mid]
      · cases hd
    · cases hd
  · cases hd

theorem ev_load (t : TypeId) (x : Operand) (b oo d : Nat) (cs ds : List Value) (ho : o.op = .load t x) (hx : a.eval x = .pointer (some ⟨b, oo + d, none⟩)) (hr : Row w b oo cs) (hs : aggSize P t = some ds.length)
    (hd : (cs.drop d).take ds.length = ds) : (execOp a.eval o).run P w = .ok (.value (.agg ds.toArray)) w := by
  have hr2 : w.rangeAt b (oo + d) ds := fun j v hv => by
    rw [Nat.add_assoc]
    refine hr (d + j) v ?_
    rw [← hd] at hv
    have hj : j < ds.length := by
      have := (List.getElem?_eq_some_iff.1 hv).1
      rw [List.length_take] at this; omega
    rw [List.getElem?_take_of_lt hj, List.getElem?_drop] at hv
    exact hv
  unfold aggSize at hs
  have key : ∀ dd, P.underlying t = some dd → dd.isRow = true → (P.info? t).map (·.size) = some ds.length → (execOp a.eval o).run P w = .ok (.value (.agg ds.toArray)) w := fun dd h1 h2 h3 => by
    unfold execOp
    simp only [ho, hx, Instr.loadAt, Instr.sureAddr, Sem.run_bind, Sem.run_pure, Result.andThen_ok, run_loadVar_mid w b (oo + d) t ds dd hr2 h1 h2 h3]
  split at hs
  · rename_i h; exact key _ h rfl hs
  · rename_i h; exact key _ h rfl hs
  · cases hs

theorem ev_load1 (t : TypeId) (x : Operand) (b oo d : Nat) (cs : List Value) (v : Value) (ho : o.op = .load t x) (hx : a.eval x = .pointer (some ⟨b, oo + d, none⟩)) (hr : Row w b oo cs) (hs : plainType P t = true)
    (hd : cs[d]? = some v) : (execOp a.eval o).run P w = .ok (.value v) w := by
  have hc := hr d v hd
  have hagg : (isAgg t).run P w = .ok false w := by
    unfold plainType at hs
    unfold isAgg
    split at hs
    · cases hs
    · cases hs
    · cases hs
    · rename_i h1 h2 h3
      cases hu : P.underlying t with
      | none => exact absurd hu h3
      | some dd =>
        rw [Sem.run_bind, run_underlying hu w]
        cases dd with
        | struct => exact absurd hu (h1 _)
        | array => exact absurd hu (h2 _ _)
        | _ => rfl
  unfold execOp
  simp only [ho, hx, Instr.loadAt, Instr.sureAddr, loadVar, Sem.run_bind, Sem.run_pure, Result.andThen_ok, hagg]
  simp [hc, go_sem]

theorem ev_index (t : TypeId) (x i : Operand) (b oo n c j sz : Nat) (ho : o.op = .indexAddr t x i) (hx : a.eval x = .slice (some ⟨b, oo, none⟩) n c) (hi : a.eval i = .int .i64 (j : Int)) (hj : j < n) (ht : elemSize P t = some sz) :
    (execOp a.eval o).run P w = .ok (.value (.pointer (some ⟨b, oo + j * sz, none⟩))) w := by
  unfold elemSize at ht
  split at ht
  · rename_i e hu
    cases hq : P.info? e with
    | none => simp [hq] at ht
    | some q =>
      have hs : q.size = sz := by simpa [hq] using ht
      unfold execOp
      simp [ho, hx, hi, Instr.indexAt, asIntOf, Sem.run_bind, run_underlying hu, hj, sizeOf, typeInfo, hq, hs, Addr.add_mid]
  · cases ht

theorem ev_len (x : Operand) (t : TypeId) (ad : Option Addr) (n c : Nat) (ho : o.op = .call { callee := .builtin .len, args := #[x], argTypes := #[t] }) (hx : a.eval x = .slice ad n c) (ht : (elemSize P t).isSome = true) :
    (execOp a.eval o).run P w = .ok (.value (.int .i64 (n : Int))) w := by
  unfold elemSize at ht
  split at ht
  · rename_i e hu
    unfold execOp
    have hm : (#[x] : Array Operand).map a.eval = #[.slice ad n c] := by rw [← hx]; simp
    simp only [ho, resolve, Sem.run_bind, Sem.run_pure, Result.andThen_ok, invoke, builtin, hm]
    simp [Builtin.len_, run_underlying hu, Sem.run_bind, goInt]
  · cases ht

theorem ev_lss (t r : TypeId) (x y : Operand) (m n : Int) (v : Bool) (ho : o.op = .binOp .lss t x y r) (hx : a.eval x = .int .i64 m) (hy : a.eval y = .int .i64 n) (hv : decide (m < n) = v) : (execOp a.eval o).run P w = .ok (.value (.bool v)) w := by
  unfold execOp; subst hv; simp only [ho, hx, hy]; simp [go_sem]
theorem ev_leq (t r : TypeId) (x y : Operand) (m n : Int) (v : Bool) (ho : o.op = .binOp .leq t x y r) (hx : a.eval x = .int .i64 m) (hy : a.eval y = .int .i64 n) (hv : decide (m ≤ n) = v) : (execOp a.eval o).run P w = .ok (.value (.bool v)) w := by
  unfold execOp; subst hv; simp only [ho, hx, hy]; simp [go_sem]
theorem ev_gtr (t r : TypeId) (x y : Operand) (m n : Int) (v : Bool) (ho : o.op = .binOp .gtr t x y r) (hx : a.eval x = .int .i64 m) (hy : a.eval y = .int .i64 n) (hv : decide (n < m) = v) : (execOp a.eval o).run P w = .ok (.value (.bool v)) w := by
  unfold execOp; subst hv; simp only [ho, hx, hy]; simp [go_sem]
theorem ev_geq (t r : TypeId) (x y : Operand) (m n : Int) (v : Bool) (ho : o.op = .binOp .geq t x y r) (hx : a.eval x = .int .i64 m) (hy : a.eval y = .int .i64 n) (hv : decide (n ≤ m) = v) : (execOp a.eval o).run P w = .ok (.value (.bool v)) w := by
  unfold execOp; subst hv; simp only [ho, hx, hy]; simp [go_sem]
theorem ev_eql (t r : TypeId) (x y : Operand) (m n : Int) (v : Bool) (ho : o.op = .binOp .eql t x y r) (hx : a.eval x = .int .i64 m) (hy : a.eval y = .int .i64 n) (hv : decide (m = n) = v) : (execOp a.eval o).run P w = .ok (.value (.bool v)) w := by
  unfold execOp; subst hv; simp only [ho, hx, hy]; simp [go_sem]; rw [Bool.eq_iff_iff]; simp
theorem ev_neq (t r : TypeId) (x y : Operand) (m n : Int) (v : Bool) (ho : o.op = .binOp .neq t x y r) (hx : a.eval x = .int .i64 m) (hy : a.eval y = .int .i64 n) (hv : decide (m ≠ n) = v) : (execOp a.eval o).run P w = .ok (.value (.bool v)) w := by
  unfold execOp; subst hv; simp only [ho, hx, hy]; simp [go_sem]; rw [Bool.eq_iff_iff]; simp
theorem ev_add (t r : TypeId) (x y : Operand) (m n k : Int) (ho : o.op = .binOp .add t x y r) (hx : a.eval x = .int .i64 m) (hy : a.eval y = .int .i64 n) (hv : wrap64 (m + n) = k) : (execOp a.eval o).run P w = .ok (.value (.int .i64 k)) w := by
  unfold execOp; subst hv; simp only [ho, hx, hy]; simp [go_sem, IntWalk.i64_left]
theorem ev_sub (t r : TypeId) (x y : Operand) (m n k : Int) (ho : o.op = .binOp .sub t x y r) (hx : a.eval x = .int .i64 m) (hy : a.eval y = .int .i64 n) (hv : wrap64 (m - n) = k) : (execOp a.eval o).run P w = .ok (.value (.int .i64 k)) w := by
  unfold execOp; subst hv; simp only [ho, hx, hy]; simp [go_sem, IntWalk.i64_left]


theorem ev_mul (t r : TypeId) (x y : Operand) (m n k : Int) (ho : o.op = .binOp .mul t x y r) (hx : a.eval x = .int .i64 m) (hy : a.eval y = .int .i64 n) (hv : wrap64 (m * n) = k) : (execOp a.eval o).run P w = .ok (.value (.int .i64 k)) w := by
  unfold execOp; subst hv; simp only [ho, hx, hy]; simp [go_sem, IntWalk.i64_left]
theorem ev_eqlb (t r : TypeId) (x y : Operand) (m n : Bool) (v : Bool) (ht : P.underlying t = some .bool) (ho : o.op = .binOp .eql t x y r) (hx : a.eval x = .bool m) (hy : a.eval y = .bool n) (hv : (m == n) = v) : (execOp a.eval o).run P w = .ok (.value (.bool v)) w := by
  unfold execOp; subst hv; simp only [ho, hx, hy]; simp [go_sem, ht]
theorem ev_extract (x : Operand) (i : Nat) (vs : Array Value) (v : Value) (ho : o.op = .extract x i) (hx : a.eval x = .tuple vs) (hv : vs[i]? = some v) : (execOp a.eval o).run P w = .ok (.value v) w := by
  unfold execOp; simp only [ho, hx]; simp [go_sem, Instr.extract, hv]
theorem ev_not (x : Operand) (t : TypeId) (m v : Bool) (ho : o.op = .unOp .not t x) (hx : a.eval x = .bool m) (hv : (!m) = v) : (execOp a.eval o).run P w = .ok (.value (.bool v)) w := by
  unfold execOp; subst hv; simp only [ho, hx]; simp [go_sem]
theorem ev_build (t : TypeId) (ps : Array (Nat × Operand)) (vs : Array (Nat × Value)) (cs : Array Value) (ho : o.op = .build t ps) (hv : ps.map (fun p => (p.1, a.eval p.2)) = vs)
    (hb : ∀ w, (Instr.build t vs).run P w = .ok (.agg cs) w) : (execOp a.eval o).run P w = .ok (.value (.agg cs)) w := by
  unfold execOp
  simp only [ho, Sem.run_bind]
  rw [show (ps.map fun x => match x with | (i, x) => (i, a.eval x)) = vs from hv, hb]
  simp

/-! ### Steps -/
/-- What is asked of a new world when blocks were made. -/
theorem below_box {w : World} (ob : Obj) : Below w.heap.size w (w.alloc ob) := ⟨rfl, rfl, rfl, by simp, fun i hi => Below.heap_alloc w ob i hi⟩

theorem wp_yield (K : Act → World → Prop) (Q : Exit → Act → World → Prop) (v : Value) (hr : (execOp a.eval o).run P w = .ok (.value v) w) (h : K (a.put o.dst v) w) : o.wp P a w K Q := by
  unfold Oper.wp; rw [hr]; exact h
theorem wp_box (K : Act → World → Prop) (Q : Exit → Act → World → Prop) (t : TypeId) (x : Operand) (cs : Array Value) (ho : o.op = .box t x) (hx : (a.eval x).cells = cs)
    (h : ∀ g w', w.heap.size ≤ g → g < w'.heap.size → w'.heap[g]? = some (.cells cs t (0, 0)) → Below w.heap.size w w' → K (a.put o.dst (.pointer (some ⟨g, 0, none⟩))) w') : o.wp P a w K Q := by
  have := h w.heap.size (w.alloc (.cells cs t)) (Nat.le_refl _) (by simp) (heap_alloc_new _ _) (below_box _)
  unfold Oper.wp execOp
  simp only [ho, Instr.box, newVar, hx]
  simp [go_sem, newRow]
  exact this

theorem wp_alloc (K : Act → World → Prop) (Q : Exit → Act → World → Prop) (t : TypeId) (z : Value) (cs : Array Value) (ho : o.op = .alloc t) (hz : (P.info? t).bind (·.zero) = some z) (hc : z.cells = cs)
    (h : ∀ g w', w.heap.size ≤ g → g < w'.heap.size → w'.heap[g]? = some (.cells cs t (0, 0)) → Below w.heap.size w w' → K (a.put o.dst (.pointer (some ⟨g, 0, none⟩))) w') : o.wp P a w K Q := by
  have := h w.heap.size (w.alloc (.cells cs t)) (Nat.le_refl _) (by simp) (heap_alloc_new _ _) (below_box _)
  cases hq : P.info? t with
  | none => simp [hq] at hz
  | some i =>
    have hz' : i.zero = some z := by simpa [hq] using hz
    unfold Oper.wp execOp
    simp only [ho, Instr.alloc, zeroValue, typeInfo, newVar]
    subst hc
    simp [go_sem, newRow, hq, hz']
    exact this

/-- A function of Go's own, with a body. -/
def goFunc (P : Program) (f : Nat) : Bool :=
  match P.funcs[f]? with
  | some fn => !(fn.name == "runtime.NumGoroutine") && !fn.body.isNone
  | none => false
theorem wp_call (K : Act → World → Prop) (Q : Exit → Act → World → Prop) (f : Nat) (xs : Array Operand) (ts : Array TypeId) (vs : Array Value) {R : Ending → World → Prop}
    (ho : o.op = .call { callee := .value (.func f), args := xs, argTypes := ts }) (hx : xs.map a.eval = vs) (hf : goFunc P f = true)
    (hc : Calls P f vs w R) (h : ∀ e w', R e w' → ∃ u, e = .returned u ∧ K (a.put o.dst u) w') : o.wp P a w K Q := by
  unfold goFunc at hf
  cases h1 : P.funcs[f]? with
  | none => simp [h1] at hf
  | some fn =>
  have h2 : (fn.name == "runtime.NumGoroutine") = false := by simp [h1] at hf; simpa using hf.1
  have h3 : fn.body.isNone = false := by simp [h1] at hf; simpa using hf.2
  unfold Oper.wp execOp
  simp only [ho, resolve, hx]
  simp [go_sem]
  have hrun : (callFunc f vs).run P w = .ok (.enter f vs) w := by
    unfold callFunc
    have h2' : ¬ fn.name = "runtime.NumGoroutine" := by simpa using h2
    have h3' : ¬ fn.body = none := by intro e; rw [e] at h3; cases h3
    simp [Sem.run_bind, h1, h2', h3']
  rw [hrun]
  refine hc.mono fun e w' hr => ?_
  obtain ⟨u, rfl, hk⟩ := h e w' hr
  exact hk
/-! ### How a world goes on -/
/-- Nothing is changed but blocks in G, and new ones. -/
structure Mod (G : Nat → Prop) (w w' : World) : Prop where
  os : w'.os = w.os
  tape : w'.tape = w.tape
  output : w'.output = w.output
  size : w.heap.size ≤ w'.heap.size
  block : ∀ k, k < w.heap.size → ¬ G k → w'.heap[k]? = w.heap[k]?

theorem Mod.refl (w : World) : Mod (fun _ => False) w w := ⟨rfl, rfl, rfl, Nat.le_refl _, fun _ _ _ => rfl⟩
theorem Mod.ofBelow {w w' : World} (h : Below w.heap.size w w') : Mod (fun _ => False) w w' := ⟨h.os, h.tape, h.output, h.size, fun k hk _ => h.block k hk⟩
theorem Mod.ofOnly {g : Nat} {w w' : World} (h : Only g w w') : Mod (fun k => k = g) w w' := ⟨h.os, h.tape, h.output, by rw [h.size]; exact Nat.le_refl _, fun k _ hk => h.block k hk⟩
theorem Mod.ofGrown {g : Nat} {w w' : World} (h : w.grownBy w' (some g)) : Mod (fun k => k = g) w w' := ⟨h.os, h.tape, h.output, h.size, fun k hk hn => h.block k hk (fun e => hn (Option.some.inj e))⟩
theorem Below.mod {B : Nat} {a w w' : World} {G : Nat → Prop} (h : Below B a w) (k : Mod G w w') (hB : B ≤ w.heap.size) (hg : ∀ k, G k → B ≤ k) : Below B a w' :=
  h.trans ⟨k.os, k.tape, k.output, k.size, fun i hi => k.block i (by omega) (fun e => by have := hg i e; omega)⟩
theorem Off.mod {X : Nat → Prop} {a w w' : World} {G : Nat → Prop} (h : Off X a w) (k : Mod G w w') (hg : ∀ k, G k → X k ∨ a.heap.size ≤ k) : Off X a w' :=
  ⟨Nat.le_trans h.size k.size, fun i hi hx => (k.block i (Nat.lt_of_lt_of_le hi h.size) (fun e => by
    rcases hg i e with c | c
    · exact hx c
    · omega)).trans (h.block i hi hx)⟩
theorem Mod.box {G : Nat → Prop} {w w' : World} (k : Mod G w w') {g : Nat} {ob : Obj} (h : w.heap[g]? = some ob) (hg : ¬ G g) : w'.heap[g]? = some ob :=
  (k.block g (Array.getElem?_eq_some_iff.1 h).1 hg).trans h

/-- The row of a block that is known whole. -/
theorem row_box {w : World} {g : Nat} {cs : Array Value} {t : TypeId} (h : w.heap[g]? = some (.cells cs t (0, 0))) : Row w g 0 cs.toList := fun i v hv => by
  rw [Nat.zero_add, cell_of_row w g i cs t (0, 0) h]; simpa using hv

/-- A slice of numbers that isn't empty: its row. -/
theorem ri_row {X : Nat → Prop} {w : World} {v : Value} {xs : List Int} (h : RI X w v xs) (hp : 0 < xs.length) :
    ∃ b o n, v = .slice (some ⟨b, o, none⟩) xs.length n ∧ ¬ X b ∧ b < w.heap.size ∧ xs.length ≤ n ∧ n ≤ maxLen ∧ Row w b o (xs.map (Value.int .i64)) := by
  rcases h with ⟨_, h0, _⟩ | ⟨b, o, c, rfl, h1, h2, h3, h4, hr⟩
  · omega
  · exact ⟨b, o, c, rfl, h1, h2, h3, h4, hr⟩
/-- One cell out of it. -/
theorem row_one {w : World} {b o : Nat} {xs : List Int} (h : Row w b o (xs.map (Value.int .i64))) {k : Nat} (hk : k < xs.length) : Row w b (o + k * 1) [.int .i64 (xs.getD k 0)] := fun i v hv => by
  cases i with
  | zero =>
    obtain rfl : Value.int .i64 (xs.getD k 0) = v := by simpa using hv
    have := h k (.int .i64 (xs.getD k 0)) (by simp [List.getD, hk])
    simpa using this
  | succ i => simp at hv

/-! ### Slices of one's own -/
theorem wp_build0 (K : Act → World → Prop) (Q : Exit → Act → World → Prop) (t e : TypeId) (ho : o.op = .buildSlice t 0 #[]) (he : P.underlying t = some (.slice e)) (hi : (P.info? e).isSome = true)
    (h : ∀ g w', w.heap.size ≤ g → g < w'.heap.size → w'.heap[g]? = some (.cells #[] e (0, 0)) → Mod (fun _ => False) w w' → K (a.put o.dst (.slice (some ⟨g, 0, none⟩) 0 0)) w') : o.wp P a w K Q := by
  have := h w.heap.size (w.alloc (.cells #[] e)) (Nat.le_refl _) (by simp) (heap_alloc_new _ _) (.ofBelow (below_box _))
  obtain ⟨i, hi⟩ := Option.isSome_iff_exists.1 hi
  unfold Oper.wp execOp
  simp only [ho, Instr.buildSlice, Sem.run_bind, run_underlying he, Result.andThen_ok]
  simp [go_sem, sizeOf, typeInfo, hi, newRow, Instr.fill]
  exact this

/-- A whole slice is laid behind an empty literal of one's own. -/
theorem wp_clone {X : Nat → Prop} (K : Act → World → Prop) (Q : Exit → Act → World → Prop) (s x : Operand) (t : TypeId)
    (ho : o.op = .call { callee := .builtin .append, args := #[s, x], argTypes := #[t, t] })
    (e : TypeId) (i : TypeInfo) (z : Value) (size bytes : Nat) (ht : P.underlying t = some (.slice e)) (hi : P.info? e = some i) (hz : i.zero = some z)
    (hsize : i.size = size) (hby : i.bytes = bytes) (hzs : z.cells.size = size) (hsz : 0 < size)
    (g : Nat) (hs : a.eval s = .slice (some ⟨g, 0, none⟩) 0 0) (hg : w.heap[g]? = some (.cells #[] e (0, 0)))
    (vs : Value) (m : Nat) (news : List Value) (hx : a.eval x = vs) (hsc : SC X w vs m news) (hl : news.length = m * size) (h1 : ∀ u ∈ news, u.oneCell' = true)
    (h63 : m ≤ maxLen) (hbytes : m * bytes ≤ 140737488355328)
    (h : ∀ v' w', w'.ownsRow g e size v' m news → Mod (fun k => k = g) w w' → K (a.put o.dst v') w') : o.wp P a w K Q := by
  have hlt : g < w.heap.size := (Array.getElem?_eq_some_iff.1 hg).1
  refine wp_append_sc s x t ho g e i z size bytes ht hi hz hsize hby hzs hsz _ 0 [] hs ⟨by simp, .inr ⟨g, 0, #[], rfl, Nat.le_refl _, hg, Nat.le_refl _, by decide, by simp, by simp⟩⟩ vs m news hx hsc hl h1 (by omega) (by simpa using hbytes) (by omega) fun v' w' a1 a2 => ?_
  rw [Nat.zero_add, List.nil_append] at a1
  exact h v' w' a1 (.ofGrown (by simpa [Value.ownBlock] using a2))

/-- A slice's element: its type, and its cells, if there are few bytes. -/
def cloneOk (P : Program) (t : TypeId) : Option (TypeId × Nat) :=
  match P.underlying t with
  | some (.slice e) => match P.info? e with
    | some i => match i.zero with
      | some z => if z.cells.size = i.size ∧ 0 < i.size ∧ i.bytes ≤ 1000 then some (e, i.size) else none
      | none => none
    | none => none
  | _ => none
theorem cloneOk_is {t e : TypeId} {size : Nat} (h : cloneOk P t = some (e, size)) : ∃ i z, P.underlying t = some (.slice e) ∧ P.info? e = some i ∧ i.zero = some z ∧ i.size = size ∧ z.cells.size = size ∧ 0 < size ∧ i.bytes ≤ 1000 := by
  unfold cloneOk at h
  split at h
  · rename_i e' hu
    split at h
    · rename_i i hi
      split at h
      · rename_i z hz
        split at h
        · rename_i hc
          obtain ⟨h1, h2, h3⟩ := hc
          simp only [Option.some.injEq, Prod.mk.injEq] at h
          obtain ⟨rfl, rfl⟩ := h
          exact ⟨i, z, hu, hi, hz, rfl, h1, h2, h3⟩
        · cases h
      · cases h
    · cases h
  · cases h
theorem wp_copy {X : Nat → Prop} (K : Act → World → Prop) (Q : Exit → Act → World → Prop) (s x : Operand) (t : TypeId)
    (ho : o.op = .call { callee := .builtin .append, args := #[s, x], argTypes := #[t, t] }) (e : TypeId) (size : Nat) (hok : cloneOk P t = some (e, size))
    (g : Nat) (hs : a.eval s = .slice (some ⟨g, 0, none⟩) 0 0) (hg : w.heap[g]? = some (.cells #[] e (0, 0)))
    (vs : Value) (m : Nat) (news : List Value) (hx : a.eval x = vs) (hsc : SC X w vs m news) (hl : news.length = m * size) (h1 : ∀ u ∈ news, u.oneCell' = true)
    (hm : m ≤ 100000000000)
    (h : ∀ v' w', w'.ownsRow g e size v' m news → Mod (fun k => k = g) w w' → K (a.put o.dst v') w') : o.wp P a w K Q := by
  obtain ⟨i, z, c1, c2, c3, c4, c5, c6, c7⟩ := cloneOk_is hok
  refine wp_clone K Q s x t ho e i z size i.bytes c1 c2 c3 c4 rfl c5 c6 g hs hg vs m news hx hsc hl h1 (by unfold maxLen; omega) ?_ h
  have := Nat.mul_le_mul hm c7
  omega
theorem wp_empty (K : Act → World → Prop) (Q : Exit → Act → World → Prop) (t e : TypeId) (size : Nat) (ho : o.op = .buildSlice t 0 #[]) (hok : cloneOk P t = some (e, size))
    (h : ∀ g w', w.heap.size ≤ g → g < w'.heap.size → w'.heap[g]? = some (.cells #[] e (0, 0)) → Mod (fun _ => False) w w' → K (a.put o.dst (.slice (some ⟨g, 0, none⟩) 0 0)) w') : o.wp P a w K Q := by
  obtain ⟨i, z, c1, c2, c3, c4, c5, c6, c7⟩ := cloneOk_is hok
  exact wp_build0 K Q t e ho c1 (by rw [c2]; rfl) h

/-- n zeroes are made. -/
theorem wp_make (K : Act → World → Prop) (Q : Exit → Act → World → Prop) (t e : TypeId) (x y : Operand) (n size : Nat) (ho : o.op = .makeSlice t x y) (hok : cloneOk P t = some (e, size)) (hx : a.eval x = .int .i64 (n : Int)) (hy : a.eval y = .int .i64 (n : Int)) (hn : n ≤ 1000000000)
    (h : ∀ g w' cs, w.heap.size ≤ g → g < w'.heap.size → w'.heap[g]? = some (.cells cs e (0, 0)) → (∃ z i, P.info? e = some i ∧ i.zero = some z ∧ cs = madeCells z.cells (n * size)) → Mod (fun _ => False) w w' → K (a.put o.dst (.slice (some ⟨g, 0, none⟩) n n)) w') : o.wp P a w K Q := by
  obtain ⟨i, z, c1, c2, c3, c4, c5, c6, c7⟩ := cloneOk_is hok
  have hb : (i.bytes : Int) * (n : Int) ≤ 281474976710656 := by
    have h1 := Nat.mul_le_mul c7 hn
    have h2 : ((i.bytes * n : Nat) : Int) ≤ 281474976710656 := by omega
    rwa [Int.natCast_mul] at h2
  have hr := run_make (P := P) w t e i z c1 c2 c3 .i64 .i64 n n (by omega) (Int.le_refl _) hb (by omega)
  simp only [Int.toNat_natCast, c4] at hr
  have hk := h w.heap.size (w.alloc (.cells (madeCells z.cells (n * size)) e)) _ (Nat.le_refl _) (by simp) (heap_alloc_new _ _) ⟨z, i, c2, c3, rfl⟩ (.ofBelow (below_box _))
  unfold Oper.wp execOp
  simp only [ho, hx, hy, Sem.run_bind, hr, Result.andThen_ok, Sem.run_pure]
  exact hk

theorem own_mod {G : Nat → Prop} {w w' : World} {base : Nat} {e : TypeId} {size : Nat} {v : Value} {n : Nat} {xs : List Value} (h : w.ownsRow base e size v n xs) (k : Mod G w w') (hg : ∀ j, G j → j < base) : w'.ownsRow base e size v n xs := by
  obtain ⟨h1, h2⟩ := h
  refine ⟨h1, ?_⟩
  rcases h2 with h2 | ⟨b, cap, cur, e1, e2, e3, e4⟩
  · exact .inl h2
  · exact .inr ⟨b, cap, cur, e1, e2, by rw [k.block b (Array.getElem?_eq_some_iff.1 e3).1 (fun c => by have := hg b c; omega)]; exact e3, e4⟩

/-- A literal of some elements. -/
theorem wp_build1 (K : Act → World → Prop) (Q : Exit → Act → World → Prop) (t e : TypeId) (n : Nat) (ps : Array (Nat × Operand)) (vs : Array (Nat × Value)) (cs : Array Value) (ho : o.op = .buildSlice t n ps) (hv : ps.map (fun p => (p.1, a.eval p.2)) = vs)
    (hb : ∀ w, (Instr.buildSlice t n vs).run P w = .ok (.slice (some ⟨w.heap.size, 0, none⟩) n n) (w.alloc (.cells cs e)))
    (h : ∀ g w', w.heap.size ≤ g → g < w'.heap.size → w'.heap[g]? = some (.cells cs e (0, 0)) → Mod (fun _ => False) w w' → K (a.put o.dst (.slice (some ⟨g, 0, none⟩) n n)) w') : o.wp P a w K Q := by
  have hk := h w.heap.size (w.alloc (.cells cs e)) (Nat.le_refl _) (by simp) (heap_alloc_new _ _) (.ofBelow (below_box _))
  unfold Oper.wp execOp
  simp only [ho, Sem.run_bind]
  rw [show (ps.map fun x => match x with | (i, x) => (i, a.eval x)) = vs from hv, hb]
  simp only [Result.andThen_ok, Sem.run_pure]
  exact hk
/-- What stands in a block reads as a slice. -/
theorem sc_box {X : Nat → Prop} {g n : Nat} {cs : Array Value} {t : TypeId} (h : w.heap[g]? = some (.cells cs t (0, 0))) (hx : ¬ X g) (hn : n ≤ maxLen) : SC X w (.slice (some ⟨g, 0, none⟩) n n) n cs.toList :=
  .inr ⟨g, 0, n, rfl, hx, (Array.getElem?_eq_some_iff.1 h).1, Nat.le_refl _, hn, row_box h⟩

/-! ### Rows that are known by their block -/
theorem ri_block {X : Nat → Prop} {w : World} {g cap n : Nat} {cur : Array Value} {t : TypeId} {xs : List Int} (h : w.heap[g]? = some (.cells cur t (0, 0))) (hx : ¬ X g) (hn : xs.length = n) (hc : n ≤ cap) (hm : cap ≤ maxLen)
    (ht : cur.toList.take n = xs.map (Value.int .i64)) : RI X w (.slice (some ⟨g, 0, none⟩) n cap) xs := by
  unfold RI
  rw [hn]
  refine .inr ⟨g, 0, cap, rfl, hx, (Array.getElem?_eq_some_iff.1 h).1, hc, hm, fun i u hu => ?_⟩
  have hlt : i < (xs.map (Value.int .i64)).length := (List.getElem?_eq_some_iff.1 hu).1
  rw [List.length_map, hn] at hlt
  rw [← ht, List.getElem?_take_of_lt hlt] at hu
  exact row_box h i u hu
theorem spliced_one {cur : Array Value} {k n : Nat} {xs : List Int} (u : Int) (hk : k < n) (hn : n ≤ cur.size) (ht : cur.toList.take n = xs.map (Value.int .i64)) : (spliced cur k [.int .i64 u]).toList.take n = (xs.set k u).map (Value.int .i64) := by
  unfold spliced
  rw [List.toList_toArray, show ([Value.int .i64 u] : List Value).length = 1 from rfl, take_mid cur.toList [Value.int .i64 u] k 1 n rfl (by omega) (by simpa using hn), ht, List.map_set]
  have hl : (xs.map (Value.int .i64)).length = n := by rw [← ht, List.length_take]; simp; omega
  rw [List.set_eq_take_append_cons_drop, if_pos (by omega)]
  rfl

/-- One element (of so many cells) is laid behind what the call owns. -/
theorem wp_grow (K : Act → World → Prop) (Q : Exit → Act → World → Prop) {X : Nat → Prop} (s x : Operand) (t : TypeId)
    (ho : o.op = .call { callee := .builtin .append, args := #[s, x], argTypes := #[t, t] })
    (e : TypeId) (i : TypeInfo) (z : Value) (size bytes : Nat) (ht : P.underlying t = some (.slice e)) (hi : P.info? e = some i) (hz : i.zero = some z)
    (hsize : i.size = size) (hby : i.bytes = bytes) (hzs : z.cells.size = size) (hsz : 0 < size)
    (g : Nat) (v : Value) (n : Nat) (xs : List Value) (hs : a.eval s = v) (hown : w.ownsRow g e size v n xs) (hgl : g ≤ w.heap.size)
    (vs : Value) (m : Nat) (news : List Value) (hx : a.eval x = vs) (hsc : SC X w vs m news) (hl : news.length = m * size) (h1 : ∀ u ∈ news, u.oneCell' = true)
    (h63 : n + m ≤ maxLen) (hbytes : (n + m) * bytes ≤ 140737488355328)
    (h : ∀ v' w', w'.ownsRow g e size v' (n + m) (xs ++ news) → Mod (fun k => v.ownBlock = some k) w w' → K (a.put o.dst v') w') : o.wp P a w K Q := by
  refine wp_append_sc s x t ho g e i z size bytes ht hi hz hsize hby hzs hsz _ n xs hs hown vs m news hx hsc hl h1 h63 hbytes hgl fun v' w' a1 a2 => ?_
  exact h v' w' a1 ⟨a2.os, a2.tape, a2.output, a2.size, fun k hk hn => a2.block k hk (fun e => hn e.symm)⟩

theorem wp_push (K : Act → World → Prop) (Q : Exit → Act → World → Prop) {X : Nat → Prop} (s x : Operand) (t : TypeId)
    (ho : o.op = .call { callee := .builtin .append, args := #[s, x], argTypes := #[t, t] }) (e : TypeId) (size : Nat) (hok : cloneOk P t = some (e, size))
    (g : Nat) (v : Value) (n : Nat) (xs : List Value) (hs : a.eval s = v) (hown : w.ownsRow g e size v n xs) (hgl : g ≤ w.heap.size)
    (vs : Value) (m : Nat) (news : List Value) (hx : a.eval x = vs) (hsc : SC X w vs m news) (hl : news.length = m * size) (h1 : ∀ u ∈ news, u.oneCell' = true)
    (hm : n + m ≤ 100000000000)
    (h : ∀ v' w', w'.ownsRow g e size v' (n + m) (xs ++ news) → Mod (fun k => v.ownBlock = some k) w w' → K (a.put o.dst v') w') : o.wp P a w K Q := by
  obtain ⟨i, z, c1, c2, c3, c4, c5, c6, c7⟩ := cloneOk_is hok
  refine wp_grow K Q s x t ho e i z size i.bytes c1 c2 c3 c4 rfl c5 c6 g v n xs hs hown hgl vs m news hx hsc hl h1 (by unfold maxLen; omega) ?_ h
  have := Nat.mul_le_mul hm c7
  omega
theorem own_block {w : World} {base : Nat} {e : TypeId} {size : Nat} {v : Value} {n : Nat} {xs : List Value} (h : w.ownsRow base e size v n xs) : ∀ k, v.ownBlock = some k → base ≤ k ∧ k < w.heap.size := by
  intro k hk
  rcases h.2 with ⟨rfl, _⟩ | ⟨b, cap, cur, rfl, e2, e3, e4⟩
  · simp [Value.ownBlock] at hk
  · obtain rfl : b = k := by simpa [Value.ownBlock] using hk
    exact ⟨e2, (Array.getElem?_eq_some_iff.1 e3).1⟩

/-! ### In a list of operations -/
variable {ops : Array Oper} {rest : List Oper} {Q : Exit → Act → World → Prop}
theorem wl_take (v : Value) (d : Option Tmp) (hd : o.dst = d) (hw : Region.wanted o (yielded ops a.tmps) = true) (hr : (execOp a.eval o).run P w = .ok (.value v) w) (h : wpList P ops Q rest (a.put d v) w) : wpList P ops Q (o :: rest) a w :=
  wpList_step fun K hK => by
    rw [if_pos hw]
    unfold Oper.wp
    rw [hr]
    subst hd
    exact hK _ _ h
theorem wl_skip (d : Option Tmp) (hd : o.dst = d) (hw : Region.wanted o (yielded ops a.tmps) = false) (h : wpList P ops Q rest (a.put d undef) w) : wpList P ops Q (o :: rest) a w :=
  wpList_step fun K hK => by
    rw [if_neg (by rw [hw]; decide)]
    subst hd
    exact hK _ _ h
theorem wl_step (d : Option Tmp) (hd : o.dst = d) (hw : Region.wanted o (yielded ops a.tmps) = true) (h : ∀ K : Act → World → Prop, (∀ v w, wpList P ops Q rest (a.put d v) w → K (a.put o.dst v) w) → o.wp P a w K Q) : wpList P ops Q (o :: rest) a w :=
  wpList_step fun K hK => by
    rw [if_pos hw]
    subst hd
    exact h K fun v w h => hK _ _ h


/-! ### Regions that draw -/
theorem Mod.drew (w : World) : Mod (fun _ => False) w w.drew := ⟨rfl, rfl, rfl, Nat.le_refl _, fun _ _ _ => rfl⟩
/-- The blocks that stood at the beginning stand, but those of G. -/
def AgreeB (G : Nat → Prop) (w w' : World) : Prop := ∀ b, b < w.heap.size → ¬ G b → w'.heap[b]? = w.heap[b]?
theorem AgreeB.box {G : Nat → Prop} {w w' : World} (h : AgreeB G w w') {g : Nat} {ob : Obj} (hb : w.heap[g]? = some ob) (hg : ¬ G g) : w'.heap[g]? = some ob := (h g (Array.getElem?_eq_some_iff.1 hb).1 hg).trans hb
theorem AgreeB.mod {w a b : World} {G G' : Nat → Prop} (h : AgreeB G w a) (k : Mod G' a b) (hs : w.heap.size ≤ a.heap.size) (hg : ∀ k, G' k → G k ∨ w.heap.size ≤ k) : AgreeB G w b := fun i hi hn =>
  (k.block i (by omega) (fun e => by
    rcases hg i e with c | c
    · exact hn c
    · omega)).trans (h i hi hn)
theorem wp_region_ag {id : Nat} {a : Act} {w : World} (G : Nat → Prop) (T : Nat → Nat) (H : Nat → Bool) (ord : List Nat) (hm : P.follows .mixedOrders = true) (hs : Region.noSelect ops = true)
    (hok : alongOk .any ops T H ord (Array.replicate ops.size false) = true) (hlen : ord.length = ops.size)
    (hQ : ∀ c (a : Act) d v w, Q (.panic c) (a.put d v) w → Q (.panic c) a w)
    (h : ∀ wd, Mod (fun _ => False) w wd → wd.heap.size = w.heap.size → AgreeB G w wd → wpAlong P ops Q (AgreeB G w) T H ord a wd) : (Code.region id ops true).wp P Q a w :=
  wp_region_along T H (AgreeB G w) ord hm hs hok hlen hQ (h _ (Mod.drew w) rfl (fun _ _ _ => rfl))

theorem al_step {T : Nat → Nat} {H : Nat → Bool} {S : World → Prop} {i : Nat} {r : List Nat} (d : Option Tmp) (ht : T i = 0) (ho : ops[i]? = some o) (hd : o.dst = d) (hw : Region.wanted o (yielded ops a.tmps) = true)
    (h : ∀ K : Act → World → Prop, (∀ v w', (S w → S w') → wpAlong P ops Q S T H r (a.put d v) w' → K (a.put o.dst v) w') → o.wp P a w K Q) : wpAlong P ops Q S T H (i :: r) a w :=
  along_step o ht ho hw fun K hK => h K fun v w' h1 h2 => hK _ _ ⟨fun _ => h1, by subst hd; exact h2⟩

end

end Go.Proofs.Ytjeiopkfdgllhaa.Hz
/- Regions that draw their order, walked along a plan: where two steps may come next, both ways. -/
namespace Go.Proofs.Ytjeiopkfdgllhaa.Hz
open Go Go.RowKit

section
variable {P : Program} {ops : Array Oper} {Q : Exit → Act → World → Prop} {md : Region.Mode} {S : World → Prop}

/-- The ways through a region. -/
inductive Plan where
  | done
  | take (i : Nat) (p : Plan)
  | one (i : Nat) (p : Plan)
  | two (i j : Nat) (p q : Plan)

def Plan.len : Plan → Nat
  | .done => 0
  | .take _ p => p.len + 1
  | .one _ p => p.len + 1
  | .two _ _ p _ => p.len + 1

def wpPlan (P : Program) (ops : Array Oper) (Q : Exit → Act → World → Prop) (S : World → Prop) : Plan → Act → World → Prop
  | .done, a, w => Q .normal a w
  | .take i p, a, w => ∃ o v, ops[i]? = some o ∧ YieldsIf P ops S o v a ∧ S w ∧ wpPlan P ops Q S p (a.put o.dst v) w
  | .one i p, a, w => wpOp P ops Q i (fun a' w' => (S w → S w') ∧ wpPlan P ops Q S p a' w') a w
  | .two i j p q, a, w => wpOp P ops Q i (fun a' w' => (S w → S w') ∧ wpPlan P ops Q S p a' w') a w ∧ wpOp P ops Q j (fun a' w' => (S w → S w') ∧ wpPlan P ops Q S q a' w') a w

def planOk (md : Region.Mode) (ops : Array Oper) : Plan → Array Bool → Bool
  | .done, listed => Region.ready md ops listed == []
  | .take i p, listed => Region.free md ops listed i && (Region.ready md ops listed).contains i && planOk md ops p (listed.setIfInBounds i true)
  | .one i p, listed => Region.ready md ops listed == [i] && planOk md ops p (listed.setIfInBounds i true)
  | .two i j p q, listed => Region.ready md ops listed == [i, j] && p.len == q.len && planOk md ops p (listed.setIfInBounds i true) && planOk md ops q (listed.setIfInBounds j true)

theorem wpAnyG_plan (hs : Region.noSelect ops = true) (hQ : ∀ c (a : Act) d v w, Q (.panic c) (a.put d v) w → Q (.panic c) a w) :
    ∀ (p : Plan) (listed : Array Bool) (a : Act) (w : World), planOk md ops p listed = true → wpPlan P ops Q S p a w → wpAnyG P md ops Q S (fun _ => true) p.len listed a w
  | .done, listed, a, w, hok, h => ⟨by simpa [planOk] using hok, h⟩
  | .take i p, listed, a, w, hok, h => by
    simp only [planOk, Bool.and_eq_true, List.contains_iff_mem] at hok
    obtain ⟨⟨hf, hr⟩, h2⟩ := hok
    obtain ⟨o, v, ho, hy, hS, h⟩ := h
    exact wpAnyG_first ho (Region.noSelect_spec hs) (fun c a w => hQ c a o.dst v w) (fun j oj hj hji => .inr fun w w' hk hw => hk rfl hw) p.len listed a w (Region.free_spec ho hf) hr hy hS (wpAnyG_plan hs hQ p _ _ _ h2 h)
  | .one i p, listed, a, w, hok, h => by
    simp only [planOk, Bool.and_eq_true, beq_iff_eq] at hok
    obtain ⟨hr, h2⟩ := hok
    refine ⟨fun h0 => (by rw [hr] at h0; cases h0), fun j hj => ?_⟩
    rw [hr] at hj
    obtain rfl : j = i := by simpa using hj
    exact wpOp_mono (fun a' w' h3 => ⟨fun _ => h3.1, wpAnyG_plan hs hQ p _ _ _ h2 h3.2⟩) h
  | .two i j p q, listed, a, w, hok, h => by
    simp only [planOk, Bool.and_eq_true, beq_iff_eq] at hok
    obtain ⟨⟨⟨hr, hl⟩, h2⟩, h3⟩ := hok
    refine ⟨fun h0 => (by rw [hr] at h0; cases h0), fun k hk => ?_⟩
    rw [hr] at hk
    simp only [List.mem_cons, List.not_mem_nil, or_false] at hk
    rcases hk with rfl | rfl
    · exact wpOp_mono (fun a' w' h4 => ⟨fun _ => h4.1, wpAnyG_plan hs hQ p _ _ _ h2 h4.2⟩) h.1
    · exact wpOp_mono (fun a' w' h4 => ⟨fun _ => h4.1, by show wpAnyG P md ops Q S (fun _ => true) p.len _ _ _; rw [hl]; exact wpAnyG_plan hs hQ q _ _ _ h3 h4.2⟩) h.2

/-- A region that draws, by a plan; what is to be said behind it: R. -/
theorem wp_region_plan {id : Nat} {a : Act} {w : World} (G : Nat → Prop) (p : Plan) (R : Act → World → Prop) (hm : P.follows .mixedOrders = true) (hs : Region.noSelect ops = true)
    (hok : planOk .any ops p (Array.replicate ops.size false) = true) (hlen : p.len = ops.size)
    (h : ∀ wd, Mod (fun _ => False) w wd → wd.heap.size = w.heap.size → AgreeB G w wd → wpPlan P ops (fun e a w => e = .normal ∧ R a w) (AgreeB G w) p a wd)
    (hR : ∀ a w, R a w → Q .normal a w) : (Code.region id ops true).wp P Q a w := by
  refine Code.wp_mono (Q := fun e a w => e = .normal ∧ R a w) (fun e a w hq => by obtain ⟨rfl, hq⟩ := hq; exact hR _ _ hq) ?_
  refine wp_region_any hm (wpAny_of_G (S := AgreeB G w) (H := fun _ => true) _ _ _ _ ?_)
  have h2 := wpAnyG_plan hs (fun c a d v w hq => by cases hq.1) p _ _ _ hok (h _ (Mod.drew w) rfl (fun _ _ _ => rfl))
  rw [hlen] at h2
  exact h2

/-- The same, where no two steps may come next. -/
theorem wp_region_plan1 {id : Nat} {a : Act} {w : World} (G : Nat → Prop) (p : Plan) (hm : P.follows .mixedOrders = true) (hs : Region.noSelect ops = true)
    (hok : planOk .any ops p (Array.replicate ops.size false) = true) (hlen : p.len = ops.size)
    (hQ : ∀ c (a : Act) d v w, Q (.panic c) (a.put d v) w → Q (.panic c) a w)
    (h : ∀ wd, Mod (fun _ => False) w wd → wd.heap.size = w.heap.size → AgreeB G w wd → wpPlan P ops Q (AgreeB G w) p a wd) : (Code.region id ops true).wp P Q a w := by
  refine wp_region_any hm (wpAny_of_G (S := AgreeB G w) (H := fun _ => true) _ _ _ _ ?_)
  have h2 := wpAnyG_plan hs hQ p _ _ _ hok (h _ (Mod.drew w) rfl (fun _ _ _ => rfl))
  rw [hlen] at h2
  exact h2
theorem pl_take {i : Nat} {p : Plan} {a : Act} {w : World} (o : Oper) (v : Value) (d : Option Tmp) (ho : ops[i]? = some o) (hd : o.dst = d) (hw : Region.wanted o (yielded ops a.tmps) = true)
    (hy : ∀ w, S w → (execOp a.eval o).run P w = .ok (.value v) w) (hS : S w) (h : wpPlan P ops Q S p (a.put d v) w) : wpPlan P ops Q S (.take i p) a w := by
  subst hd
  exact ⟨o, v, ho, .inl ⟨hw, hy⟩, hS, h⟩
theorem pl_op {i : Nat} {p : Plan} {a : Act} {w : World} (o : Oper) (d : Option Tmp) (ho : ops[i]? = some o) (hd : o.dst = d) (hw : Region.wanted o (yielded ops a.tmps) = true)
    (h : ∀ K : Act → World → Prop, (∀ v w', (S w → S w') → wpPlan P ops Q S p (a.put d v) w' → K (a.put o.dst v) w') → o.wp P a w K Q) : wpOp P ops Q i (fun a' w' => (S w → S w') ∧ wpPlan P ops Q S p a' w') a w :=
  wpOp_step ho fun K hK => by
    rw [if_pos hw]
    exact h K fun v w' h1 h2 => hK _ _ ⟨h1, by subst hd; exact h2⟩
theorem pl_one {i : Nat} {p : Plan} {a : Act} {w : World} (h : wpOp P ops Q i (fun a' w' => (S w → S w') ∧ wpPlan P ops Q S p a' w') a w) : wpPlan P ops Q S (.one i p) a w := h
theorem pl_two {i j : Nat} {p q : Plan} {a : Act} {w : World} (h : wpOp P ops Q i (fun a' w' => (S w → S w') ∧ wpPlan P ops Q S p a' w') a w) (k : wpOp P ops Q j (fun a' w' => (S w → S w') ∧ wpPlan P ops Q S q a' w') a w) :
    wpPlan P ops Q S (.two i j p q) a w := ⟨h, k⟩
theorem pl_done {a : Act} {w : World} (h : Q .normal a w) : wpPlan P ops Q S .done a w := h
end
end Go.Proofs.Ytjeiopkfdgllhaa.Hz
