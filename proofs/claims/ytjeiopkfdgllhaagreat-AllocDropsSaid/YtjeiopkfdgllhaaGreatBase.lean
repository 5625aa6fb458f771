/- Readings of this program's data in a world: rows of cells, slices, frames, cores, systems; and how they last while other blocks are made and written. -/
import Derived.WalkKit
import Derived.WalkSmall
import Derived.Lib.Hide
namespace Go.Proofs.YtjeiopkfdgllhaaGreat.Hz
open Go Go.RowKit

/-! ### The data -/
/-- A frame. -/
structure Frame where
  op : Int
  pc : Int
  r0 : Int
  r1 : Int
  r2 : Int
  r3 : Int
  r4 : Int
  r5 : Int
  r6 : Int
  r7 : Int
  S : List Int
/-- A core. -/
structure Core where
  F : List Frame
  V : Int
  E : Int
  x0 : Int
  x1 : Int
  x2 : Int
  Ret : List Int
/-- What took effect. -/
structure Ev where
  core : Int
  kind : Int
  a : Int
  b : Int
  v : Int
/-- An arena. -/
structure Mem where
  W : List Int
  G : List Int
  Bad : Bool
/-- A system. -/
structure Sys where
  M : Mem
  C : List Core
  L : List Ev

/-! ### Blocks that stay -/
/-- The blocks of w that are not in X stand in w' as they stood. -/
structure Off (X : Nat → Prop) (w w' : World) : Prop where
  size : w.heap.size ≤ w'.heap.size
  block : ∀ b, b < w.heap.size → ¬ X b → w'.heap[b]? = w.heap[b]?

theorem Off.refl (X : Nat → Prop) (w : World) : Off X w w := ⟨Nat.le_refl _, fun _ _ _ => rfl⟩
theorem Off.trans {X : Nat → Prop} {a b c : World} (h : Off X a b) (k : Off X b c) : Off X a c :=
  ⟨Nat.le_trans h.size k.size, fun i hi hx => (k.block i (Nat.lt_of_lt_of_le hi h.size) hx).trans (h.block i hi hx)⟩
theorem Off.below {X : Nat → Prop} {a b c : World} (h : Off X a b) (k : Below b.heap.size b c) : Off X a c :=
  h.trans ⟨k.size, fun i hi _ => k.block i hi⟩
theorem Off.belowAt {X : Nat → Prop} {B : Nat} {a b c : World} (h : Off X a b) (k : Below B b c) (hB : a.heap.size ≤ B) : Off X a c :=
  ⟨Nat.le_trans h.size k.size, fun i hi hx => (k.block i (Nat.lt_of_lt_of_le hi hB)).trans (h.block i hi hx)⟩
theorem Off.alloc {X : Nat → Prop} {a w : World} (h : Off X a w) (o : Obj) : Off X a (w.alloc o) :=
  h.trans ⟨by simp, fun i hi _ => Below.heap_alloc _ _ _ hi⟩
theorem Off.setCell {X : Nat → Prop} {a w : World} (h : Off X a w) {p : Addr} (hp : X p.block ∨ a.heap.size ≤ p.block) (u : Value) : Off X a (w.setCell p u) :=
  ⟨by have := h.size; simp [World.setCell]; exact this, fun i hi hx => by
    have hne : i ≠ p.block := fun e => by
      rcases hp with hp | hp
      · exact hx (e ▸ hp)
      · omega
    rw [Below.heap_setCell _ _ _ _ hne]
    exact h.block i hi hx⟩
theorem Off.drew {X : Nat → Prop} {a w : World} (h : Off X a w) : Off X a w.drew := ⟨h.size, h.block⟩
theorem Off.drewN {X : Nat → Prop} {a w : World} (h : Off X a w) (n : Nat) : Off X a (w.drewN n) := ⟨h.size, h.block⟩
theorem Off.ofBelow {X : Nat → Prop} {w w' : World} (k : Below w.heap.size w w') : Off X w w' := (Off.refl X w).below k

theorem cell_off {X : Nat → Prop} {w w' : World} (h : Off X w w') {b o : Nat} (hb : b < w.heap.size) (hx : ¬ X b) : w'.cell? ⟨b, o, none⟩ = w.cell? ⟨b, o, none⟩ :=
  World.cell?_of_block (w := w) (h.block b hb hx)

/-! ### Rows of cells -/
/-- Cells that stand in a row. -/
def Row (w : World) (b o : Nat) (cs : List Value) : Prop := ∀ (i : Nat) (v : Value), cs[i]? = some v → w.cell? ⟨b, o + i, none⟩ = some v

theorem Row.to {w w' : World} {b o : Nat} {cs : List Value} (h : Row w b o cs) (k : w'.heap[b]? = w.heap[b]?) : Row w' b o cs := fun i v hv =>
  (World.cell?_of_block (w := w) (a := ⟨b, o + i, none⟩) k).trans (h i v hv)
theorem Row.left {w : World} {b o : Nat} {cs ds : List Value} (h : Row w b o (cs ++ ds)) : Row w b o cs := fun i v hv =>
  h i v (by rw [List.getElem?_append_left (List.getElem?_eq_some_iff.1 hv).1]; exact hv)
theorem Row.right {w : World} {b o : Nat} {cs ds : List Value} (h : Row w b o (cs ++ ds)) : Row w b (o + cs.length) ds := fun i v hv => by
  have := h (cs.length + i) v (by rw [List.getElem?_append_right (by omega)]; simpa using hv)
  rw [Nat.add_assoc]; exact this
theorem Row.nil (w : World) (b o : Nat) : Row w b o [] := fun i v hv => by simp at hv
theorem Row.append {w : World} {b o : Nat} {cs ds : List Value} (h : Row w b o cs) (k : Row w b (o + cs.length) ds) : Row w b o (cs ++ ds) := fun i v hv => by
  by_cases c : i < cs.length
  · exact h i v (by rw [List.getElem?_append_left c] at hv; exact hv)
  · rw [List.getElem?_append_right (by omega)] at hv
    have := k _ v hv
    rw [show o + cs.length + (i - cs.length) = o + i by omega] at this
    exact this

/-- A slice of n elements that are these cells. -/
def SC (X : Nat → Prop) (w : World) (v : Value) (n : Nat) (cs : List Value) : Prop :=
  (v = .slice none 0 0 ∧ n = 0 ∧ cs = []) ∨ ∃ b o c, v = .slice (some ⟨b, o, none⟩) n c ∧ ¬ X b ∧ b < w.heap.size ∧ n ≤ c ∧ c ≤ maxLen ∧ Row w b o cs

theorem SC.up {X X' : Nat → Prop} {w w' : World} {v : Value} {n : Nat} {cs : List Value} (h : SC X w v n cs) (k : Off X w w') (hX : ∀ b, b < w.heap.size → X' b → X b) : SC X' w' v n cs := by
  rcases h with h | ⟨b, o, c, rfl, hx, hb, h1, h2, hr⟩
  · exact .inl h
  · exact .inr ⟨b, o, c, rfl, fun e => hx (hX b hb e), Nat.lt_of_lt_of_le hb k.size, h1, h2, hr.to (k.block b hb hx)⟩

theorem SC.one {X : Nat → Prop} {w : World} {v : Value} {n : Nat} {cs : List Value} (h : SC X w v n cs) : v.oneCell' = true := by
  rcases h with ⟨rfl, _⟩ | ⟨b, o, c, rfl, _⟩ <;> rfl

/-! ### Lists of things that take so many cells each -/
/-- The cells of a list of things, one behind the other. -/
def Chunks {α : Type} (R : List Value → α → Prop) : List α → List Value → Prop
  | [], cs => cs = []
  | x :: xs, cs => ∃ c r, cs = c ++ r ∧ R c x ∧ Chunks R xs r

theorem Chunks.mono {α : Type} {R R' : List Value → α → Prop} (hR : ∀ c x, R c x → R' c x) : ∀ {xs : List α} {cs : List Value}, Chunks R xs cs → Chunks R' xs cs
  | [], _, h => h
  | _ :: _, _, ⟨c, r, e, h1, h2⟩ => ⟨c, r, e, hR _ _ h1, Chunks.mono hR h2⟩

theorem Chunks.append {α : Type} {R : List Value → α → Prop} : ∀ {xs ys : List α} {cs ds : List Value}, Chunks R xs cs → Chunks R ys ds → Chunks R (xs ++ ys) (cs ++ ds)
  | [], _, _, _, h, k => by obtain rfl := h; exact k
  | _ :: _, _, _, _, ⟨c, r, e, h1, h2⟩, k => ⟨c, r ++ _, by rw [e, List.append_assoc], h1, Chunks.append h2 k⟩

theorem Chunks.length {α : Type} {R : List Value → α → Prop} (k : Nat) (hk : ∀ c x, R c x → c.length = k) : ∀ {xs : List α} {cs : List Value}, Chunks R xs cs → cs.length = xs.length * k
  | [], _, h => by obtain rfl := h; simp
  | _ :: _, _, ⟨c, r, e, h1, h2⟩ => by
    rw [e, List.length_append, hk _ _ h1, Chunks.length k hk h2, List.length_cons, Nat.add_mul]; omega

/-- One of them, and the others around it. -/
theorem Chunks.at {α : Type} {R : List Value → α → Prop} (k : Nat) (hk : ∀ c x, R c x → c.length = k) : ∀ {xs : List α} {cs : List Value} {i : Nat} {x : α}, Chunks R xs cs → xs[i]? = some x →
    ∃ l c r, cs = l ++ (c ++ r) ∧ l.length = i * k ∧ R c x ∧ Chunks R (xs.take i) l ∧ Chunks R (xs.drop (i + 1)) r
  | [], _, _, _, _, hx => by simp at hx
  | y :: ys, _, 0, x, ⟨c, r, e, h1, h2⟩, hx => by
    obtain rfl : y = x := by simpa using hx
    exact ⟨[], c, r, e, by simp, h1, rfl, by simpa using h2⟩
  | y :: ys, _, i + 1, x, ⟨c, r, e, h1, h2⟩, hx => by
    obtain ⟨l, c', r', e', hl, h3, h4, h5⟩ := Chunks.at k hk h2 (by simpa using hx)
    refine ⟨c ++ l, c', r', by rw [e, e', List.append_assoc], ?_, h3, ⟨c, l, rfl, h1, h4⟩, by simpa using h5⟩
    rw [List.length_append, hk _ _ h1, hl, Nat.add_mul]; omega

theorem Chunks.one {α : Type} {R : List Value → α → Prop} {c : List Value} {x : α} (h : R c x) : Chunks R [x] c := ⟨c, [], by simp, h, rfl⟩

theorem Chunks.split {α : Type} {R : List Value → α → Prop} : ∀ {xs ys : List α} {cs : List Value}, Chunks R (xs ++ ys) cs → ∃ l r, cs = l ++ r ∧ Chunks R xs l ∧ Chunks R ys r
  | [], _, cs, h => ⟨[], cs, rfl, rfl, h⟩
  | _ :: _, _, _, ⟨c, r, e, h1, h2⟩ => by
    obtain ⟨l, r', e', h3, h4⟩ := Chunks.split h2
    exact ⟨c ++ l, r', by rw [e, e', List.append_assoc], ⟨c, l, rfl, h1, h3⟩, h4⟩

theorem Chunks.all {α : Type} {R : List Value → α → Prop} (p : Value → Prop) (hp : ∀ c x, R c x → ∀ u ∈ c, p u) : ∀ {xs : List α} {cs : List Value}, Chunks R xs cs → ∀ u ∈ cs, p u
  | [], _, h, u, hu => by obtain rfl := h; cases hu
  | _ :: _, _, ⟨c, r, e, h1, h2⟩, u, hu => by
    rw [e, List.mem_append] at hu
    rcases hu with hu | hu
    · exact hp _ _ h1 u hu
    · exact Chunks.all p hp h2 u hu

theorem Chunks.set {α : Type} {R : List Value → α → Prop} {xs : List α} {l c r : List Value} {i : Nat} {x' : α} (h4 : Chunks R (xs.take i) l) (h3 : R c x') (h5 : Chunks R (xs.drop (i + 1)) r) (hi : i < xs.length) :
    Chunks R (xs.set i x') (l ++ (c ++ r)) := by
  rw [List.set_eq_take_append_cons_drop, if_pos hi]
  exact h4.append ⟨c, r, rfl, h3, h5⟩

theorem Chunks.setAt {α : Type} {R : List Value → α → Prop} (k : Nat) (hk : ∀ c x, R c x → c.length = k) {xs : List α} {cs c : List Value} {i : Nat} {x' : α} (h : Chunks R xs cs) (hi : i < xs.length) (hc : R c x') :
    Chunks R (xs.set i x') (cs.take (i * k) ++ (c ++ cs.drop (i * k + k))) := by
  obtain ⟨l, d, r, rfl, hl, hd, h4, h5⟩ := Chunks.at k hk h (List.getElem?_eq_getElem hi)
  have e1 : (l ++ (d ++ r)).take (i * k) = l := by rw [← hl]; simp
  have e2 : (l ++ (d ++ r)).drop (i * k + k) = r := by rw [← hl, ← hk _ _ hd, ← List.length_append, ← List.append_assoc]; simp
  rw [e1, e2]
  exact Chunks.set h4 hc h5 hi

/-! ### Each kind of thing -/
def intC (c : List Value) (x : Int) : Prop := c = [.int .i64 x]
def boolC (c : List Value) (x : Bool) : Prop := c = [.bool x]
def evC (c : List Value) (e : Ev) : Prop := c = [.int .i64 e.core, .int .i64 e.kind, .int .i64 e.a, .int .i64 e.b, .int .i64 e.v]

/-- A slice of whole numbers. -/
def RI (X : Nat → Prop) (w : World) (v : Value) (xs : List Int) : Prop := SC X w v xs.length (xs.map (Value.int .i64))
/-- A slice of bools. -/
def RB (X : Nat → Prop) (w : World) (v : Value) (xs : List Bool) : Prop := SC X w v xs.length (xs.map Value.bool)

def frameCells (f : Frame) (S : Value) : List Value := [.int .i64 f.op, .int .i64 f.pc, .int .i64 f.r0, .int .i64 f.r1, .int .i64 f.r2, .int .i64 f.r3, .int .i64 f.r4, .int .i64 f.r5, .int .i64 f.r6, .int .i64 f.r7, S]
def frameC (X : Nat → Prop) (w : World) (c : List Value) (f : Frame) : Prop := ∃ S, c = frameCells f S ∧ RI X w S f.S
/-- A slice of frames. -/
def RFs (X : Nat → Prop) (w : World) (v : Value) (fs : List Frame) : Prop := ∃ cs, Chunks (frameC X w) fs cs ∧ SC X w v fs.length cs
def coreCells (c : Core) (F Ret : Value) : List Value := [F, .int .i64 c.V, .int .i64 c.E, .int .i64 c.x0, .int .i64 c.x1, .int .i64 c.x2, Ret]
def coreC (X : Nat → Prop) (w : World) (cs : List Value) (c : Core) : Prop := ∃ F Ret, cs = coreCells c F Ret ∧ RFs X w F c.F ∧ RI X w Ret c.Ret
/-- A slice of cores. -/
def RCs (X : Nat → Prop) (w : World) (v : Value) (l : List Core) : Prop := ∃ cs, Chunks (coreC X w) l cs ∧ SC X w v l.length cs
/-- A slice of events. -/
def RL (X : Nat → Prop) (w : World) (v : Value) (l : List Ev) : Prop := ∃ cs, Chunks evC l cs ∧ SC X w v l.length cs
/-- An arena. -/
def RMem (X : Nat → Prop) (w : World) (v : Value) (m : Mem) : Prop := ∃ W G, v = .agg #[W, G, .bool m.Bad] ∧ RI X w W m.W ∧ RI X w G m.G
/-- A frame, by value. -/
def RFrame (X : Nat → Prop) (w : World) (v : Value) (f : Frame) : Prop := ∃ S, v = .agg (frameCells f S).toArray ∧ RI X w S f.S
/-- A core, by value. -/
def RCore (X : Nat → Prop) (w : World) (v : Value) (c : Core) : Prop := ∃ F Ret, v = .agg (coreCells c F Ret).toArray ∧ RFs X w F c.F ∧ RI X w Ret c.Ret
/-- A system. -/
def RSys (X : Nat → Prop) (w : World) (v : Value) (s : Sys) : Prop := ∃ W G C L, v = .agg #[W, G, .bool s.M.Bad, C, L] ∧ RI X w W s.M.W ∧ RI X w G s.M.G ∧ RCs X w C s.C ∧ RL X w L s.L

section
variable {X X' : Nat → Prop} {w w' : World} {v : Value}
theorem RI.up {xs : List Int} (h : RI X w v xs) (k : Off X w w') (hX : ∀ b, b < w.heap.size → X' b → X b) : RI X' w' v xs := SC.up h k hX
theorem RB.up {xs : List Bool} (h : RB X w v xs) (k : Off X w w') (hX : ∀ b, b < w.heap.size → X' b → X b) : RB X' w' v xs := SC.up h k hX
theorem frameC_up {c : List Value} {f : Frame} (h : frameC X w c f) (k : Off X w w') (hX : ∀ b, b < w.heap.size → X' b → X b) : frameC X' w' c f := by
  obtain ⟨S, e, h1⟩ := h; exact ⟨S, e, h1.up k hX⟩
theorem RFs.up {fs : List Frame} (h : RFs X w v fs) (k : Off X w w') (hX : ∀ b, b < w.heap.size → X' b → X b) : RFs X' w' v fs := by
  obtain ⟨cs, h1, h2⟩ := h; exact ⟨cs, h1.mono fun _ _ h => frameC_up h k hX, h2.up k hX⟩
theorem coreC_up {c : List Value} {x : Core} (h : coreC X w c x) (k : Off X w w') (hX : ∀ b, b < w.heap.size → X' b → X b) : coreC X' w' c x := by
  obtain ⟨F, R, e, h1, h2⟩ := h; exact ⟨F, R, e, h1.up k hX, h2.up k hX⟩
theorem RCs.up {l : List Core} (h : RCs X w v l) (k : Off X w w') (hX : ∀ b, b < w.heap.size → X' b → X b) : RCs X' w' v l := by
  obtain ⟨cs, h1, h2⟩ := h; exact ⟨cs, h1.mono fun _ _ h => coreC_up h k hX, h2.up k hX⟩
theorem RL.up {l : List Ev} (h : RL X w v l) (k : Off X w w') (hX : ∀ b, b < w.heap.size → X' b → X b) : RL X' w' v l := by
  obtain ⟨cs, h1, h2⟩ := h; exact ⟨cs, h1, h2.up k hX⟩
theorem RMem.up {m : Mem} (h : RMem X w v m) (k : Off X w w') (hX : ∀ b, b < w.heap.size → X' b → X b) : RMem X' w' v m := by
  obtain ⟨W, G, e, h1, h2⟩ := h; exact ⟨W, G, e, h1.up k hX, h2.up k hX⟩
theorem RFrame.up {f : Frame} (h : RFrame X w v f) (k : Off X w w') (hX : ∀ b, b < w.heap.size → X' b → X b) : RFrame X' w' v f := by
  obtain ⟨S, e, h1⟩ := h; exact ⟨S, e, h1.up k hX⟩
theorem RCore.up {c : Core} (h : RCore X w v c) (k : Off X w w') (hX : ∀ b, b < w.heap.size → X' b → X b) : RCore X' w' v c := by
  obtain ⟨F, R, e, h1, h2⟩ := h; exact ⟨F, R, e, h1.up k hX, h2.up k hX⟩
theorem RSys.up {s : Sys} (h : RSys X w v s) (k : Off X w w') (hX : ∀ b, b < w.heap.size → X' b → X b) : RSys X' w' v s := by
  obtain ⟨W, G, C, L, e, h1, h2, h3, h4⟩ := h; exact ⟨W, G, C, L, e, h1.up k hX, h2.up k hX, h3.up k hX, h4.up k hX⟩
end

/-! ### A look at one of them -/
theorem SC.len {X : Nat → Prop} {w : World} {v : Value} {n : Nat} {cs : List Value} (h : SC X w v n cs) : ∃ ad c, v = .slice ad n c ∧ n ≤ c ∧ c ≤ maxLen := by
  rcases h with ⟨rfl, rfl, _⟩ | ⟨b, o, c, rfl, _, _, h1, h2, _⟩
  · exact ⟨none, 0, rfl, Nat.le_refl _, by decide⟩
  · exact ⟨_, c, rfl, h1, h2⟩

theorem frameC_len {X : Nat → Prop} {w : World} (c : List Value) (f : Frame) (h : frameC X w c f) : c.length = 11 := by obtain ⟨S, rfl, _⟩ := h; rfl
theorem coreC_len {X : Nat → Prop} {w : World} (c : List Value) (x : Core) (h : coreC X w c x) : c.length = 7 := by obtain ⟨F, R, rfl, _⟩ := h; rfl
theorem evC_len (c : List Value) (x : Ev) (h : evC c x) : c.length = 5 := by obtain rfl := h; rfl

/-- The row of one of the things of a slice. -/
theorem chunk_row {α : Type} {R : List Value → α → Prop} (k : Nat) (hk : ∀ c x, R c x → c.length = k) {X : Nat → Prop} {w : World} {v : Value} {xs : List α} {cs : List Value} {i : Nat} {x : α}
    (h : Chunks R xs cs) (hs : SC X w v xs.length cs) (hx : xs[i]? = some x) :
    ∃ b o c d, v = .slice (some ⟨b, o, none⟩) xs.length c ∧ ¬ X b ∧ b < w.heap.size ∧ xs.length ≤ c ∧ c ≤ maxLen ∧ R d x ∧ Row w b (o + i * k) d := by
  have hi : i < xs.length := (List.getElem?_eq_some_iff.1 hx).1
  rcases hs with ⟨_, h0, _⟩ | ⟨b, o, c, rfl, h1, h2, h3, h4, hr⟩
  · omega
  · obtain ⟨l, d, r, rfl, hl, hd, _, _⟩ := Chunks.at k hk h hx
    refine ⟨b, o, c, d, rfl, h1, h2, h3, h4, hd, ?_⟩
    have := (hr.right).left
    rw [hl] at this
    exact this

/-- The cells of a core of a slice of cores. -/
structure CoreAt (w : World) (b o : Nat) (c : Core) (F Ret : Value) : Prop where
  c0 : w.cell? ⟨b, o, none⟩ = some F
  c1 : w.cell? ⟨b, o + 1, none⟩ = some (.int .i64 c.V)
  c2 : w.cell? ⟨b, o + 2, none⟩ = some (.int .i64 c.E)
  c3 : w.cell? ⟨b, o + 3, none⟩ = some (.int .i64 c.x0)
  c4 : w.cell? ⟨b, o + 4, none⟩ = some (.int .i64 c.x1)
  c5 : w.cell? ⟨b, o + 5, none⟩ = some (.int .i64 c.x2)
  c6 : w.cell? ⟨b, o + 6, none⟩ = some Ret
theorem CoreAt.of {w : World} {b o : Nat} {c : Core} {F Ret : Value} (h : Row w b o (coreCells c F Ret)) : CoreAt w b o c F Ret :=
  ⟨h 0 _ rfl, h 1 _ rfl, h 2 _ rfl, h 3 _ rfl, h 4 _ rfl, h 5 _ rfl, h 6 _ rfl⟩
theorem RCs.at {X : Nat → Prop} {w : World} {v : Value} {l : List Core} {k : Nat} {c : Core} (h : RCs X w v l) (hk : l[k]? = some c) :
    ∃ b o n F Ret, v = .slice (some ⟨b, o, none⟩) l.length n ∧ ¬ X b ∧ b < w.heap.size ∧ l.length ≤ n ∧ n ≤ maxLen ∧ CoreAt w b (o + k * 7) c F Ret ∧ RFs X w F c.F ∧ RI X w Ret c.Ret := by
  obtain ⟨cs, h1, h2⟩ := h
  obtain ⟨b, o, n, d, e, a1, a2, a3, a4, ⟨F, Ret, rfl, r1, r2⟩, hr⟩ := chunk_row 7 coreC_len h1 h2 hk
  exact ⟨b, o, n, F, Ret, e, a1, a2, a3, a4, .of hr, r1, r2⟩

/-- The cells of a frame of a slice of frames. -/
structure FrameAt (w : World) (b o : Nat) (f : Frame) (S : Value) : Prop where
  c0 : w.cell? ⟨b, o, none⟩ = some (.int .i64 f.op)
  c1 : w.cell? ⟨b, o + 1, none⟩ = some (.int .i64 f.pc)
  c2 : w.cell? ⟨b, o + 2, none⟩ = some (.int .i64 f.r0)
  c3 : w.cell? ⟨b, o + 3, none⟩ = some (.int .i64 f.r1)
  c4 : w.cell? ⟨b, o + 4, none⟩ = some (.int .i64 f.r2)
  c5 : w.cell? ⟨b, o + 5, none⟩ = some (.int .i64 f.r3)
  c6 : w.cell? ⟨b, o + 6, none⟩ = some (.int .i64 f.r4)
  c7 : w.cell? ⟨b, o + 7, none⟩ = some (.int .i64 f.r5)
  c8 : w.cell? ⟨b, o + 8, none⟩ = some (.int .i64 f.r6)
  c9 : w.cell? ⟨b, o + 9, none⟩ = some (.int .i64 f.r7)
  c10 : w.cell? ⟨b, o + 10, none⟩ = some S
theorem FrameAt.of {w : World} {b o : Nat} {f : Frame} {S : Value} (h : Row w b o (frameCells f S)) : FrameAt w b o f S :=
  ⟨h 0 _ rfl, h 1 _ rfl, h 2 _ rfl, h 3 _ rfl, h 4 _ rfl, h 5 _ rfl, h 6 _ rfl, h 7 _ rfl, h 8 _ rfl, h 9 _ rfl, h 10 _ rfl⟩
theorem RFs.at {X : Nat → Prop} {w : World} {v : Value} {l : List Frame} {k : Nat} {f : Frame} (h : RFs X w v l) (hk : l[k]? = some f) :
    ∃ b o n S, v = .slice (some ⟨b, o, none⟩) l.length n ∧ ¬ X b ∧ b < w.heap.size ∧ l.length ≤ n ∧ n ≤ maxLen ∧ FrameAt w b (o + k * 11) f S ∧ RI X w S f.S := by
  obtain ⟨cs, h1, h2⟩ := h
  obtain ⟨b, o, n, d, e, a1, a2, a3, a4, ⟨S, rfl, r1⟩, hr⟩ := chunk_row 11 frameC_len h1 h2 hk
  exact ⟨b, o, n, S, e, a1, a2, a3, a4, .of hr, r1⟩

/-- The cells of an event of a slice of events. -/
structure EvAt (w : World) (b o : Nat) (e : Ev) : Prop where
  c0 : w.cell? ⟨b, o, none⟩ = some (.int .i64 e.core)
  c1 : w.cell? ⟨b, o + 1, none⟩ = some (.int .i64 e.kind)
  c2 : w.cell? ⟨b, o + 2, none⟩ = some (.int .i64 e.a)
  c3 : w.cell? ⟨b, o + 3, none⟩ = some (.int .i64 e.b)
  c4 : w.cell? ⟨b, o + 4, none⟩ = some (.int .i64 e.v)
theorem EvAt.of {w : World} {b o : Nat} {e : Ev} (h : Row w b o [.int .i64 e.core, .int .i64 e.kind, .int .i64 e.a, .int .i64 e.b, .int .i64 e.v]) : EvAt w b o e :=
  ⟨h 0 _ rfl, h 1 _ rfl, h 2 _ rfl, h 3 _ rfl, h 4 _ rfl⟩
theorem RL.at {X : Nat → Prop} {w : World} {v : Value} {l : List Ev} {k : Nat} {e : Ev} (h : RL X w v l) (hk : l[k]? = some e) :
    ∃ b o n, v = .slice (some ⟨b, o, none⟩) l.length n ∧ ¬ X b ∧ b < w.heap.size ∧ l.length ≤ n ∧ n ≤ maxLen ∧ EvAt w b (o + k * 5) e := by
  obtain ⟨cs, h1, h2⟩ := h
  obtain ⟨b, o, n, d, ev, a1, a2, a3, a4, rfl, hr⟩ := chunk_row 5 evC_len h1 h2 hk
  exact ⟨b, o, n, ev, a1, a2, a3, a4, .of hr⟩

theorem RI.at {X : Nat → Prop} {w : World} {v : Value} {xs : List Int} {k : Nat} (h : RI X w v xs) (hk : k < xs.length) :
    ∃ b o n, v = .slice (some ⟨b, o, none⟩) xs.length n ∧ ¬ X b ∧ b < w.heap.size ∧ xs.length ≤ n ∧ n ≤ maxLen ∧ ∀ i, i < xs.length → w.cell? ⟨b, o + i, none⟩ = some (.int .i64 (xs.getD i 0)) := by
  rcases h with ⟨_, h0, _⟩ | ⟨b, o, c, rfl, h1, h2, h3, h4, hr⟩
  · omega
  · refine ⟨b, o, c, rfl, h1, h2, h3, h4, fun i hi => hr i _ ?_⟩
    simp [List.getElem?_map, List.getD, hi]

theorem RI.len {X : Nat → Prop} {w : World} {v : Value} {xs : List Int} (h : RI X w v xs) : ∃ ad c, v = .slice ad xs.length c ∧ xs.length ≤ c ∧ c ≤ maxLen := SC.len h
theorem RCs.len {X : Nat → Prop} {w : World} {v : Value} {xs : List Core} (h : RCs X w v xs) : ∃ ad c, v = .slice ad xs.length c ∧ xs.length ≤ c ∧ c ≤ maxLen := h.elim fun _ h => h.2.len
theorem RFs.len {X : Nat → Prop} {w : World} {v : Value} {xs : List Frame} (h : RFs X w v xs) : ∃ ad c, v = .slice ad xs.length c ∧ xs.length ≤ c ∧ c ≤ maxLen := h.elim fun _ h => h.2.len
theorem RL.len {X : Nat → Prop} {w : World} {v : Value} {xs : List Ev} (h : RL X w v xs) : ∃ ad c, v = .slice ad xs.length c ∧ xs.length ≤ c ∧ c ≤ maxLen := h.elim fun _ h => h.2.len

theorem RI.none (X : Nat → Prop) (w : World) : RI X w (.slice none 0 0) [] := .inl ⟨rfl, rfl, rfl⟩
theorem RFs.none (X : Nat → Prop) (w : World) : RFs X w (.slice none 0 0) [] := ⟨[], rfl, .inl ⟨rfl, rfl, rfl⟩⟩
theorem RCs.none (X : Nat → Prop) (w : World) : RCs X w (.slice none 0 0) [] := ⟨[], rfl, .inl ⟨rfl, rfl, rfl⟩⟩
theorem RL.none (X : Nat → Prop) (w : World) : RL X w (.slice none 0 0) [] := ⟨[], rfl, .inl ⟨rfl, rfl, rfl⟩⟩

end Go.Proofs.YtjeiopkfdgllhaaGreat.Hz
