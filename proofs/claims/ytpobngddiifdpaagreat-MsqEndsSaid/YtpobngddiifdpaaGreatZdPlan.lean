/- Readings of this program's data in a world: rows of cells, slices, frames, cores, systems; and how they last while other blocks are made and written. -/
import Derived.WalkKit
import Derived.WalkSmall
import Derived.Lib.Hide
import Derived.OrdersHeld
import Derived.RegionTactic
import Derived.Deep.RegionHeld3
import Derived.Laws.AppendOwn
import Derived.Laws.AppendOwnNone
import Derived.Deep.MidRow
import Derived.IntWalk
import Derived.Laws.MakeOwn
set_option linter.unusedSimpArgs false
set_option linter.unusedVariables false
namespace Go.Proofs.YtpobngddiifdpaaGreat.Hz
open Go Go.RowKit

/-! ### The data -/
/-- A frame. -/
structure Frame where
  op : Int
  pc : Int
  r0 : Int
  r1 : Int
  r2 : Int
  r3 : Int
  r4 : Int
  r5 : Int
  r6 : Int
  r7 : Int
  S : List Int
/-- A core. -/
structure Core where
  F : List Frame
  V : Int
  E : Int
  x0 : Int
  x1 : Int
  x2 : Int
  Ret : List Int
/-! ### Blocks that stay -/
/-- The blocks of w that are not in X stand in w' as they stood. -/
structure Off (X : Nat → Prop) (w w' : World) : Prop where
  size : w.heap.size ≤ w'.heap.size
  block : ∀ b, b < w.heap.size → ¬ X b → w'.heap[b]? = w.heap[b]?

theorem Off.refl (X : Nat → Prop) (w : World) : Off X w w := ⟨Nat.le_refl _, fun _ _ _ => rfl⟩
theorem Off.trans {X : Nat → Prop} {a b c : World} (h : Off X a b) (k : Off X b c) : Off X a c :=
  ⟨Nat.le_trans h.size k.size, fun i hi hx => (k.block i (Nat.lt_of_lt_of_le hi h.size) hx).trans (h.block i hi hx)⟩
theorem Off.below {X : Nat → Prop} {a b c : World} (h : Off X a b) (k : Below b.heap.size b c) : Off X a c :=
  h.trans ⟨k.size, fun i hi _ => k.block i hi⟩
theorem Off.ofBelow {X : Nat → Prop} {w w' : World} (k : Below w.heap.size w w') : Off X w w' := (Off.refl X w).below k

/-! ### Rows of cells -/
/-- Cells that stand in a row. -/
def Row (w : World) (b o : Nat) (cs : List Value) : Prop := ∀ (i : Nat) (v : Value), cs[i]? = some v → w.cell? ⟨b, o + i, none⟩ = some v

theorem Row.to {w w' : World} {b o : Nat} {cs : List Value} (h : Row w b o cs) (k : w'.heap[b]? = w.heap[b]?) : Row w' b o cs := fun i v hv =>
  (World.cell?_of_block (w := w) (a := ⟨b, o + i, none⟩) k).trans (h i v hv)
theorem Row.left {w : World} {b o : Nat} {cs ds : List Value} (h : Row w b o (cs ++ ds)) : Row w b o cs := fun i v hv =>
  h i v (by rw [List.getElem?_append_left (List.getElem?_eq_some_iff.1 hv).1]; exact hv)
theorem Row.right {w : World} {b o : Nat} {cs ds : List Value} (h : Row w b o (cs ++ ds)) : Row w b (o + cs.length) ds := fun i v hv => by
  have := h (cs.length + i) v (by rw [List.getElem?_append_right (by omega)]; simpa using hv)
  rw [Nat.add_assoc]; exact this
theorem Row.nil (w : World) (b o : Nat) : Row w b o [] := fun i v hv => by simp at hv
theorem Row.append {w : World} {b o : Nat} {cs ds : List Value} (h : Row w b o cs) (k : Row w b (o + cs.length) ds) : Row w b o (cs ++ ds) := fun i v hv => by
  by_cases c : i < cs.length
  · exact h i v (by rw [List.getElem?_append_left c] at hv; exact hv)
  · rw [List.getElem?_append_right (by omega)] at hv
    have := k _ v hv
    rw [show o + cs.length + (i - cs.length) = o + i by omega] at this
    exact this

/-- A slice of n elements that are these cells. -/
def SC (X : Nat → Prop) (w : World) (v : Value) (n : Nat) (cs : List Value) : Prop :=
  (v = .slice none 0 0 ∧ n = 0 ∧ cs = []) ∨ ∃ b o c, v = .slice (some ⟨b, o, none⟩) n c ∧ ¬ X b ∧ b < w.heap.size ∧ n ≤ c ∧ c ≤ maxLen ∧ Row w b o cs

theorem SC.up {X X' : Nat → Prop} {w w' : World} {v : Value} {n : Nat} {cs : List Value} (h : SC X w v n cs) (k : Off X w w') (hX : ∀ b, b < w.heap.size → X' b → X b) : SC X' w' v n cs := by
  rcases h with h | ⟨b, o, c, rfl, hx, hb, h1, h2, hr⟩
  · exact .inl h
  · exact .inr ⟨b, o, c, rfl, fun e => hx (hX b hb e), Nat.lt_of_lt_of_le hb k.size, h1, h2, hr.to (k.block b hb hx)⟩

theorem SC.one {X : Nat → Prop} {w : World} {v : Value} {n : Nat} {cs : List Value} (h : SC X w v n cs) : v.oneCell' = true := by
  rcases h with ⟨rfl, _⟩ | ⟨b, o, c, rfl, _⟩ <;> rfl

/-! ### Lists of things that take so many cells each -/
/-- The cells of a list of things, one behind the other. -/
def Chunks {α : Type} (R : List Value → α → Prop) : List α → List Value → Prop
  | [], cs => cs = []
  | x :: xs, cs => ∃ c r, cs = c ++ r ∧ R c x ∧ Chunks R xs r

theorem Chunks.mono {α : Type} {R R' : List Value → α → Prop} (hR : ∀ c x, R c x → R' c x) : ∀ {xs : List α} {cs : List Value}, Chunks R xs cs → Chunks R' xs cs
  | [], _, h => h
  | _ :: _, _, ⟨c, r, e, h1, h2⟩ => ⟨c, r, e, hR _ _ h1, Chunks.mono hR h2⟩

theorem Chunks.append {α : Type} {R : List Value → α → Prop} : ∀ {xs ys : List α} {cs ds : List Value}, Chunks R xs cs → Chunks R ys ds → Chunks R (xs ++ ys) (cs ++ ds)
  | [], _, _, _, h, k => by obtain rfl := h; exact k
  | _ :: _, _, _, _, ⟨c, r, e, h1, h2⟩, k => ⟨c, r ++ _, by rw [e, List.append_assoc], h1, Chunks.append h2 k⟩

theorem Chunks.length {α : Type} {R : List Value → α → Prop} (k : Nat) (hk : ∀ c x, R c x → c.length = k) : ∀ {xs : List α} {cs : List Value}, Chunks R xs cs → cs.length = xs.length * k
  | [], _, h => by obtain rfl := h; simp
  | _ :: _, _, ⟨c, r, e, h1, h2⟩ => by
    rw [e, List.length_append, hk _ _ h1, Chunks.length k hk h2, List.length_cons, Nat.add_mul]; omega

/-- One of them, and the others around it. -/
theorem Chunks.at {α : Type} {R : List Value → α → Prop} (k : Nat) (hk : ∀ c x, R c x → c.length = k) : ∀ {xs : List α} {cs : List Value} {i : Nat} {x : α}, Chunks R xs cs → xs[i]? = some x →
    ∃ l c r, cs = l ++ (c ++ r) ∧ l.length = i * k ∧ R c x ∧ Chunks R (xs.take i) l ∧ Chunks R (xs.drop (i + 1)) r
  | [], _, _, _, _, hx => by simp at hx
  | y :: ys, _, 0, x, ⟨c, r, e, h1, h2⟩, hx => by
    obtain rfl : y = x := by simpa using hx
    exact ⟨[], c, r, e, by simp, h1, rfl, by simpa using h2⟩
  | y :: ys, _, i + 1, x, ⟨c, r, e, h1, h2⟩, hx => by
    obtain ⟨l, c', r', e', hl, h3, h4, h5⟩ := Chunks.at k hk h2 (by simpa using hx)
    refine ⟨c ++ l, c', r', by rw [e, e', List.append_assoc], ?_, h3, ⟨c, l, rfl, h1, h4⟩, by simpa using h5⟩
    rw [List.length_append, hk _ _ h1, hl, Nat.add_mul]; omega

theorem Chunks.one {α : Type} {R : List Value → α → Prop} {c : List Value} {x : α} (h : R c x) : Chunks R [x] c := ⟨c, [], by simp, h, rfl⟩

theorem Chunks.all {α : Type} {R : List Value → α → Prop} (p : Value → Prop) (hp : ∀ c x, R c x → ∀ u ∈ c, p u) : ∀ {xs : List α} {cs : List Value}, Chunks R xs cs → ∀ u ∈ cs, p u
  | [], _, h, u, hu => by obtain rfl := h; cases hu
  | _ :: _, _, ⟨c, r, e, h1, h2⟩, u, hu => by
    rw [e, List.mem_append] at hu
    rcases hu with hu | hu
    · exact hp _ _ h1 u hu
    · exact Chunks.all p hp h2 u hu

theorem Chunks.set {α : Type} {R : List Value → α → Prop} {xs : List α} {l c r : List Value} {i : Nat} {x' : α} (h4 : Chunks R (xs.take i) l) (h3 : R c x') (h5 : Chunks R (xs.drop (i + 1)) r) (hi : i < xs.length) :
    Chunks R (xs.set i x') (l ++ (c ++ r)) := by
  rw [List.set_eq_take_append_cons_drop, if_pos hi]
  exact h4.append ⟨c, r, rfl, h3, h5⟩

/-! ### Each kind of thing -/
/-- A slice of whole numbers. -/
def RI (X : Nat → Prop) (w : World) (v : Value) (xs : List Int) : Prop := SC X w v xs.length (xs.map (Value.int .i64))
/-- A slice of bools. -/
def RB (X : Nat → Prop) (w : World) (v : Value) (xs : List Bool) : Prop := SC X w v xs.length (xs.map Value.bool)

def frameCells (f : Frame) (S : Value) : List Value := [.int .i64 f.op, .int .i64 f.pc, .int .i64 f.r0, .int .i64 f.r1, .int .i64 f.r2, .int .i64 f.r3, .int .i64 f.r4, .int .i64 f.r5, .int .i64 f.r6, .int .i64 f.r7, S]
def frameC (X : Nat → Prop) (w : World) (c : List Value) (f : Frame) : Prop := ∃ S, c = frameCells f S ∧ RI X w S f.S
/-- A slice of frames. -/
def RFs (X : Nat → Prop) (w : World) (v : Value) (fs : List Frame) : Prop := ∃ cs, Chunks (frameC X w) fs cs ∧ SC X w v fs.length cs
def coreCells (c : Core) (F Ret : Value) : List Value := [F, .int .i64 c.V, .int .i64 c.E, .int .i64 c.x0, .int .i64 c.x1, .int .i64 c.x2, Ret]
def coreC (X : Nat → Prop) (w : World) (cs : List Value) (c : Core) : Prop := ∃ F Ret, cs = coreCells c F Ret ∧ RFs X w F c.F ∧ RI X w Ret c.Ret
/-- A slice of cores. -/
def RCs (X : Nat → Prop) (w : World) (v : Value) (l : List Core) : Prop := ∃ cs, Chunks (coreC X w) l cs ∧ SC X w v l.length cs
section
variable {X X' : Nat → Prop} {w w' : World} {v : Value}
theorem RI.up {xs : List Int} (h : RI X w v xs) (k : Off X w w') (hX : ∀ b, b < w.heap.size → X' b → X b) : RI X' w' v xs := SC.up h k hX
theorem RB.up {xs : List Bool} (h : RB X w v xs) (k : Off X w w') (hX : ∀ b, b < w.heap.size → X' b → X b) : RB X' w' v xs := SC.up h k hX
theorem frameC_up {c : List Value} {f : Frame} (h : frameC X w c f) (k : Off X w w') (hX : ∀ b, b < w.heap.size → X' b → X b) : frameC X' w' c f := by
  obtain ⟨S, e, h1⟩ := h; exact ⟨S, e, h1.up k hX⟩
theorem RFs.up {fs : List Frame} (h : RFs X w v fs) (k : Off X w w') (hX : ∀ b, b < w.heap.size → X' b → X b) : RFs X' w' v fs := by
  obtain ⟨cs, h1, h2⟩ := h; exact ⟨cs, h1.mono fun _ _ h => frameC_up h k hX, h2.up k hX⟩
theorem coreC_up {c : List Value} {x : Core} (h : coreC X w c x) (k : Off X w w') (hX : ∀ b, b < w.heap.size → X' b → X b) : coreC X' w' c x := by
  obtain ⟨F, R, e, h1, h2⟩ := h; exact ⟨F, R, e, h1.up k hX, h2.up k hX⟩
theorem RCs.up {l : List Core} (h : RCs X w v l) (k : Off X w w') (hX : ∀ b, b < w.heap.size → X' b → X b) : RCs X' w' v l := by
  obtain ⟨cs, h1, h2⟩ := h; exact ⟨cs, h1.mono fun _ _ h => coreC_up h k hX, h2.up k hX⟩
end

/-! ### A look at one of them -/
theorem SC.len {X : Nat → Prop} {w : World} {v : Value} {n : Nat} {cs : List Value} (h : SC X w v n cs) : ∃ ad c, v = .slice ad n c ∧ n ≤ c ∧ c ≤ maxLen := by
  rcases h with ⟨rfl, rfl, _⟩ | ⟨b, o, c, rfl, _, _, h1, h2, _⟩
  · exact ⟨none, 0, rfl, Nat.le_refl _, by decide⟩
  · exact ⟨_, c, rfl, h1, h2⟩

theorem coreC_len {X : Nat → Prop} {w : World} (c : List Value) (x : Core) (h : coreC X w c x) : c.length = 7 := by obtain ⟨F, R, rfl, _⟩ := h; rfl
/-- The row of one of the things of a slice. -/
theorem chunk_row {α : Type} {R : List Value → α → Prop} (k : Nat) (hk : ∀ c x, R c x → c.length = k) {X : Nat → Prop} {w : World} {v : Value} {xs : List α} {cs : List Value} {i : Nat} {x : α}
    (h : Chunks R xs cs) (hs : SC X w v xs.length cs) (hx : xs[i]? = some x) :
    ∃ b o c d, v = .slice (some ⟨b, o, none⟩) xs.length c ∧ ¬ X b ∧ b < w.heap.size ∧ xs.length ≤ c ∧ c ≤ maxLen ∧ R d x ∧ Row w b (o + i * k) d := by
  have hi : i < xs.length := (List.getElem?_eq_some_iff.1 hx).1
  rcases hs with ⟨_, h0, _⟩ | ⟨b, o, c, rfl, h1, h2, h3, h4, hr⟩
  · omega
  · obtain ⟨l, d, r, rfl, hl, hd, _, _⟩ := Chunks.at k hk h hx
    refine ⟨b, o, c, d, rfl, h1, h2, h3, h4, hd, ?_⟩
    have := (hr.right).left
    rw [hl] at this
    exact this

/-- The cells of a core of a slice of cores. -/
structure CoreAt (w : World) (b o : Nat) (c : Core) (F Ret : Value) : Prop where
  c0 : w.cell? ⟨b, o, none⟩ = some F
  c1 : w.cell? ⟨b, o + 1, none⟩ = some (.int .i64 c.V)
  c2 : w.cell? ⟨b, o + 2, none⟩ = some (.int .i64 c.E)
  c3 : w.cell? ⟨b, o + 3, none⟩ = some (.int .i64 c.x0)
  c4 : w.cell? ⟨b, o + 4, none⟩ = some (.int .i64 c.x1)
  c5 : w.cell? ⟨b, o + 5, none⟩ = some (.int .i64 c.x2)
  c6 : w.cell? ⟨b, o + 6, none⟩ = some Ret
theorem CoreAt.of {w : World} {b o : Nat} {c : Core} {F Ret : Value} (h : Row w b o (coreCells c F Ret)) : CoreAt w b o c F Ret :=
  ⟨h 0 _ rfl, h 1 _ rfl, h 2 _ rfl, h 3 _ rfl, h 4 _ rfl, h 5 _ rfl, h 6 _ rfl⟩
theorem RCs.at {X : Nat → Prop} {w : World} {v : Value} {l : List Core} {k : Nat} {c : Core} (h : RCs X w v l) (hk : l[k]? = some c) :
    ∃ b o n F Ret, v = .slice (some ⟨b, o, none⟩) l.length n ∧ ¬ X b ∧ b < w.heap.size ∧ l.length ≤ n ∧ n ≤ maxLen ∧ CoreAt w b (o + k * 7) c F Ret ∧ RFs X w F c.F ∧ RI X w Ret c.Ret := by
  obtain ⟨cs, h1, h2⟩ := h
  obtain ⟨b, o, n, d, e, a1, a2, a3, a4, ⟨F, Ret, rfl, r1, r2⟩, hr⟩ := chunk_row 7 coreC_len h1 h2 hk
  exact ⟨b, o, n, F, Ret, e, a1, a2, a3, a4, .of hr, r1, r2⟩

theorem RCs.len {X : Nat → Prop} {w : World} {v : Value} {xs : List Core} (h : RCs X w v xs) : ∃ ad c, v = .slice ad xs.length c ∧ xs.length ≤ c ∧ c ≤ maxLen := h.elim fun _ h => h.2.len
end Go.Proofs.YtpobngddiifdpaaGreat.Hz
/- A region that draws its order, walked along one order: what only reads or reckons is taken as soon as it may come up; the other operations come up one by one. S is what all worlds meet, as long as something is left that reads. -/
namespace Go.Proofs.YtpobngddiifdpaaGreat.Hz
open Go

section
variable {P : Program} {ops : Array Oper} {Q : Exit → Act → World → Prop} {md : Region.Mode} {S : World → Prop} {H : Nat → Bool}

/-- Whatever order is picked from here on; behind each operation of H, S holds. -/
def wpAnyG (P : Program) (md : Region.Mode) (ops : Array Oper) (Q : Exit → Act → World → Prop) (S : World → Prop) (H : Nat → Bool) : Nat → Array Bool → Act → World → Prop
  | 0, listed, a, w => Region.ready md ops listed = [] ∧ Q .normal a w
  | fuel + 1, listed, a, w =>
    (Region.ready md ops listed = [] → Q .normal a w) ∧
    ∀ i ∈ Region.ready md ops listed, wpOp P ops Q i (fun a' w' => (H i = true → S w → S w') ∧ wpAnyG P md ops Q S H fuel (listed.setIfInBounds i true) a' w') a w

theorem wpAny_of_G : ∀ (fuel : Nat) (listed : Array Bool) (a : Act) (w : World), wpAnyG P md ops Q S H fuel listed a w → wpAny P md ops Q fuel listed a w
  | 0, _, _, _, h => h
  | fuel + 1, _, _, _, h => ⟨h.1, fun i hi => wpOp_mono (fun a' w' h' => wpAny_of_G fuel _ a' w' h'.2) (h.2 i hi)⟩

theorem not_ready {i j : Nat} {listed : Array Bool} (hi : listed.getD i true = false) (hj : j ∈ Region.ready md ops listed) {oj : Oper} (hoj : ops[j]? = some oj) : ∀ e ∈ oj.after, Region.binds md e = true → e.on ≠ i := fun e he hb heq => by
  obtain ⟨_, o, ho, hall⟩ := mem_ready.1 hj
  obtain rfl : o = oj := Option.some.inj (ho.symm.trans hoj)
  have h1 := hall e he hb
  rw [heq] at h1
  rcases Nat.lt_or_ge i listed.size with h' | h'
  · simp [h'] at hi h1; rw [hi] at h1; cases h1
  · simp [Array.getElem?_eq_none h'] at h1

/-- An operation that reads (S1 is S) or reckons (S1 says nothing) may be taken first, if each other one waits for it, or keeps S1. -/
theorem wpAnyG_first {S1 : World → Prop} {i : Nat} {oi : Oper} {v : Value} (hi : ops[i]? = some oi) (hsel : ∀ (j : Nat) (o : Oper) cs b, ops[j]? = some o → o.op ≠ .select cs b)
    (hQ : ∀ c a w, Q (.panic c) (a.put oi.dst v) w → Q (.panic c) a w)
    (hH : ∀ j oj, ops[j]? = some oj → j ≠ i → (∃ e ∈ oj.after, Region.binds md e = true ∧ e.on = i) ∨ (∀ w w', (H j = true → S w → S w') → S1 w → S1 w')) :
    ∀ (fuel : Nat) (listed : Array Bool) (a : Act) (w : World),
      (∀ j oj, ops[j]? = some oj → j ≠ i → listed.getD j true = false → (∀ e ∈ oj.after, Region.binds md e = true → e.on ≠ i) → oi.apart ops oj = true) →
      i ∈ Region.ready md ops listed → YieldsIf P ops S1 oi v a → S1 w →
      wpAnyG P md ops Q S H fuel (listed.setIfInBounds i true) (a.put oi.dst v) w → wpAnyG P md ops Q S H (fuel + 1) listed a w := by
  intro fuel
  induction fuel with
  | zero =>
    intro listed a w _ hr hy hS h
    refine ⟨fun h0 => (by rw [h0] at hr; cases hr), fun j hj => ?_⟩
    by_cases hji : j = i
    · subst hji; exact hy.wpOp hi hS ⟨fun _ h => h, h⟩
    · have := ready_mono hj hji
      rw [h.1] at this
      cases this
  | succ fuel ih =>
    intro listed a w hfree hr hy hS h
    refine ⟨fun h0 => (by rw [h0] at hr; cases hr), fun j hj => ?_⟩
    by_cases hji : j = i
    · subst hji; exact hy.wpOp hi hS ⟨fun _ h => h, h⟩
    · have h1 := h.2 j (ready_mono hj hji)
      obtain ⟨hjun, oj, hoj, _⟩ := mem_ready.1 hj
      have hnot := not_ready (mem_ready.1 hr).1 hj hoj
      have hHj : ∀ w', (H j = true → S w → S w') → S1 w' := by
        rcases hH j oj hoj hji with ⟨e, he, hb2, hon⟩ | hk
        · exact absurd hon (hnot e he hb2)
        · exact fun w' hw' => hk w w' hw' hS
      have h2 := wpOp_putIf hoj (hfree j oj hoj hji hjun hnot) (fun cs b => hsel i oi cs b hi) (fun cs b => hsel j oj cs b hoj) hQ hy h1
      have hfree' : ∀ k ok, ops[k]? = some ok → k ≠ i → (listed.setIfInBounds j true).getD k true = false →
          (∀ e ∈ ok.after, Region.binds md e = true → e.on ≠ i) → oi.apart ops ok = true := fun k ok hk hki hun hno => by
        refine hfree k ok hk hki ?_ hno
        by_cases hjk : j = k
        · subst hjk; exact hjun
        · rw [getD_set_ne true hjk] at hun; exact hun
      refine wpOp_mono (fun a' w' h3 => ⟨h3.2.1, ih (listed.setIfInBounds j true) a' w' hfree' (ready_mono hr (Ne.symm hji)) h3.1 (hHj w' h3.2.1) ?_⟩) h2
      rw [Array.setIfInBounds_comm _ _ hji]
      exact h3.2.2

end
end Go.Proofs.YtpobngddiifdpaaGreat.Hz
/- Laws of the walk for this program's data: an append of whatever slice; a row that the call owns, and one of its elements written. -/
namespace Go.Proofs.YtpobngddiifdpaaGreat.Hz
open Go Go.RowKit

section
variable {P : Program}

theorem own_ptr {w : World} {base : Nat} {e : TypeId} {size : Nat} {v : Value} {n : Nat} {xs : List Value} (h : w.ownsRow base e size v n xs) (hn : 0 < n) :
    ∃ g cap cur, v = .slice (some ⟨g, 0, none⟩) n cap ∧ base ≤ g ∧ g < w.heap.size ∧ w.heap[g]? = some (.cells cur e (0, 0)) ∧ n ≤ cap ∧ cap ≤ maxLen ∧ cur.size = cap * size ∧ cur.toList.take (n * size) = xs := by
  rcases h.2 with ⟨_, h0⟩ | ⟨g, cap, cur, hv, hb, hg, h1, h2, h3, h4⟩
  · omega
  · exact ⟨g, cap, cur, hv, hb, (Array.getElem?_eq_some_iff.1 hg).1, hg, h1, h2, h3, h4⟩

theorem heap_setCells (g : Nat) : ∀ (vs : List Value) (o : Nat) (w : World) (k : Nat), k ≠ g → (w.setCells g o vs).heap[k]? = w.heap[k]?
  | [], _, _, _, _ => rfl
  | v :: r, o, w, k, h => by
    rw [World.setCells, heap_setCells g r (o + 1) _ k h, Below.heap_setCell _ _ _ _ h]
theorem size_setCells (g : Nat) : ∀ (vs : List Value) (o : Nat) (w : World), (w.setCells g o vs).heap.size = w.heap.size
  | [], _, _ => rfl
  | v :: r, o, w => by
    rw [World.setCells, size_setCells g r (o + 1) _]; simp [World.setCell]
theorem streams_setCells (g : Nat) : ∀ (vs : List Value) (o : Nat) (w : World), (w.setCells g o vs).os = w.os ∧ (w.setCells g o vs).tape = w.tape ∧ (w.setCells g o vs).output = w.output
  | [], _, _ => ⟨rfl, rfl, rfl⟩
  | v :: r, o, w => streams_setCells g r (o + 1) _

/-- The block behind a store into its middle. -/
theorem heap_setCells_same (g : Nat) (e : TypeId) : ∀ (vs : List Value) (o : Nat) (w : World) (cur : Array Value), w.heap[g]? = some (.cells cur e (0, 0)) → o + vs.length ≤ cur.size →
    ∃ cur', (w.setCells g o vs).heap[g]? = some (.cells cur' e (0, 0)) ∧ cur'.toList = cur.toList.take o ++ (vs ++ cur.toList.drop (o + vs.length))
  | [], o, w, cur, h, _ => ⟨cur, h, by simp⟩
  | v :: r, o, w, cur, h, hl => by
    have h1 := heap_setCell_same w g o cur e v h
    rw [List.length_cons] at hl
    obtain ⟨cur', h2, h3⟩ := heap_setCells_same g e r (o + 1) _ _ h1 (by simp; omega)
    refine ⟨cur', h2, ?_⟩
    rw [h3, Array.toList_setIfInBounds]
    have ho : o < cur.toList.length := by simp; omega
    rw [List.take_succ_eq_append_getElem (by simpa using ho), List.getElem_set_self, List.take_set_of_le (Nat.le_refl _), List.drop_set_of_lt (by omega), List.length_cons]
    simp [List.append_assoc, Nat.add_assoc, Nat.add_comm 1]

end
end Go.Proofs.YtpobngddiifdpaaGreat.Hz
/- More laws of the walk: a store into a block that is known whole, and a world that is put under a name. -/
namespace Go.Proofs.YtpobngddiifdpaaGreat.Hz
open Go Go.RowKit

section
variable {P : Program}

/-- Nothing is changed but in block g. -/
structure Only (g : Nat) (w w' : World) : Prop where
  os : w'.os = w.os
  tape : w'.tape = w.tape
  output : w'.output = w.output
  size : w'.heap.size = w.heap.size
  block : ∀ k, k ≠ g → w'.heap[k]? = w.heap[k]?

theorem Only.setCells (w : World) (g o : Nat) (vs : List Value) : Only g w (w.setCells g o vs) :=
  ⟨(streams_setCells g vs o w).1, (streams_setCells g vs o w).2.1, (streams_setCells g vs o w).2.2, size_setCells g vs o w, fun k hk => heap_setCells g vs o w k hk⟩
/-- What a block holds behind a store into its middle. -/
def spliced (cs : Array Value) (o : Nat) (vs : List Value) : Array Value := (cs.toList.take o ++ (vs ++ cs.toList.drop (o + vs.length))).toArray
theorem box_store {w : World} {g : Nat} {cs : Array Value} {t : TypeId} (h : w.heap[g]? = some (.cells cs t (0, 0))) (o : Nat) (vs : List Value) (hl : o + vs.length ≤ cs.size) :
    (w.setCells g o vs).heap[g]? = some (.cells (spliced cs o vs) t (0, 0)) := by
  obtain ⟨cur', h1, h2⟩ := heap_setCells_same g t vs o w cs h hl
  rw [h1]
  congr 2
  apply Array.ext'
  rw [h2]; rfl
theorem box_there {w : World} {g : Nat} {cs : Array Value} {t : TypeId} (h : w.heap[g]? = some (.cells cs t (0, 0))) (o n : Nat) (hl : o + n ≤ cs.size) : w.there g o n := fun j hj => by
  refine ⟨?_, frozen_of_row w g _ cs t h⟩
  rw [cell_of_row w g _ cs t (0, 0) h]
  have : o + j < cs.size := by omega
  simp [this]

end
end Go.Proofs.YtpobngddiifdpaaGreat.Hz
/- Laws of single operations, each closed by 'rfl': what an operation yields (ev_..), and what a step does (go_..). -/
namespace Go.Proofs.YtpobngddiifdpaaGreat.Hz
open Go Go.RowKit

section
variable {P : Program} {o : Oper} {a : Act} {w : World}

/-- Where a field lies. -/
def fieldOff (P : Program) (s : TypeId) (f : Nat) : Option Nat :=
  match P.underlying s with
  | some (.struct fs) => match fs[f]? with
    | some fl => match P.info? fl.type with
      | some i => if i.size = 0 then none else some fl.offset
      | none => none
    | none => none
  | _ => none
/-- How many cells a struct or an array has. -/
def aggSize (P : Program) (t : TypeId) : Option Nat :=
  match P.underlying t with
  | some (.struct _) | some (.array _ _) => (P.info? t).map (·.size)
  | _ => none
def plainType (P : Program) (t : TypeId) : Bool :=
  match P.underlying t with
  | some (.struct _) | some (.array _ _) | none => false
  | _ => true
/-- How many cells an element has. -/
def elemSize (P : Program) (t : TypeId) : Option Nat :=
  match P.underlying t with
  | some (.slice e) => (P.info? e).map (·.size)
  | _ => none
theorem ev_move (x : Operand) (v : Value) (ho : o.op = .move x) (hv : a.eval x = v) : (execOp a.eval o).run P w = .ok (.value v) w := by
  unfold execOp; simp only [ho, hv, Sem.run_pure]
theorem ev_assign (x : Operand) (v : Value) (ho : o.op = .assign x) (hv : a.eval x = v) : (execOp a.eval o).run P w = .ok (.value v) w := by
  unfold execOp; simp only [ho, hv, Sem.run_pure]
theorem ev_pick (c x y : Operand) (b : Bool) (v : Value) (ho : o.op = .pick c x y) (hc : a.eval c = .bool b) (hv : (if b then a.eval x else a.eval y) = v) : (execOp a.eval o).run P w = .ok (.value v) w := by
  unfold execOp; simp only [ho, hc, asBool, Sem.run_bind, Sem.run_pure, Result.andThen_ok, hv]
theorem ev_field (s : TypeId) (x : Operand) (f b oo d : Nat) (ho : o.op = .fieldAddr s x f) (hx : a.eval x = .pointer (some ⟨b, oo, none⟩)) (hd : fieldOff P s f = some d) :
    (execOp a.eval o).run P w = .ok (.value (.pointer (some ⟨b, oo + d, none⟩))) w := by
  unfold fieldOff at hd
  split at hd
  · rename_i fs hu
    split at hd
    · rename_i fl hf
      split at hd
      · rename_i i hi
        split at hd
        · cases hd
        · rename_i hz
          obtain rfl := Option.some.inj hd
          unfold execOp
          simp [ho, hx, Instr.fieldAt, Sem.run_bind, run_underlying hu, hf, Instr.sureAddr, fieldPlace, sizeOf, typeInfo, hi, hz, Addr.add_mid]
      · cases hd
    · cases hd
  · cases hd

theorem ev_load (t : TypeId) (x : Operand) (b oo d : Nat) (cs ds : List Value) (ho : o.op = .load t x) (hx : a.eval x = .pointer (some ⟨b, oo + d, none⟩)) (hr : Row w b oo cs) (hs : aggSize P t = some ds.length)
    (hd : (cs.drop d).take ds.length = ds) : (execOp a.eval o).run P w = .ok (.value (.agg ds.toArray)) w := by
  have hr2 : w.rangeAt b (oo + d) ds := fun j v hv => by
    rw [Nat.add_assoc]
    refine hr (d + j) v ?_
    rw [← hd] at hv
    have hj : j < ds.length := by
      have := (List.getElem?_eq_some_iff.1 hv).1
      rw [List.length_take] at this; omega
    rw [List.getElem?_take_of_lt hj, List.getElem?_drop] at hv
    exact hv
  unfold aggSize at hs
  have key : ∀ dd, P.underlying t = some dd → dd.isRow = true → (P.info? t).map (·.size) = some ds.length → (execOp a.eval o).run P w = .ok (.value (.agg ds.toArray)) w := fun dd h1 h2 h3 => by
    unfold execOp
    simp only [ho, hx, Instr.loadAt, Instr.sureAddr, Sem.run_bind, Sem.run_pure, Result.andThen_ok, run_loadVar_mid w b (oo + d) t ds dd hr2 h1 h2 h3]
  split at hs
  · rename_i h; exact key _ h rfl hs
  · rename_i h; exact key _ h rfl hs
  · cases hs

theorem ev_load1 (t : TypeId) (x : Operand) (b oo d : Nat) (cs : List Value) (v : Value) (ho : o.op = .load t x) (hx : a.eval x = .pointer (some ⟨b, oo + d, none⟩)) (hr : Row w b oo cs) (hs : plainType P t = true)
    (hd : cs[d]? = some v) : (execOp a.eval o).run P w = .ok (.value v) w := by
  have hc := hr d v hd
  have hagg : (isAgg t).run P w = .ok false w := by
    unfold plainType at hs
    unfold isAgg
    split at hs
    · cases hs
    · cases hs
    · cases hs
    · rename_i h1 h2 h3
      cases hu : P.underlying t with
      | none => exact absurd hu h3
      | some dd =>
        rw [Sem.run_bind, run_underlying hu w]
        cases dd with
        | struct => exact absurd hu (h1 _)
        | array => exact absurd hu (h2 _ _)
        | _ => rfl
  unfold execOp
  simp only [ho, hx, Instr.loadAt, Instr.sureAddr, loadVar, Sem.run_bind, Sem.run_pure, Result.andThen_ok, hagg]
  simp [hc, go_sem]

theorem ev_index (t : TypeId) (x i : Operand) (b oo n c j sz : Nat) (ho : o.op = .indexAddr t x i) (hx : a.eval x = .slice (some ⟨b, oo, none⟩) n c) (hi : a.eval i = .int .i64 (j : Int)) (hj : j < n) (ht : elemSize P t = some sz) :
    (execOp a.eval o).run P w = .ok (.value (.pointer (some ⟨b, oo + j * sz, none⟩))) w := by
  unfold elemSize at ht
  split at ht
  · rename_i e hu
    cases hq : P.info? e with
    | none => simp [hq] at ht
    | some q =>
      have hs : q.size = sz := by simpa [hq] using ht
      unfold execOp
      simp [ho, hx, hi, Instr.indexAt, asIntOf, Sem.run_bind, run_underlying hu, hj, sizeOf, typeInfo, hq, hs, Addr.add_mid]
  · cases ht

theorem ev_len (x : Operand) (t : TypeId) (ad : Option Addr) (n c : Nat) (ho : o.op = .call { callee := .builtin .len, args := #[x], argTypes := #[t] }) (hx : a.eval x = .slice ad n c) (ht : (elemSize P t).isSome = true) :
    (execOp a.eval o).run P w = .ok (.value (.int .i64 (n : Int))) w := by
  unfold elemSize at ht
  split at ht
  · rename_i e hu
    unfold execOp
    have hm : (#[x] : Array Operand).map a.eval = #[.slice ad n c] := by rw [← hx]; simp
    simp only [ho, resolve, Sem.run_bind, Sem.run_pure, Result.andThen_ok, invoke, builtin, hm]
    simp [Builtin.len_, run_underlying hu, Sem.run_bind, goInt]
  · cases ht

theorem ev_extract (x : Operand) (i : Nat) (vs : Array Value) (v : Value) (ho : o.op = .extract x i) (hx : a.eval x = .tuple vs) (hv : vs[i]? = some v) : (execOp a.eval o).run P w = .ok (.value v) w := by
  unfold execOp; simp only [ho, hx]; simp [go_sem, Instr.extract, hv]
theorem ev_not (x : Operand) (t : TypeId) (m v : Bool) (ho : o.op = .unOp .not t x) (hx : a.eval x = .bool m) (hv : (!m) = v) : (execOp a.eval o).run P w = .ok (.value (.bool v)) w := by
  unfold execOp; subst hv; simp only [ho, hx]; simp [go_sem]
theorem ev_build (t : TypeId) (ps : Array (Nat × Operand)) (vs : Array (Nat × Value)) (cs : Array Value) (ho : o.op = .build t ps) (hv : ps.map (fun p => (p.1, a.eval p.2)) = vs)
    (hb : ∀ w, (Instr.build t vs).run P w = .ok (.agg cs) w) : (execOp a.eval o).run P w = .ok (.value (.agg cs)) w := by
  unfold execOp
  simp only [ho, Sem.run_bind]
  rw [show (ps.map fun x => match x with | (i, x) => (i, a.eval x)) = vs from hv, hb]
  simp

/-! ### Steps -/
/-- What is asked of a new world when blocks were made. -/
theorem below_box {w : World} (ob : Obj) : Below w.heap.size w (w.alloc ob) := ⟨rfl, rfl, rfl, by simp, fun i hi => Below.heap_alloc w ob i hi⟩

theorem wp_yield (K : Act → World → Prop) (Q : Exit → Act → World → Prop) (v : Value) (hr : (execOp a.eval o).run P w = .ok (.value v) w) (h : K (a.put o.dst v) w) : o.wp P a w K Q := by
  unfold Oper.wp; rw [hr]; exact h
theorem wp_box (K : Act → World → Prop) (Q : Exit → Act → World → Prop) (t : TypeId) (x : Operand) (cs : Array Value) (ho : o.op = .box t x) (hx : (a.eval x).cells = cs)
    (h : ∀ g w', w.heap.size ≤ g → g < w'.heap.size → w'.heap[g]? = some (.cells cs t (0, 0)) → Below w.heap.size w w' → K (a.put o.dst (.pointer (some ⟨g, 0, none⟩))) w') : o.wp P a w K Q := by
  have := h w.heap.size (w.alloc (.cells cs t)) (Nat.le_refl _) (by simp) (heap_alloc_new _ _) (below_box _)
  unfold Oper.wp execOp
  simp only [ho, Instr.box, newVar, hx]
  simp [go_sem, newRow]
  exact this

theorem wp_alloc (K : Act → World → Prop) (Q : Exit → Act → World → Prop) (t : TypeId) (z : Value) (cs : Array Value) (ho : o.op = .alloc t) (hz : (P.info? t).bind (·.zero) = some z) (hc : z.cells = cs)
    (h : ∀ g w', w.heap.size ≤ g → g < w'.heap.size → w'.heap[g]? = some (.cells cs t (0, 0)) → Below w.heap.size w w' → K (a.put o.dst (.pointer (some ⟨g, 0, none⟩))) w') : o.wp P a w K Q := by
  have := h w.heap.size (w.alloc (.cells cs t)) (Nat.le_refl _) (by simp) (heap_alloc_new _ _) (below_box _)
  cases hq : P.info? t with
  | none => simp [hq] at hz
  | some i =>
    have hz' : i.zero = some z := by simpa [hq] using hz
    unfold Oper.wp execOp
    simp only [ho, Instr.alloc, zeroValue, typeInfo, newVar]
    subst hc
    simp [go_sem, newRow, hq, hz']
    exact this

/-- A function of Go's own, with a body. -/
def goFunc (P : Program) (f : Nat) : Bool :=
  match P.funcs[f]? with
  | some fn => !(fn.name == "runtime.NumGoroutine") && !fn.body.isNone
  | none => false
/-! ### How a world goes on -/
/-- Nothing is changed but blocks in G, and new ones. -/
structure Mod (G : Nat → Prop) (w w' : World) : Prop where
  os : w'.os = w.os
  tape : w'.tape = w.tape
  output : w'.output = w.output
  size : w.heap.size ≤ w'.heap.size
  block : ∀ k, k < w.heap.size → ¬ G k → w'.heap[k]? = w.heap[k]?

theorem Mod.ofBelow {w w' : World} (h : Below w.heap.size w w') : Mod (fun _ => False) w w' := ⟨h.os, h.tape, h.output, h.size, fun k hk _ => h.block k hk⟩
/-- The row of a block that is known whole. -/
theorem row_box {w : World} {g : Nat} {cs : Array Value} {t : TypeId} (h : w.heap[g]? = some (.cells cs t (0, 0))) : Row w g 0 cs.toList := fun i v hv => by
  rw [Nat.zero_add, cell_of_row w g i cs t (0, 0) h]; simpa using hv

/-! ### Slices of one's own -/
theorem wp_build0 (K : Act → World → Prop) (Q : Exit → Act → World → Prop) (t e : TypeId) (ho : o.op = .buildSlice t 0 #[]) (he : P.underlying t = some (.slice e)) (hi : (P.info? e).isSome = true)
    (h : ∀ g w', w.heap.size ≤ g → g < w'.heap.size → w'.heap[g]? = some (.cells #[] e (0, 0)) → Mod (fun _ => False) w w' → K (a.put o.dst (.slice (some ⟨g, 0, none⟩) 0 0)) w') : o.wp P a w K Q := by
  have := h w.heap.size (w.alloc (.cells #[] e)) (Nat.le_refl _) (by simp) (heap_alloc_new _ _) (.ofBelow (below_box _))
  obtain ⟨i, hi⟩ := Option.isSome_iff_exists.1 hi
  unfold Oper.wp execOp
  simp only [ho, Instr.buildSlice, Sem.run_bind, run_underlying he, Result.andThen_ok]
  simp [go_sem, sizeOf, typeInfo, hi, newRow, Instr.fill]
  exact this

/-- A slice's element: its type, and its cells, if there are few bytes. -/
def cloneOk (P : Program) (t : TypeId) : Option (TypeId × Nat) :=
  match P.underlying t with
  | some (.slice e) => match P.info? e with
    | some i => match i.zero with
      | some z => if z.cells.size = i.size ∧ 0 < i.size ∧ i.bytes ≤ 1000 then some (e, i.size) else none
      | none => none
    | none => none
  | _ => none
theorem cloneOk_is {t e : TypeId} {size : Nat} (h : cloneOk P t = some (e, size)) : ∃ i z, P.underlying t = some (.slice e) ∧ P.info? e = some i ∧ i.zero = some z ∧ i.size = size ∧ z.cells.size = size ∧ 0 < size ∧ i.bytes ≤ 1000 := by
  unfold cloneOk at h
  split at h
  · rename_i e' hu
    split at h
    · rename_i i hi
      split at h
      · rename_i z hz
        split at h
        · rename_i hc
          obtain ⟨h1, h2, h3⟩ := hc
          simp only [Option.some.injEq, Prod.mk.injEq] at h
          obtain ⟨rfl, rfl⟩ := h
          exact ⟨i, z, hu, hi, hz, rfl, h1, h2, h3⟩
        · cases h
      · cases h
    · cases h
  · cases h
theorem wp_empty (K : Act → World → Prop) (Q : Exit → Act → World → Prop) (t e : TypeId) (size : Nat) (ho : o.op = .buildSlice t 0 #[]) (hok : cloneOk P t = some (e, size))
    (h : ∀ g w', w.heap.size ≤ g → g < w'.heap.size → w'.heap[g]? = some (.cells #[] e (0, 0)) → Mod (fun _ => False) w w' → K (a.put o.dst (.slice (some ⟨g, 0, none⟩) 0 0)) w') : o.wp P a w K Q := by
  obtain ⟨i, z, c1, c2, c3, c4, c5, c6, c7⟩ := cloneOk_is hok
  exact wp_build0 K Q t e ho c1 (by rw [c2]; rfl) h

/-- n zeroes are made. -/
theorem wp_make (K : Act → World → Prop) (Q : Exit → Act → World → Prop) (t e : TypeId) (x y : Operand) (n size : Nat) (ho : o.op = .makeSlice t x y) (hok : cloneOk P t = some (e, size)) (hx : a.eval x = .int .i64 (n : Int)) (hy : a.eval y = .int .i64 (n : Int)) (hn : n ≤ 1000000000)
    (h : ∀ g w' cs, w.heap.size ≤ g → g < w'.heap.size → w'.heap[g]? = some (.cells cs e (0, 0)) → (∃ z i, P.info? e = some i ∧ i.zero = some z ∧ cs = madeCells z.cells (n * size)) → Mod (fun _ => False) w w' → K (a.put o.dst (.slice (some ⟨g, 0, none⟩) n n)) w') : o.wp P a w K Q := by
  obtain ⟨i, z, c1, c2, c3, c4, c5, c6, c7⟩ := cloneOk_is hok
  have hb : (i.bytes : Int) * (n : Int) ≤ 281474976710656 := by
    have h1 := Nat.mul_le_mul c7 hn
    have h2 : ((i.bytes * n : Nat) : Int) ≤ 281474976710656 := by omega
    rwa [Int.natCast_mul] at h2
  have hr := run_make (P := P) w t e i z c1 c2 c3 .i64 .i64 n n (by omega) (Int.le_refl _) hb (by omega)
  simp only [Int.toNat_natCast, c4] at hr
  have hk := h w.heap.size (w.alloc (.cells (madeCells z.cells (n * size)) e)) _ (Nat.le_refl _) (by simp) (heap_alloc_new _ _) ⟨z, i, c2, c3, rfl⟩ (.ofBelow (below_box _))
  unfold Oper.wp execOp
  simp only [ho, hx, hy, Sem.run_bind, hr, Result.andThen_ok, Sem.run_pure]
  exact hk

/-- A literal of some elements. -/
theorem wp_build1 (K : Act → World → Prop) (Q : Exit → Act → World → Prop) (t e : TypeId) (n : Nat) (ps : Array (Nat × Operand)) (vs : Array (Nat × Value)) (cs : Array Value) (ho : o.op = .buildSlice t n ps) (hv : ps.map (fun p => (p.1, a.eval p.2)) = vs)
    (hb : ∀ w, (Instr.buildSlice t n vs).run P w = .ok (.slice (some ⟨w.heap.size, 0, none⟩) n n) (w.alloc (.cells cs e)))
    (h : ∀ g w', w.heap.size ≤ g → g < w'.heap.size → w'.heap[g]? = some (.cells cs e (0, 0)) → Mod (fun _ => False) w w' → K (a.put o.dst (.slice (some ⟨g, 0, none⟩) n n)) w') : o.wp P a w K Q := by
  have hk := h w.heap.size (w.alloc (.cells cs e)) (Nat.le_refl _) (by simp) (heap_alloc_new _ _) (.ofBelow (below_box _))
  unfold Oper.wp execOp
  simp only [ho, Sem.run_bind]
  rw [show (ps.map fun x => match x with | (i, x) => (i, a.eval x)) = vs from hv, hb]
  simp only [Result.andThen_ok, Sem.run_pure]
  exact hk
/-! ### Rows that are known by their block -/
/-! ### In a list of operations -/
variable {ops : Array Oper} {rest : List Oper} {Q : Exit → Act → World → Prop}
/-! ### Regions that draw -/
end

end Go.Proofs.YtpobngddiifdpaaGreat.Hz
/- Regions that draw their order, walked along a plan: where two steps may come next, both ways. -/
namespace Go.Proofs.YtpobngddiifdpaaGreat.Hz
open Go Go.RowKit

end Go.Proofs.YtpobngddiifdpaaGreat.Hz
