/- Laws of single operations, each closed by 'rfl': what an operation yields (ev_..), and what a step does (go_..). -/
import Derived.Test.YtjeiopkfdgllhaaGreatOps
import Derived.IntWalk
import Derived.Laws.MakeOwn
namespace Go.Proofs.YtjeiopkfdgllhaaGreat.Hz
open Go Go.RowKit

section
variable {P : Program} {o : Oper} {a : Act} {w : World}

/-- Where a field lies. -/
def fieldOff (P : Program) (s : TypeId) (f : Nat) : Option Nat :=
  match P.underlying s with
  | some (.struct fs) => match fs[f]? with
    | some fl => match P.info? fl.type with
      | some i => if i.size = 0 then none else some fl.offset
      | none => none
    | none => none
  | _ => none
/-- How many cells a struct or an array has. -/
def aggSize (P : Program) (t : TypeId) : Option Nat :=
  match P.underlying t with
  | some (.struct _) | some (.array _ _) => (P.info? t).map (·.size)
  | _ => none
def plainType (P : Program) (t : TypeId) : Bool :=
  match P.underlying t with
  | some (.struct _) | some (.array _ _) | none => false
  | _ => true
/-- How many cells an element has. -/
def elemSize (P : Program) (t : TypeId) : Option Nat :=
  match P.underlying t with
  | some (.slice e) => (P.info? e).map (·.size)
  | _ => none
def arrElem (P : Program) (t : TypeId) : Option (Nat × Nat) :=
  match P.underlying t with
  | some (.array n e) => (P.info? e).map fun i => (n, i.size)
  | _ => none

theorem ev_move (x : Operand) (v : Value) (ho : o.op = .move x) (hv : a.eval x = v) : (execOp a.eval o).run P w = .ok (.value v) w := by
  unfold execOp; simp only [ho, hv, Sem.run_pure]
theorem ev_assign (x : Operand) (v : Value) (ho : o.op = .assign x) (hv : a.eval x = v) : (execOp a.eval o).run P w = .ok (.value v) w := by
  unfold execOp; simp only [ho, hv, Sem.run_pure]
theorem ev_pick (c x y : Operand) (b : Bool) (v : Value) (ho : o.op = .pick c x y) (hc : a.eval c = .bool b) (hv : (if b then a.eval x else a.eval y) = v) : (execOp a.eval o).run P w = .ok (.value v) w := by
  unfold execOp; simp only [ho, hc, asBool, Sem.run_bind, Sem.run_pure, Result.andThen_ok, hv]
theorem ev_field (s : TypeId) (x : Operand) (f b oo d : Nat) (ho : o.op = .fieldAddr s x f) (hx : a.eval x = .pointer (some ⟨b, oo, none⟩)) (hd : fieldOff P s f = some d) :
    (execOp a.eval o).run P w = .ok (.value (.pointer (some ⟨b, oo + d, none⟩))) w := by
  unfold fieldOff at hd
  split at hd
  · rename_i fs hu
    split at hd
    · rename_i fl hf
      split at hd
      · rename_i i hi
        split at hd
        · cases hd
        · rename_i hz
          obtain rfl := Option.some.inj hd
          unfold execOp
          simp [ho, hx, Instr.fieldAt, Sem.run_bind, run_underlying hu, hf, Instr.sureAddr, fieldPlace, sizeOf, typeInfo, hi, hz, Addr.add_mid]
      · cases hd
    · cases hd
  · cases hd

theorem ev_load (t : TypeId) (x : Operand) (b oo d : Nat) (cs ds : List Value) (ho : o.op = .load t x) (hx : a.eval x = .pointer (some ⟨b, oo + d, none⟩)) (hr : Row w b oo cs) (hs : aggSize P t = some ds.length)
    (hd : (cs.drop d).take ds.length = ds) : (execOp a.eval o).run P w = .ok (.value (.agg ds.toArray)) w := by
  have hr2 : w.rangeAt b (oo + d) ds := fun j v hv => by
    rw [Nat.add_assoc]
    refine hr (d + j) v ?_
    rw [← hd] at hv
    have hj : j < ds.length := by
      have := (List.getElem?_eq_some_iff.1 hv).1
      rw [List.length_take] at this; omega
    rw [List.getElem?_take_of_lt hj, List.getElem?_drop] at hv
    exact hv
  unfold aggSize at hs
  have key : ∀ dd, P.underlying t = some dd → dd.isRow = true → (P.info? t).map (·.size) = some ds.length → (execOp a.eval o).run P w = .ok (.value (.agg ds.toArray)) w := fun dd h1 h2 h3 => by
    unfold execOp
    simp only [ho, hx, Instr.loadAt, Instr.sureAddr, Sem.run_bind, Sem.run_pure, Result.andThen_ok, run_loadVar_mid w b (oo + d) t ds dd hr2 h1 h2 h3]
  split at hs
  · rename_i h; exact key _ h rfl hs
  · rename_i h; exact key _ h rfl hs
  · cases hs

theorem ev_load1 (t : TypeId) (x : Operand) (b oo d : Nat) (cs : List Value) (v : Value) (ho : o.op = .load t x) (hx : a.eval x = .pointer (some ⟨b, oo + d, none⟩)) (hr : Row w b oo cs) (hs : plainType P t = true)
    (hd : cs[d]? = some v) : (execOp a.eval o).run P w = .ok (.value v) w := by
  have hc := hr d v hd
  have hagg : (isAgg t).run P w = .ok false w := by
    unfold plainType at hs
    unfold isAgg
    split at hs
    · cases hs
    · cases hs
    · cases hs
    · rename_i h1 h2 h3
      cases hu : P.underlying t with
      | none => exact absurd hu h3
      | some dd =>
        rw [Sem.run_bind, run_underlying hu w]
        cases dd with
        | struct => exact absurd hu (h1 _)
        | array => exact absurd hu (h2 _ _)
        | _ => rfl
  unfold execOp
  simp only [ho, hx, Instr.loadAt, Instr.sureAddr, loadVar, Sem.run_bind, Sem.run_pure, Result.andThen_ok, hagg]
  simp [hc, go_sem]

theorem ev_index (t : TypeId) (x i : Operand) (b oo n c j sz : Nat) (ho : o.op = .indexAddr t x i) (hx : a.eval x = .slice (some ⟨b, oo, none⟩) n c) (hi : a.eval i = .int .i64 (j : Int)) (hj : j < n) (ht : elemSize P t = some sz) :
    (execOp a.eval o).run P w = .ok (.value (.pointer (some ⟨b, oo + j * sz, none⟩))) w := by
  unfold elemSize at ht
  split at ht
  · rename_i e hu
    cases hq : P.info? e with
    | none => simp [hq] at ht
    | some q =>
      have hs : q.size = sz := by simpa [hq] using ht
      unfold execOp
      simp [ho, hx, hi, Instr.indexAt, asIntOf, Sem.run_bind, run_underlying hu, hj, sizeOf, typeInfo, hq, hs, Addr.add_mid]
  · cases ht

theorem ev_len (x : Operand) (t : TypeId) (ad : Option Addr) (n c : Nat) (ho : o.op = .call { callee := .builtin .len, args := #[x], argTypes := #[t] }) (hx : a.eval x = .slice ad n c) (ht : (elemSize P t).isSome = true) :
    (execOp a.eval o).run P w = .ok (.value (.int .i64 (n : Int))) w := by
  unfold elemSize at ht
  split at ht
  · rename_i e hu
    unfold execOp
    have hm : (#[x] : Array Operand).map a.eval = #[.slice ad n c] := by rw [← hx]; simp
    simp only [ho, resolve, Sem.run_bind, Sem.run_pure, Result.andThen_ok, invoke, builtin, hm]
    simp [Builtin.len_, run_underlying hu, Sem.run_bind, goInt]
  · cases ht

theorem ev_lss (t r : TypeId) (x y : Operand) (m n : Int) (v : Bool) (ho : o.op = .binOp .lss t x y r) (hx : a.eval x = .int .i64 m) (hy : a.eval y = .int .i64 n) (hv : decide (m < n) = v) : (execOp a.eval o).run P w = .ok (.value (.bool v)) w := by
  unfold execOp; subst hv; simp only [ho, hx, hy]; simp [go_sem]
theorem ev_leq (t r : TypeId) (x y : Operand) (m n : Int) (v : Bool) (ho : o.op = .binOp .leq t x y r) (hx : a.eval x = .int .i64 m) (hy : a.eval y = .int .i64 n) (hv : decide (m ≤ n) = v) : (execOp a.eval o).run P w = .ok (.value (.bool v)) w := by
  unfold execOp; subst hv; simp only [ho, hx, hy]; simp [go_sem]
theorem ev_gtr (t r : TypeId) (x y : Operand) (m n : Int) (v : Bool) (ho : o.op = .binOp .gtr t x y r) (hx : a.eval x = .int .i64 m) (hy : a.eval y = .int .i64 n) (hv : decide (n < m) = v) : (execOp a.eval o).run P w = .ok (.value (.bool v)) w := by
  unfold execOp; subst hv; simp only [ho, hx, hy]; simp [go_sem]
theorem ev_geq (t r : TypeId) (x y : Operand) (m n : Int) (v : Bool) (ho : o.op = .binOp .geq t x y r) (hx : a.eval x = .int .i64 m) (hy : a.eval y = .int .i64 n) (hv : decide (n ≤ m) = v) : (execOp a.eval o).run P w = .ok (.value (.bool v)) w := by
  unfold execOp; subst hv; simp only [ho, hx, hy]; simp [go_sem]
theorem ev_eql (t r : TypeId) (x y : Operand) (m n : Int) (v : Bool) (ho : o.op = .binOp .eql t x y r) (hx : a.eval x = .int .i64 m) (hy : a.eval y = .int .i64 n) (hv : decide (m = n) = v) : (execOp a.eval o).run P w = .ok (.value (.bool v)) w := by
  unfold execOp; subst hv; simp only [ho, hx, hy]; simp [go_sem]; rw [Bool.eq_iff_iff]; simp
theorem ev_neq (t r : TypeId) (x y : Operand) (m n : Int) (v : Bool) (ho : o.op = .binOp .neq t x y r) (hx : a.eval x = .int .i64 m) (hy : a.eval y = .int .i64 n) (hv : decide (m ≠ n) = v) : (execOp a.eval o).run P w = .ok (.value (.bool v)) w := by
  unfold execOp; subst hv; simp only [ho, hx, hy]; simp [go_sem]; rw [Bool.eq_iff_iff]; simp
theorem ev_add (t r : TypeId) (x y : Operand) (m n k : Int) (ho : o.op = .binOp .add t x y r) (hx : a.eval x = .int .i64 m) (hy : a.eval y = .int .i64 n) (hv : wrap64 (m + n) = k) : (execOp a.eval o).run P w = .ok (.value (.int .i64 k)) w := by
  unfold execOp; subst hv; simp only [ho, hx, hy]; simp [go_sem, IntWalk.i64_left]
theorem ev_sub (t r : TypeId) (x y : Operand) (m n k : Int) (ho : o.op = .binOp .sub t x y r) (hx : a.eval x = .int .i64 m) (hy : a.eval y = .int .i64 n) (hv : wrap64 (m - n) = k) : (execOp a.eval o).run P w = .ok (.value (.int .i64 k)) w := by
  unfold execOp; subst hv; simp only [ho, hx, hy]; simp [go_sem, IntWalk.i64_left]


theorem ev_mul (t r : TypeId) (x y : Operand) (m n k : Int) (ho : o.op = .binOp .mul t x y r) (hx : a.eval x = .int .i64 m) (hy : a.eval y = .int .i64 n) (hv : wrap64 (m * n) = k) : (execOp a.eval o).run P w = .ok (.value (.int .i64 k)) w := by
  unfold execOp; subst hv; simp only [ho, hx, hy]; simp [go_sem, IntWalk.i64_left]
theorem ev_eqlb (t r : TypeId) (x y : Operand) (m n : Bool) (v : Bool) (ht : P.underlying t = some .bool) (ho : o.op = .binOp .eql t x y r) (hx : a.eval x = .bool m) (hy : a.eval y = .bool n) (hv : (m == n) = v) : (execOp a.eval o).run P w = .ok (.value (.bool v)) w := by
  unfold execOp; subst hv; simp only [ho, hx, hy]; simp [go_sem, ht]
theorem ev_extract (x : Operand) (i : Nat) (vs : Array Value) (v : Value) (ho : o.op = .extract x i) (hx : a.eval x = .tuple vs) (hv : vs[i]? = some v) : (execOp a.eval o).run P w = .ok (.value v) w := by
  unfold execOp; simp only [ho, hx]; simp [go_sem, Instr.extract, hv]
theorem ev_not (x : Operand) (t : TypeId) (m v : Bool) (ho : o.op = .unOp .not t x) (hx : a.eval x = .bool m) (hv : (!m) = v) : (execOp a.eval o).run P w = .ok (.value (.bool v)) w := by
  unfold execOp; subst hv; simp only [ho, hx]; simp [go_sem]
theorem ev_build (t : TypeId) (ps : Array (Nat × Operand)) (vs : Array (Nat × Value)) (cs : Array Value) (ho : o.op = .build t ps) (hv : ps.map (fun p => (p.1, a.eval p.2)) = vs)
    (hb : ∀ w, (Instr.build t vs).run P w = .ok (.agg cs) w) : (execOp a.eval o).run P w = .ok (.value (.agg cs)) w := by
  unfold execOp
  simp only [ho, Sem.run_bind]
  rw [show (ps.map fun x => match x with | (i, x) => (i, a.eval x)) = vs from hv, hb]
  simp

/-! ### Steps -/
/-- What is asked of a new world when blocks were made. -/
theorem below_box {w : World} (ob : Obj) : Below w.heap.size w (w.alloc ob) := ⟨rfl, rfl, rfl, by simp, fun i hi => Below.heap_alloc w ob i hi⟩

theorem wp_yield (K : Act → World → Prop) (Q : Exit → Act → World → Prop) (v : Value) (hr : (execOp a.eval o).run P w = .ok (.value v) w) (h : K (a.put o.dst v) w) : o.wp P a w K Q := by
  unfold Oper.wp; rw [hr]; exact h
theorem wp_box (K : Act → World → Prop) (Q : Exit → Act → World → Prop) (t : TypeId) (x : Operand) (cs : Array Value) (ho : o.op = .box t x) (hx : (a.eval x).cells = cs)
    (h : ∀ g w', w.heap.size ≤ g → g < w'.heap.size → w'.heap[g]? = some (.cells cs t (0, 0)) → Below w.heap.size w w' → K (a.put o.dst (.pointer (some ⟨g, 0, none⟩))) w') : o.wp P a w K Q := by
  have := h w.heap.size (w.alloc (.cells cs t)) (Nat.le_refl _) (by simp) (heap_alloc_new _ _) (below_box _)
  unfold Oper.wp execOp
  simp only [ho, Instr.box, newVar, hx]
  simp [go_sem, newRow]
  exact this

theorem wp_alloc (K : Act → World → Prop) (Q : Exit → Act → World → Prop) (t : TypeId) (z : Value) (cs : Array Value) (ho : o.op = .alloc t) (hz : (P.info? t).bind (·.zero) = some z) (hc : z.cells = cs)
    (h : ∀ g w', w.heap.size ≤ g → g < w'.heap.size → w'.heap[g]? = some (.cells cs t (0, 0)) → Below w.heap.size w w' → K (a.put o.dst (.pointer (some ⟨g, 0, none⟩))) w') : o.wp P a w K Q := by
  have := h w.heap.size (w.alloc (.cells cs t)) (Nat.le_refl _) (by simp) (heap_alloc_new _ _) (below_box _)
  cases hq : P.info? t with
  | none => simp [hq] at hz
  | some i =>
    have hz' : i.zero = some z := by simpa [hq] using hz
    unfold Oper.wp execOp
    simp only [ho, Instr.alloc, zeroValue, typeInfo, newVar]
    subst hc
    simp [go_sem, newRow, hq, hz']
    exact this

/-- A function of Go's own, with a body. -/
def goFunc (P : Program) (f : Nat) : Bool :=
  match P.funcs[f]? with
  | some fn => !(fn.name == "runtime.NumGoroutine") && !fn.body.isNone
  | none => false
theorem wp_call (K : Act → World → Prop) (Q : Exit → Act → World → Prop) (f : Nat) (xs : Array Operand) (ts : Array TypeId) (vs : Array Value) {R : Ending → World → Prop}
    (ho : o.op = .call { callee := .value (.func f), args := xs, argTypes := ts }) (hx : xs.map a.eval = vs) (hf : goFunc P f = true)
    (hc : Calls P f vs w R) (h : ∀ e w', R e w' → ∃ u, e = .returned u ∧ K (a.put o.dst u) w') : o.wp P a w K Q := by
  unfold goFunc at hf
  cases h1 : P.funcs[f]? with
  | none => simp [h1] at hf
  | some fn =>
  have h2 : (fn.name == "runtime.NumGoroutine") = false := by simp [h1] at hf; simpa using hf.1
  have h3 : fn.body.isNone = false := by simp [h1] at hf; simpa using hf.2
  unfold Oper.wp execOp
  simp only [ho, resolve, hx]
  simp [go_sem]
  have hrun : (callFunc f vs).run P w = .ok (.enter f vs) w := by
    unfold callFunc
    have h2' : ¬ fn.name = "runtime.NumGoroutine" := by simpa using h2
    have h3' : ¬ fn.body = none := by intro e; rw [e] at h3; cases h3
    simp [Sem.run_bind, h1, h2', h3']
  rw [hrun]
  refine hc.mono fun e w' hr => ?_
  obtain ⟨u, rfl, hk⟩ := h e w' hr
  exact hk
/-! ### How a world goes on -/
/-- Nothing is changed but blocks in G, and new ones. -/
structure Mod (G : Nat → Prop) (w w' : World) : Prop where
  os : w'.os = w.os
  tape : w'.tape = w.tape
  output : w'.output = w.output
  size : w.heap.size ≤ w'.heap.size
  block : ∀ k, k < w.heap.size → ¬ G k → w'.heap[k]? = w.heap[k]?

theorem Mod.refl (w : World) : Mod (fun _ => False) w w := ⟨rfl, rfl, rfl, Nat.le_refl _, fun _ _ _ => rfl⟩
theorem Mod.ofBelow {w w' : World} (h : Below w.heap.size w w') : Mod (fun _ => False) w w' := ⟨h.os, h.tape, h.output, h.size, fun k hk _ => h.block k hk⟩
theorem Mod.ofOnly {g : Nat} {w w' : World} (h : Only g w w') : Mod (fun k => k = g) w w' := ⟨h.os, h.tape, h.output, by rw [h.size]; exact Nat.le_refl _, fun k _ hk => h.block k hk⟩
theorem Mod.ofGrown {g : Nat} {w w' : World} (h : w.grownBy w' (some g)) : Mod (fun k => k = g) w w' := ⟨h.os, h.tape, h.output, h.size, fun k hk hn => h.block k hk (fun e => hn (Option.some.inj e))⟩
theorem Below.mod {B : Nat} {a w w' : World} {G : Nat → Prop} (h : Below B a w) (k : Mod G w w') (hB : B ≤ w.heap.size) (hg : ∀ k, G k → B ≤ k) : Below B a w' :=
  h.trans ⟨k.os, k.tape, k.output, k.size, fun i hi => k.block i (by omega) (fun e => by have := hg i e; omega)⟩
theorem Off.mod {X : Nat → Prop} {a w w' : World} {G : Nat → Prop} (h : Off X a w) (k : Mod G w w') (hg : ∀ k, G k → X k ∨ a.heap.size ≤ k) : Off X a w' :=
  ⟨Nat.le_trans h.size k.size, fun i hi hx => (k.block i (Nat.lt_of_lt_of_le hi h.size) (fun e => by
    rcases hg i e with c | c
    · exact hx c
    · omega)).trans (h.block i hi hx)⟩
theorem Mod.box {G : Nat → Prop} {w w' : World} (k : Mod G w w') {g : Nat} {ob : Obj} (h : w.heap[g]? = some ob) (hg : ¬ G g) : w'.heap[g]? = some ob :=
  (k.block g (Array.getElem?_eq_some_iff.1 h).1 hg).trans h

/-- The row of a block that is known whole. -/
theorem row_box {w : World} {g : Nat} {cs : Array Value} {t : TypeId} (h : w.heap[g]? = some (.cells cs t (0, 0))) : Row w g 0 cs.toList := fun i v hv => by
  rw [Nat.zero_add, cell_of_row w g i cs t (0, 0) h]; simpa using hv

/-- A slice of numbers that isn't empty: its row. -/
theorem ri_row {X : Nat → Prop} {w : World} {v : Value} {xs : List Int} (h : RI X w v xs) (hp : 0 < xs.length) :
    ∃ b o n, v = .slice (some ⟨b, o, none⟩) xs.length n ∧ ¬ X b ∧ b < w.heap.size ∧ xs.length ≤ n ∧ n ≤ maxLen ∧ Row w b o (xs.map (Value.int .i64)) := by
  rcases h with ⟨_, h0, _⟩ | ⟨b, o, c, rfl, h1, h2, h3, h4, hr⟩
  · omega
  · exact ⟨b, o, c, rfl, h1, h2, h3, h4, hr⟩
/-- One cell out of it. -/
theorem row_one {w : World} {b o : Nat} {xs : List Int} (h : Row w b o (xs.map (Value.int .i64))) {k : Nat} (hk : k < xs.length) : Row w b (o + k * 1) [.int .i64 (xs.getD k 0)] := fun i v hv => by
  cases i with
  | zero =>
    obtain rfl : Value.int .i64 (xs.getD k 0) = v := by simpa using hv
    have := h k (.int .i64 (xs.getD k 0)) (by simp [List.getD, hk])
    simpa using this
  | succ i => simp at hv

/-! ### Slices of one's own -/
theorem wp_build0 (K : Act → World → Prop) (Q : Exit → Act → World → Prop) (t e : TypeId) (ho : o.op = .buildSlice t 0 #[]) (he : P.underlying t = some (.slice e)) (hi : (P.info? e).isSome = true)
    (h : ∀ g w', w.heap.size ≤ g → g < w'.heap.size → w'.heap[g]? = some (.cells #[] e (0, 0)) → Mod (fun _ => False) w w' → K (a.put o.dst (.slice (some ⟨g, 0, none⟩) 0 0)) w') : o.wp P a w K Q := by
  have := h w.heap.size (w.alloc (.cells #[] e)) (Nat.le_refl _) (by simp) (heap_alloc_new _ _) (.ofBelow (below_box _))
  obtain ⟨i, hi⟩ := Option.isSome_iff_exists.1 hi
  unfold Oper.wp execOp
  simp only [ho, Instr.buildSlice, Sem.run_bind, run_underlying he, Result.andThen_ok]
  simp [go_sem, sizeOf, typeInfo, hi, newRow, Instr.fill]
  exact this

/-- A whole slice is laid behind an empty literal of one's own. -/
theorem wp_clone {X : Nat → Prop} (K : Act → World → Prop) (Q : Exit → Act → World → Prop) (s x : Operand) (t : TypeId)
    (ho : o.op = .call { callee := .builtin .append, args := #[s, x], argTypes := #[t, t] })
    (e : TypeId) (i : TypeInfo) (z : Value) (size bytes : Nat) (ht : P.underlying t = some (.slice e)) (hi : P.info? e = some i) (hz : i.zero = some z)
    (hsize : i.size = size) (hby : i.bytes = bytes) (hzs : z.cells.size = size) (hsz : 0 < size)
    (g : Nat) (hs : a.eval s = .slice (some ⟨g, 0, none⟩) 0 0) (hg : w.heap[g]? = some (.cells #[] e (0, 0)))
    (vs : Value) (m : Nat) (news : List Value) (hx : a.eval x = vs) (hsc : SC X w vs m news) (hl : news.length = m * size) (h1 : ∀ u ∈ news, u.oneCell' = true)
    (h63 : m ≤ maxLen) (hbytes : m * bytes ≤ 140737488355328)
    (h : ∀ v' w', w'.ownsRow g e size v' m news → Mod (fun k => k = g) w w' → K (a.put o.dst v') w') : o.wp P a w K Q := by
  have hlt : g < w.heap.size := (Array.getElem?_eq_some_iff.1 hg).1
  refine wp_append_sc s x t ho g e i z size bytes ht hi hz hsize hby hzs hsz _ 0 [] hs ⟨by simp, .inr ⟨g, 0, #[], rfl, Nat.le_refl _, hg, Nat.le_refl _, by decide, by simp, by simp⟩⟩ vs m news hx hsc hl h1 (by omega) (by simpa using hbytes) (by omega) fun v' w' a1 a2 => ?_
  rw [Nat.zero_add, List.nil_append] at a1
  exact h v' w' a1 (.ofGrown (by simpa [Value.ownBlock] using a2))

/-- A slice's element: its type, and its cells, if there are few bytes. -/
def cloneOk (P : Program) (t : TypeId) : Option (TypeId × Nat) :=
  match P.underlying t with
  | some (.slice e) => match P.info? e with
    | some i => match i.zero with
      | some z => if z.cells.size = i.size ∧ 0 < i.size ∧ i.bytes ≤ 1000 then some (e, i.size) else none
      | none => none
    | none => none
  | _ => none
theorem cloneOk_is {t e : TypeId} {size : Nat} (h : cloneOk P t = some (e, size)) : ∃ i z, P.underlying t = some (.slice e) ∧ P.info? e = some i ∧ i.zero = some z ∧ i.size = size ∧ z.cells.size = size ∧ 0 < size ∧ i.bytes ≤ 1000 := by
  unfold cloneOk at h
  split at h
  · rename_i e' hu
    split at h
    · rename_i i hi
      split at h
      · rename_i z hz
        split at h
        · rename_i hc
          obtain ⟨h1, h2, h3⟩ := hc
          simp only [Option.some.injEq, Prod.mk.injEq] at h
          obtain ⟨rfl, rfl⟩ := h
          exact ⟨i, z, hu, hi, hz, rfl, h1, h2, h3⟩
        · cases h
      · cases h
    · cases h
  · cases h
theorem wp_copy {X : Nat → Prop} (K : Act → World → Prop) (Q : Exit → Act → World → Prop) (s x : Operand) (t : TypeId)
    (ho : o.op = .call { callee := .builtin .append, args := #[s, x], argTypes := #[t, t] }) (e : TypeId) (size : Nat) (hok : cloneOk P t = some (e, size))
    (g : Nat) (hs : a.eval s = .slice (some ⟨g, 0, none⟩) 0 0) (hg : w.heap[g]? = some (.cells #[] e (0, 0)))
    (vs : Value) (m : Nat) (news : List Value) (hx : a.eval x = vs) (hsc : SC X w vs m news) (hl : news.length = m * size) (h1 : ∀ u ∈ news, u.oneCell' = true)
    (hm : m ≤ 100000000000)
    (h : ∀ v' w', w'.ownsRow g e size v' m news → Mod (fun k => k = g) w w' → K (a.put o.dst v') w') : o.wp P a w K Q := by
  obtain ⟨i, z, c1, c2, c3, c4, c5, c6, c7⟩ := cloneOk_is hok
  refine wp_clone K Q s x t ho e i z size i.bytes c1 c2 c3 c4 rfl c5 c6 g hs hg vs m news hx hsc hl h1 (by unfold maxLen; omega) ?_ h
  have := Nat.mul_le_mul hm c7
  omega
theorem wp_empty (K : Act → World → Prop) (Q : Exit → Act → World → Prop) (t e : TypeId) (size : Nat) (ho : o.op = .buildSlice t 0 #[]) (hok : cloneOk P t = some (e, size))
    (h : ∀ g w', w.heap.size ≤ g → g < w'.heap.size → w'.heap[g]? = some (.cells #[] e (0, 0)) → Mod (fun _ => False) w w' → K (a.put o.dst (.slice (some ⟨g, 0, none⟩) 0 0)) w') : o.wp P a w K Q := by
  obtain ⟨i, z, c1, c2, c3, c4, c5, c6, c7⟩ := cloneOk_is hok
  exact wp_build0 K Q t e ho c1 (by rw [c2]; rfl) h

/-- n zeroes are made. -/
theorem wp_make (K : Act → World → Prop) (Q : Exit → Act → World → Prop) (t e : TypeId) (x y : Operand) (n size : Nat) (ho : o.op = .makeSlice t x y) (hok : cloneOk P t = some (e, size)) (hx : a.eval x = .int .i64 (n : Int)) (hy : a.eval y = .int .i64 (n : Int)) (hn : n ≤ 1000000000)
    (h : ∀ g w' cs, w.heap.size ≤ g → g < w'.heap.size → w'.heap[g]? = some (.cells cs e (0, 0)) → (∃ z i, P.info? e = some i ∧ i.zero = some z ∧ cs = madeCells z.cells (n * size)) → Mod (fun _ => False) w w' → K (a.put o.dst (.slice (some ⟨g, 0, none⟩) n n)) w') : o.wp P a w K Q := by
  obtain ⟨i, z, c1, c2, c3, c4, c5, c6, c7⟩ := cloneOk_is hok
  have hb : (i.bytes : Int) * (n : Int) ≤ 281474976710656 := by
    have h1 := Nat.mul_le_mul c7 hn
    have h2 : ((i.bytes * n : Nat) : Int) ≤ 281474976710656 := by omega
    rwa [Int.natCast_mul] at h2
  have hr := run_make (P := P) w t e i z c1 c2 c3 .i64 .i64 n n (by omega) (Int.le_refl _) hb (by omega)
  simp only [Int.toNat_natCast, c4] at hr
  have hk := h w.heap.size (w.alloc (.cells (madeCells z.cells (n * size)) e)) _ (Nat.le_refl _) (by simp) (heap_alloc_new _ _) ⟨z, i, c2, c3, rfl⟩ (.ofBelow (below_box _))
  unfold Oper.wp execOp
  simp only [ho, hx, hy, Sem.run_bind, hr, Result.andThen_ok, Sem.run_pure]
  exact hk

theorem own_mod {G : Nat → Prop} {w w' : World} {base : Nat} {e : TypeId} {size : Nat} {v : Value} {n : Nat} {xs : List Value} (h : w.ownsRow base e size v n xs) (k : Mod G w w') (hg : ∀ j, G j → j < base) : w'.ownsRow base e size v n xs := by
  obtain ⟨h1, h2⟩ := h
  refine ⟨h1, ?_⟩
  rcases h2 with h2 | ⟨b, cap, cur, e1, e2, e3, e4⟩
  · exact .inl h2
  · exact .inr ⟨b, cap, cur, e1, e2, by rw [k.block b (Array.getElem?_eq_some_iff.1 e3).1 (fun c => by have := hg b c; omega)]; exact e3, e4⟩

/-- A literal of some elements. -/
theorem wp_build1 (K : Act → World → Prop) (Q : Exit → Act → World → Prop) (t e : TypeId) (n : Nat) (ps : Array (Nat × Operand)) (vs : Array (Nat × Value)) (cs : Array Value) (ho : o.op = .buildSlice t n ps) (hv : ps.map (fun p => (p.1, a.eval p.2)) = vs)
    (hb : ∀ w, (Instr.buildSlice t n vs).run P w = .ok (.slice (some ⟨w.heap.size, 0, none⟩) n n) (w.alloc (.cells cs e)))
    (h : ∀ g w', w.heap.size ≤ g → g < w'.heap.size → w'.heap[g]? = some (.cells cs e (0, 0)) → Mod (fun _ => False) w w' → K (a.put o.dst (.slice (some ⟨g, 0, none⟩) n n)) w') : o.wp P a w K Q := by
  have hk := h w.heap.size (w.alloc (.cells cs e)) (Nat.le_refl _) (by simp) (heap_alloc_new _ _) (.ofBelow (below_box _))
  unfold Oper.wp execOp
  simp only [ho, Sem.run_bind]
  rw [show (ps.map fun x => match x with | (i, x) => (i, a.eval x)) = vs from hv, hb]
  simp only [Result.andThen_ok, Sem.run_pure]
  exact hk
/-- What stands in a block reads as a slice. -/
theorem sc_box {X : Nat → Prop} {g n : Nat} {cs : Array Value} {t : TypeId} (h : w.heap[g]? = some (.cells cs t (0, 0))) (hx : ¬ X g) (hn : n ≤ maxLen) : SC X w (.slice (some ⟨g, 0, none⟩) n n) n cs.toList :=
  .inr ⟨g, 0, n, rfl, hx, (Array.getElem?_eq_some_iff.1 h).1, Nat.le_refl _, hn, row_box h⟩

/-! ### Rows that are known by their block -/
theorem ri_block {X : Nat → Prop} {w : World} {g cap n : Nat} {cur : Array Value} {t : TypeId} {xs : List Int} (h : w.heap[g]? = some (.cells cur t (0, 0))) (hx : ¬ X g) (hn : xs.length = n) (hc : n ≤ cap) (hm : cap ≤ maxLen)
    (ht : cur.toList.take n = xs.map (Value.int .i64)) : RI X w (.slice (some ⟨g, 0, none⟩) n cap) xs := by
  unfold RI
  rw [hn]
  refine .inr ⟨g, 0, cap, rfl, hx, (Array.getElem?_eq_some_iff.1 h).1, hc, hm, fun i u hu => ?_⟩
  have hlt : i < (xs.map (Value.int .i64)).length := (List.getElem?_eq_some_iff.1 hu).1
  rw [List.length_map, hn] at hlt
  rw [← ht, List.getElem?_take_of_lt hlt] at hu
  exact row_box h i u hu
theorem spliced_one {cur : Array Value} {k n : Nat} {xs : List Int} (u : Int) (hk : k < n) (hn : n ≤ cur.size) (ht : cur.toList.take n = xs.map (Value.int .i64)) : (spliced cur k [.int .i64 u]).toList.take n = (xs.set k u).map (Value.int .i64) := by
  unfold spliced
  rw [List.toList_toArray, show ([Value.int .i64 u] : List Value).length = 1 from rfl, take_mid cur.toList [Value.int .i64 u] k 1 n rfl (by omega) (by simpa using hn), ht, List.map_set]
  have hl : (xs.map (Value.int .i64)).length = n := by rw [← ht, List.length_take]; simp; omega
  rw [List.set_eq_take_append_cons_drop, if_pos (by omega)]
  rfl

/-- One element (of so many cells) is laid behind what the call owns. -/
theorem wp_grow (K : Act → World → Prop) (Q : Exit → Act → World → Prop) {X : Nat → Prop} (s x : Operand) (t : TypeId)
    (ho : o.op = .call { callee := .builtin .append, args := #[s, x], argTypes := #[t, t] })
    (e : TypeId) (i : TypeInfo) (z : Value) (size bytes : Nat) (ht : P.underlying t = some (.slice e)) (hi : P.info? e = some i) (hz : i.zero = some z)
    (hsize : i.size = size) (hby : i.bytes = bytes) (hzs : z.cells.size = size) (hsz : 0 < size)
    (g : Nat) (v : Value) (n : Nat) (xs : List Value) (hs : a.eval s = v) (hown : w.ownsRow g e size v n xs) (hgl : g ≤ w.heap.size)
    (vs : Value) (m : Nat) (news : List Value) (hx : a.eval x = vs) (hsc : SC X w vs m news) (hl : news.length = m * size) (h1 : ∀ u ∈ news, u.oneCell' = true)
    (h63 : n + m ≤ maxLen) (hbytes : (n + m) * bytes ≤ 140737488355328)
    (h : ∀ v' w', w'.ownsRow g e size v' (n + m) (xs ++ news) → Mod (fun k => v.ownBlock = some k) w w' → K (a.put o.dst v') w') : o.wp P a w K Q := by
  refine wp_append_sc s x t ho g e i z size bytes ht hi hz hsize hby hzs hsz _ n xs hs hown vs m news hx hsc hl h1 h63 hbytes hgl fun v' w' a1 a2 => ?_
  exact h v' w' a1 ⟨a2.os, a2.tape, a2.output, a2.size, fun k hk hn => a2.block k hk (fun e => hn e.symm)⟩

theorem wp_push (K : Act → World → Prop) (Q : Exit → Act → World → Prop) {X : Nat → Prop} (s x : Operand) (t : TypeId)
    (ho : o.op = .call { callee := .builtin .append, args := #[s, x], argTypes := #[t, t] }) (e : TypeId) (size : Nat) (hok : cloneOk P t = some (e, size))
    (g : Nat) (v : Value) (n : Nat) (xs : List Value) (hs : a.eval s = v) (hown : w.ownsRow g e size v n xs) (hgl : g ≤ w.heap.size)
    (vs : Value) (m : Nat) (news : List Value) (hx : a.eval x = vs) (hsc : SC X w vs m news) (hl : news.length = m * size) (h1 : ∀ u ∈ news, u.oneCell' = true)
    (hm : n + m ≤ 100000000000)
    (h : ∀ v' w', w'.ownsRow g e size v' (n + m) (xs ++ news) → Mod (fun k => v.ownBlock = some k) w w' → K (a.put o.dst v') w') : o.wp P a w K Q := by
  obtain ⟨i, z, c1, c2, c3, c4, c5, c6, c7⟩ := cloneOk_is hok
  refine wp_grow K Q s x t ho e i z size i.bytes c1 c2 c3 c4 rfl c5 c6 g v n xs hs hown hgl vs m news hx hsc hl h1 (by unfold maxLen; omega) ?_ h
  have := Nat.mul_le_mul hm c7
  omega
theorem own_block {w : World} {base : Nat} {e : TypeId} {size : Nat} {v : Value} {n : Nat} {xs : List Value} (h : w.ownsRow base e size v n xs) : ∀ k, v.ownBlock = some k → base ≤ k ∧ k < w.heap.size := by
  intro k hk
  rcases h.2 with ⟨rfl, _⟩ | ⟨b, cap, cur, rfl, e2, e3, e4⟩
  · simp [Value.ownBlock] at hk
  · obtain rfl : b = k := by simpa [Value.ownBlock] using hk
    exact ⟨e2, (Array.getElem?_eq_some_iff.1 e3).1⟩

/-! ### In a list of operations -/
variable {ops : Array Oper} {rest : List Oper} {Q : Exit → Act → World → Prop}
theorem wl_take (v : Value) (d : Option Tmp) (hd : o.dst = d) (hw : Region.wanted o (yielded ops a.tmps) = true) (hr : (execOp a.eval o).run P w = .ok (.value v) w) (h : wpList P ops Q rest (a.put d v) w) : wpList P ops Q (o :: rest) a w :=
  wpList_step fun K hK => by
    rw [if_pos hw]
    unfold Oper.wp
    rw [hr]
    subst hd
    exact hK _ _ h
theorem wl_skip (d : Option Tmp) (hd : o.dst = d) (hw : Region.wanted o (yielded ops a.tmps) = false) (h : wpList P ops Q rest (a.put d undef) w) : wpList P ops Q (o :: rest) a w :=
  wpList_step fun K hK => by
    rw [if_neg (by rw [hw]; decide)]
    subst hd
    exact hK _ _ h
theorem wl_step (d : Option Tmp) (hd : o.dst = d) (hw : Region.wanted o (yielded ops a.tmps) = true) (h : ∀ K : Act → World → Prop, (∀ v w, wpList P ops Q rest (a.put d v) w → K (a.put o.dst v) w) → o.wp P a w K Q) : wpList P ops Q (o :: rest) a w :=
  wpList_step fun K hK => by
    rw [if_pos hw]
    subst hd
    exact h K fun v w h => hK _ _ h


/-! ### Regions that draw -/
theorem Mod.drew (w : World) : Mod (fun _ => False) w w.drew := ⟨rfl, rfl, rfl, Nat.le_refl _, fun _ _ _ => rfl⟩
/-- The blocks that stood at the beginning stand, but those of G. -/
def AgreeB (G : Nat → Prop) (w w' : World) : Prop := ∀ b, b < w.heap.size → ¬ G b → w'.heap[b]? = w.heap[b]?
theorem AgreeB.box {G : Nat → Prop} {w w' : World} (h : AgreeB G w w') {g : Nat} {ob : Obj} (hb : w.heap[g]? = some ob) (hg : ¬ G g) : w'.heap[g]? = some ob := (h g (Array.getElem?_eq_some_iff.1 hb).1 hg).trans hb
theorem AgreeB.mod {w a b : World} {G G' : Nat → Prop} (h : AgreeB G w a) (k : Mod G' a b) (hs : w.heap.size ≤ a.heap.size) (hg : ∀ k, G' k → G k ∨ w.heap.size ≤ k) : AgreeB G w b := fun i hi hn =>
  (k.block i (by omega) (fun e => by
    rcases hg i e with c | c
    · exact hn c
    · omega)).trans (h i hi hn)
theorem wp_region_ag {id : Nat} {a : Act} {w : World} (G : Nat → Prop) (T : Nat → Nat) (H : Nat → Bool) (ord : List Nat) (hm : P.follows .mixedOrders = true) (hs : Region.noSelect ops = true)
    (hok : alongOk .any ops T H ord (Array.replicate ops.size false) = true) (hlen : ord.length = ops.size)
    (hQ : ∀ c (a : Act) d v w, Q (.panic c) (a.put d v) w → Q (.panic c) a w)
    (h : ∀ wd, Mod (fun _ => False) w wd → wd.heap.size = w.heap.size → AgreeB G w wd → wpAlong P ops Q (AgreeB G w) T H ord a wd) : (Code.region id ops true).wp P Q a w :=
  wp_region_along T H (AgreeB G w) ord hm hs hok hlen hQ (h _ (Mod.drew w) rfl (fun _ _ _ => rfl))

theorem al_step {T : Nat → Nat} {H : Nat → Bool} {S : World → Prop} {i : Nat} {r : List Nat} (d : Option Tmp) (ht : T i = 0) (ho : ops[i]? = some o) (hd : o.dst = d) (hw : Region.wanted o (yielded ops a.tmps) = true)
    (h : ∀ K : Act → World → Prop, (∀ v w', (S w → S w') → wpAlong P ops Q S T H r (a.put d v) w' → K (a.put o.dst v) w') → o.wp P a w K Q) : wpAlong P ops Q S T H (i :: r) a w :=
  along_step o ht ho hw fun K hK => h K fun v w' h1 h2 => hK _ _ ⟨fun _ => h1, by subst hd; exact h2⟩

end

end Go.Proofs.YtjeiopkfdgllhaaGreat.Hz
