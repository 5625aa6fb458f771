/- Laws of the walk for this program's data: an append of whatever slice; a row that the call owns, and one of its elements written. -/
import Derived.Test.YtjeiopkfdgllhaaGreatBase
import Derived.Laws.AppendOwnNone
import Derived.Deep.MidRow
namespace Go.Proofs.YtjeiopkfdgllhaaGreat.Hz
open Go Go.RowKit

section
variable {P : Program}

theorem wp_append_sc {X : Nat → Prop} {w : World} {o : Oper} {a : Act} {K : Act → World → Prop} {Q : Exit → Act → World → Prop} (s x : Operand) (t : TypeId)
    (ho : o.op = .call { callee := .builtin .append, args := #[s, x], argTypes := #[t, t] })
    (base : Nat) (e : TypeId) (i : TypeInfo) (z : Value) (size bytes : Nat) (ht : P.underlying t = some (.slice e)) (hi : P.info? e = some i) (hz : i.zero = some z)
    (hsize : i.size = size) (hby : i.bytes = bytes) (hzs : z.cells.size = size) (hsz : 0 < size)
    (v : Value) (n : Nat) (xs : List Value) (hs : a.eval s = v) (hown : w.ownsRow base e size v n xs)
    (vs : Value) (m : Nat) (news : List Value) (hx : a.eval x = vs) (hsc : SC X w vs m news) (hl : news.length = m * size) (h1 : ∀ u ∈ news, u.oneCell' = true)
    (h63 : n + m ≤ maxLen) (hbytes : (n + m) * bytes ≤ 140737488355328) (hbase : base ≤ w.heap.size)
    (h : ∀ v' w', w'.ownsRow base e size v' (n + m) (xs ++ news) → w.grownBy w' v.ownBlock → K (a.put o.dst v') w') : o.wp P a w K Q := by
  rcases hsc with ⟨rfl, rfl, rfl⟩ | ⟨b, off, c, rfl, _, _, _, _, hr⟩
  · have hrun := run_append_owned_none (P := P) (w := w) base t o.type e i size ht hi v n xs hown
    have hk := h v w (by simpa using hown) ⟨rfl, rfl, rfl, Nat.le_refl _, fun _ _ _ => rfl⟩
    unfold Oper.wp
    simp [execOp, ho, resolve, invoke, builtin, hs, hx, hrun, Result.andThen]
    exact hk
  · exact wp_append_own w s x t ho base e i z size bytes ht hi hz hsize hby hzs hsz v n xs hs hown ⟨b, off, none⟩ m c news hx hl (fun j u hu => by rw [Addr.add_mid]; exact hr j u hu) h1 h63 hbytes hbase
      fun v' w' a1 a2 _ => h v' w' a1 a2

theorem wpList_append_sc {X : Nat → Prop} {w : World} {ops : Array Oper} {rest : List Oper} {o : Oper} {a : Act} {Q : Exit → Act → World → Prop} (hgd : o.guard = none) (s x : Operand) (t : TypeId)
    (ho : o.op = .call { callee := .builtin .append, args := #[s, x], argTypes := #[t, t] })
    (base : Nat) (e : TypeId) (i : TypeInfo) (z : Value) (size bytes : Nat) (ht : P.underlying t = some (.slice e)) (hi : P.info? e = some i) (hz : i.zero = some z)
    (hsize : i.size = size) (hby : i.bytes = bytes) (hzs : z.cells.size = size) (hsz : 0 < size)
    (v : Value) (n : Nat) (xs : List Value) (hs : a.eval s = v) (hown : w.ownsRow base e size v n xs)
    (vs : Value) (m : Nat) (news : List Value) (hx : a.eval x = vs) (hsc : SC X w vs m news) (hl : news.length = m * size) (h1 : ∀ u ∈ news, u.oneCell' = true)
    (h63 : n + m ≤ maxLen) (hbytes : (n + m) * bytes ≤ 140737488355328) (hbase : base ≤ w.heap.size)
    (h : ∀ v' w', w'.ownsRow base e size v' (n + m) (xs ++ news) → w.grownBy w' v.ownBlock → wpList P ops Q rest (a.put o.dst v') w') : wpList P ops Q (o :: rest) a w :=
  wpList_plain hgd fun _ hK => wp_append_sc s x t ho base e i z size bytes ht hi hz hsize hby hzs hsz v n xs hs hown vs m news hx hsc hl h1 h63 hbytes hbase fun v' w' a1 a2 => hK _ _ (h v' w' a1 a2)

/-- An empty literal is the call's own. -/
theorem own_empty (w : World) (base : Nat) (e : TypeId) (size : Nat) (hb : base ≤ w.heap.size) : (w.alloc (.cells #[] e)).ownsRow base e size (.slice (some ⟨w.heap.size, 0, none⟩) 0 0) 0 [] :=
  ⟨by simp, .inr ⟨w.heap.size, 0, #[], rfl, hb, heap_alloc_new _ _, Nat.le_refl _, by decide, by simp, by simp⟩⟩

theorem own_empty_at (w : World) (base : Nat) (e : TypeId) (size g : Nat) (hb : base ≤ w.heap.size) (hg : g = w.heap.size) : (w.alloc (.cells #[] e)).ownsRow base e size (.slice (some ⟨g, 0, none⟩) 0 0) 0 [] := by
  subst hg; exact own_empty w base e size hb

theorem size_alloc (w : World) (o : Obj) : (w.alloc o).heap.size = w.heap.size + 1 := by simp
theorem heap_at (w : World) (o : Obj) (n : Nat) (h : n = w.heap.size) : (w.alloc o).heap[n]? = some o := by subst h; exact heap_alloc_new w o
theorem heap_past (w : World) (o : Obj) (n : Nat) (h : n < w.heap.size) : (w.alloc o).heap[n]? = w.heap[n]? := Below.heap_alloc w o n h
/-- A block that is known whole: its cells, and that they may be written. -/
theorem box_cells {w : World} {g : Nat} {cs : Array Value} {t : TypeId} (h : w.heap[g]? = some (.cells cs t (0, 0))) : ∀ i, w.cell? ⟨g, i, none⟩ = cs[i]? := fun i => cell_of_row w g i cs t (0, 0) h
theorem box_frozen {w : World} {g : Nat} {cs : Array Value} {t : TypeId} (h : w.heap[g]? = some (.cells cs t (0, 0))) : ∀ i, w.frozen? ⟨g, i, none⟩ = false := fun i => frozen_of_row w g i cs t h

theorem own_ptr {w : World} {base : Nat} {e : TypeId} {size : Nat} {v : Value} {n : Nat} {xs : List Value} (h : w.ownsRow base e size v n xs) (hn : 0 < n) :
    ∃ g cap cur, v = .slice (some ⟨g, 0, none⟩) n cap ∧ base ≤ g ∧ g < w.heap.size ∧ w.heap[g]? = some (.cells cur e (0, 0)) ∧ n ≤ cap ∧ cap ≤ maxLen ∧ cur.size = cap * size ∧ cur.toList.take (n * size) = xs := by
  rcases h.2 with ⟨_, h0⟩ | ⟨g, cap, cur, hv, hb, hg, h1, h2, h3, h4⟩
  · omega
  · exact ⟨g, cap, cur, hv, hb, (Array.getElem?_eq_some_iff.1 hg).1, hg, h1, h2, h3, h4⟩

/-- What the call owns reads as a slice. -/
theorem own_sc {X : Nat → Prop} {w : World} {base : Nat} {e : TypeId} {size : Nat} {v : Value} {n : Nat} {xs : List Value} (h : w.ownsRow base e size v n xs) (hsz : 0 < size) (hX : ∀ b, base ≤ b → ¬ X b) : SC X w v n xs := by
  rcases h.2 with ⟨hv, h0⟩ | ⟨g, cap, cur, hv, hb, hg, h1, h2, h3, h4⟩
  · have hl := h.1
    rw [h0, Nat.zero_mul] at hl
    exact .inl ⟨hv, h0, List.eq_nil_of_length_eq_zero hl⟩
  · refine .inr ⟨g, 0, cap, hv, hX g hb, (Array.getElem?_eq_some_iff.1 hg).1, h1, h2, fun i u hu => ?_⟩
    have hlt : i < xs.length := (List.getElem?_eq_some_iff.1 hu).1
    rw [h.1] at hlt
    rw [← h4, List.getElem?_take_of_lt hlt] at hu
    rw [cell_of_row w g _ cur e (0, 0) hg, Nat.zero_add]
    simpa using hu

theorem heap_setCells (g : Nat) : ∀ (vs : List Value) (o : Nat) (w : World) (k : Nat), k ≠ g → (w.setCells g o vs).heap[k]? = w.heap[k]?
  | [], _, _, _, _ => rfl
  | v :: r, o, w, k, h => by
    rw [World.setCells, heap_setCells g r (o + 1) _ k h, Below.heap_setCell _ _ _ _ h]
theorem size_setCells (g : Nat) : ∀ (vs : List Value) (o : Nat) (w : World), (w.setCells g o vs).heap.size = w.heap.size
  | [], _, _ => rfl
  | v :: r, o, w => by
    rw [World.setCells, size_setCells g r (o + 1) _]; simp [World.setCell]
theorem streams_setCells (g : Nat) : ∀ (vs : List Value) (o : Nat) (w : World), (w.setCells g o vs).os = w.os ∧ (w.setCells g o vs).tape = w.tape ∧ (w.setCells g o vs).output = w.output
  | [], _, _ => ⟨rfl, rfl, rfl⟩
  | v :: r, o, w => streams_setCells g r (o + 1) _

theorem below_setCells {B : Nat} {a w : World} (h : Below B a w) {g : Nat} (hg : B ≤ g) (o : Nat) (vs : List Value) : Below B a (w.setCells g o vs) :=
  h.trans ⟨(streams_setCells g vs o w).1, (streams_setCells g vs o w).2.1, (streams_setCells g vs o w).2.2, by rw [size_setCells]; exact Nat.le_refl _, fun k hk => heap_setCells g vs o w k (by omega)⟩
theorem Off.setCells {X : Nat → Prop} {a w : World} (h : Off X a w) {g : Nat} (hg : X g ∨ a.heap.size ≤ g) (o : Nat) (vs : List Value) : Off X a (w.setCells g o vs) :=
  ⟨by rw [size_setCells]; exact h.size, fun i hi hx => by
    have hne : i ≠ g := fun e => by
      rcases hg with hg | hg
      · exact hx (e ▸ hg)
      · omega
    rw [heap_setCells g vs o w i hne]
    exact h.block i hi hx⟩
theorem Off.grown {X : Nat → Prop} {a w w' : World} {row : Option Nat} (h : Off X a w) (k : w.grownBy w' row) (hr : ∀ g, row = some g → X g ∨ a.heap.size ≤ g) : Off X a w' :=
  ⟨Nat.le_trans h.size k.size, fun i hi hx => by
    rw [k.block i (Nat.lt_of_lt_of_le hi h.size) (fun e => by
      rcases hr i e.symm with c | c
      · exact hx c
      · omega)]
    exact h.block i hi hx⟩

theorem Off.setCellAt {X : Nat → Prop} {a w : World} (h : Off X a w) {g o : Nat} (hg : X g ∨ a.heap.size ≤ g) (u : Value) : Off X a (w.setCell ⟨g, o, none⟩ u) := h.setCell hg u
theorem below_setCellAt {B : Nat} {a w : World} (h : Below B a w) {g o : Nat} (hg : B ≤ g) (u : Value) : Below B a (w.setCell ⟨g, o, none⟩ u) := h.setCell hg u
theorem own_setCellAt {w : World} {base : Nat} {e : TypeId} {size : Nat} {v : Value} {n : Nat} {xs : List Value} (h : w.ownsRow base e size v n xs) {g o : Nat} (hg : g < base) (u : Value) : (w.setCell ⟨g, o, none⟩ u).ownsRow base e size v n xs :=
  ownsRow_setCell_below h hg u

/-- The block behind a store into its middle. -/
theorem heap_setCells_same (g : Nat) (e : TypeId) : ∀ (vs : List Value) (o : Nat) (w : World) (cur : Array Value), w.heap[g]? = some (.cells cur e (0, 0)) → o + vs.length ≤ cur.size →
    ∃ cur', (w.setCells g o vs).heap[g]? = some (.cells cur' e (0, 0)) ∧ cur'.toList = cur.toList.take o ++ (vs ++ cur.toList.drop (o + vs.length))
  | [], o, w, cur, h, _ => ⟨cur, h, by simp⟩
  | v :: r, o, w, cur, h, hl => by
    have h1 := heap_setCell_same w g o cur e v h
    rw [List.length_cons] at hl
    obtain ⟨cur', h2, h3⟩ := heap_setCells_same g e r (o + 1) _ _ h1 (by simp; omega)
    refine ⟨cur', h2, ?_⟩
    rw [h3, Array.toList_setIfInBounds]
    have ho : o < cur.toList.length := by simp; omega
    rw [List.take_succ_eq_append_getElem (by simpa using ho), List.getElem_set_self, List.take_set_of_le (Nat.le_refl _), List.drop_set_of_lt (by omega), List.length_cons]
    simp [List.append_assoc, Nat.add_assoc, Nat.add_comm 1]

theorem take_mid (L c : List Value) (p s N : Nat) (hc : c.length = s) (h : p + s ≤ N) (hN : N ≤ L.length) :
    (L.take p ++ (c ++ L.drop (p + s))).take N = (L.take N).take p ++ (c ++ (L.take N).drop (p + s)) := by
  have a1 : (L.take p).length = p := by rw [List.length_take]; omega
  rw [List.take_append, a1, List.take_of_length_le (i := N) (l := L.take p) (by rw [a1]; omega), List.take_append, hc, List.take_of_length_le (i := N - p) (l := c) (by omega), List.take_take, Nat.min_eq_left (by omega), List.drop_take,
    show N - p - s = N - (p + s) by omega]

/-- One element of what the call owns is another one. -/
theorem own_set {w : World} {base : Nat} {e : TypeId} {size : Nat} {n : Nat} {xs : List Value} {g cap : Nat} (h : w.ownsRow base e size (.slice (some ⟨g, 0, none⟩) n cap) n xs) (i : Nat) (hi : i < n) (c : List Value) (hc : c.length = size) :
    (w.setCells g (i * size) c).ownsRow base e size (.slice (some ⟨g, 0, none⟩) n cap) n (xs.take (i * size) ++ (c ++ xs.drop (i * size + size))) := by
  obtain ⟨g', cap', cur, hv, hb, _, hg, h1, h2, h3, h4⟩ := own_ptr h (by omega)
  simp only [Value.slice.injEq, Option.some.injEq, Addr.mk.injEq, true_and, and_true] at hv
  obtain ⟨rfl, rfl⟩ := hv
  have hle : (i + 1) * size ≤ n * size := Nat.mul_le_mul_right _ hi
  rw [Nat.add_mul, Nat.one_mul] at hle
  have hcap : n * size ≤ cap * size := Nat.mul_le_mul_right _ h1
  obtain ⟨cur', h5, h6⟩ := heap_setCells_same g e c (i * size) w cur hg (by rw [hc, h3]; omega)
  have hx : xs.length = n * size := h.1
  refine ⟨?_, .inr ⟨g, cap, cur', rfl, hb, h5, h1, h2, ?_, ?_⟩⟩
  · simp only [List.length_append, List.length_take, List.length_drop, hc, hx]; omega
  · rw [← Array.length_toList, h6]
    simp only [List.length_append, List.length_take, List.length_drop, hc, Array.length_toList, h3]; omega
  · rw [h6, ← h4, hc]
    exact take_mid cur.toList c _ _ _ hc hle (by rw [Array.length_toList, h3]; exact hcap)

theorem grown_cells {w w' : World} {g : Nat} (h : w.grownBy w' (some g)) : ∀ b o, b < w.heap.size → b ≠ g → w'.cell? ⟨b, o, none⟩ = w.cell? ⟨b, o, none⟩ := fun b o hb hne =>
  World.cell?_of_block (w := w) (a := ⟨b, o, none⟩) (h.block b hb (fun e => hne (Option.some.inj e)))
theorem grown_frozen {w w' : World} {g : Nat} (h : w.grownBy w' (some g)) : ∀ b o, b < w.heap.size → b ≠ g → w'.frozen? ⟨b, o, none⟩ = w.frozen? ⟨b, o, none⟩ := fun b o hb hne =>
  World.frozen?_of_block (w := w) (a := ⟨b, o, none⟩) (h.block b hb (fun e => hne (Option.some.inj e)))
theorem setCells_cells (w : World) (g i : Nat) (vs : List Value) : ∀ b o, b ≠ g → (w.setCells g i vs).cell? ⟨b, o, none⟩ = w.cell? ⟨b, o, none⟩ := fun b o hne =>
  World.cell?_of_block (w := w) (a := ⟨b, o, none⟩) (heap_setCells g vs i w b hne)
theorem setCells_frozen (w : World) (g i : Nat) (vs : List Value) : ∀ b o, (w.setCells g i vs).frozen? ⟨b, o, none⟩ = w.frozen? ⟨b, o, none⟩ := fun b o => World.frozen?_setCells g vs i w _

/-- An element's cells are there, and may be written. -/
theorem own_there {w : World} {base : Nat} {e : TypeId} {size : Nat} {n : Nat} {xs : List Value} {g cap : Nat} (h : w.ownsRow base e size (.slice (some ⟨g, 0, none⟩) n cap) n xs) (i : Nat) (hi : i < n) : w.there g (i * size) size := by
  obtain ⟨g', cap', cur, hv, hb, _, hg, h1, h2, h3, h4⟩ := own_ptr h (by omega)
  simp only [Value.slice.injEq, Option.some.injEq, Addr.mk.injEq, true_and, and_true] at hv
  obtain ⟨rfl, rfl⟩ := hv
  have hle : (i + 1) * size ≤ n * size := Nat.mul_le_mul_right _ hi
  rw [Nat.add_mul, Nat.one_mul] at hle
  have hcap : n * size ≤ cap * size := Nat.mul_le_mul_right _ h1
  intro j hj
  refine ⟨?_, frozen_of_row w g _ cur e hg⟩
  rw [cell_of_row w g _ cur e (0, 0) hg]
  have : i * size + j < cur.size := by omega
  simp [this]

end
end Go.Proofs.YtjeiopkfdgllhaaGreat.Hz
