/- More laws of the walk: a store into a block that is known whole, and a world that is put under a name. -/
import Derived.Test.YtjeiopkfdgllhaaGreatLaws
import Derived.Test.YtjeiopkfdgllhaaGreatAny
namespace Go.Proofs.YtjeiopkfdgllhaaGreat.Hz
open Go Go.RowKit

section
variable {P : Program}

/-- The world at hand, under a name, with what is known of it. -/
theorem name_world {c : Code} {Q : Exit → Act → World → Prop} {a : Act} {w : World} (S : World → Prop) (h : S w) (k : ∀ w2, S w2 → c.wp P Q a w2) : c.wp P Q a w := k w h
theorem name_world_list {ops : Array Oper} {rest : List Oper} {Q : Exit → Act → World → Prop} {a : Act} {w : World} (S : World → Prop) (h : S w) (k : ∀ w2, S w2 → wpList P ops Q rest a w2) : wpList P ops Q rest a w := k w h

/-- Nothing is changed but in block g. -/
structure Only (g : Nat) (w w' : World) : Prop where
  os : w'.os = w.os
  tape : w'.tape = w.tape
  output : w'.output = w.output
  size : w'.heap.size = w.heap.size
  block : ∀ k, k ≠ g → w'.heap[k]? = w.heap[k]?

theorem Only.setCells (w : World) (g o : Nat) (vs : List Value) : Only g w (w.setCells g o vs) :=
  ⟨(streams_setCells g vs o w).1, (streams_setCells g vs o w).2.1, (streams_setCells g vs o w).2.2, size_setCells g vs o w, fun k hk => heap_setCells g vs o w k hk⟩
theorem Off.only {X : Nat → Prop} {a w w' : World} (h : Off X a w) {g : Nat} (k : Only g w w') (hg : X g ∨ a.heap.size ≤ g) : Off X a w' :=
  ⟨by rw [k.size]; exact h.size, fun i hi hx => by
    have hne : i ≠ g := fun e => by
      rcases hg with hg | hg
      · exact hx (e ▸ hg)
      · omega
    rw [k.block i hne]
    exact h.block i hi hx⟩
theorem below_only {B : Nat} {a w w' : World} (h : Below B a w) {g : Nat} (k : Only g w w') (hg : B ≤ g) : Below B a w' :=
  h.trans ⟨k.os, k.tape, k.output, by rw [k.size]; exact Nat.le_refl _, fun i hi => k.block i (by omega)⟩
theorem own_only {w w' : World} {base : Nat} {e : TypeId} {size : Nat} {v : Value} {n : Nat} {xs : List Value} (h : w.ownsRow base e size v n xs) {g : Nat} (k : Only g w w') (hg : g < base) : w'.ownsRow base e size v n xs := by
  obtain ⟨h1, h2⟩ := h
  refine ⟨h1, ?_⟩
  rcases h2 with h2 | ⟨b, cap, cur, e1, e2, e3, e4⟩
  · exact .inl h2
  · exact .inr ⟨b, cap, cur, e1, e2, by rw [k.block b (by omega)]; exact e3, e4⟩

/-- What a block holds behind a store into its middle. -/
def spliced (cs : Array Value) (o : Nat) (vs : List Value) : Array Value := (cs.toList.take o ++ (vs ++ cs.toList.drop (o + vs.length))).toArray
theorem box_store {w : World} {g : Nat} {cs : Array Value} {t : TypeId} (h : w.heap[g]? = some (.cells cs t (0, 0))) (o : Nat) (vs : List Value) (hl : o + vs.length ≤ cs.size) :
    (w.setCells g o vs).heap[g]? = some (.cells (spliced cs o vs) t (0, 0)) := by
  obtain ⟨cur', h1, h2⟩ := heap_setCells_same g t vs o w cs h hl
  rw [h1]
  congr 2
  apply Array.ext'
  rw [h2]; rfl
theorem box_there {w : World} {g : Nat} {cs : Array Value} {t : TypeId} (h : w.heap[g]? = some (.cells cs t (0, 0))) (o n : Nat) (hl : o + n ≤ cs.size) : w.there g o n := fun j hj => by
  refine ⟨?_, frozen_of_row w g _ cs t h⟩
  rw [cell_of_row w g _ cs t (0, 0) h]
  have : o + j < cs.size := by omega
  simp [this]

/-- A struct is stored into a block that is known whole. -/
theorem wp_store_agg {op : Oper} {a : Act} {w : World} {K : Act → World → Prop} {Q : Exit → Act → World → Prop} (ty : TypeId) (x y : Operand) (ho : op.op = .store ty x y)
    (g o : Nat) (cells cs new : Array Value) (t : TypeId) (hx : a.eval x = .pointer (some ⟨g, o, none⟩)) (hy : a.eval y = .agg cells) (hB : w.heap[g]? = some (.cells cs t (0, 0)))
    (hl : o + cells.size ≤ cs.size) (hi : (P.info? ty).map (·.size) = some cells.size) (h1 : cells.all (·.oneCell') = true) (hn : spliced cs o cells.toList = new)
    (h : ∀ w', w'.heap[g]? = some (.cells new t (0, 0)) → Only g w w' → K (a.put op.dst undef) w') : op.wp P a w K Q :=
  wp_store_mid ty x y ho g o cells hx hy (box_there hB o cells.size hl) hi h1 (h _ (by rw [← hn]; exact box_store hB o cells.toList (by simpa using hl)) (Only.setCells w g o _))

/-- One cell is stored into a block that is known whole. -/
theorem wp_store_cell {op : Oper} {a : Act} {w : World} {K : Act → World → Prop} {Q : Exit → Act → World → Prop} (ty : TypeId) (x y : Operand) (ho : op.op = .store ty x y)
    (g o : Nat) (v : Value) (cs new : Array Value) (t : TypeId) (hx : a.eval x = .pointer (some ⟨g, o, none⟩)) (hy : a.eval y = v) (hB : w.heap[g]? = some (.cells cs t (0, 0)))
    (hl : o + 1 ≤ cs.size) (hi : (P.info? ty).map (·.size) = some 1) (h1 : v.oneCell' = true) (hn : spliced cs o [v] = new)
    (h : ∀ w', w'.heap[g]? = some (.cells new t (0, 0)) → Only g w w' → K (a.put op.dst undef) w') : op.wp P a w K Q := by
  have ht := box_there hB o 1 hl
  have hc : v.cells = #[v] := by cases v <;> first | rfl | (simp [Value.oneCell'] at h1)
  have hk := h (w.setCells g o [v]) (by rw [← hn]; exact box_store hB o [v] hl) (Only.setCells w g o [v])
  have hst := run_storeCells_cells (P := P) g o [v] 0 w (fun j hj => by simpa using (ht j (by simpa using hj)).1) (fun j hj => by simpa using (ht j (by simpa using hj)).2) (fun u hu => by rw [List.mem_singleton.1 hu]; exact h1)
  have hrun : (storeVar ty ⟨g, o, none⟩ v).run P w = Result.ok () (w.setCells g o [v]) := by
    cases hq : P.info? ty with
    | none => simp [hq] at hi
    | some i =>
      have hs : i.size = 1 := by simpa [hq] using hi
      simp only [Nat.add_zero] at hst
      simp [storeVar, sizeOf, typeInfo, hq, hc, hs, hst]
  unfold Oper.wp execOp
  simp only [ho, hx, hy, Instr.storeAt, Instr.sureAddr, Sem.run_bind, Sem.run_pure, Result.andThen_ok, hrun]
  exact hk

end
end Go.Proofs.YtjeiopkfdgllhaaGreat.Hz
