/- A region that draws its order, walked along one order: what only reads or reckons is taken as soon as it may come up; the other operations come up one by one. S is what all worlds meet, as long as something is left that reads. -/
import Derived.OrdersHeld
import Derived.RegionTactic
import Derived.Deep.RegionHeld3
import Derived.Laws.AppendOwn
namespace Go.Proofs.YtjeiopkfdgllhaaGreat.Hz
open Go

section
variable {P : Program} {ops : Array Oper} {Q : Exit → Act → World → Prop} {md : Region.Mode} {S : World → Prop} {H : Nat → Bool}

/-- Whatever order is picked from here on; behind each operation of H, S holds. -/
def wpAnyG (P : Program) (md : Region.Mode) (ops : Array Oper) (Q : Exit → Act → World → Prop) (S : World → Prop) (H : Nat → Bool) : Nat → Array Bool → Act → World → Prop
  | 0, listed, a, w => Region.ready md ops listed = [] ∧ Q .normal a w
  | fuel + 1, listed, a, w =>
    (Region.ready md ops listed = [] → Q .normal a w) ∧
    ∀ i ∈ Region.ready md ops listed, wpOp P ops Q i (fun a' w' => (H i = true → S w → S w') ∧ wpAnyG P md ops Q S H fuel (listed.setIfInBounds i true) a' w') a w

theorem wpAny_of_G : ∀ (fuel : Nat) (listed : Array Bool) (a : Act) (w : World), wpAnyG P md ops Q S H fuel listed a w → wpAny P md ops Q fuel listed a w
  | 0, _, _, _, h => h
  | fuel + 1, _, _, _, h => ⟨h.1, fun i hi => wpOp_mono (fun a' w' h' => wpAny_of_G fuel _ a' w' h'.2) (h.2 i hi)⟩

theorem not_ready {i j : Nat} {listed : Array Bool} (hi : listed.getD i true = false) (hj : j ∈ Region.ready md ops listed) {oj : Oper} (hoj : ops[j]? = some oj) : ∀ e ∈ oj.after, Region.binds md e = true → e.on ≠ i := fun e he hb heq => by
  obtain ⟨_, o, ho, hall⟩ := mem_ready.1 hj
  obtain rfl : o = oj := Option.some.inj (ho.symm.trans hoj)
  have h1 := hall e he hb
  rw [heq] at h1
  rcases Nat.lt_or_ge i listed.size with h' | h'
  · simp [h'] at hi h1; rw [hi] at h1; cases h1
  · simp [Array.getElem?_eq_none h'] at h1

/-- An operation that reads (S1 is S) or reckons (S1 says nothing) may be taken first, if each other one waits for it, or keeps S1. -/
theorem wpAnyG_first {S1 : World → Prop} {i : Nat} {oi : Oper} {v : Value} (hi : ops[i]? = some oi) (hsel : ∀ (j : Nat) (o : Oper) cs b, ops[j]? = some o → o.op ≠ .select cs b)
    (hQ : ∀ c a w, Q (.panic c) (a.put oi.dst v) w → Q (.panic c) a w)
    (hH : ∀ j oj, ops[j]? = some oj → j ≠ i → (∃ e ∈ oj.after, Region.binds md e = true ∧ e.on = i) ∨ (∀ w w', (H j = true → S w → S w') → S1 w → S1 w')) :
    ∀ (fuel : Nat) (listed : Array Bool) (a : Act) (w : World),
      (∀ j oj, ops[j]? = some oj → j ≠ i → listed.getD j true = false → (∀ e ∈ oj.after, Region.binds md e = true → e.on ≠ i) → oi.apart ops oj = true) →
      i ∈ Region.ready md ops listed → YieldsIf P ops S1 oi v a → S1 w →
      wpAnyG P md ops Q S H fuel (listed.setIfInBounds i true) (a.put oi.dst v) w → wpAnyG P md ops Q S H (fuel + 1) listed a w := by
  intro fuel
  induction fuel with
  | zero =>
    intro listed a w _ hr hy hS h
    refine ⟨fun h0 => (by rw [h0] at hr; cases hr), fun j hj => ?_⟩
    by_cases hji : j = i
    · subst hji; exact hy.wpOp hi hS ⟨fun _ h => h, h⟩
    · have := ready_mono hj hji
      rw [h.1] at this
      cases this
  | succ fuel ih =>
    intro listed a w hfree hr hy hS h
    refine ⟨fun h0 => (by rw [h0] at hr; cases hr), fun j hj => ?_⟩
    by_cases hji : j = i
    · subst hji; exact hy.wpOp hi hS ⟨fun _ h => h, h⟩
    · have h1 := h.2 j (ready_mono hj hji)
      obtain ⟨hjun, oj, hoj, _⟩ := mem_ready.1 hj
      have hnot := not_ready (mem_ready.1 hr).1 hj hoj
      have hHj : ∀ w', (H j = true → S w → S w') → S1 w' := by
        rcases hH j oj hoj hji with ⟨e, he, hb2, hon⟩ | hk
        · exact absurd hon (hnot e he hb2)
        · exact fun w' hw' => hk w w' hw' hS
      have h2 := wpOp_putIf hoj (hfree j oj hoj hji hjun hnot) (fun cs b => hsel i oi cs b hi) (fun cs b => hsel j oj cs b hoj) hQ hy h1
      have hfree' : ∀ k ok, ops[k]? = some ok → k ≠ i → (listed.setIfInBounds j true).getD k true = false →
          (∀ e ∈ ok.after, Region.binds md e = true → e.on ≠ i) → oi.apart ops ok = true := fun k ok hk hki hun hno => by
        refine hfree k ok hk hki ?_ hno
        by_cases hjk : j = k
        · subst hjk; exact hjun
        · rw [getD_set_ne true hjk] at hun; exact hun
      refine wpOp_mono (fun a' w' h3 => ⟨h3.2.1, ih (listed.setIfInBounds j true) a' w' hfree' (ready_mono hr (Ne.symm hji)) h3.1 (hHj w' h3.2.1) ?_⟩) h2
      rw [Array.setIfInBounds_comm _ _ hji]
      exact h3.2.2

/-- The walk along one order: T tells what an operation is: 1: it reads; 2: it reckons; else: another one. -/
def wpAlong (P : Program) (ops : Array Oper) (Q : Exit → Act → World → Prop) (S : World → Prop) (T : Nat → Nat) (H : Nat → Bool) : List Nat → Act → World → Prop
  | [], a, w => Q .normal a w
  | i :: r, a, w =>
    if T i = 1 then ∃ o v, ops[i]? = some o ∧ YieldsIf P ops S o v a ∧ S w ∧ wpAlong P ops Q S T H r (a.put o.dst v) w
    else if T i = 2 then ∃ o v, ops[i]? = some o ∧ YieldsIf P ops (fun _ => True) o v a ∧ wpAlong P ops Q S T H r (a.put o.dst v) w
    else wpOp P ops Q i (fun a' w' => (H i = true → S w → S w') ∧ wpAlong P ops Q S T H r a' w') a w

/-- Does this order serve? For the kernel. -/
def alongOk (md : Region.Mode) (ops : Array Oper) (T : Nat → Nat) (H : Nat → Bool) : List Nat → Array Bool → Bool
  | [], listed => Region.ready md ops listed == []
  | i :: r, listed =>
    (if T i == 1 || T i == 2 then Region.free md ops listed i && (Region.ready md ops listed).contains i &&
        (T i == 2 || (List.range ops.size).all (fun j => j == i || H j || match ops[j]? with | some oj => oj.after.any (fun e => Region.binds md e && e.on == i) | none => true))
      else Region.ready md ops listed == [i]) && alongOk md ops T H r (listed.setIfInBounds i true)

theorem wpAnyG_along {T : Nat → Nat} (hs : Region.noSelect ops = true) (hQ : ∀ c (a : Act) d v w, Q (.panic c) (a.put d v) w → Q (.panic c) a w) :
    ∀ (ord : List Nat) (listed : Array Bool) (a : Act) (w : World), alongOk md ops T H ord listed = true → wpAlong P ops Q S T H ord a w → wpAnyG P md ops Q S H ord.length listed a w
  | [], listed, a, w, hok, h => ⟨by simpa [alongOk] using hok, h⟩
  | i :: r, listed, a, w, hok, h => by
    simp only [alongOk, Bool.and_eq_true] at hok
    obtain ⟨h1, h2⟩ := hok
    by_cases ht : T i = 1
    · rw [if_pos (by simp [ht])] at h1
      simp only [Bool.and_eq_true, List.contains_iff_mem, ht, show ((1 : Nat) == 2) = false from rfl, Bool.false_or, List.all_eq_true] at h1
      obtain ⟨⟨hf, hr⟩, hH⟩ := h1
      simp only [wpAlong, if_pos ht] at h
      obtain ⟨o, v, ho, hy, hS, h⟩ := h
      refine wpAnyG_first ho (Region.noSelect_spec hs) (fun c a w => hQ c a o.dst v w) ?_ r.length listed a w (Region.free_spec ho hf) hr hy hS (wpAnyG_along hs hQ r _ _ _ h2 h)
      intro j oj hj hji
      have h3 := hH j (List.mem_range.2 (Array.getElem?_eq_some_iff.1 hj).1)
      simp only [hj, Bool.or_eq_true, beq_iff_eq, hji, false_or] at h3
      rcases h3 with h3 | h3
      · exact .inr fun w w' hk hw => hk h3 hw
      · obtain ⟨e, he, hb⟩ := Array.any_eq_true'.1 h3
        simp only [Bool.and_eq_true, beq_iff_eq] at hb
        exact .inl ⟨e, he, hb.1, hb.2⟩
    · by_cases ht2 : T i = 2
      · rw [if_pos (by simp [ht2])] at h1
        simp only [Bool.and_eq_true, List.contains_iff_mem] at h1
        obtain ⟨⟨hf, hr⟩, _⟩ := h1
        simp only [wpAlong, if_neg ht, if_pos ht2] at h
        obtain ⟨o, v, ho, hy, h⟩ := h
        exact wpAnyG_first ho (Region.noSelect_spec hs) (fun c a w => hQ c a o.dst v w) (fun _ _ _ _ => .inr fun _ _ _ _ => trivial) r.length listed a w (Region.free_spec ho hf) hr hy trivial (wpAnyG_along hs hQ r _ _ _ h2 h)
      · rw [if_neg (by simp [ht, ht2])] at h1
        simp only [wpAlong, if_neg ht, if_neg ht2] at h
        have hr : Region.ready md ops listed = [i] := by simpa using h1
        refine ⟨fun h0 => (by rw [hr] at h0; cases h0), fun j hj => ?_⟩
        rw [hr] at hj
        obtain rfl : j = i := by simpa using hj
        exact wpOp_mono (fun a' w' h3 => ⟨h3.1, wpAnyG_along hs hQ r _ _ _ h2 h3.2⟩) h

/-- A region that draws, along one order. -/
theorem wp_region_along {id : Nat} {a : Act} {w : World} (T : Nat → Nat) (H : Nat → Bool) (S : World → Prop) (ord : List Nat) (hm : P.follows .mixedOrders = true) (hs : Region.noSelect ops = true)
    (hok : alongOk .any ops T H ord (Array.replicate ops.size false) = true) (hlen : ord.length = ops.size)
    (hQ : ∀ c (a : Act) d v w, Q (.panic c) (a.put d v) w → Q (.panic c) a w)
    (h : wpAlong P ops Q S T H ord a w.drew) : (Code.region id ops true).wp P Q a w := by
  refine wp_region_any hm (wpAny_of_G (S := S) (H := H) _ _ _ _ ?_)
  have h2 := wpAnyG_along hs hQ ord _ _ _ hok h
  rw [hlen] at h2
  exact h2

/-- What stood in the first world stands in the second. -/
def Agree (w w' : World) : Prop := ∀ b, b < w.heap.size → w'.heap[b]? = w.heap[b]?
theorem Agree.drew (w : World) : Agree w w.drew := fun _ _ => rfl
theorem Agree.cell {w w' : World} (h : Agree w w') : ∀ b o, b < w.heap.size → w'.cell? ⟨b, o, none⟩ = w.cell? ⟨b, o, none⟩ := fun b o hb => World.cell?_of_block (w := w) (a := ⟨b, o, none⟩) (h b hb)
theorem Agree.frozen {w w' : World} (h : Agree w w') : ∀ b o, b < w.heap.size → w'.frozen? ⟨b, o, none⟩ = w.frozen? ⟨b, o, none⟩ := fun b o hb => World.frozen?_of_block (w := w) (a := ⟨b, o, none⟩) (h b hb)

/-- A region that draws, along one order, while what stood at its beginning stands. -/
theorem wp_region_agree {id : Nat} {a : Act} {w : World} (T : Nat → Nat) (H : Nat → Bool) (ord : List Nat) (hm : P.follows .mixedOrders = true) (hs : Region.noSelect ops = true)
    (hok : alongOk .any ops T H ord (Array.replicate ops.size false) = true) (hlen : ord.length = ops.size)
    (hQ : ∀ c (a : Act) d v w, Q (.panic c) (a.put d v) w → Q (.panic c) a w)
    (h : wpAlong P ops Q (Agree w) T H ord a w.drew) : (Code.region id ops true).wp P Q a w := wp_region_along T H (Agree w) ord hm hs hok hlen hQ h

/-- One that reads. -/
theorem along_take {T : Nat → Nat} {i : Nat} {r : List Nat} {a : Act} {w : World} (o : Oper) (v : Value) (d : Option Tmp) (ht : T i = 1) (ho : ops[i]? = some o) (hd : o.dst = d) (hw : Region.wanted o (yielded ops a.tmps) = true)
    (hy : ∀ w, S w → (execOp a.eval o).run P w = .ok (.value v) w) (hS : S w) (h : wpAlong P ops Q S T H r (a.put d v) w) : wpAlong P ops Q S T H (i :: r) a w := by
  simp only [wpAlong, if_pos ht]
  subst hd
  exact ⟨o, v, ho, .inl ⟨hw, hy⟩, hS, h⟩

/-- One that reckons. -/
theorem along_reck {T : Nat → Nat} {i : Nat} {r : List Nat} {a : Act} {w : World} (o : Oper) (v : Value) (d : Option Tmp) (ht : T i = 2) (ho : ops[i]? = some o) (hd : o.dst = d) (hw : Region.wanted o (yielded ops a.tmps) = true)
    (hy : ∀ w, (execOp a.eval o).run P w = .ok (.value v) w) (h : wpAlong P ops Q S T H r (a.put d v) w) : wpAlong P ops Q S T H (i :: r) a w := by
  have ht' : ¬ T i = 1 := by rw [ht]; decide
  simp only [wpAlong, if_neg ht', if_pos ht]
  subst hd
  exact ⟨o, v, ho, .inl ⟨hw, fun w _ => hy w⟩, h⟩

/-- Another one; behind it S, if it is of H and S was there. -/
theorem along_step {T : Nat → Nat} {i : Nat} {r : List Nat} {a : Act} {w : World} (o : Oper) (ht : T i = 0) (ho : ops[i]? = some o) (hw : Region.wanted o (yielded ops a.tmps) = true)
    (h : ∀ K : Act → World → Prop, (∀ a w', (H i = true → S w → S w') ∧ wpAlong P ops Q S T H r a w' → K a w') → Oper.wp P o a w K Q) : wpAlong P ops Q S T H (i :: r) a w := by
  have ht' : ¬ T i = 1 := by rw [ht]; decide
  have ht2 : ¬ T i = 2 := by rw [ht]; decide
  simp only [wpAlong, if_neg ht', if_neg ht2]
  refine wpOp_step ho fun K hK => ?_
  rw [if_pos hw]
  exact h K hK

theorem along_done {T : Nat → Nat} {a : Act} {w : World} (h : Q .normal a w) : wpAlong P ops Q S T H [] a w := h

end
end Go.Proofs.YtjeiopkfdgllhaaGreat.Hz
