/- AllocParts. -/
import Derived.Test.YtjeiopkfdgllhaaV20
set_option linter.unusedSimpArgs false
set_option linter.unusedVariables false
namespace Go.Proofs.Ytjeiopkfdgllhaa.V
open Go Go.RowKit Go.Proofs.Ytjeiopkfdgllhaa.Hz
set_option maxRecDepth 100000

/-! ### What is right and small -/
theorem may_is {s : Sy} {k : Int} (h : mayS s k = true) : SmallS s k ∧ RightS s := by
  unfold mayS at h
  rw [Bool.and_eq_true] at h
  exact ⟨smallS_is h.1, rightS_is h.2⟩
theorem cAt_nat {l : List Cor} {c : Cor} (h : c ∈ l) : ∃ j : Nat, j < l.length ∧ cAt l j = c := by
  obtain ⟨j, hj, e⟩ := List.getElem_of_mem h
  refine ⟨j, hj, ?_⟩
  unfold cAt
  rw [Int.toNat_natCast, List.getD_eq_getElem?_getD, List.getElem?_eq_getElem hj]
  exact e
theorem may_fin {s : Sy} {k : Int} (h : mayS s k = true) : Fin 200 s := by
  obtain ⟨⟨h1, h2, h3, h4⟩, ⟨r1, r2, r3, r4⟩⟩ := may_is h
  obtain ⟨m1, m2, m3, m4, m5⟩ := r1
  refine ⟨⟨m3, by omega⟩, by omega, fun c hc => ?_, h3⟩
  obtain ⟨j, hj, e⟩ := cAt_nat hc
  obtain ⟨q1, q2, q3⟩ := h4 j hj
  rw [e] at q1 q2 q3
  refine ⟨by omega, by omega, fun f hf => ?_⟩
  obtain ⟨i, hi, e2⟩ := List.getElem_of_mem hf
  have := q3 i hi
  have e3 : fAt c.1 i = f := by
    unfold fAt
    rw [Int.toNat_natCast, List.getD_eq_getElem?_getD, List.getElem?_eq_getElem hi]
    exact e2
  rw [e3] at this
  omega

/-! ### The parts -/
theorem placesN_mem (g : Li) (x : Int) : ∀ (k : Nat) (p : Int), p ∈ placesN g x k ↔ 0 ≤ p ∧ p < k ∧ nI g p = x
  | 0, p => by
    constructor
    · intro h; cases h
    · rintro ⟨h1, h2, _⟩; omega
  | k + 1, p => by
    have ih := placesN_mem g x k p
    unfold placesN
    by_cases c : nI g k = x
    · rw [if_pos c, List.mem_append, ih, List.mem_singleton]
      constructor
      · rintro (⟨h1, h2, h3⟩ | rfl)
        · exact ⟨h1, by omega, h3⟩
        · exact ⟨by omega, by omega, c⟩
      · rintro ⟨h1, h2, h3⟩
        by_cases e : p = k
        · exact .inr e
        · exact .inl ⟨h1, by omega, h3⟩
    · rw [if_neg c, ih]
      constructor
      · rintro ⟨h1, h2, h3⟩; exact ⟨h1, by omega, h3⟩
      · rintro ⟨h1, h2, h3⟩
        refine ⟨h1, ?_, h3⟩
        by_cases e : p = k
        · rw [e] at h3; exact absurd h3 c
        · omega
/-- Those from 1 on. -/
def places1 (g : Li) (x : Int) : Nat → Li
  | 0 => []
  | i + 1 => if i ≠ 0 ∧ nI g i = x then places1 g x i ++ [(i : Int)] else places1 g x i
theorem placesN_zero {g : Li} (h0 : nI g 0 = 0) : ∀ k : Nat, 1 ≤ k → placesN g 0 k = 0 :: places1 g 0 k
  | 0, h => by omega
  | k + 1, _ => by
    by_cases hk : k = 0
    · subst hk
      show (if nI g ((0 : Nat) : Int) = 0 then placesN g 0 0 ++ [((0 : Nat) : Int)] else placesN g 0 0) = 0 :: (if (0 : Nat) ≠ 0 ∧ _ then _ else [])
      rw [if_pos (show nI g ((0 : Nat) : Int) = 0 from h0), if_neg (fun h => h.1 rfl)]
      rfl
    · have ih := placesN_zero h0 k (by omega)
      show (if nI g k = 0 then placesN g 0 k ++ [(k : Int)] else placesN g 0 k) = 0 :: (if k ≠ 0 ∧ nI g k = 0 then places1 g 0 k ++ [(k : Int)] else places1 g 0 k)
      by_cases c : nI g k = 0
      · rw [if_pos c, if_pos ⟨hk, c⟩, ih]; rfl
      · rw [if_neg c, if_neg (fun h => c h.2), ih]
theorem places1_mem {g : Li} (h0 : nI g 0 = 0) (k : Nat) (hk : 1 ≤ k) (p : Int) (hp : 1 ≤ p) : p ∈ (placesN g 0 k).drop 1 ↔ p < k ∧ nI g p = 0 := by
  have h := placesN_mem g 0 k p
  rw [placesN_zero h0 k hk] at h ⊢
  show p ∈ places1 g 0 k ↔ _
  rw [List.mem_cons] at h
  constructor
  · intro hm
    have := h.1 (.inr hm)
    exact ⟨this.2.1, this.2.2⟩
  · rintro ⟨h1, h2⟩
    rcases h.2 ⟨by omega, h1, h2⟩ with e | e
    · omega
    · exact e
theorem places_sum (g : Li) : ∀ k : Nat, (∀ j : Nat, j < k → 0 ≤ nI g j ∧ nI g j ≤ 2) → (placesN g 0 k).length + (placesN g 1 k).length + (placesN g 2 k).length = k
  | 0, _ => rfl
  | k + 1, h => by
    have ih := places_sum g k fun j hj => h j (by omega)
    have hk := h k (by omega)
    have one : ∀ x, (placesN g x (k + 1)).length = (placesN g x k).length + (if nI g k = x then 1 else 0) := fun x => by
      show (if nI g k = x then placesN g x k ++ [(k : Int)] else placesN g x k).length = _
      by_cases c : nI g k = x
      · rw [if_pos c, if_pos c, List.length_append]; rfl
      · rw [if_neg c, if_neg c]; rfl
    rw [one, one, one]
    have h3 : nI g k = 0 ∨ nI g k = 1 ∨ nI g k = 2 := by omega
    rcases h3 with e | e | e <;> rw [e] <;> simp <;> omega

/-! ### A step turns at most one node -/
/-- One place at most is another one. -/
def oneSet (a b : Li) : Prop := b = a ∨ ∃ (q : Nat) (v : Int), b = List.set (α := Int) a q v
theorem turnM_one (m : Me) (p to : Int) : oneSet m.2.1 (turnM m p to).2.1 := by
  by_cases c : 1 ≤ p ∧ p < m.2.1.length ∧ turnB (nI m.2.1 p) to = true
  · rw [show turnM m p to = _ from if_pos c]; exact .inr ⟨_, _, rfl⟩
  · rw [show turnM m p to = _ from if_neg c]; exact .inl rfl
theorem storeM_G (m : Me) (p v : Int) : (storeM m p v).2.1 = m.2.1 := by
  unfold storeM; split <;> rfl
theorem casM_G (m : Me) (p a b : Int) : (casM m p a b).2.1 = m.2.1 := by
  unfold casM; split
  · exact storeM_G _ _ _
  · rfl
theorem setS_M (s : Sy) (k : Int) (f : Frm) : (setS s k f).1 = s.1 := by unfold setS; split <;> rfl
theorem backS_M (s : Sy) (k v e : Int) : (backS s k v e).1 = s.1 := by unfold backS; split <;> rfl
theorem callP_M (s : Sy) (k op a : Int) : (callP s k op a).1 = s.1 := by unfold callP; split <;> rfl
theorem logS_M (s : Sy) (k a b c v : Int) : (logS s k a b c v).1 = s.1 := (logS_cores s k a b c v).2
theorem scanF_one (s : Sy) (k op pc : Int) (r : R8) (l : Li) : oneSet s.1.2.1 (scanF s k op pc r l).1.2.1 := by
  have same : ∀ {a : Li}, oneSet a a := .inl rfl
  unfold scanF
  split
  · unfold popS
    split
    · unfold pop0
      split
      · rw [backS_M, logS_M]; exact same
      · rw [setS_M]; exact same
    split
    · rw [setS_M]; exact same
    split
    · unfold pop2
      cases casB s.1 0 r.1 with
      | true =>
        rw [cond_true, backS_M]
        have := turnM_one (casM s.1 0 r.1 (popN r)) (idxI r.1) 1
        rw [casM_G] at this
        exact this
      | false => rw [cond_false, setS_M]; show oneSet _ (casM _ _ _ _).2.1; rw [casM_G]; exact same
    · exact same
  split
  · unfold pushSt
    split
    · rw [setS_M]; exact same
    split
    · rw [setS_M]; show oneSet _ (storeM _ _ _).2.1; rw [storeM_G]; exact same
    split
    · unfold push2
      cases casB s.1 0 r.2.1 with
      | true =>
        rw [cond_true, backS_M]
        have := turnM_one (casM s.1 0 r.2.1 (pushN r)) r.1 0
        rw [casM_G] at this
        exact this
      | false => rw [cond_false, setS_M]; show oneSet _ (casM _ _ _ _).2.1; rw [casM_G]; exact same
    · exact same
  split
  · unfold protS
    split
    · unfold prot0
      split
      · rw [backS_M]; exact same
      · rw [setS_M]; exact same
    split
    · rw [setS_M]; show oneSet _ (storeM _ _ _).2.1; rw [storeM_G]; exact same
    split
    · unfold prot2
      split
      · rw [backS_M]; exact same
      · rw [setS_M]; exact same
    · exact same
  split
  · unfold clearS
    split
    · split
      · rw [backS_M]; show oneSet _ (storeM _ _ _).2.1; rw [storeM_G]; exact same
      · rw [setS_M]; show oneSet _ (storeM _ _ _).2.1; rw [storeM_G]; exact same
    · exact same
  split
  · unfold retireS
    split
    · rw [backS_M]; exact same
    split
    · unfold retire0
      split
      · rw [backS_M]; exact same
      split
      · rw [backS_M]; exact turnM_one _ _ _
      · rw [callP_M, setS_M]; exact turnM_one _ _ _
    · exact same
  split
  · unfold lookS
    split
    · unfold look0; rw [setS_M]; exact same
    split
    · unfold look1
      split
      · rw [backS_M]; exact same
      · unfold look1a; rw [callP_M, setS_M]; exact same
    · exact same
  exact same
theorem alS_one (s : Sy) (k : Int) : oneSet s.1.2.1 (alS s k).1.2.1 := by
  unfold alS
  split
  · exact .inl rfl
  · rename_i f _
    unfold allocF
    split
    · unfold allocS
      split
      · unfold thenS; rw [callP_M, setS_M]; exact .inl rfl
      split
      · split
        · rw [backS_M]; exact .inl rfl
        split
        · rw [backS_M]; exact .inl rfl
        · unfold thenS; rw [callP_M, setS_M]; exact .inl rfl
      split
      · rw [backS_M]; exact .inl rfl
      · exact .inl rfl
    split
    · unfold dropS
      split
      · unfold thenS; rw [callP_M, setS_M]; exact .inl rfl
      split
      · rw [backS_M]; exact .inl rfl
      · exact .inl rfl
    · exact scanF_one s k _ _ _ _
/-- At how many places among the first i two differ. -/
def diffN (a b : Li) : Nat → Nat
  | 0 => 0
  | i + 1 => if nI b i ≠ nI a i then diffN a b i + 1 else diffN a b i
theorem diffN_le {a b : Li} (h : oneSet a b) (i : Nat) : diffN a b i ≤ 1 := by
  rcases h with rfl | ⟨q, v, rfl⟩
  · suffices diffN b b i = 0 by omega
    induction i with
    | zero => rfl
    | succ i ih => show (if nI b i ≠ nI b i then _ else _) = 0; rw [if_neg (fun h => h rfl)]; exact ih
  · suffices diffN a (List.set (α := Int) a q v) i ≤ if q < i then 1 else 0 by split at this <;> omega
    induction i with
    | zero => exact Nat.zero_le _
    | succ i ih =>
      show (if nI (List.set (α := Int) a q v) i ≠ nI a i then _ else _) ≤ _
      by_cases c : q = i
      · subst c
        rw [if_neg (Nat.lt_irrefl q)] at ih
        rw [if_pos (Nat.lt_succ_self q)]
        split <;> omega
      · have e : nI (List.set (α := Int) a q v) i = nI a i := by
          unfold nI
          rw [Int.toNat_natCast, List.getD_eq_getElem?_getD, List.getD_eq_getElem?_getD, List.getElem?_set_ne c]
        rw [if_neg (fun h => h e)]
        have : (if q < i then 1 else 0) ≤ (if q < i + 1 then 1 else 0) := by split <;> split <;> omega
        omega
theorem oneSet_len {a b : Li} (h : oneSet a b) : b.length = a.length := by
  rcases h with rfl | ⟨q, v, rfl⟩
  · rfl
  · exact List.length_set
end Go.Proofs.Ytjeiopkfdgllhaa.V
