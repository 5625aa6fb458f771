/- A core alone: each step of the memory's management brings it nearer to its end. -/
import Derived.Test.YtpobngddiifdpaaGreatZdM16
import Derived.Test.YtpobngddiifdpaaGreatZdN7
set_option linter.unusedSimpArgs false
set_option linter.unusedVariables false
namespace Go.Proofs.YtpobngddiifdpaaGreat.V
open Go Go.RowKit Go.Proofs.YtpobngddiifdpaaGreat.Hz
set_option maxRecDepth 100000

/-- How many steps a frame takes at most, till it and those above it are gone, of a core alone: C cores, m the memory, n nodes retired by it. -/
def costM (C : Nat) (m : Me) (n : Nat) (f : Frm) : Nat :=
  if f.1 = 1 ∨ f.1 = 2 then
    (if f.2.1 = 0 then 3 else if f.2.1 = 1 then (if nI m.1 0 = (if f.1 = 1 then f.2.2.1.1 else f.2.2.1.2.1) then 2 else 5) else (if nI m.1 0 = (if f.1 = 1 then f.2.2.1.1 else f.2.2.1.2.1) then 1 else 4))
  else if f.1 = 3 then
    (if f.2.1 = 0 then 3 else if f.2.1 = 1 then (if nI m.1 f.2.2.1.1 = f.2.2.1.2.2.1 then 2 else 4) else (if nI m.1 f.2.2.1.1 = f.2.2.1.2.2.1 then 1 else 3))
  else if f.1 = 4 then (3 - f.2.1).toNat
  else if f.1 = 5 then (if f.2.1 = 1 then 1 else 3 * C + 4 * n + 8)
  else if f.1 = 6 then (if f.2.1 = 0 then (3 * (C : Int) - f.2.2.1.1).toNat + 4 * n + 1 else 4 * (n - f.2.2.1.2.1.toNat) + 1)
  else if f.1 = 7 then (if f.2.1 = 0 then 3 * C + 4 * n + 11 else if f.2.1 = 1 then 3 * C + 4 * n + 7 else if f.2.1 = 2 then 5 else 1)
  else (if f.2.1 = 0 then 5 else 1)
def costs (C : Nat) (m : Me) (n : Nat) (F : List Frm) : Nat := (F.map (costM C m n)).sum
theorem costs_nil {C n : Nat} {m : Me} : costs C m n [] = 0 := rfl
theorem costs_one {C n : Nat} {m : Me} {f : Frm} : costs C m n [f] = costM C m n f := by
  show costM C m n f + 0 = _; rfl
theorem costs_two {C n : Nat} {m : Me} {f g : Frm} : costs C m n [f, g] = costM C m n f + costM C m n g := by
  show costM C m n f + (costM C m n g + 0) = _; rfl
theorem costs_add {C n : Nat} {m : Me} {F G : List Frm} : costs C m n (F ++ G) = costs C m n F + costs C m n G := by
  unfold costs; rw [List.map_append, List.sum_append]
section
variable {C k n : Nat} {m : Me} {o : OM} {F : List Frm} {r : Rest} {pc : Int} {g : R8} {l : Li}
theorem cost1 : costM C m n ((1 : Int), pc, g, l, ()) = (if pc = 0 then 3 else if pc = 1 then (if nI m.1 0 = g.1 then 2 else 5) else (if nI m.1 0 = g.1 then 1 else 4)) := by
  unfold costM
  rw [if_pos (.inl rfl)]
  rw [if_pos (rfl : ((1 : Int), pc, g, l, ()).1 = 1)]
theorem cost2 : costM C m n ((2 : Int), pc, g, l, ()) = (if pc = 0 then 3 else if pc = 1 then (if nI m.1 0 = g.2.1 then 2 else 5) else (if nI m.1 0 = g.2.1 then 1 else 4)) := by
  unfold costM
  rw [if_pos (.inr rfl)]
  rw [if_neg (show ¬ ((2 : Int), pc, g, l, ()).1 = 1 from fun e => nope (show (2 : Int) = 1 from e) rfl)]
theorem cost3 : costM C m n ((3 : Int), pc, g, l, ()) = (if pc = 0 then 3 else if pc = 1 then (if nI m.1 g.1 = g.2.2.1 then 2 else 4) else (if nI m.1 g.1 = g.2.2.1 then 1 else 3)) := by
  unfold costM
  rw [if_neg (show ¬ ((3 : Int) = 1 ∨ (3 : Int) = 2) by decide), if_pos (rfl : ((3 : Int), pc, g, l, ()).1 = 3)]
theorem cost4 : costM C m n ((4 : Int), pc, g, l, ()) = (3 - pc).toNat := by
  unfold costM
  rw [if_neg (show ¬ ((4 : Int) = 1 ∨ (4 : Int) = 2) by decide), if_neg (show ¬ (4 : Int) = 3 by decide), if_pos (rfl : ((4 : Int), pc, g, l, ()).1 = 4)]
theorem cost5 : costM C m n ((5 : Int), pc, g, l, ()) = (if pc = 1 then 1 else 3 * C + 4 * n + 8) := by
  unfold costM
  rw [if_neg (show ¬ ((5 : Int) = 1 ∨ (5 : Int) = 2) by decide), if_neg (show ¬ (5 : Int) = 3 by decide), if_neg (show ¬ (5 : Int) = 4 by decide), if_pos (rfl : ((5 : Int), pc, g, l, ()).1 = 5)]
theorem cost6 : costM C m n ((6 : Int), pc, g, l, ()) = (if pc = 0 then (3 * (C : Int) - g.1).toNat + 4 * n + 1 else 4 * (n - g.2.1.toNat) + 1) := by
  unfold costM
  rw [if_neg (show ¬ ((6 : Int) = 1 ∨ (6 : Int) = 2) by decide), if_neg (show ¬ (6 : Int) = 3 by decide), if_neg (show ¬ (6 : Int) = 4 by decide), if_neg (show ¬ (6 : Int) = 5 by decide), if_pos (rfl : ((6 : Int), pc, g, l, ()).1 = 6)]
theorem cost7 : costM C m n ((7 : Int), pc, g, l, ()) = (if pc = 0 then 3 * C + 4 * n + 11 else if pc = 1 then 3 * C + 4 * n + 7 else if pc = 2 then 5 else 1) := by
  unfold costM
  rw [if_neg (show ¬ ((7 : Int) = 1 ∨ (7 : Int) = 2) by decide), if_neg (show ¬ (7 : Int) = 3 by decide), if_neg (show ¬ (7 : Int) = 4 by decide), if_neg (show ¬ (7 : Int) = 5 by decide), if_neg (show ¬ (7 : Int) = 6 by decide), if_pos (rfl : ((7 : Int), pc, g, l, ()).1 = 7)]
theorem cost8 : costM C m n ((8 : Int), pc, g, l, ()) = (if pc = 0 then 5 else 1) := by
  unfold costM
  rw [if_neg (show ¬ ((8 : Int) = 1 ∨ (8 : Int) = 2) by decide), if_neg (show ¬ (8 : Int) = 3 by decide), if_neg (show ¬ (8 : Int) = 4 by decide), if_neg (show ¬ (8 : Int) = 5 by decide), if_neg (show ¬ (8 : Int) = 6 by decide), if_neg (show ¬ (8 : Int) = 7 by decide)]
/-- Less is left behind a step. -/
def Less (C : Nat) (m : Me) (r : Rest) (f : Frm) (L : Loc) : Prop := costs C L.m (rtL L.r).length L.fs < costM C m (rtL r).length f
variable (hf : Fits m)
include hf
theorem pop_less (ht : TopI m o C k r ((1 : Int), pc, g, l, ())) : Less C m r ((1 : Int), pc, g, l, ()) (lPop k m pc g l r) := by
  obtain ⟨e0, v0⟩ := load_word (m := m) (p := 0) (by decide) (by decide) hf
  unfold Less lPop
  rw [cost1]
  rcases ht.pop rfl with e | ⟨e | e, _, _⟩
  · have e : pc = 0 := e
    subst e
    rw [if_pos rfl, if_pos rfl]
    split
    · rw [costs_nil]; decide
    · rw [costs_one, cost1, if_neg (by decide), if_pos rfl, v0, if_pos (show nI (loadM m 0).1 0 = nI m.1 0 from rfl)]; decide
  · have e : pc = 1 := e
    subst e
    rw [if_neg (by decide), if_pos rfl, if_neg (by decide), if_pos rfl, costs_one, cost1, if_neg (by decide), if_neg (by decide)]
    show (if nI m.1 0 = g.1 then 1 else 4) < _
    split <;> decide
  · have e : pc = 2 := e
    subst e
    rw [if_neg (by decide), if_neg (by decide), if_pos rfl, if_neg (show ¬ (2 : Int) = 0 by decide), if_neg (show ¬ (2 : Int) = 1 by decide)]
    rcases cas_word (m := m) (a := 0) (w := g.1) (v := popN g) (by decide) (by decide) hf with ⟨c, cb, _⟩ | ⟨c, cb, cm⟩
    · rw [if_pos cb, costs_nil]; split <;> decide
    · rw [if_neg (show ¬ casB m 0 _ = true by rw [cb]; decide), costs_one, cost1, if_pos rfl, if_neg c]; decide
theorem push_less (ht : TopI m o C k r ((2 : Int), pc, g, l, ())) : Less C m r ((2 : Int), pc, g, l, ()) (lPush m pc g l r) := by
  obtain ⟨e0, v0⟩ := load_word (m := m) (p := 0) (by decide) (by decide) hf
  obtain ⟨hin', _, ht⟩ := ht.push rfl
  have hin : InN m g.1 := hin'
  unfold Less lPush
  rw [cost2]
  rcases ht with e | e | ⟨e, _⟩
  · have e : pc = 0 := e
    subst e
    rw [if_pos rfl, if_pos rfl, costs_one, cost2, if_neg (by decide), if_pos rfl, v0]
    show (if nI m.1 0 = nI m.1 0 then 2 else 5) < 3
    rw [if_pos rfl]; decide
  · have e : pc = 1 := e
    subst e
    have h1 := hin.1
    have h2 := hin.2
    have h3 := hf.2
    have hlk := lk_is g.1
    have hw : nI (storeM m (atI g.1 0) (idxI g.2.1)).1 0 = nI m.1 0 := by
      rw [atI_link hin.1 (by omega)]
      unfold storeM
      split
      · rfl
      · exact setW_ne (m := m) (by omega) (by decide) (by omega)
    rw [if_neg (by decide), if_pos rfl, if_neg (by decide), if_pos rfl, costs_one, cost2, if_neg (by decide), if_neg (by decide)]
    rw [hw]
    split <;> decide
  · have e : pc = 2 := e
    subst e
    rw [if_neg (by decide), if_neg (by decide), if_pos rfl, if_neg (show ¬ (2 : Int) = 0 by decide), if_neg (show ¬ (2 : Int) = 1 by decide)]
    rcases cas_word (m := m) (a := 0) (w := g.2.1) (v := pushN g) (by decide) (by decide) hf with ⟨c, cb, _⟩ | ⟨c, cb, cm⟩
    · rw [if_pos cb, costs_nil]; split <;> decide
    · rw [if_neg (show ¬ casB m 0 _ = true by rw [cb]; decide), costs_one, cost2, if_pos rfl, if_neg c]; decide
theorem prot_less (ht : TopI m o C k r ((3 : Int), pc, g, l, ())) (hk : k < 8) (hs : ∀ i : Int, 0 ≤ i → i ≤ 2 → g.1 ≠ slotP k i) : Less C m r ((3 : Int), pc, g, l, ()) (lProt k m pc g l r) := by
  obtain ⟨⟨p0', p1', i0', i1'⟩, ht⟩ := ht.prot rfl
  have p0 : @LE.le Int _ 0 g.1 := p0'
  have p1 : @LT.lt Int _ g.1 124 := p1'
  have i0 : @LE.le Int _ 0 g.2.1 := i0'
  have i1 : @LE.le Int _ g.2.1 2 := i1'
  obtain ⟨e0, v0⟩ := load_word (m := m) (p := g.1) p0 p1 hf
  unfold Less lProt
  rw [cost3]
  rcases ht with e | e | ⟨e, _⟩
  · have e : pc = 0 := e
    subst e
    rw [if_pos rfl, if_pos rfl]
    split
    · rw [costs_nil]; decide
    · rw [costs_one, cost3, if_neg (by decide), if_pos rfl, v0]
      show (if nI m.1 g.1 = nI m.1 g.1 then 2 else 4) < 3
      rw [if_pos rfl]; decide
  · have e : pc = 1 := e
    subst e
    have hsl := slotP_is k g.2.1
    have hw : nI (storeM m (placeI k g.2.1) (idxI g.2.2.1)).1 g.1 = nI m.1 g.1 := by
      rw [slotP_place hk i0 i1, store_word (by omega) (by omega) hf]
      exact setW_ne (m := m) (by omega) p0 (fun e => hs _ i0 i1 e.symm)
    rw [if_neg (by decide), if_pos rfl, if_neg (by decide), if_pos rfl, costs_one, cost3, if_neg (by decide), if_neg (by decide), hw]
    split <;> decide
  · have e : pc = 2 := e
    subst e
    rw [if_neg (by decide), if_neg (by decide), if_pos rfl, if_neg (show ¬ (2 : Int) = 0 by decide), if_neg (show ¬ (2 : Int) = 1 by decide)]
    by_cases c : loadI m g.1 = c8 g ∨ idxI (loadI m g.1) = 0
    · rw [if_pos c, costs_nil]; split <;> decide
    · rw [if_neg c, costs_one, cost3, if_neg (by decide), if_pos rfl]
      have hne : ¬ nI m.1 g.1 = g.2.2.1 := fun e => c (.inl (v0.trans e))
      rw [if_neg hne, v0]
      show (if nI m.1 g.1 = nI m.1 g.1 then 2 else 4) < 3
      rw [if_pos rfl]; decide
omit hf
theorem clear_less (ht : TopI m o C k r ((4 : Int), pc, g, l, ())) : Less C m r ((4 : Int), pc, g, l, ()) (lClear k m pc g l r) := by
  obtain ⟨h0, h1⟩ := ht.clear rfl
  have h0 : 0 ≤ pc := h0
  have h1 : pc ≤ 2 := h1
  unfold Less lClear
  rw [cost4, if_pos ⟨h0, by omega⟩]
  split
  · rw [costs_nil]; omega
  · rw [costs_one, cost4]; omega
theorem scan_less (ht : TopI m o C k r ((6 : Int), pc, g, l, ())) (hC : C ≤ 8) : Less C m r ((6 : Int), pc, g, l, ()) (lScan C m pc g l r) := by
  have hs := ht.scan rfl
  unfold Less lScan
  rw [cost6]
  rcases hs with ⟨e, a', b', _, d'⟩ | ⟨e, a', b', c', d', _⟩
  · have e : pc = 0 := e
    have a : @LE.le Int _ 0 g.1 := a'
    have b : @LT.lt Int _ g.1 (3 * (C : Int)) := b'
    have d : g.2.1 = 0 := d'
    subst e
    have w1 : wrap64 (g.1 + 1) = g.1 + 1 := IntWalk.wrap64_in _ (by omega)
    have w2 : wrap64 (3 * (C : Int)) = 3 * C := IntWalk.wrap64_in _ (by omega)
    rw [if_pos rfl, if_pos rfl, costs_one, cost6, w1, w2]
    by_cases c : 3 * (C : Int) ≤ g.1 + 1
    · rw [if_pos c, if_neg (by decide)]
      show 4 * ((rtL r).length - g.2.1.toNat) + 1 < _
      rw [d]
      have : (0 : Int).toNat = 0 := rfl
      omega
    · rw [if_neg c, if_pos rfl]
      show (3 * (C : Int) - (g.1 + 1)).toNat + 4 * (rtL r).length + 1 < _
      omega
  · have e : pc = 1 := e
    have c : @LE.le Int _ 0 g.2.1 := c'
    have d : @LE.le Int _ g.2.1 ((rtL r).length : Int) := d'
    subst e
    rw [if_neg (by decide), if_pos rfl, if_neg (show ¬ (1 : Int) = 0 by decide)]
    have hge : g.2.1.toNat ≤ nextOut l (rtL r) g.2.1.toNat := nextOut_ge
    by_cases c2 : g.2.1 < 0 ∨ ((rtL r).length : Int) ≤ nextOut l (rtL r) g.2.1.toNat
    · rw [if_pos c2, costs_nil]; omega
    · rw [if_neg c2, costs_two]
      have hlt : nextOut l (rtL r) g.2.1.toNat < (rtL r).length := by omega
      have hc3 : ∀ n x, costM C m n (frm0 2 x 0 0) = 3 := fun n x => cost2.trans (if_pos rfl)
      rw [hc3]
      rw [cost6, if_neg (by decide)]
      show 4 * (((rtL r).take (nextOut l (rtL r) g.2.1.toNat) ++ (rtL r).drop (nextOut l (rtL r) g.2.1.toNat + 1)).length - (((nextOut l (rtL r) g.2.1.toNat : Nat) : Int)).toNat) + 1 + 3 < _
      rw [List.length_append, List.length_take, List.length_drop, Int.toNat_natCast]
      omega
theorem alloc_less (ht : TopI m o C k r ((7 : Int), pc, g, l, ())) : Less C m r ((7 : Int), pc, g, l, ()) (lAlloc m pc g l r) := by
  unfold Less lAlloc
  rw [cost7]
  have f1 : ∀ n, costM C m n (frm0 1 0 0 0) = 3 := fun n => cost1.trans (if_pos rfl)
  have f6 : ∀ n, costM C m n (frm0 6 0 0 0) = 3 * C + 4 * n + 1 := fun n => by
    refine cost6.trans ((if_pos rfl).trans ?_)
    show (3 * (C : Int) - 0).toNat + 4 * n + 1 = _
    omega
  rcases ht.alloc rfl with e | e | ⟨e | e, _⟩
  · have e : pc = 0 := e
    subst e
    rw [if_pos (.inl rfl), if_pos rfl, costs_two, cost7, if_neg (by decide), if_pos (by decide), f1]
    show 3 * C + 4 * (rtL r).length + 7 + 3 < _
    omega
  · have e : pc = 2 := e
    subst e
    rw [if_pos (.inr rfl), if_neg (by decide), if_neg (by decide), if_pos rfl, costs_two, cost7, if_neg (by decide), if_neg (by decide), if_neg (by decide), f1]
    decide
  · have e : pc = 1 := e
    subst e
    rw [if_neg (by decide), if_pos rfl, if_neg (show ¬ (1 : Int) = 0 by decide), if_pos (show (1 : Int) = 1 from rfl)]
    split
    · rw [costs_nil]; omega
    · split
      · rw [costs_nil]; omega
      · rw [costs_two, cost7, if_neg (by decide), if_neg (by decide), if_pos rfl, f6]
        show 5 + (3 * C + 4 * (rtL r).length + 1) < _
        omega
  · have e : pc = 3 := e
    subst e
    rw [if_neg (by decide), if_neg (by decide), if_pos rfl, if_neg (by decide), if_neg (by decide), if_neg (by decide), costs_nil]
    decide
theorem snoc_len {R : Li} {p : Int} : (snoc R p).length = R.length + 1 := by unfold snoc; rw [List.length_append]; rfl
theorem retire_less (ht : TopI m o C k r ((5 : Int), pc, g, l, ())) : Less C m r ((5 : Int), pc, g, l, ()) (lRetire C m pc g l r) := by
  unfold Less lRetire
  rw [cost5]
  have f6 : ∀ m' n, costM C m' n (frm0 6 0 0 0) = 3 * C + 4 * n + 1 := fun m' n => by
    refine cost6.trans ((if_pos rfl).trans ?_)
    show (3 * (C : Int) - 0).toNat + 4 * n + 1 = _
    omega
  rcases ht.retire rfl with e | ⟨e, _⟩
  · have e : pc = 1 := e
    subst e
    rw [if_pos rfl, if_pos rfl, costs_nil]; decide
  · have e : pc = 0 := e
    subst e
    rw [if_neg (by decide), if_pos rfl, if_neg (show ¬ (0 : Int) = 1 by decide)]
    split
    · rw [costs_nil]; omega
    · split
      · rw [costs_nil]; omega
      · rw [costs_two, cost5, if_pos rfl, f6]
        show 1 + (3 * C + 4 * (snoc (rtL r) g.1).length + 1) < _
        rw [snoc_len]
        omega
theorem drop_less (ht : TopI m o C k r ((8 : Int), pc, g, l, ())) : Less C m r ((8 : Int), pc, g, l, ()) (lDrop m pc g l r) := by
  unfold Less lDrop
  rw [cost8]
  rcases ht.drop rfl with e | ⟨e, _⟩
  · have e : pc = 1 := e
    subst e
    rw [if_neg (by decide), if_pos rfl, if_neg (by decide), costs_nil]; decide
  · have e : pc = 0 := e
    subst e
    rw [if_pos rfl, if_pos rfl, costs_two, cost8, if_neg (by decide), show costM C m (rtL r).length (frm0 2 g.1 0 0) = 3 from cost2.trans (if_pos rfl)]
    decide
end
theorem lMM_less {C k : Nat} {m : Me} {o : OM} {r : Rest} {f : Frm} (hf : Fits m) (hm : 2 ≤ m.2.1.length) (hop : 1 ≤ f.1 ∧ f.1 ≤ 8) (ht : TopI m o C k r f) (hk : k < 8) (hC : C ≤ 8) (hs : f.1 = 3 → ∀ i : Int, 0 ≤ i → i ≤ 2 → f.2.2.1.1 ≠ slotP k i) : Less C m r f (lMM C k m f r) := by
  obtain ⟨op, pc, g, l, u⟩ := f
  obtain rfl : u = () := rfl
  have key : ∀ x : Int, 1 ≤ x ∧ x ≤ 8 → x = 1 ∨ x = 2 ∨ x = 3 ∨ x = 4 ∨ x = 5 ∨ x = 6 ∨ x = 7 ∨ x = 8 := fun x hx => by omega
  rcases key op hop with e | e | e | e | e | e | e | e <;> subst e <;> unfold lMM
  · exact pop_less hf ht
  · exact push_less hf ht
  · exact prot_less hf ht hk (hs rfl)
  · exact clear_less ht
  · exact retire_less ht
  · exact scan_less ht hC
  · exact alloc_less ht
  · exact drop_less ht
end Go.Proofs.YtpobngddiifdpaaGreat.V
