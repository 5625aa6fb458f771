/- One core alone scans. -/
import Derived.Test.YtjeiopkfdgllhaaGreatV30
import Derived.Test.YtjeiopkfdgllhaaGreatV24
namespace Go.Proofs.YtjeiopkfdgllhaaGreat.V
open Go Go.RowKit Go.Proofs.YtjeiopkfdgllhaaGreat.Hz
set_option maxRecDepth 100000

theorem alS_scan {s : Sy} {k : Int} {f : Frm} (ht : topI s k = some f) (h7 : f.1 ≠ 7) (h8 : f.1 ≠ 8) : alS s k = scanS s k := by
  obtain ⟨op, pc, r, l, u⟩ := f
  obtain rfl : u = () := rfl
  rw [alS_some ht, scanS_some ht]
  unfold allocF
  rw [if_neg h7, if_neg h8]
/-- The frame of a scan that looks at retired nodes, from the r-th on. -/
def outF (M r : Int) (S : Li) : Frm := ((6 : Int), (1 : Int), (M, r, (0 : Int), (0 : Int), (0 : Int), (0 : Int), (0 : Int), (0 : Int), ()), S, ())
section
variable {s : Sy} {k : Int} {F : List Frm} {x : R3}
/-- Nothing is left: the scan ends. -/
theorem out_end {m : Me} {v e M r : Int} {R S : Li} (h0 : 0 ≤ k) (h1 : k < s.2.1.length) (hr : 0 ≤ r) (hn : R.length ≤ nextOut S R r.toNat) : alS (stS s k m (F ++ [outF M r S], v, e, x, R, ())) k = stS s k m (F, (R.length : Int), 0, x, R, ()) := by
  rw [alS_scan (topI_st h0 h1) (by show (6 : Int) ≠ 7; decide) (by show (6 : Int) ≠ 8; decide)]
  have ht : topI (stS s k m (F ++ [outF M r S], v, e, x, R, ())) k = some ((6 : Int), (1 : Int), (outF M r S).2.2.1, S, ()) := topI_st h0 h1
  rw [scanS_some ht]
  show look1 _ k 6 _ S = _
  rw [look1_end (by rw [retL_st h0 h1]; exact .inr (by show (R.length : Int) ≤ (nextOut S R r.toNat : Int); omega)), retL_st h0 h1]
  exact backS_st h0 h1
/-- A node that nobody names is taken out, and is to be laid into the free list. -/
theorem out_one {m : Me} {v e M r : Int} {R S : Li} {i : Nat} (h0 : 0 ≤ k) (h1 : k < s.2.1.length) (hl : F.length < 38) (hr : 0 ≤ r) (hn : nextOut S R r.toNat = i) (hi : i < R.length) :
    alS (stS s k m (F ++ [outF M r S], v, e, x, R, ())) k = stS s k m (F ++ [outF M i S] ++ [pushF 0 (nI R i) 0], v, e, x, R.take i ++ R.drop (i + 1), ()) := by
  rw [alS_scan (topI_st h0 h1) (by show (6 : Int) ≠ 7; decide) (by show (6 : Int) ≠ 8; decide)]
  have ht : topI (stS s k m (F ++ [outF M r S], v, e, x, R, ())) k = some ((6 : Int), (1 : Int), (outF M r S).2.2.1, S, ()) := topI_st h0 h1
  rw [scanS_some ht]
  show look1 _ k 6 _ S = _
  rw [look1_at (i := i) (by show ¬ r < 0; omega) (by rw [retL_st h0 h1]; exact hn) (by rw [retL_st h0 h1]; exact hi)]
  unfold look1a
  rw [retL_st h0 h1, keptS_st h0 h1, setS_st h0 h1, callP_st h0 h1 (by rw [List.length_append]; show F.length + 1 < 40; omega)]
  rfl
/-- Those of a list that nobody names; and those that somebody does. -/
def unseen (S R : Li) : Li := R.filter fun p => !memB S p
def seenR (S R : Li) : Li := R.filter fun p => memB S p
/-- The words ahead of the nodes but the list's head, and what nodes are. -/
structure Near (m m' : Me) (P : List Int) : Prop where
  words : ∀ q : Int, 0 < q → q < 128 → nI m'.1 q = nI m.1 q
  len : m'.2.1.length = m.2.1.length
  nodes : ∀ q : Int, q ∉ P → 0 ≤ q → nI m'.2.1 q = nI m.2.1 q
theorem pushM_near {m : Me} {p : Int} {P : List Int} (hp : p ∈ P) (h0 : 1 ≤ p) : Near m (pushM m p) P where
  words q q0 q1 := by
    have hlk := lk_is p
    have a := nI_set (l := List.set (α := Int) m.1 (lk p).toNat (idxI (nI m.1 0))) (i := 0) (j := q) (v := nextI (nI m.1 0) p 0) (by decide) (by omega)
    rw [if_neg (by omega)] at a
    have b := nI_set (l := m.1) (i := lk p) (j := q) (v := idxI (nI m.1 0)) (by omega) (by omega)
    rw [if_neg (by omega)] at b
    exact a.trans b
  len := List.length_set
  nodes q hq q0 := by
    show nI (List.set (α := Int) m.2.1 p.toNat 0) q = _
    rw [nI_set (by omega) q0, if_neg (fun e : p = q ∧ _ => hq (e.1 ▸ hp))]
theorem Near.trans {m m1 m2 : Me} {P : List Int} (h : Near m m1 P) (g : Near m1 m2 P) : Near m m2 P :=
  ⟨fun q q0 q1 => (g.words q q0 q1).trans (h.words q q0 q1), g.len.trans h.len, fun q hq q0 => (g.nodes q hq q0).trans (h.nodes q hq q0)⟩
theorem out_run {M : Int} {S : Li} {P : List Int} (h0 : 0 ≤ k) (h1 : k < s.2.1.length) (hl : F.length < 38) : ∀ (R2 R1 L : Li) (m : Me) (v e r : Int), FL m L → 0 ≤ r → (R1 ++ R2).Nodup → (∀ p : Int, p ∈ R2 → (memB S p = false → p ∈ P) ∧ 1 ≤ p ∧ p < m.2.1.length ∧ nI m.2.1 p = 2) → nextOut S (R1 ++ R2) r.toNat = nextOut S (R1 ++ R2) R1.length →
    ∃ (j : Nat) (m' : Me), j ≤ 4 * R2.length + 1 ∧ Near m m' P ∧ FL m' ((unseen S R2).reverse ++ L) ∧ itS k (stS s k m (F ++ [outF M r S], v, e, x, R1 ++ R2, ())) j = stS s k m' (F, (((R1 ++ seenR S R2).length : Nat) : Int), 0, x, R1 ++ seenR S R2, ())
  | [], R1, L, m, v, e, r, hf, hr, _, _, hn => by
    refine ⟨1, m, by omega, ⟨fun _ _ _ => rfl, rfl, fun _ _ _ => rfl⟩, hf, ?_⟩
    rw [List.append_nil] at hn ⊢
    show alS (stS s k m (F ++ [outF M r S], v, e, x, R1, ())) k = _
    rw [out_end h0 h1 hr (by rw [hn, nextOut_end (Nat.le_refl _)]; exact Nat.le_refl _)]
    show _ = stS s k m (F, (((R1 ++ []).length : Nat) : Int), 0, x, R1 ++ [], ())
    rw [List.append_nil]
  | p :: R2, R1, L, m, v, e, r, hf, hr, hnd, hR, hn => by
    have happ : R1 ++ p :: R2 = (R1 ++ [p]) ++ R2 := by rw [List.append_assoc]; rfl
    have hi : R1.length < (R1 ++ p :: R2).length := by rw [List.length_append, List.length_cons]; omega
    have hget : (R1 ++ p :: R2).getD R1.length 0 = p := by
      rw [List.getD_eq_getElem?_getD, List.getElem?_append_right (Nat.le_refl _), Nat.sub_self]
      rfl
    cases hm : memB S p with
    | true =>
      have h2 : nextOut S (R1 ++ p :: R2) (R1.length + 1) = nextOut S (R1 ++ p :: R2) R1.length := nextOut_in hi (by rw [hget]; exact hm)
      obtain ⟨j, m', j1, j2, j3, j4⟩ := out_run h0 h1 hl R2 (R1 ++ [p]) L m v e r hf hr (by rw [← happ]; exact hnd) (fun q hq => hR q (List.mem_cons_of_mem _ hq)) (by rw [← happ, hn, ← h2, List.length_append]; rfl)
      have u1 : unseen S (p :: R2) = unseen S R2 := by unfold unseen; rw [List.filter_cons_of_neg (by rw [hm]; decide)]
      have u2 : R1 ++ seenR S (p :: R2) = (R1 ++ [p]) ++ seenR S R2 := by unfold seenR; rw [List.filter_cons_of_pos hm, List.append_assoc]; rfl
      rw [u1, u2, happ]
      exact ⟨j, m', by rw [List.length_cons]; omega, j2, j3, j4⟩
    | false =>
      obtain ⟨g0, g1, g2, g3⟩ := hR p (List.mem_cons_self ..)
      have h2 : nextOut S (R1 ++ p :: R2) r.toNat = R1.length := hn.trans (nextOut_out hi (by rw [hget]; exact hm))
      have htk : (R1 ++ p :: R2).take R1.length ++ (R1 ++ p :: R2).drop (R1.length + 1) = R1 ++ R2 := by
        rw [List.take_left, happ, List.drop_left' (by rw [List.length_append]; rfl)]
      have hni : nI (R1 ++ p :: R2) (R1.length : Int) = p := hget
      have hst := out_one (s := s) (k := k) (F := F) (x := x) (m := m) (v := v) (e := e) (M := M) (S := S) h0 h1 hl hr h2 hi
      rw [htk, hni] at hst
      have hpush := push_run (s := s) (k := k) (m := m) (F := F ++ [outF M (R1.length : Int) S]) (r := (v, e, x, R1 ++ R2, ())) h0 h1 hf g1 g2 (.inr g3)
      have hpn : p ∉ R2 := by
        have := (List.nodup_append.1 hnd).2.1
        exact (List.nodup_cons.1 this).1
      have hgl : (pushM m p).2.1.length = m.2.1.length := List.length_set
      obtain ⟨j, m', j1, j2, j3, j4⟩ := out_run h0 h1 hl R2 R1 (p :: L) (pushM m p) p 0 (R1.length : Int) (hf.pushed g1 g2 (by rw [g3]; decide)) (by omega)
        (hnd.sublist (List.Sublist.append_left (List.sublist_cons_self ..) _))
        (fun q hq => by
          obtain ⟨q0, q1, q2, q3⟩ := hR q (List.mem_cons_of_mem _ hq)
          refine ⟨q0, q1, by rw [hgl]; exact q2, ?_⟩
          show nI (List.set (α := Int) m.2.1 p.toNat 0) q = 2
          rw [nI_set (by omega) (by omega), if_neg (fun e : p = q ∧ _ => hpn (e.1 ▸ hq))]
          exact q3) rfl
      have u1 : (unseen S (p :: R2)).reverse ++ L = (unseen S R2).reverse ++ (p :: L) := by unfold unseen; rw [List.filter_cons_of_pos (by rw [hm]; rfl), List.reverse_cons, List.append_assoc]; rfl
      have u2 : seenR S (p :: R2) = seenR S R2 := by unfold seenR; rw [List.filter_cons_of_neg (by rw [hm]; decide)]
      rw [u1, u2]
      refine ⟨1 + 3 + j, m', by rw [List.length_cons]; omega, (pushM_near (g0 hm) g1).trans j2, j3, ?_⟩
      rw [itS_add, itS_add]
      rw [show itS k (stS s k m (F ++ [outF M r S], v, e, x, R1 ++ p :: R2, ())) 1 = _ from hst, hpush]
      exact j4
end
end Go.Proofs.YtjeiopkfdgllhaaGreat.V
