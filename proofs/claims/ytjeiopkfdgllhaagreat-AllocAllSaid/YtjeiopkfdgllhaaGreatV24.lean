/- ScanRetires, ScanSees: what is computed. -/
import Derived.Test.YtjeiopkfdgllhaaGreatV23
import Derived.Test.YtjeiopkfdgllhaaGreatV17
namespace Go.Proofs.YtjeiopkfdgllhaaGreat.V
open Go Go.RowKit Go.Proofs.YtjeiopkfdgllhaaGreat.Hz
set_option maxRecDepth 100000

/-! ### A node is retired -/
theorem retL_st {s : Sy} {k : Int} {m : Me} {c : Cor} (h0 : 0 ≤ k) (h1 : k < s.2.1.length) : retL (stS s k m c) k = c.2.2.2.2.1 := by
  unfold retL
  rw [stS_core h0 h1]
/-- A core's values behind it, without the frames. -/
abbrev Rst := Den (.cons tI (.cons tI (.cons tR3 (.cons tL .nil))))
theorem retires_is {s : Sy} {k p : Int} {F : List Frm} {v e : Int} {x : R3} {R : Li} (h0 : 0 ≤ k) (h1 : k < s.2.1.length) (hR : R.length < 200) (hF : F.length < 38) :
    scanS (stS s k s.1 (F ++ [frm0 5 p 0 0], (v, e, x, R, ()))) k =
      if (R.length : Int) + 1 < 3 * s.2.1.length + 1 then stS s k (turnM s.1 p 2) (F, p, 0, x, snoc R p, ()) else stS s k (turnM s.1 p 2) (F ++ [((5 : Int), (1 : Int), (frm0 5 p 0 0).2.2.1, ([] : List Int), ())] ++ [frm0 6 0 0 0], v, e, x, snoc R p, ()) := by
  have ht : topI (stS s k s.1 (F ++ [frm0 5 p 0 0], (v, e, x, R, ()))) k = some ((5 : Int), (0 : Int), (frm0 5 p 0 0).2.2.1, ([] : List Int), ()) := topI_st h0 h1
  rw [scanS_some ht]
  show retire0 _ k 5 _ [] = _
  unfold retire0
  rw [retL_st h0 h1, if_neg (by show ¬ 200 ≤ R.length; omega), stS_len]
  show (if (R.length : Int) + 1 < 3 * s.2.1.length + 1 then backS (retM (stS s k s.1 (F ++ [frm0 5 p 0 0], (v, e, x, R, ()))) k p) k p 0 else callP (setS (retM (stS s k s.1 (F ++ [frm0 5 p 0 0], (v, e, x, R, ()))) k p) k ((5 : Int), (1 : Int), (frm0 5 p 0 0).2.2.1, ([] : List Int), ())) k 6 0) = _
  have hm : retM (stS s k s.1 (F ++ [frm0 5 p 0 0], (v, e, x, R, ()))) k p = stS s k (turnM s.1 p 2) (F ++ [frm0 5 p 0 0], (v, e, x, snoc R p, ())) := by
    unfold retM
    rw [retL_st h0 h1, keptS_st h0 h1]
    rfl
  rw [hm, backS_st h0 h1, setS_st h0 h1, callP_st h0 h1 (by rw [List.length_append]; show F.length + 1 < 40; omega)]
/-! ### A scan looks at slots -/
/-- The slots' words up to the i-th that aren't 0. -/
def seenL (W : Li) : Nat → Li
  | 0 => []
  | i + 1 => if nI W (8 + i) ≠ 0 then snoc (seenL W i) (nI W (8 + i)) else seenL W i
theorem seenL_len (W : Li) : ∀ i, (seenL W i).length ≤ i
  | 0 => Nat.le_refl _
  | i + 1 => by
    have h := seenL_len W i
    unfold seenL
    split
    · rw [List.length_append]
      have : List.length [nI W (8 + i)] = 1 := rfl
      omega
    · omega
/-- The frame of a scan behind i steps, of n slots. -/
def seeF (W : Li) (n i : Nat) : Frm := ((6 : Int), (if n ≤ i then 1 else 0 : Int), ((i : Int), (0 : Int), (0 : Int), (0 : Int), (0 : Int), (0 : Int), (0 : Int), (0 : Int), ()), seenL W i, ())
theorem badB_low {m : Me} {p : Int} (h0 : 0 ≤ p) (h1 : p < 128) (hw : 128 ≤ m.1.length) : badB m p = m.2.2.1 := by
  have hn : nodeI m.2.1.length p = 0 := if_neg (by omega)
  unfold badB
  rw [hn, decide_eq_false (by omega)]
  simp
theorem loadM_low {m : Me} {p : Int} (h0 : 0 ≤ p) (h1 : p < 128) (hw : 128 ≤ m.1.length) : loadM m p = m := by
  unfold loadM
  rw [badB_low h0 h1 hw]
/-- So many steps of layer 6. -/
def itScan (k : Int) (s : Sy) : Nat → Sy
  | 0 => s
  | i + 1 => scanS (itScan k s i) k
theorem itScan_fin {N : Nat} {k : Int} {s : Sy} (h : Fin N s) : ∀ j, Fin (N + j) (itScan k s j)
  | 0 => h
  | j + 1 => scanS_fin (itScan_fin h j)
theorem see_step {s : Sy} {k : Int} {F : List Frm} {r : Rst} {i : Nat} (h0 : 0 ≤ k) (h1 : k < s.2.1.length) (h8 : s.2.1.length ≤ 8) (hw : 128 ≤ s.1.1.length) (hi : i < 3 * s.2.1.length) :
    scanS (stS s k s.1 (F ++ [seeF s.1.1 (3 * s.2.1.length) i], r)) k = stS s k s.1 (F ++ [seeF s.1.1 (3 * s.2.1.length) (i + 1)], r) := by
  have hs : topI (stS s k s.1 (F ++ [seeF s.1.1 (3 * s.2.1.length) i], r)) k = some ((6 : Int), (0 : Int), (seeF s.1.1 (3 * s.2.1.length) i).2.2.1, seenL s.1.1 i, ()) := by
    rw [topI_st h0 h1]
    unfold seeF
    rw [if_neg (by omega)]
  rw [scanS_some hs]
  show look0 _ k 6 _ _ = _
  have hp : lookP (stS s k s.1 (F ++ [seeF s.1.1 (3 * s.2.1.length) i], r)) (seeF s.1.1 (3 * s.2.1.length) i).2.2.1 = 8 + i := by
    unfold lookP
    exact IntWalk.wrap64_in _ (by show _ ≤ 8 + (i : Int) ∧ 8 + (i : Int) ≤ _; omega)
  have hld : loadI s.1 (8 + i) = nI s.1.1 (8 + i) := if_neg (by omega)
  unfold look0
  rw [hp]
  show setS (loadM s.1 (8 + i), _) k _ = _
  rw [loadM_low (by omega) (by omega) hw]
  show setS (stS s k s.1 (F ++ [seeF s.1.1 (3 * s.2.1.length) i], r)) k _ = _
  rw [setS_st h0 h1]
  have hfr : lookF (stS s k s.1 (F ++ [seeF s.1.1 (3 * s.2.1.length) i], r)) 6 (seeF s.1.1 (3 * s.2.1.length) i).2.2.1 (seenL s.1.1 i) = seeF s.1.1 (3 * s.2.1.length) (i + 1) := by
    unfold lookF lookC lookL
    rw [hp, stS_len]
    have e1 : wrap64 (hd8 (seeF s.1.1 (3 * s.2.1.length) i).2.2.1 + 1) = ((i + 1 : Nat) : Int) := by
      show wrap64 ((i : Int) + 1) = _
      rw [IntWalk.wrap64_in _ (by omega)]
      omega
    have e2 : wrap64 (3 * (s.2.1.length : Int)) = ((3 * s.2.1.length : Nat) : Int) := by
      rw [IntWalk.wrap64_in _ (by omega)]
      omega
    rw [e1, e2]
    show ((6 : Int), _, _, (if loadI s.1 (8 + i) ≠ 0 ∧ (seenL s.1.1 i).length < 24 then snoc (seenL s.1.1 i) (loadI s.1 (8 + i)) else seenL s.1.1 i), ()) = _
    rw [hld]
    have hl := seenL_len s.1.1 i
    unfold seeF
    have e3 : (if ((3 * s.2.1.length : Nat) : Int) ≤ ((i + 1 : Nat) : Int) then (1 : Int) else 0) = if 3 * s.2.1.length ≤ i + 1 then 1 else 0 := by
      by_cases c : 3 * s.2.1.length ≤ i + 1
      · rw [if_pos c, if_pos (by omega)]
      · rw [if_neg c, if_neg (by omega)]
    have e4 : (if nI s.1.1 (8 + i) ≠ 0 ∧ (seenL s.1.1 i).length < 24 then snoc (seenL s.1.1 i) (nI s.1.1 (8 + i)) else seenL s.1.1 i) = seenL s.1.1 (i + 1) := by
      show _ = if nI s.1.1 (8 + i) ≠ 0 then snoc (seenL s.1.1 i) (nI s.1.1 (8 + i)) else seenL s.1.1 i
      by_cases c : nI s.1.1 (8 + i) ≠ 0
      · rw [if_pos c, if_pos ⟨c, by omega⟩]
      · rw [if_neg c, if_neg (fun e => c e.1)]
    rw [e3, e4]
  rw [hfr]
theorem see_steps {s : Sy} {k : Int} {F : List Frm} {r : Rst} (h0 : 0 ≤ k) (h1 : k < s.2.1.length) (h8 : s.2.1.length ≤ 8) (hw : 128 ≤ s.1.1.length) : ∀ i : Nat, i ≤ 3 * s.2.1.length →
    itScan k (stS s k s.1 (F ++ [seeF s.1.1 (3 * s.2.1.length) 0], r)) i = stS s k s.1 (F ++ [seeF s.1.1 (3 * s.2.1.length) i], r)
  | 0, _ => rfl
  | i + 1, hi => by
    show scanS (itScan k _ i) k = _
    rw [see_steps h0 h1 h8 hw i (by omega), see_step h0 h1 h8 hw (by omega)]
end Go.Proofs.YtjeiopkfdgllhaaGreat.V
