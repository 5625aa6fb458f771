/- Layer 12: a step, whatever the last frame is; the example of its statements. -/
import Derived.Test.YtlcjkogdbleboaaGreatE2
set_option linter.unusedSimpArgs false
set_option linter.unusedVariables false
namespace Go.Proofs.YtlcjkogdbleboaaGreat.V
open Go Go.RowKit Go.Proofs.YtlcjkogdbleboaaGreat.Hz
set_option maxRecDepth 100000

/-- A step of a core that is at an event, or at nothing. -/
def evS (s : Sy) (k : Int) : Sy := match topI s k with
  | none => s
  | some f => evF s k f.1 f.2.1 f.2.2.1 f.2.2.2.1
/-- Such a frame. -/
def EvFr (f : Frm) : Prop := (19 ≤ f.1 ∧ f.1 ≤ 21) ∧ (0 ≤ f.2.2.1.1 ∧ f.2.2.1.1 ≤ 15) ∧ (f.2.1 = 0 ∨ f.2.1 = 1)
theorem s_evS (s : Sy) (k : Int) (hf : Fine s) (h : ∀ f, topI s k = some f → EvFr f) : Spec Tryz.prog 43 [vS s, vI k] (vS (evS s k)) := by
  cases ht : topI s k with
  | none =>
    unfold evS
    rw [ht]
    exact s_evStepNo s k ht hf
  | some f =>
    obtain ⟨⟨a1, a2⟩, ⟨b1, b2⟩, hp⟩ := h f ht
    obtain ⟨op, pc, r, l, u⟩ := f
    obtain rfl : u = () := rfl
    unfold evS
    rw [ht]
    show Spec Tryz.prog 43 [vS s, vI k] (vS (evF s k op pc r l))
    unfold evF
    rw [if_pos ⟨b1, b2⟩]
    rcases hp with hp | hp
    · have hp : pc = 0 := hp
      subst hp
      rw [if_pos rfl]
      exact s_evStep0 s k op r l ht a1 a2 b1 b2 hf
    · have hp : pc = 1 := hp
      subst hp
      rw [if_neg (by decide), if_pos rfl]
      exact s_evStep1 s k op r l ht a1 a2 b1 b2 hf
theorem endE_fin {N : Nat} {s : Sy} {k kind e v : Int} (h : Fin N s) : Fin (N + 1) (endE s k kind e v) := by
  unfold endE
  exact h.logS.backS
theorem evS_fin {N : Nat} {s : Sy} {k : Int} (h : Fin N s) : Fin (N + 1) (evS s k) := by
  unfold evS
  split
  · exact h.more (by omega)
  · rename_i f hf
    have hl := h.top hf
    unfold evF
    split
    · split
      · unfold ev0
        split
        · exact endE_fin (h.mem (loadM_fits h.fits))
        split
        · exact endE_fin (h.mem (loadM_fits h.fits))
        · exact (Fin.setS (h.mem (loadM_fits h.fits)) (by exact hl)).more (Nat.le_succ N)
      split
      · unfold ev1
        split
        · exact endE_fin (h.mem (casM_fits h.fits))
        · exact (Fin.setS (h.mem (casM_fits h.fits)) (by exact hl)).more (Nat.le_succ N)
      · exact h.more (by omega)
    · exact h.more (by omega)
/-- So many steps of core k. -/
def itE (k : Int) (s : Sy) : Nat → Sy
  | 0 => s
  | j + 1 => evS (itE k s j) k
theorem itE_fin {N : Nat} {k : Int} {s : Sy} (h : Fin N s) : ∀ j, Fin (N + j) (itE k s j)
  | 0 => h
  | j + 1 => evS_fin (itE_fin h j)
def okB (s : Sy) (k : Int) : Bool := match topI s k with
  | none => true
  | some (op, pc, (a, _), _, _) => decide ((19 : Int) ≤ op) && decide (op ≤ (21 : Int)) && (decide ((0 : Int) ≤ a) && decide (a ≤ (15 : Int))) && (decide (pc = (0 : Int)) || decide (pc = (1 : Int)))
theorem okB_is {s : Sy} {k : Int} (h : okB s k = true) : ∀ f, topI s k = some f → EvFr f := fun f hf => by
  unfold okB at h
  rw [hf] at h
  obtain ⟨op, pc, ⟨a, b⟩, l, u⟩ := f
  simp only [Bool.and_eq_true, Bool.or_eq_true, decide_eq_true_eq] at h
  exact ⟨h.1.1, h.1.2, h.2⟩
def shE : Nat → Sy
  | 0 => mkE (newF 1 2) 3 true
  | i + 1 => itE 0 (callS (shE i) 0 (if i = 0 then 19 else 21) 3 0 0) 3
theorem mkE_fin {N : Nat} {s : Sy} {e : Int} {b : Bool} (h : Fin N s) : Fin N (mkE s e b) := h.mem (storeM_fits h.fits)
theorem shE_fin : ∀ i, Fin (3 * i) (shE i)
  | 0 => mkE_fin (newF_fin (by decide) (by decide) (by decide))
  | i + 1 => itE_fin (shE_fin i).callS 3
theorem shE_ok : ∀ i j : Nat, i < 3 → j < 3 → okB (itE 0 (callS (shE i) 0 (if i = 0 then 19 else 21) 3 0 0) j) 0 = true := by
  have h : ∀ i : Nat, i < 3 → ∀ j : Nat, j < 3 → okB (itE 0 (callS (shE i) 0 (if i = 0 then 19 else 21) 3 0 0) j) 0 = true := by decide +kernel
  exact fun i j hi hj => h i hi j hj
theorem shE_is : ((shE 2).2.1.length = 1 ∧ (cAt (shE 2).2.1 0).1.length = 0 ∧ cV (shE 2) 0 = 1) ∧ ((shE 3).2.1.length = 1 ∧ (cAt (shE 3).2.1 0).1.length = 0 ∧ cV (shE 3) 0 = 0 ∧ (shE 3).2.2.1.length = 3) ∧ 96 ≤ (shE 1).1.1.length ∧ idxI (nI (shE 1).1.1 83) ≠ 0 ∧ nI (shE 1).1.1 83 % 2 = 1 := by decide +kernel
theorem s_alone12 (s : Sy) (op e : Int) (X : Nat → Sy) (h0 : callS s 0 op e 0 0 = X 0) (hl : s.2.1.length ≤ 1000000) (hX : ∀ k : Nat, k < 3 → Spec Tryz.prog 43 [vS (X k), vI 0] (vS (X (k + 1)))) : Spec Tryz.prog 101 [vS s, vI op, vI e] (vS (X 3)) := by
  have hc := s_refCall s 0 op e 0 0 hl
  rw [h0] at hc
  refine spec_introF true tab_ok 0 Tryz.func101 rfl (by kernel_rfl) rfl ?_
  conv => whnf
  first | refine .inr (.inl ⟨_, hc, ?_⟩) | refine .inl (.inr (.inl ⟨_, hc, ?_⟩))
  conv => whnf
  repeat (refine ⟨by first | omega | (simp only [Option.getD_none, Option.getD_some]; omega) | (simp; done) | (simp; omega), ?_⟩; conv => whnf)
  refine ⟨[], [3, 6, 7], [3, 6], ?_⟩
  apply Exists.intro
  conv => whnf
  refine loopK (fun k : Nat => 3 - k) (fun k => k ≤ 3) (fun k => ⟨lay 19 0 [(3, pB 3), (6, pB 6), (7, vI k)], [(3, .cells ySys (cS (X k))), (6, .cells ySys (zeroC tSys))], []⟩) ?_ 0 rfl rfl (by decide)
  intro k ih hk hih
  conv => whnf
  refine dcase (fun h3 => ?_) (fun h3 => ?_)
  · replace h3 : (k : Int) < 3 := h3
    conv => whnf
    repeat (refine ⟨by first | omega | (simp only [Option.getD_none, Option.getD_some]; omega) | (simp; done) | (simp; omega), ?_⟩; conv => whnf)
    first | refine .inr (.inl ⟨_, hX k (by omega), ?_⟩) | refine .inl (.inr (.inl ⟨_, hX k (by omega), ?_⟩))
    conv => whnf
    repeat (refine ⟨by first | omega | (simp only [Option.getD_none, Option.getD_some]; omega) | (simp; done) | (simp; omega), ?_⟩; conv => whnf)
    intro w hw
    replace hw : w = ((k + 1 : Nat) : Int) := by rw [IntWalk.wrap64_in _ (by omega)] at hw; omega
    subst hw
    conv => whnf
    exact hih (k + 1) (by omega) (by omega)
  · replace h3 : ¬ (k : Int) < 3 := h3
    obtain rfl : k = 3 := by omega
    conv => whnf
    repeat (refine ⟨by first | omega | (simp only [Option.getD_none, Option.getD_some]; omega) | (simp; done) | (simp; omega), ?_⟩; conv => whnf)
    first | exact .inl rfl | exact .inr rfl
/-! ### Which ops these are -/
theorem s_msqOwn (op : Int) : Spec Tryz.prog 21 [vI op] (vB (ownB 1 10 op)) := by
  have h := s_allocOwn op
  refine spec_introF true tab_ok 0 Tryz.func21 rfl (by kernel_rfl) rfl ?_
  conv => whnf
  refine dcase (fun h1 => ?_) (fun h1 => ?_)
  · rw [show ownB 1 10 op = true from decide_eq_true (by omega)]
    conv => whnf
    repeat (refine ⟨by first | omega | (simp only [Option.getD_none, Option.getD_some]; omega) | (simp; done) | (simp; omega), ?_⟩; conv => whnf)
    first | exact .inl rfl | exact .inr rfl
  conv => whnf
  repeat (refine ⟨by first | omega | (simp only [Option.getD_none, Option.getD_some]; omega) | (simp; done) | (simp; omega), ?_⟩; conv => whnf)
  refine dcase (fun h2 => ?_) (fun h2 => ?_)
  · rw [show ownB 1 10 op = true from decide_eq_true (by omega)]
    conv => whnf
    repeat (refine ⟨by first | omega | (simp only [Option.getD_none, Option.getD_some]; omega) | (simp; done) | (simp; omega), ?_⟩; conv => whnf)
    first | exact .inl rfl | exact .inr rfl
  conv => whnf
  repeat (refine ⟨by first | omega | (simp only [Option.getD_none, Option.getD_some]; omega) | (simp; done) | (simp; omega), ?_⟩; conv => whnf)
  first | refine .inl ⟨_, h, ?_⟩ | refine .inl (.inl ⟨_, h, ?_⟩)
  conv => whnf
  repeat (refine ⟨by first | omega | (simp only [Option.getD_none, Option.getD_some]; omega) | (simp; done) | (simp; omega), ?_⟩; conv => whnf)
  rw [show ownB 1 10 op = ownB 1 8 op from decide_eq_decide.2 (by omega)]
  first | exact .inl rfl | exact .inr rfl
theorem s_listOwn (op : Int) : Spec Tryz.prog 30 [vI op] (vB (ownB 1 14 op)) := by
  have h := s_msqOwn op
  refine spec_introF true tab_ok 0 Tryz.func30 rfl (by kernel_rfl) rfl ?_
  conv => whnf
  refine dcase (fun h1 => ?_) (fun h1 => ?_)
  · skip
    conv => whnf
    repeat (refine ⟨by first | omega | (simp only [Option.getD_none, Option.getD_some]; omega) | (simp; done) | (simp; omega), ?_⟩; conv => whnf)
    refine dcase (fun h2 => ?_) (fun h2 => ?_)
    · rw [show ownB 1 14 op = true from decide_eq_true (by omega)]
      conv => whnf
      repeat (refine ⟨by first | omega | (simp only [Option.getD_none, Option.getD_some]; omega) | (simp; done) | (simp; omega), ?_⟩; conv => whnf)
      first | exact .inl rfl | exact .inr rfl
    conv => whnf
    repeat (refine ⟨by first | omega | (simp only [Option.getD_none, Option.getD_some]; omega) | (simp; done) | (simp; omega), ?_⟩; conv => whnf)
    first | refine .inl ⟨_, h, ?_⟩ | refine .inl (.inl ⟨_, h, ?_⟩)
    conv => whnf
    repeat (refine ⟨by first | omega | (simp only [Option.getD_none, Option.getD_some]; omega) | (simp; done) | (simp; omega), ?_⟩; conv => whnf)
    rw [show ownB 1 14 op = ownB 1 10 op from decide_eq_decide.2 (by omega)]
    first | exact .inl rfl | exact .inr rfl
  conv => whnf
  repeat (refine ⟨by first | omega | (simp only [Option.getD_none, Option.getD_some]; omega) | (simp; done) | (simp; omega), ?_⟩; conv => whnf)
  first | refine .inl ⟨_, h, ?_⟩ | refine .inl (.inl ⟨_, h, ?_⟩)
  conv => whnf
  repeat (refine ⟨by first | omega | (simp only [Option.getD_none, Option.getD_some]; omega) | (simp; done) | (simp; omega), ?_⟩; conv => whnf)
  rw [show ownB 1 14 op = ownB 1 10 op from decide_eq_decide.2 (by omega)]
  first | exact .inl rfl | exact .inr rfl
theorem s_tableOwn (op : Int) : Spec Tryz.prog 58 [vI op] (vB (ownB 1 18 op)) := by
  have h := s_listOwn op
  refine spec_introF true tab_ok 0 Tryz.func58 rfl (by kernel_rfl) rfl ?_
  conv => whnf
  refine dcase (fun h1 => ?_) (fun h1 => ?_)
  · skip
    conv => whnf
    repeat (refine ⟨by first | omega | (simp only [Option.getD_none, Option.getD_some]; omega) | (simp; done) | (simp; omega), ?_⟩; conv => whnf)
    refine dcase (fun h2 => ?_) (fun h2 => ?_)
    · rw [show ownB 1 18 op = true from decide_eq_true (by omega)]
      conv => whnf
      repeat (refine ⟨by first | omega | (simp only [Option.getD_none, Option.getD_some]; omega) | (simp; done) | (simp; omega), ?_⟩; conv => whnf)
      first | exact .inl rfl | exact .inr rfl
    conv => whnf
    repeat (refine ⟨by first | omega | (simp only [Option.getD_none, Option.getD_some]; omega) | (simp; done) | (simp; omega), ?_⟩; conv => whnf)
    first | refine .inl ⟨_, h, ?_⟩ | refine .inl (.inl ⟨_, h, ?_⟩)
    conv => whnf
    repeat (refine ⟨by first | omega | (simp only [Option.getD_none, Option.getD_some]; omega) | (simp; done) | (simp; omega), ?_⟩; conv => whnf)
    rw [show ownB 1 18 op = ownB 1 14 op from decide_eq_decide.2 (by omega)]
    first | exact .inl rfl | exact .inr rfl
  conv => whnf
  repeat (refine ⟨by first | omega | (simp only [Option.getD_none, Option.getD_some]; omega) | (simp; done) | (simp; omega), ?_⟩; conv => whnf)
  first | refine .inl ⟨_, h, ?_⟩ | refine .inl (.inl ⟨_, h, ?_⟩)
  conv => whnf
  repeat (refine ⟨by first | omega | (simp only [Option.getD_none, Option.getD_some]; omega) | (simp; done) | (simp; omega), ?_⟩; conv => whnf)
  rw [show ownB 1 18 op = ownB 1 14 op from decide_eq_decide.2 (by omega)]
  first | exact .inl rfl | exact .inr rfl
theorem s_evOwn (op : Int) : Spec Tryz.prog 39 [vI op] (vB (ownB 1 21 op)) := by
  have h := s_tableOwn op
  refine spec_introF true tab_ok 0 Tryz.func39 rfl (by kernel_rfl) rfl ?_
  conv => whnf
  refine dcase (fun h1 => ?_) (fun h1 => ?_)
  · skip
    conv => whnf
    repeat (refine ⟨by first | omega | (simp only [Option.getD_none, Option.getD_some]; omega) | (simp; done) | (simp; omega), ?_⟩; conv => whnf)
    refine dcase (fun h2 => ?_) (fun h2 => ?_)
    · rw [show ownB 1 21 op = true from decide_eq_true (by omega)]
      conv => whnf
      repeat (refine ⟨by first | omega | (simp only [Option.getD_none, Option.getD_some]; omega) | (simp; done) | (simp; omega), ?_⟩; conv => whnf)
      first | exact .inl rfl | exact .inr rfl
    conv => whnf
    repeat (refine ⟨by first | omega | (simp only [Option.getD_none, Option.getD_some]; omega) | (simp; done) | (simp; omega), ?_⟩; conv => whnf)
    first | refine .inl ⟨_, h, ?_⟩ | refine .inl (.inl ⟨_, h, ?_⟩)
    conv => whnf
    repeat (refine ⟨by first | omega | (simp only [Option.getD_none, Option.getD_some]; omega) | (simp; done) | (simp; omega), ?_⟩; conv => whnf)
    rw [show ownB 1 21 op = ownB 1 18 op from decide_eq_decide.2 (by omega)]
    first | exact .inl rfl | exact .inr rfl
  conv => whnf
  repeat (refine ⟨by first | omega | (simp only [Option.getD_none, Option.getD_some]; omega) | (simp; done) | (simp; omega), ?_⟩; conv => whnf)
  first | refine .inl ⟨_, h, ?_⟩ | refine .inl (.inl ⟨_, h, ?_⟩)
  conv => whnf
  repeat (refine ⟨by first | omega | (simp only [Option.getD_none, Option.getD_some]; omega) | (simp; done) | (simp; omega), ?_⟩; conv => whnf)
  rw [show ownB 1 21 op = ownB 1 18 op from decide_eq_decide.2 (by omega)]
  first | exact .inl rfl | exact .inr rfl
theorem s_shown12 : Spec Tryz.prog 34 [] (vB true) := by
  have hal : ∀ i : Nat, i < 3 → Spec Tryz.prog 101 [vS (shE i), vI (if i = 0 then 19 else 21), vI 3] (vS (shE (i + 1))) := fun i hi =>
    s_alone12 (shE i) _ 3 (itE 0 (callS (shE i) 0 (if i = 0 then 19 else 21) 3 0 0)) rfl (Nat.le_trans (shE_fin i).cores (by decide)) fun k hk => s_evS _ 0 (Fin.fine ((itE_fin (shE_fin i).callS k).more (show 3 * i + k ≤ 100 by omega)) (by decide)) (okB_is (shE_ok i k hi hk))
  have hnew := s_refNewF 1 2 (by decide) (by decide) (by decide) (by decide)
  have hmk := s_evMake (newF 1 2) 3 true (by decide) (by decide) (newF_fin (c := 1) (n := 2) (by decide) (by decide) (by decide)).fits
  obtain ⟨⟨a1, a2, a3⟩, ⟨b1, b2, b3, b4⟩, d1, d2, d3⟩ := shE_is
  have hA := hal 0 (by decide)
  have hB := hal 1 (by decide)
  have hC := hal 2 (by decide)
  have hIs := s_evIs (shE 1) 3 (by decide) (by decide) d1
  rw [show (80 : Int) + 3 = 83 from rfl, decide_eq_true d2, decide_eq_true d3] at hIs
  have hsp := s_Spot12 3 (by decide) (by decide)
  have ho1 := s_evOwn 21
  have ho2 := s_evOwn 28
  have hmk : Spec Tryz.prog 35 [vS (newF 1 2), vI 3, vB true] (vSI (shE 0) 0) := hmk
  have hA : Spec Tryz.prog 101 [vS (shE 0), vI 19, vI 3] (vS (shE 1)) := hA
  have hB : Spec Tryz.prog 101 [vS (shE 1), vI 21, vI 3] (vS (shE 2)) := hB
  have hC : Spec Tryz.prog 101 [vS (shE 2), vI 21, vI 3] (vS (shE 3)) := hC
  rw [show ownB 1 21 21 = true from rfl] at ho1
  rw [show ownB 1 21 28 = false from rfl] at ho2
  clear hal
  generalize newF 1 2 = s0 at hnew hmk
  obtain ⟨S, hS⟩ : ∃ S : Nat → Sy, ∀ i, shE i = S i := ⟨_, fun _ => rfl⟩
  rw [hS] at hmk hA hB hC hIs
  rw [hS] at a1 a2 a3 b1 b2 b3 b4 hA hB hC
  have z2 : (0 : Int) ≤ 0 ∧ (0 : Int) < ((S 2).2.1.length : Int) := ⟨by decide, by rw [a1]; decide⟩
  have z3 : (0 : Int) ≤ 0 ∧ (0 : Int) < ((S 3).2.1.length : Int) := ⟨by decide, by rw [b1]; decide⟩
  refine spec_introF true tab_ok 0 Tryz.func34 rfl (by kernel_rfl) rfl ?_
  conv => whnf
  first | refine .inr (.inl ⟨_, hnew, ?_⟩) | refine .inl (.inr (.inl ⟨_, hnew, ?_⟩))
  conv => whnf
  repeat (refine ⟨by first | omega | (simp only [Option.getD_none, Option.getD_some]; omega) | (simp; done) | (simp; omega), ?_⟩; conv => whnf)
  first | refine .inr (.inl ⟨_, hmk, ?_⟩) | refine .inl (.inr (.inl ⟨_, hmk, ?_⟩))
  conv => whnf
  repeat (refine ⟨by first | omega | (simp only [Option.getD_none, Option.getD_some]; omega) | (simp; done) | (simp; omega), ?_⟩; conv => whnf)
  first | refine .inr (.inl ⟨_, hA, ?_⟩) | refine .inl (.inr (.inl ⟨_, hA, ?_⟩))
  conv => whnf
  repeat (refine ⟨by first | omega | (simp only [Option.getD_none, Option.getD_some]; omega) | (simp; done) | (simp; omega), ?_⟩; conv => whnf)
  first | refine .inr (.inl ⟨_, hB, ?_⟩) | refine .inl (.inr (.inl ⟨_, hB, ?_⟩))
  conv => whnf
  repeat (refine ⟨by first | omega | (simp only [Option.getD_none, Option.getD_some]; omega) | (simp; done) | (simp; omega), ?_⟩; conv => whnf)
  first | refine .inr (.inl ⟨_, hC, ?_⟩) | refine .inl (.inr (.inl ⟨_, hC, ?_⟩))
  conv => whnf
  repeat (refine ⟨by first | omega | (simp only [Option.getD_none, Option.getD_some]; omega) | (simp; done) | (simp; omega), ?_⟩; conv => whnf)
  first | refine .inl ⟨_, hIs, ?_⟩ | refine .inl (.inl ⟨_, hIs, ?_⟩)
  conv => whnf
  repeat (refine ⟨by first | omega | (simp only [Option.getD_none, Option.getD_some]; omega) | (simp; done) | (simp; omega), ?_⟩; conv => whnf)
  have c2 : ¬ ((S 2).2.1.length : Int) ≠ 1 := by rw [a1]; decide
  have c3 : ¬ ((S 3).2.1.length : Int) ≠ 1 := by rw [b1]; decide
  have f2 : (((List.getD (S 2).2.1 (0 : Int).toNat (dflt tCore)).1.length : Nat) : Int) = 0 := by show (((cAt (S 2).2.1 0).1.length : Nat) : Int) = 0; rw [a2]; rfl
  have f3 : (((List.getD (S 3).2.1 (0 : Int).toNat (dflt tCore)).1.length : Nat) : Int) = 0 := by show (((cAt (S 3).2.1 0).1.length : Nat) : Int) = 0; rw [b2]; rfl
  have v2 : (List.getD (S 2).2.1 (0 : Int).toNat (dflt tCore)).2.1 = 1 := a3
  have v3 : (List.getD (S 3).2.1 (0 : Int).toNat (dflt tCore)).2.1 = 0 := b3
  have l3 : ((S 3).2.2.1.length : Int) = 3 := by rw [b4]; rfl
  refine ⟨p_hazellaw12_shown_6, g_hazellaw12_shown_6, by kernel_rfl, ?st1, ?_, ?_⟩
  rotate_left
  · conv => whnf
    repeat' (first | ((refine dcase (fun h => absurd h c2) (fun _ => ?_); conv => whnf)) | ((refine dcase (fun h => absurd h c3) (fun _ => ?_); conv => whnf)) | (refine ⟨z2, ?_⟩; conv => whnf) | (refine ⟨z3, ?_⟩; conv => whnf) | ((intro w hw; rw [f2, f3] at hw; replace hw : w = 0 := hw.trans (IntWalk.wrap64_in _ (by decide)); subst hw; conv => whnf)) | (refine And.intro ?_ ?_ <;> conv => whnf) | exact rfl)
  conv => whnf
  repeat (refine ⟨by first | omega | (simp only [Option.getD_none, Option.getD_some]; omega) | (simp; done) | (simp; omega), ?_⟩; conv => whnf)
  refine dcase (fun _ => ?_) (fun h => absurd v2 h)
  conv => whnf
  repeat (refine ⟨by first | omega | (simp only [Option.getD_none, Option.getD_some]; omega) | (simp; done) | (simp; omega), ?_⟩; conv => whnf)
  refine dcase (fun _ => ?_) (fun h => absurd v3 h)
  conv => whnf
  refine dcase (fun _ => ?_) (fun h => absurd l3 h)
  conv => whnf
  first | refine .inl ⟨_, hsp, ?_⟩ | refine .inl (.inl ⟨_, hsp, ?_⟩)
  conv => whnf
  repeat (refine ⟨by first | omega | (simp only [Option.getD_none, Option.getD_some]; omega) | (simp; done) | (simp; omega), ?_⟩; conv => whnf)
  first | refine .inl ⟨_, ho1, ?_⟩ | refine .inl (.inl ⟨_, ho1, ?_⟩)
  conv => whnf
  repeat (refine ⟨by first | omega | (simp only [Option.getD_none, Option.getD_some]; omega) | (simp; done) | (simp; omega), ?_⟩; conv => whnf)
  first | refine .inl ⟨_, ho2, ?_⟩ | refine .inl (.inl ⟨_, ho2, ?_⟩)
  conv => whnf
  repeat (refine ⟨by first | omega | (simp only [Option.getD_none, Option.getD_some]; omega) | (simp; done) | (simp; omega), ?_⟩; conv => whnf)
  first | exact .inl rfl | exact .inr rfl
end Go.Proofs.YtlcjkogdbleboaaGreat.V
