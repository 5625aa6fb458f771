/- A new queue, of any right memory. -/
import Derived.Test.YtpobngddiifdpaaGreatZbW2
set_option linter.unusedSimpArgs false
set_option linter.unusedVariables false
namespace Go.Proofs.YtpobngddiifdpaaGreat.V
open Go Go.RowKit Go.Proofs.YtpobngddiifdpaaGreat.Hz
set_option maxRecDepth 100000

/-- A new queue out of node p: what becomes of the memory. -/
def mk1 (m : Me) (p : Int) : Me := storeM m 0 (nextI (nI m.1 0) (nI m.1 (atI p 0)) 0)
def mk2 (m : Me) (p : Int) : Me := turnM (mk1 m p) p 1
def mk3 (m : Me) (p : Int) : Me := storeM (mk2 m p) (atI p 1) (nextI (nI (mk2 m p).1 (atI p 1)) 0 0)
def mk4 (m : Me) (q p : Int) : Me := storeM (mk3 m p) (32 + 2 * q) (2 * p)
def mk5 (m : Me) (q p : Int) : Me := storeM (mk4 m q p) (33 + 2 * q) (2 * p)
def makeI (s : Sy) (q : Int) : Sy × Int :=
  if q < 0 ∨ 7 < q then (s, 1) else match walkI s.1 with
    | none => (s, 2)
    | some [] => (s, 2)
    | some (p :: _) => ((mk5 s.1 q p, s.2), 0)
abbrev vMake (x : Sy × Int) : SV := .tup [(true, cS x.1), (false, [.int .i64 x.2])]
theorem loadI_in {m : Me} {a : Int} (h0 : 0 ≤ a) (h1 : a < (m.1.length : Int)) : loadI m a = nI m.1 a := if_neg (by omega)
theorem turnM_lens {m : Me} {p to : Int} : (turnM m p to).1.length = m.1.length ∧ (turnM m p to).2.1.length = m.2.1.length := by
  unfold turnM
  split
  · exact ⟨rfl, List.length_set⟩
  · exact ⟨rfl, rfl⟩
structure MkOk (m : Me) (q p : Int) : Prop where
  f1 : Fits (mk1 m p)
  f2 : Fits (mk2 m p)
  f3 : Fits (mk3 m p)
  f4 : Fits (mk4 m q p)
  a0 : 0 ≤ atI p 0 ∧ atI p 0 < (m.1.length : Int)
  a1 : 0 ≤ atI p 1 ∧ atI p 1 < ((mk2 m p).1.length : Int)
  z : (0 : Int) ≤ 0 ∧ (0 : Int) < (m.1.length : Int)
theorem mk_ok {m : Me} {q p : Int} (hf : Fits m) (h1 : 1 ≤ p) (h2 : p < (m.2.1.length : Int)) : MkOk m q p := by
  have f1 : Fits (mk1 m p) := storeM_fits hf
  have f2 : Fits (mk2 m p) := turnM_fits f1
  have f3 : Fits (mk3 m p) := storeM_fits f2
  have f4 : Fits (mk4 m q p) := storeM_fits f3
  have hl := hf.1
  have hl2 := hf.2
  have e1 : (mk2 m p).1.length = m.1.length := turnM_lens.1.trans (storeM_len ..).2
  have a0 : atI p 0 = 128 + 4 * (p - 1) + 0 := atI_is (by omega) (by omega) (by decide) (by decide)
  have a1 : atI p 1 = 128 + 4 * (p - 1) + 1 := atI_is (by omega) (by omega) (by decide) (by decide)
  refine ⟨f1, f2, f3, f4, ?_, ?_, ⟨Int.le_refl _, by omega⟩⟩
  · rw [a0]; omega
  · rw [a1, e1]; omega
theorem s_mMakeI (s : Sy) (q : Int) (hf : Fits s.1) : Spec Tryz.prog 17 [vS s, vI q] (vMake (makeI s q)) := by
  have hq := s_isQueue q
  have hlen := hf.2
  by_cases hqq : q < 0 ∨ 7 < q
  · rw [show makeI s q = (s, 1) from if_pos hqq]
    rw [show (decide (0 ≤ q) && decide (q < 8)) = false from by
      rcases hqq with h | h
      · rw [decide_eq_false (show ¬ 0 ≤ q by omega), Bool.false_and]
      · rw [decide_eq_false (show ¬ q < 8 by omega), Bool.and_false]] at hq
    refine spec_introF true tab_ok 0 Tryz.func17 rfl (by kernel_rfl) rfl ?_
    conv => whnf
    repeat (refine ⟨by first | omega | (simp only [Option.getD_none, Option.getD_some]; omega) | (simp; done) | (simp; omega), ?_⟩; conv => whnf)
    first | refine .inl ⟨_, hq, ?_⟩ | refine .inl (.inl ⟨_, hq, ?_⟩)
    conv => whnf
    repeat (refine ⟨by first | omega | (simp only [Option.getD_none, Option.getD_some]; omega) | (simp; done) | (simp; omega), ?_⟩; conv => whnf)
    first | exact .inl rfl | exact .inr rfl
  have hq0 : 0 ≤ q := by omega
  have hq7 : q ≤ 7 := by omega
  rw [decide_eq_true hq0, decide_eq_true (show q < 8 by omega)] at hq
  rw [show makeI s q = (match walkI s.1 with
    | none => (s, 2)
    | some [] => (s, 2)
    | some (p :: _) => ((mk5 s.1 q p, s.2), 0)) from if_neg hqq]
  have hWk := s_sWalkI s.1 hf
  cases hR : walkI s.1 with
  | none =>
    rw [hR] at hWk
    refine spec_introF true tab_ok 0 Tryz.func17 rfl (by kernel_rfl) rfl ?_
    conv => whnf
    repeat (refine ⟨by first | omega | (simp only [Option.getD_none, Option.getD_some]; omega) | (simp; done) | (simp; omega), ?_⟩; conv => whnf)
    first | refine .inl ⟨_, hq, ?_⟩ | refine .inl (.inl ⟨_, hq, ?_⟩)
    conv => whnf
    repeat (refine ⟨by first | omega | (simp only [Option.getD_none, Option.getD_some]; omega) | (simp; done) | (simp; omega), ?_⟩; conv => whnf)
    first | refine .inr (.inl ⟨_, hWk, ?_⟩) | refine .inl (.inr (.inl ⟨_, hWk, ?_⟩))
    conv => whnf
    repeat (refine ⟨by first | omega | (simp only [Option.getD_none, Option.getD_some]; omega) | (simp; done) | (simp; omega), ?_⟩; conv => whnf)
    first | exact .inl rfl | exact .inr rfl
  | some l =>
    rw [hR] at hWk
    cases l with
    | nil =>
      refine spec_introF true tab_ok 0 Tryz.func17 rfl (by kernel_rfl) rfl ?_
      conv => whnf
      repeat (refine ⟨by first | omega | (simp only [Option.getD_none, Option.getD_some]; omega) | (simp; done) | (simp; omega), ?_⟩; conv => whnf)
      first | refine .inl ⟨_, hq, ?_⟩ | refine .inl (.inl ⟨_, hq, ?_⟩)
      conv => whnf
      repeat (refine ⟨by first | omega | (simp only [Option.getD_none, Option.getD_some]; omega) | (simp; done) | (simp; omega), ?_⟩; conv => whnf)
      first | refine .inr (.inl ⟨_, hWk, ?_⟩) | refine .inl (.inr (.inl ⟨_, hWk, ?_⟩))
      conv => whnf
      repeat (refine ⟨by first | omega | (simp only [Option.getD_none, Option.getD_some]; omega) | (simp; done) | (simp; omega), ?_⟩; conv => whnf)
      first | exact .inl rfl | exact .inr rfl
    | cons p l =>
      obtain ⟨p, rfl⟩ : ∃ u : Int, u = p := ⟨p, rfl⟩
      obtain ⟨p1, p2⟩ : 1 ≤ p ∧ p < (s.1.2.1.length : Int) := walkI_mem hR p (List.mem_cons_self ..)
      have p3 : p ≤ 1000 := by omega
      have hmk := mk_ok (m := s.1) (q := q) (p := p) hf p1 p2
      obtain ⟨m1, hm1⟩ : ∃ m1, mk1 s.1 p = m1 := ⟨_, rfl⟩
      obtain ⟨m2, hm2⟩ : ∃ m2, mk2 s.1 p = m2 := ⟨_, rfl⟩
      obtain ⟨m3, hm3⟩ : ∃ m3, mk3 s.1 p = m3 := ⟨_, rfl⟩
      obtain ⟨m4, hm4⟩ : ∃ m4, mk4 s.1 q p = m4 := ⟨_, rfl⟩
      obtain ⟨m5, hm5⟩ : ∃ m5, mk5 s.1 q p = m5 := ⟨_, rfl⟩
      obtain ⟨f1, f2, f3, f4, a0, a1, z0⟩ := hmk
      rw [hm1] at f1
      rw [hm2] at f2 a1
      rw [hm3] at f3
      rw [hm4] at f4
      obtain ⟨w0, hw0⟩ : ∃ w0, nI s.1.1 0 = w0 := ⟨_, rfl⟩
      obtain ⟨k0, hk0⟩ : ∃ k0, nI s.1.1 (atI p 0) = k0 := ⟨_, rfl⟩
      obtain ⟨n1, hn1⟩ : ∃ n1, nI m2.1 (atI p 1) = n1 := ⟨_, rfl⟩
      have hL1 := s_mLoad s.1 (atI p 0) hf
      rw [loadI_in a0.1 a0.2, hk0] at hL1
      have hL0 := s_mLoad s.1 0 hf
      rw [loadI_in z0.1 z0.2, hw0] at hL0
      have hA0 := s_mAt p 0
      have hA1 := s_mAt p 1
      have hL2 := s_mLoad m2 (atI p 1) f2
      rw [loadI_in a1.1 a1.2, hn1] at hL2
      have hS1 := s_mStore s.1 0 (nextI w0 k0 0) hf
      rw [show storeM s.1 0 (nextI w0 k0 0) = m1 from by rw [← hm1, ← hw0, ← hk0]; rfl] at hS1
      have hT := s_mTurn m1 p 1 (Nat.le_trans f1.2 (by decide))
      rw [show turnM m1 p 1 = m2 from by rw [← hm2, ← hm1]; rfl] at hT
      have hS2 := s_mStore m2 (atI p 1) (nextI n1 0 0) f2
      rw [show storeM m2 (atI p 1) (nextI n1 0 0) = m3 from by rw [← hm3, ← hn1, ← hm2]; rfl] at hS2
      have hS3 := s_mStore m3 (32 + 2 * q) (2 * p) f3
      rw [show storeM m3 (32 + 2 * q) (2 * p) = m4 from by rw [← hm4, ← hm3]; rfl] at hS3
      have hS4 := s_mStore m4 (33 + 2 * q) (2 * p) f4
      rw [show storeM m4 (33 + 2 * q) (2 * p) = m5 from by rw [← hm5, ← hm4]; rfl] at hS4
      dsimp only
      rw [hm5]
      have hlp : ((p :: l).length : Int) ≠ 0 := by rw [List.length_cons]; omega
      have hlp2 : (0 : Int) ≤ 0 ∧ (0 : Int) < ((p :: l).length : Int) := ⟨by decide, by rw [List.length_cons]; omega⟩
      have hp0 : List.getD (p :: l) (0 : Int).toNat (dflt tI) = p := rfl
      rw [show vItems (some (p :: l)) = vLB (p :: l) true from rfl] at hWk
      obtain ⟨fl, hfl⟩ : ∃ fl, p :: l = fl := ⟨_, rfl⟩
      rw [hfl] at hlp hlp2 hp0 hWk
      have hNx : Spec Tryz.prog 59 [vI w0, vI k0, vI 0] (vI (nextI w0 k0 0)) := s_Next w0 k0 0
      have hNy : Spec Tryz.prog 59 [vI n1, vI 0, vI 0] (vI (nextI n1 0 0)) := s_Next n1 0 0
      have hSp := s_mSpot8 q hq0 hq7
      have hOf := s_OfP p (by omega) (by omega)
      clear hm1 hm2 hm3 hm4 hm5 hk0 hn1 hw0
      refine spec_introF true tab_ok 0 Tryz.func17 rfl (by kernel_rfl) rfl ?_
      conv => whnf
      repeat (refine ⟨by first | omega | (simp only [Option.getD_none, Option.getD_some]; omega) | (simp; done) | (simp; omega), ?_⟩; conv => whnf)
      first | refine .inl ⟨_, hq, ?_⟩ | refine .inl (.inl ⟨_, hq, ?_⟩)
      conv => whnf
      repeat (refine ⟨by first | omega | (simp only [Option.getD_none, Option.getD_some]; omega) | (simp; done) | (simp; omega), ?_⟩; conv => whnf)
      first | refine .inr (.inl ⟨_, hWk, ?_⟩) | refine .inl (.inr (.inl ⟨_, hWk, ?_⟩))
      conv => whnf
      repeat (refine ⟨by first | omega | (simp only [Option.getD_none, Option.getD_some]; omega) | (simp; done) | (simp; omega), ?_⟩; conv => whnf)
      refine dcase (fun h => absurd h hlp) (fun _ => ?_)
      conv => whnf
      refine ⟨p_msq_Make_6, g_msq_Make_6, by kernel_rfl, ?st1, ?_, ?_⟩
      rotate_left
      · conv => whnf
        repeat' (first | (refine ⟨hlp2, ?_⟩; conv => whnf) | (refine And.intro ?_ ?_ <;> conv => whnf) | exact rfl)
      rw [hp0]
      conv => whnf
      refine ⟨p_msq_Make_7, g_msq_Make_7, by kernel_rfl, ?st2, ?_, ?_⟩
      rotate_left
      · conv => whnf
        repeat' (first | (refine .inl ⟨_, hA0, ?_⟩; conv => whnf) | (refine .inl (.inl ⟨_, hA0, ?_⟩); conv => whnf) | (refine .inr (.inl ⟨_, hL1, ?_⟩); conv => whnf) | (refine .inl (.inr (.inl ⟨_, hL1, ?_⟩)); conv => whnf) | (refine And.intro ?_ ?_ <;> conv => whnf) | exact rfl)
      conv => whnf
      first | refine .inr (.inl ⟨_, hL0, ?_⟩) | refine .inl (.inr (.inl ⟨_, hL0, ?_⟩))
      conv => whnf
      repeat (refine ⟨by first | omega | (simp only [Option.getD_none, Option.getD_some]; omega) | (simp; done) | (simp; omega), ?_⟩; conv => whnf)
      refine ⟨p_msq_Make_9, g_msq_Make_9, by kernel_rfl, ?st3, ?_, ?_⟩
      rotate_left
      · conv => whnf
        repeat' (first | (refine .inl ⟨_, hNx, ?_⟩; conv => whnf) | (refine .inl (.inl ⟨_, hNx, ?_⟩); conv => whnf) | (refine .inr (.inl ⟨_, hS1, ?_⟩); conv => whnf) | (refine .inl (.inr (.inl ⟨_, hS1, ?_⟩)); conv => whnf) | (refine And.intro ?_ ?_ <;> conv => whnf) | exact rfl)
      conv => whnf
      first | refine .inr (.inl ⟨_, hT, ?_⟩) | refine .inl (.inr (.inl ⟨_, hT, ?_⟩))
      conv => whnf
      repeat (refine ⟨by first | omega | (simp only [Option.getD_none, Option.getD_some]; omega) | (simp; done) | (simp; omega), ?_⟩; conv => whnf)
      refine ⟨p_msq_Make_11, g_msq_Make_11, by kernel_rfl, ?st4, ?_, ?_⟩
      rotate_left
      · conv => whnf
        repeat' (first | (refine .inl ⟨_, hA1, ?_⟩; conv => whnf) | (refine .inl (.inl ⟨_, hA1, ?_⟩); conv => whnf) | (refine .inr (.inl ⟨_, hL2, ?_⟩); conv => whnf) | (refine .inl (.inr (.inl ⟨_, hL2, ?_⟩)); conv => whnf) | (refine And.intro ?_ ?_ <;> conv => whnf) | exact rfl)
      conv => whnf
      refine ⟨p_msq_Make_12, g_msq_Make_12, by kernel_rfl, ?st5, ?_, ?_⟩
      rotate_left
      · conv => whnf
        repeat' (first | (refine .inl ⟨_, hA1, ?_⟩; conv => whnf) | (refine .inl (.inl ⟨_, hA1, ?_⟩); conv => whnf) | (refine .inl ⟨_, hNy, ?_⟩; conv => whnf) | (refine .inl (.inl ⟨_, hNy, ?_⟩); conv => whnf) | (refine .inr (.inl ⟨_, hS2, ?_⟩); conv => whnf) | (refine .inl (.inr (.inl ⟨_, hS2, ?_⟩)); conv => whnf) | (refine And.intro ?_ ?_ <;> conv => whnf) | exact rfl)
      conv => whnf
      first | refine .inl ⟨_, hOf, ?_⟩ | refine .inl (.inl ⟨_, hOf, ?_⟩)
      conv => whnf
      repeat (refine ⟨by first | omega | (simp only [Option.getD_none, Option.getD_some]; omega) | (simp; done) | (simp; omega), ?_⟩; conv => whnf)
      refine ⟨p_msq_Make_14, g_msq_Make_14, by kernel_rfl, ?st6, ?_, ?_⟩
      rotate_left
      · conv => whnf
        repeat' (first | (refine .inl ⟨_, hSp, ?_⟩; conv => whnf) | (refine .inl (.inl ⟨_, hSp, ?_⟩); conv => whnf) | (refine .inr (.inl ⟨_, hS3, ?_⟩); conv => whnf) | (refine .inl (.inr (.inl ⟨_, hS3, ?_⟩)); conv => whnf) | (refine And.intro ?_ ?_ <;> conv => whnf) | exact rfl)
      conv => whnf
      refine ⟨p_msq_Make_15, g_msq_Make_15, by kernel_rfl, ?st7, ?_, ?_⟩
      rotate_left
      · conv => whnf
        repeat' (first | (refine .inl ⟨_, hSp, ?_⟩; conv => whnf) | (refine .inl (.inl ⟨_, hSp, ?_⟩); conv => whnf) | ((intro z hz; (replace hz : z = 33 + 2 * q := by rw [IntWalk.wrap64_in _ (by omega)] at hz; omega); subst hz; conv => whnf)) | (refine .inr (.inl ⟨_, hS4, ?_⟩); conv => whnf) | (refine .inl (.inr (.inl ⟨_, hS4, ?_⟩)); conv => whnf) | (refine And.intro ?_ ?_ <;> conv => whnf) | exact rfl)
      conv => whnf
      first | exact .inl rfl | exact .inr rfl
theorem s_refMakeI (s : Sy) (q : Int) (hf : Fits s.1) : Spec Tryz.prog 18 [vS s, vI q] (vMake (makeI s q)) := by
  have hlen := hf.2
  by_cases hqq : q < 0 ∨ 7 < q
  · rw [show makeI s q = (s, 1) from if_pos hqq]
    refine spec_introF true tab_ok 0 Tryz.func18 rfl (by kernel_rfl) rfl ?_
    conv => whnf
    repeat (refine ⟨by first | omega | (simp only [Option.getD_none, Option.getD_some]; omega) | (simp; done) | (simp; omega), ?_⟩; conv => whnf)
    refine dcase (fun h => ?_) (fun h => ?_)
    · skip
      conv => whnf
      repeat (refine ⟨by first | omega | (simp only [Option.getD_none, Option.getD_some]; omega) | (simp; done) | (simp; omega), ?_⟩; conv => whnf)
      first | exact .inl rfl | exact .inr rfl
    replace h : ¬ q < 0 := h
    conv => whnf
    repeat (refine ⟨by first | omega | (simp only [Option.getD_none, Option.getD_some]; omega) | (simp; done) | (simp; omega), ?_⟩; conv => whnf)
    refine dcase (fun h2 => ?_) (fun h2 => ?_)
    · skip
      conv => whnf
      repeat (refine ⟨by first | omega | (simp only [Option.getD_none, Option.getD_some]; omega) | (simp; done) | (simp; omega), ?_⟩; conv => whnf)
      first | exact .inl rfl | exact .inr rfl
    exact absurd (hqq.resolve_left h) h2
  have hq0 : 0 ≤ q := by omega
  have hq7 : q ≤ 7 := by omega
  rw [show makeI s q = (match walkI s.1 with
    | none => (s, 2)
    | some [] => (s, 2)
    | some (p :: _) => ((mk5 s.1 q p, s.2), 0)) from if_neg hqq]
  have hWk := s_refWalkI s.1 hf
  have no1 : ¬ q < 0 := by omega
  have no2 : ¬ (7 : Int) < q := by omega
  cases hR : walkI s.1 with
  | none =>
    rw [hR] at hWk
    refine spec_introF true tab_ok 0 Tryz.func18 rfl (by kernel_rfl) rfl ?_
    conv => whnf
    repeat (refine ⟨by first | omega | (simp only [Option.getD_none, Option.getD_some]; omega) | (simp; done) | (simp; omega), ?_⟩; conv => whnf)
    refine dcase (fun h => absurd h no1) (fun _ => ?_)
    conv => whnf
    repeat (refine ⟨by first | omega | (simp only [Option.getD_none, Option.getD_some]; omega) | (simp; done) | (simp; omega), ?_⟩; conv => whnf)
    refine dcase (fun h => absurd h no2) (fun _ => ?_)
    conv => whnf
    repeat (refine ⟨by first | omega | (simp only [Option.getD_none, Option.getD_some]; omega) | (simp; done) | (simp; omega), ?_⟩; conv => whnf)
    first | refine .inr (.inl ⟨_, hWk, ?_⟩) | refine .inl (.inr (.inl ⟨_, hWk, ?_⟩))
    conv => whnf
    repeat (refine ⟨by first | omega | (simp only [Option.getD_none, Option.getD_some]; omega) | (simp; done) | (simp; omega), ?_⟩; conv => whnf)
    first | exact .inl rfl | exact .inr rfl
  | some l =>
    rw [hR] at hWk
    cases l with
    | nil =>
      refine spec_introF true tab_ok 0 Tryz.func18 rfl (by kernel_rfl) rfl ?_
      conv => whnf
      repeat (refine ⟨by first | omega | (simp only [Option.getD_none, Option.getD_some]; omega) | (simp; done) | (simp; omega), ?_⟩; conv => whnf)
      refine dcase (fun h => absurd h no1) (fun _ => ?_)
      conv => whnf
      repeat (refine ⟨by first | omega | (simp only [Option.getD_none, Option.getD_some]; omega) | (simp; done) | (simp; omega), ?_⟩; conv => whnf)
      refine dcase (fun h => absurd h no2) (fun _ => ?_)
      conv => whnf
      repeat (refine ⟨by first | omega | (simp only [Option.getD_none, Option.getD_some]; omega) | (simp; done) | (simp; omega), ?_⟩; conv => whnf)
      first | refine .inr (.inl ⟨_, hWk, ?_⟩) | refine .inl (.inr (.inl ⟨_, hWk, ?_⟩))
      conv => whnf
      repeat (refine ⟨by first | omega | (simp only [Option.getD_none, Option.getD_some]; omega) | (simp; done) | (simp; omega), ?_⟩; conv => whnf)
      first | exact .inl rfl | exact .inr rfl
    | cons p l =>
      obtain ⟨p, rfl⟩ : ∃ u : Int, u = p := ⟨p, rfl⟩
      obtain ⟨p1, p2⟩ : 1 ≤ p ∧ p < (s.1.2.1.length : Int) := walkI_mem hR p (List.mem_cons_self ..)
      have p3 : p ≤ 1000 := by omega
      have hmk := mk_ok (m := s.1) (q := q) (p := p) hf p1 p2
      obtain ⟨m1, hm1⟩ : ∃ m1, mk1 s.1 p = m1 := ⟨_, rfl⟩
      obtain ⟨m2, hm2⟩ : ∃ m2, mk2 s.1 p = m2 := ⟨_, rfl⟩
      obtain ⟨m3, hm3⟩ : ∃ m3, mk3 s.1 p = m3 := ⟨_, rfl⟩
      obtain ⟨m4, hm4⟩ : ∃ m4, mk4 s.1 q p = m4 := ⟨_, rfl⟩
      obtain ⟨m5, hm5⟩ : ∃ m5, mk5 s.1 q p = m5 := ⟨_, rfl⟩
      obtain ⟨f1, f2, f3, f4, a0, a1, z0⟩ := hmk
      rw [hm1] at f1
      rw [hm2] at f2 a1
      rw [hm3] at f3
      rw [hm4] at f4
      have big : ∀ {m : Me}, Fits m → m.2.1.length ≤ 1000000 ∧ m.1.length ≤ 1000000 := fun h => by have := h.1; have := h.2; exact ⟨by omega, by omega⟩
      obtain ⟨w0, hw0⟩ : ∃ w0, nI s.1.1 0 = w0 := ⟨_, rfl⟩
      obtain ⟨k0, hk0⟩ : ∃ k0, nI s.1.1 (atI p 0) = k0 := ⟨_, rfl⟩
      obtain ⟨n1, hn1⟩ : ∃ n1, nI m2.1 (atI p 1) = n1 := ⟨_, rfl⟩
      have g0 : List.getD s.1.1 (0 : Int).toNat (dflt tI) = w0 := hw0
      have gk : List.getD s.1.1 (atI p 0).toNat (dflt tI) = k0 := hk0
      have gn : List.getD m2.1 (atI p 1).toNat (dflt tI) = n1 := hn1
      have hA0 := s_refAt p 0
      have hA1 := s_refAt p 1
      have hS1 := s_refStore s.1 0 (nextI w0 k0 0) (big hf).1 (big hf).2
      rw [show storeM s.1 0 (nextI w0 k0 0) = m1 from by rw [← hm1, ← hw0, ← hk0]; rfl] at hS1
      have hT := s_refTurn m1 p 1 (big f1).1
      rw [show turnM m1 p 1 = m2 from by rw [← hm2, ← hm1]; rfl] at hT
      have hS2 := s_refStore m2 (atI p 1) (nextI n1 0 0) (big f2).1 (big f2).2
      rw [show storeM m2 (atI p 1) (nextI n1 0 0) = m3 from by rw [← hm3, ← hn1, ← hm2]; rfl] at hS2
      have hS3 := s_refStore m3 (32 + 2 * q) (2 * p) (big f3).1 (big f3).2
      rw [show storeM m3 (32 + 2 * q) (2 * p) = m4 from by rw [← hm4, ← hm3]; rfl] at hS3
      have hS4 := s_refStore m4 (33 + 2 * q) (2 * p) (big f4).1 (big f4).2
      rw [show storeM m4 (33 + 2 * q) (2 * p) = m5 from by rw [← hm5, ← hm4]; rfl] at hS4
      dsimp only
      rw [hm5]
      have hlp : ((p :: l).length : Int) ≠ 0 := by rw [List.length_cons]; omega
      have hlp2 : (0 : Int) ≤ 0 ∧ (0 : Int) < ((p :: l).length : Int) := ⟨by decide, by rw [List.length_cons]; omega⟩
      have hp0 : List.getD (p :: l) (0 : Int).toNat (dflt tI) = p := rfl
      rw [show vItems (some (p :: l)) = vLB (p :: l) true from rfl] at hWk
      obtain ⟨fl, hfl⟩ : ∃ fl, p :: l = fl := ⟨_, rfl⟩
      rw [hfl] at hlp hlp2 hp0 hWk
      have hNx : Spec Tryz.prog 63 [vI w0, vI k0, vI 0] (vI (nextI w0 k0 0)) := s_refNext w0 k0 0
      have hNy : Spec Tryz.prog 63 [vI n1, vI 0, vI 0] (vI (nextI n1 0 0)) := s_refNext n1 0 0
      have hSp := s_Spot8 q hq0 hq7
      have hMm := s_refMem s m5
      clear hm1 hm2 hm3 hm4 hm5 hk0 hn1 hw0
      refine spec_introF true tab_ok 0 Tryz.func18 rfl (by kernel_rfl) rfl ?_
      conv => whnf
      repeat (refine ⟨by first | omega | (simp only [Option.getD_none, Option.getD_some]; omega) | (simp; done) | (simp; omega), ?_⟩; conv => whnf)
      refine dcase (fun h => absurd h no1) (fun _ => ?_)
      conv => whnf
      repeat (refine ⟨by first | omega | (simp only [Option.getD_none, Option.getD_some]; omega) | (simp; done) | (simp; omega), ?_⟩; conv => whnf)
      refine dcase (fun h => absurd h no2) (fun _ => ?_)
      conv => whnf
      repeat (refine ⟨by first | omega | (simp only [Option.getD_none, Option.getD_some]; omega) | (simp; done) | (simp; omega), ?_⟩; conv => whnf)
      first | refine .inr (.inl ⟨_, hWk, ?_⟩) | refine .inl (.inr (.inl ⟨_, hWk, ?_⟩))
      conv => whnf
      repeat (refine ⟨by first | omega | (simp only [Option.getD_none, Option.getD_some]; omega) | (simp; done) | (simp; omega), ?_⟩; conv => whnf)
      refine dcase (fun h => absurd h hlp) (fun _ => ?_)
      conv => whnf
      refine ⟨hlp2, ?_⟩
      conv => whnf
      rw [hp0]
      conv => whnf
      refine ⟨z0, ?_⟩
      conv => whnf
      rw [g0]
      conv => whnf
      refine ⟨p_hazelref08_Make_8, g_hazelref08_Make_8, by kernel_rfl, ?st8, ?_, ?_⟩
      rotate_left
      · conv => whnf
        repeat' (first | (refine .inl ⟨_, hA0, ?_⟩; conv => whnf) | (refine .inl (.inl ⟨_, hA0, ?_⟩); conv => whnf) | (refine ⟨a0, ?_⟩; conv => whnf) | (refine And.intro ?_ ?_ <;> conv => whnf) | exact rfl)
      conv => whnf
      rw [gk]
      conv => whnf
      refine ⟨p_hazelref08_Make_9, g_hazelref08_Make_9, by kernel_rfl, ?st9, ?_, ?_⟩
      rotate_left
      · conv => whnf
        repeat' (first | (refine .inl ⟨_, hNx, ?_⟩; conv => whnf) | (refine .inl (.inl ⟨_, hNx, ?_⟩); conv => whnf) | (refine .inr (.inl ⟨_, hS1, ?_⟩); conv => whnf) | (refine .inl (.inr (.inl ⟨_, hS1, ?_⟩)); conv => whnf) | (refine And.intro ?_ ?_ <;> conv => whnf) | exact rfl)
      conv => whnf
      first | refine .inr (.inl ⟨_, hT, ?_⟩) | refine .inl (.inr (.inl ⟨_, hT, ?_⟩))
      conv => whnf
      repeat (refine ⟨by first | omega | (simp only [Option.getD_none, Option.getD_some]; omega) | (simp; done) | (simp; omega), ?_⟩; conv => whnf)
      refine ⟨p_hazelref08_Make_11, g_hazelref08_Make_11, by kernel_rfl, ?st10, ?_, ?_⟩
      rotate_left
      · conv => whnf
        repeat' (first | (refine .inl ⟨_, hA1, ?_⟩; conv => whnf) | (refine .inl (.inl ⟨_, hA1, ?_⟩); conv => whnf) | (refine ⟨a1, ?_⟩; conv => whnf) | (refine And.intro ?_ ?_ <;> conv => whnf) | exact rfl)
      conv => whnf
      rw [gn]
      conv => whnf
      refine ⟨p_hazelref08_Make_12, g_hazelref08_Make_12, by kernel_rfl, ?st11, ?_, ?_⟩
      rotate_left
      · conv => whnf
        repeat' (first | (refine .inl ⟨_, hA1, ?_⟩; conv => whnf) | (refine .inl (.inl ⟨_, hA1, ?_⟩); conv => whnf) | (refine .inl ⟨_, hNy, ?_⟩; conv => whnf) | (refine .inl (.inl ⟨_, hNy, ?_⟩); conv => whnf) | (refine .inr (.inl ⟨_, hS2, ?_⟩); conv => whnf) | (refine .inl (.inr (.inl ⟨_, hS2, ?_⟩)); conv => whnf) | (refine And.intro ?_ ?_ <;> conv => whnf) | exact rfl)
      conv => whnf
      refine ⟨p_hazelref08_Make_13, g_hazelref08_Make_13, by kernel_rfl, ?st12, ?_, ?_⟩
      rotate_left
      · conv => whnf
        repeat' (first | (refine .inl ⟨_, hSp, ?_⟩; conv => whnf) | (refine .inl (.inl ⟨_, hSp, ?_⟩); conv => whnf) | ((intro z hz; (replace hz : z = 2 * p := by rw [IntWalk.wrap64_in _ (by omega)] at hz; omega); subst hz; conv => whnf)) | (refine .inr (.inl ⟨_, hS3, ?_⟩); conv => whnf) | (refine .inl (.inr (.inl ⟨_, hS3, ?_⟩)); conv => whnf) | (refine And.intro ?_ ?_ <;> conv => whnf) | exact rfl)
      conv => whnf
      refine ⟨p_hazelref08_Make_14, g_hazelref08_Make_14, by kernel_rfl, ?st13, ?_, ?_⟩
      rotate_left
      · conv => whnf
        repeat' (first | (refine .inl ⟨_, hSp, ?_⟩; conv => whnf) | (refine .inl (.inl ⟨_, hSp, ?_⟩); conv => whnf) | ((intro z hz; (replace hz : z = 2 * p := by rw [IntWalk.wrap64_in _ (by omega)] at hz; omega); subst hz; conv => whnf)) | ((intro z hz; (replace hz : z = 33 + 2 * q := by rw [IntWalk.wrap64_in _ (by omega)] at hz; omega); subst hz; conv => whnf)) | (refine .inr (.inl ⟨_, hS4, ?_⟩); conv => whnf) | (refine .inl (.inr (.inl ⟨_, hS4, ?_⟩)); conv => whnf) | (refine And.intro ?_ ?_ <;> conv => whnf) | exact rfl)
      conv => whnf
      first | refine .inr (.inl ⟨_, hMm, ?_⟩) | refine .inl (.inr (.inl ⟨_, hMm, ?_⟩))
      conv => whnf
      repeat (refine ⟨by first | omega | (simp only [Option.getD_none, Option.getD_some]; omega) | (simp; done) | (simp; omega), ?_⟩; conv => whnf)
      first | exact .inl rfl | exact .inr rfl
end Go.Proofs.YtpobngddiifdpaaGreat.V
