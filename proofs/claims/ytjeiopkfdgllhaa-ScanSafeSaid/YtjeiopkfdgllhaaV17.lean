/- The example of layer 6's statements. -/
import Derived.Test.YtjeiopkfdgllhaaV20
set_option linter.unusedSimpArgs false
set_option linter.unusedVariables false
namespace Go.Proofs.Ytjeiopkfdgllhaa.V
open Go Go.RowKit Go.Proofs.Ytjeiopkfdgllhaa.Hz
set_option maxRecDepth 100000

theorem fillN_G (m : Me) (n : Int) : ∀ j : Nat, (fillN m n j).2.1 = m.2.1
  | 0 => rfl
  | j + 1 => by
    show (storeM (fillN m n j) _ _).2.1 = _
    unfold storeM
    split
    · exact fillN_G m n j
    · exact fillN_G m n j

theorem fillN_succ (m : Me) (n : Int) (j : Nat) : fillN m n (j + 1) = storeM (fillN m n j) (atI ((j : Int) + 1) 0) (if (j : Int) + 1 = n then 0 else (j : Int) + 2) := rfl
theorem storeM_in {X G : Li} {B : Bool} {p v : Int} (h0 : 0 ≤ p) (h1 : p < X.length) : storeM (X, G, B, ()) p v = (List.set (α := Int) X p.toNat v, G, badB (X, G, B, ()) p, ()) := if_neg (fun h => by
  have h2 : p < 0 ∨ (X.length : Int) ≤ p := h
  omega)
def W9 : Li := List.replicate (164 : Int).toNat (dflt tI)
def G9 : Li := List.replicate (10 : Int).toNat (dflt tI)
def C9 : List Cor := List.replicate (2 : Int).toNat (dflt tCore)
/-- The system of the example, before its first op. -/
def sys9 : Sy := ((List.set (α := Int) (fillN (W9, G9, false, ()) 9 9).1 (0 : Int).toNat 2, List.set (α := Int) G9 (1 : Int).toNat 1, badB ((fillN (W9, G9, false, ()) 9 9).1, G9, (fillN (W9, G9, false, ()) 9 9).2.2.1, ()) 0, ()), C9, ([] : List Evt), ())
theorem sys9_is : retI (scanS (callS sys9 0 5 1 0 0) 0).2.1 = [1] ∧ (scanS (callS sys9 0 5 1 0 0) 0).1.2.1.length = 10 ∧ nI (scanS (callS sys9 0 5 1 0 0) 0).1.2.1 1 = 2 ∧ (scanS (callS sys9 0 5 1 0 0) 0).2.1.length = 2 ∧ (cAt (scanS (callS sys9 0 5 1 0 0) 0).2.1 0).2.1 = 1 := by decide +kernel
theorem sys9_ret : ∀ i : Nat, i ≤ (scanS (callS sys9 0 5 1 0 0) 0).2.1.length → (retI ((scanS (callS sys9 0 5 1 0 0) 0).2.1.take i)).length ≤ 1000000 := by
  have h : ∀ i : Nat, i < 3 → (retI ((scanS (callS sys9 0 5 1 0 0) 0).2.1.take i)).length ≤ 1000000 := by decide +kernel
  intro i hi
  rw [sys9_is.2.2.2.1] at hi
  exact h i (by omega)
theorem sys9_fin : Fin 0 sys9 := by
  refine ⟨⟨?_, ?_⟩, ?_, fun c hc => ?_, Nat.le_refl _⟩
  · decide +kernel
  · decide +kernel
  · decide +kernel
  · rw [(List.mem_replicate.1 (show c ∈ List.replicate _ _ from hc)).2]
    exact dflt_finC

theorem s_shown06 : Spec Try.prog 8 [] (vB true) := by
  refine spec_introF true tab_ok 6 Try.func8 rfl (by kernel_rfl) rfl ?_
  conv => whnf
  refine .inr ⟨_, _, 100, Try.func9, ⟨by kernel_rfl, rfl⟩, ?_⟩
  conv => whnf
  refine .inr ⟨_, _, 200, Try.func29, ⟨by kernel_rfl, rfl⟩, ?_⟩
  conv => whnf
  refine .inr ⟨_, _, 300, Try.func52, ⟨by kernel_rfl, rfl⟩, ?_⟩
  conv => whnf
  have e1 : wrap64 (128 + wrap64 (4 * 9)) = 164 := by decide +kernel
  have e2 : wrap64 (9 + 1) = 10 := by decide +kernel
  refine ⟨p_hazelref02_New_3, [], by kernel_rfl, ?st1, ?_, ?_⟩
  rotate_left
  · conv => whnf
    repeat' (first | (refine ⟨by first | omega | (simp only [Option.getD_none, Option.getD_some]; omega) | (simp; done) | (simp; omega), ?_⟩; conv => whnf) | ((intro z hz; subst hz; conv => whnf)) | (refine ⟨(by rw [e1]; decide), ?_⟩; conv => whnf) | (refine ⟨(by rw [e2]; decide), ?_⟩; conv => whnf) | (refine And.intro ?_ ?_ <;> conv => whnf) | exact rfl)
  erw [e1, e2]
  clear e1 e2
  generalize hW : List.replicate (164 : Int).toNat (dflt tI) = W
  generalize hG : List.replicate (10 : Int).toNat (dflt tI) = G
  conv => whnf
  refine ⟨p_hazelref03_New_4, [206], by kernel_rfl, ?st2, ?_, ?_⟩
  rotate_left
  · conv => whnf
    repeat' (first | (refine ⟨by first | omega | (simp only [Option.getD_none, Option.getD_some]; omega) | (simp; done) | (simp; omega), ?_⟩; conv => whnf) | (refine And.intro ?_ ?_ <;> conv => whnf) | exact rfl)
  generalize hC : List.replicate (2 : Int).toNat (dflt tCore) = CC
  have hWl : W.length = 164 := by rw [← hW]; exact List.length_replicate
  have hGl : G.length = 10 := by rw [← hG]; exact List.length_replicate
  conv => whnf
  obtain ⟨F, hF⟩ : ∃ F : Nat → Me, ∀ j, F j = fillN (W, G, false, ()) 9 j := ⟨_, fun _ => rfl⟩
  have hF0 : F 0 = (W, G, false, ()) := hF 0
  refine ⟨p_hazelref04_New_4, [105], by kernel_rfl, ?st3, ?_, ?_⟩
  rotate_left
  · conv => whnf
    refine .inr ⟨_, _, 400, Try.func31, ⟨by kernel_rfl, rfl⟩, ?_⟩
    conv => whnf
    have e3 : wrap64 ((G.length : Int) - 1) = 9 := by rw [hGl]; decide +kernel
    intro z hz
    rw [e3] at hz
    clear e3
    subst hz
    conv => whnf
    refine ⟨[(1000000, 314, 0, .nil), (1000000, 525, 0, .nil)], [1, 2, 3, 4], [104, 401, 402, 317, 226], ?_⟩
    apply Exists.intro
    conv => whnf
    refine loopKs (fun j : Nat => 9 - j) (fun j => j ≤ 9) (fun stk j => ⟨lay 27 0 [(1, pB 401), (2, pB 402), (3, vI 9), (4, vI ((j : Int) + 1))], [(104, .cells ySys (zeroC tSys)), (226, .row yCore tCore CC), (317, .row yInt tI G), (401, .cells yMem [.sl tI (F j).1 false, .row 317, .bool (F j).2.2.1]), (402, .cells yMem (zeroC tMem))], stk⟩) ?_ 0 rfl (by rw [hF0]; rfl) (by decide)
    intro j ih hj hih
    have hl : (F j).1.length = W.length := by rw [hF]; exact (fillN_len (W, G, false, ()) 9 j).2
    conv => whnf
    refine dcase (fun h => ?_) (fun h => ?_)
    · have h9 : (j : Int) + 1 ≤ 9 := h
      obtain ⟨X, B, hX⟩ : ∃ X B, F j = (X, G, B, ()) := ⟨(F j).1, (F j).2.2.1, by
        have hg : (F j).2.1 = G := by rw [hF]; exact fillN_G (W, G, false, ()) 9 j
        exact congrArg (fun g => ((F j).1, g, (F j).2.2.1, ())) hg⟩
      rw [hX]
      have hXl : X.length = 164 := by rw [hX] at hl; exact hl.trans hWl
      have hXl2 : List.length ((X, G, B, ()) : Me).1 = 164 := hXl
      obtain ⟨p, hpe⟩ : ∃ p, atI ((j : Int) + 1) 0 = p := ⟨_, rfl⟩
      have hAt : Spec Try.prog 33 [vI ((j : Int) + 1), vI 0] (vI p) := hpe ▸ s_refAt _ _
      have hat : p = 128 + 4 * j := by rw [← hpe]; rw [atI_is (by omega) (by omega) (by omega) (by omega)]; omega
      have hp0 : 0 ≤ p := by omega
      have hp1 : p < X.length := by omega
      have ew : VHold (wrap64 ((j : Int) + 1 + 1) = ((j + 1 : Nat) : Int) + 1) := ⟨by rw [IntWalk.wrap64_in _ (by omega)]; omega⟩
      have hnext : ∀ v, (if (j : Int) + 1 = 9 then 0 else (j : Int) + 2) = v → F (j + 1) = (List.set (α := Int) X p.toNat v, G, badB (X, G, B, ()) p, ()) := fun v hv => by
        rw [hF, fillN_succ, ← hF, hX, hv, hpe, storeM_in hp0 hp1]
      conv => whnf
      intro z hz
      rw [ew.out] at hz
      subst hz
      conv => whnf
      refine dcase (fun h2 => ?_) (fun h2 => ?_)
      · conv => whnf
        refine ⟨p_hazelref04_Fill_8, [], by kernel_rfl, ?stFa, ?_, ?_⟩
        rotate_left
        · conv => whnf
          refine ⟨?_, ?_⟩
          · conv => whnf
            first | refine .inl ⟨_, hAt, ?_⟩ | refine .inl (.inl ⟨_, hAt, ?_⟩)
            conv => whnf
            refine .inr ⟨_, _, 500, Try.func32, ⟨by kernel_rfl, rfl⟩, ?_⟩
            conv => whnf
            refine dcase (fun hc => absurd hc (Int.not_lt.2 hp0)) (fun _ => ?_)
            conv => whnf
            refine dcase (fun hc => absurd hc (Int.not_le.2 hp1)) (fun _ => ?_)
            conv => whnf
            refine ⟨le_most (by omega), ?_⟩
            conv => whnf
            repeat (refine ⟨by first | omega | (simp only [Option.getD_none, Option.getD_some]; omega) | (simp; done) | (simp; omega), ?_⟩; conv => whnf)
            refine ⟨p_hazelref02_Store_5, [503], by kernel_rfl, ?stBa1, ?_, ?_⟩
            rotate_left
            · conv => whnf
              repeat (refine ⟨by first | omega | (simp only [Option.getD_none, Option.getD_some]; omega) | (simp; done) | (simp; omega), ?_⟩; conv => whnf)
              first | refine .inl ⟨_, s_refBad (X, G, B, ()) p (by show G.length ≤ 1000000; omega), ?_⟩ | refine .inl (.inl ⟨_, s_refBad (X, G, B, ()) p (by show G.length ≤ 1000000; omega), ?_⟩)
              conv => whnf
            conv => whnf
          · conv => whnf
            first | refine .inl ⟨_, hAt, ?_⟩ | refine .inl (.inl ⟨_, hAt, ?_⟩)
            conv => whnf
            refine .inr ⟨_, _, 500, Try.func32, ⟨by kernel_rfl, rfl⟩, ?_⟩
            conv => whnf
            refine dcase (fun hc => absurd hc (Int.not_lt.2 hp0)) (fun _ => ?_)
            conv => whnf
            refine dcase (fun hc => absurd hc (Int.not_le.2 hp1)) (fun _ => ?_)
            conv => whnf
            refine ⟨le_most (by omega), ?_⟩
            conv => whnf
            repeat (refine ⟨by first | omega | (simp only [Option.getD_none, Option.getD_some]; omega) | (simp; done) | (simp; omega), ?_⟩; conv => whnf)
            refine ⟨p_hazelref02_Store_5, [503], by kernel_rfl, ?stBa2, ?_, ?_⟩
            rotate_left
            · conv => whnf
              repeat (refine ⟨by first | omega | (simp only [Option.getD_none, Option.getD_some]; omega) | (simp; done) | (simp; omega), ?_⟩; conv => whnf)
              first | refine .inl ⟨_, s_refBad (X, G, B, ()) p (by show G.length ≤ 1000000; omega), ?_⟩ | refine .inl (.inl ⟨_, s_refBad (X, G, B, ()) p (by show G.length ≤ 1000000; omega), ?_⟩)
              conv => whnf
            conv => whnf
        conv => whnf
        have h6 := hih (j + 1) (by omega) (by omega)
        rw [hnext _ (if_pos h2)] at h6
        intro z hz
        rw [ew.out] at hz
        subst hz
        conv => whnf
        exact h6
      · conv => whnf
        refine ⟨p_hazelref04_Fill_8, [], by kernel_rfl, ?stFb, ?_, ?_⟩
        rotate_left
        · conv => whnf
          refine ⟨?_, ?_⟩
          · conv => whnf
            first | refine .inl ⟨_, hAt, ?_⟩ | refine .inl (.inl ⟨_, hAt, ?_⟩)
            conv => whnf
            refine .inr ⟨_, _, 500, Try.func32, ⟨by kernel_rfl, rfl⟩, ?_⟩
            conv => whnf
            refine dcase (fun hc => absurd hc (Int.not_lt.2 hp0)) (fun _ => ?_)
            conv => whnf
            refine dcase (fun hc => absurd hc (Int.not_le.2 hp1)) (fun _ => ?_)
            conv => whnf
            refine ⟨le_most (by omega), ?_⟩
            conv => whnf
            repeat (refine ⟨by first | omega | (simp only [Option.getD_none, Option.getD_some]; omega) | (simp; done) | (simp; omega), ?_⟩; conv => whnf)
            refine ⟨p_hazelref02_Store_5, [503], by kernel_rfl, ?stBb1, ?_, ?_⟩
            rotate_left
            · conv => whnf
              repeat (refine ⟨by first | omega | (simp only [Option.getD_none, Option.getD_some]; omega) | (simp; done) | (simp; omega), ?_⟩; conv => whnf)
              first | refine .inl ⟨_, s_refBad (X, G, B, ()) p (by show G.length ≤ 1000000; omega), ?_⟩ | refine .inl (.inl ⟨_, s_refBad (X, G, B, ()) p (by show G.length ≤ 1000000; omega), ?_⟩)
              conv => whnf
            conv => whnf
          · conv => whnf
            first | refine .inl ⟨_, hAt, ?_⟩ | refine .inl (.inl ⟨_, hAt, ?_⟩)
            conv => whnf
            refine .inr ⟨_, _, 500, Try.func32, ⟨by kernel_rfl, rfl⟩, ?_⟩
            conv => whnf
            refine dcase (fun hc => absurd hc (Int.not_lt.2 hp0)) (fun _ => ?_)
            conv => whnf
            refine dcase (fun hc => absurd hc (Int.not_le.2 hp1)) (fun _ => ?_)
            conv => whnf
            refine ⟨le_most (by omega), ?_⟩
            conv => whnf
            repeat (refine ⟨by first | omega | (simp only [Option.getD_none, Option.getD_some]; omega) | (simp; done) | (simp; omega), ?_⟩; conv => whnf)
            refine ⟨p_hazelref02_Store_5, [503], by kernel_rfl, ?stBb2, ?_, ?_⟩
            rotate_left
            · conv => whnf
              repeat (refine ⟨by first | omega | (simp only [Option.getD_none, Option.getD_some]; omega) | (simp; done) | (simp; omega), ?_⟩; conv => whnf)
              first | refine .inl ⟨_, s_refBad (X, G, B, ()) p (by show G.length ≤ 1000000; omega), ?_⟩ | refine .inl (.inl ⟨_, s_refBad (X, G, B, ()) p (by show G.length ≤ 1000000; omega), ?_⟩)
              conv => whnf
            conv => whnf
        conv => whnf
        have h6 := hih (j + 1) (by omega) (by omega)
        rw [hnext _ ((if_neg h2).trans (show (j : Int) + 2 = ((j + 1 : Nat) : Int) + 1 by omega))] at h6
        intro z hz
        rw [ew.out] at hz
        subst hz
        conv => whnf
        exact h6
    · have e : j = 9 := by
        have h9 : ¬ (j : Int) + 1 ≤ 9 := h
        omega
      subst e
      conv => whnf
      have hl9 : (F 9).1.length = 164 := hl.trans hWl
      refine .inr ⟨_, _, 600, Try.func32, ⟨by kernel_rfl, rfl⟩, ?_⟩
      conv => whnf
      refine dcase (fun hc => absurd hc (by omega)) (fun _ => ?_)
      conv => whnf
      refine ⟨le_most (by omega), ?_⟩
      conv => whnf
      repeat (refine ⟨by first | omega | (simp only [Option.getD_none, Option.getD_some]; omega) | (simp; done) | (simp; omega), ?_⟩; conv => whnf)
      refine ⟨p_hazelref02_Store_5, [603], by kernel_rfl, ?stBc, ?_, ?_⟩
      rotate_left
      · conv => whnf
        repeat (refine ⟨by first | omega | (simp only [Option.getD_none, Option.getD_some]; omega) | (simp; done) | (simp; omega), ?_⟩; conv => whnf)
        first | refine .inl ⟨_, s_refBad ((F 9).1, G, (F 9).2.2.1, ()) 0 (by show G.length ≤ 1000000; omega), ?_⟩ | refine .inl (.inl ⟨_, s_refBad ((F 9).1, G, (F 9).2.2.1, ()) 0 (by show G.length ≤ 1000000; omega), ?_⟩)
        conv => whnf
      conv => whnf
      refine .inr ⟨_, _, 700, Try.func30, ⟨by kernel_rfl, rfl⟩, ?_⟩
      conv => whnf
  conv => whnf
  refine ⟨⟨by decide, by rw [hGl]; decide⟩, ?_⟩
  conv => whnf
  refine ⟨by rw [hGl]; decide, ?_⟩
  conv => whnf
  have h1 : ∃ s t : Sy, Spec Try.prog 19 [vS (((List.set (α := Int) (F 9).1 (0 : Int).toNat 2, List.set (α := Int) G (1 : Int).toNat 1, badB ((F 9).1, G, (F 9).2.2.1, ()) 0, ()), CC, ([] : List Evt), ()) : Sy), vI 0, vI 5, vI 1, vI 0, vI 0] (vS s) ∧ Spec Try.prog 18 [vS s, vI 0] (vS t) ∧ Fin (0 + 1) t ∧ (retI t.2.1 = [1] ∧ t.1.2.1.length = 10 ∧ nI t.1.2.1 1 = 2 ∧ t.2.1.length = 2 ∧ (cAt t.2.1 0).2.1 = 1) ∧ (∀ i : Nat, i ≤ t.2.1.length → (retI (t.2.1.take i)).length ≤ 1000000) := by
    refine ⟨callS sys9 0 5 1 0 0, scanS (callS sys9 0 5 1 0 0) 0, ?_, s_scanStep (callS sys9 0 5 1 0 0) 0 sys9_fin.callS (by decide), scanS_fin (k := 0) (sys9_fin.callS (k := 0) (op := 5) (a := 1) (b := 0) (d := 0)), sys9_is, sys9_ret⟩
    rw [hF]
    subst hW hG hC
    exact s_refCall sys9 0 5 1 0 0 (Nat.le_trans sys9_fin.cores (by decide))
  obtain ⟨s, t, h1, hstep, hfs, ⟨t1, t2, t3, t4, t5⟩, hret⟩ := h1
  first | refine .inr (.inl ⟨_, h1, ?_⟩) | refine .inl (.inr (.inl ⟨_, h1, ?_⟩))
  conv => whnf
  first | refine .inr (.inl ⟨_, hstep, ?_⟩) | refine .inl (.inr (.inl ⟨_, hstep, ?_⟩))
  conv => whnf
  repeat (refine ⟨by first | omega | (simp only [Option.getD_none, Option.getD_some]; omega) | (simp; done) | (simp; omega), ?_⟩; conv => whnf)
  first | refine .inr (.inl ⟨_, s_Retired t hfs.cores hret, ?_⟩) | refine .inl (.inr (.inl ⟨_, s_Retired t hfs.cores hret, ?_⟩))
  conv => whnf
  repeat (refine ⟨by first | omega | (simp only [Option.getD_none, Option.getD_some]; omega) | (simp; done) | (simp; omega), ?_⟩; conv => whnf)
  first | refine .inl ⟨_, s_Limit 2 (by decide) (by decide), ?_⟩ | refine .inl (.inl ⟨_, s_Limit 2 (by decide) (by decide), ?_⟩)
  conv => whnf
  repeat (refine ⟨by first | omega | (simp only [Option.getD_none, Option.getD_some]; omega) | (simp; done) | (simp; omega), ?_⟩; conv => whnf)
  have hI : Spec Try.prog 20 [vL (retI t.2.1), vL [1]] (vB true) := by
    have h := s_refInts [1] [1] (by decide)
    rw [sameB_yes rfl] at h
    rw [t1]
    exact h
  first | refine .inl ⟨_, hI, ?_⟩ | refine .inl (.inl ⟨_, hI, ?_⟩)
  conv => whnf
  repeat (refine ⟨by first | omega | (simp only [Option.getD_none, Option.getD_some]; omega) | (simp; done) | (simp; omega), ?_⟩; conv => whnf)
  have t2' : ((t.1.2.1.length : Nat) : Int) = 10 := congrArg Int.ofNat t2
  have t4' : ((t.2.1.length : Nat) : Int) = 2 := congrArg Int.ofNat t4
  refine dcase (fun _ => ?_) (fun h => absurd t2' h)
  conv => whnf
  refine ⟨⟨by decide, by rw [t2']; decide⟩, ?_⟩
  conv => whnf
  refine dcase (fun _ => ?_) (fun h => absurd t3 h)
  conv => whnf
  refine dcase (fun _ => ?_) (fun h => absurd t4' h)
  conv => whnf
  refine ⟨⟨by decide, by rw [t4']; decide⟩, ?_⟩
  conv => whnf
  refine dcase (fun _ => ?_) (fun h => absurd t5 h)
  conv => whnf
  first | refine .inl ⟨_, s_scanOwn 2, ?_⟩ | refine .inl (.inl ⟨_, s_scanOwn 2, ?_⟩)
  conv => whnf
  first | refine .inl ⟨_, s_scanOwn 7, ?_⟩ | refine .inl (.inl ⟨_, s_scanOwn 7, ?_⟩)
  conv => whnf
  first | exact .inl rfl | exact .inr rfl
end Go.Proofs.Ytjeiopkfdgllhaa.V
