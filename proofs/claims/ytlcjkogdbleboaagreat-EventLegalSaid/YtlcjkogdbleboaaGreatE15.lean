/- What events do, line by line, walked. -/
import Derived.Test.YtlcjkogdbleboaaGreatE14
set_option linter.unusedSimpArgs false
set_option linter.unusedVariables false
namespace Go.Proofs.YtlcjkogdbleboaaGreat.V
open Go Go.RowKit Go.Proofs.YtlcjkogdbleboaaGreat.Hz
set_option maxRecDepth 100000

abbrev Lvs := List (Den tEv)
abbrev vLE (l : Lvs) : SV := .one (.sl tEv l false)
theorem play_none {e : Int} {b : Bool} : ∀ L : List Evt, L.foldl (playS e b) none = none
  | [] => rfl
  | x :: r => play_none r
theorem play_take {e : Int} {b : Bool} {L : List Evt} {v : Bool} (h : playE e b L = some v) (j : Nat) : ∃ u, playE e b (L.take j) = some u := by
  cases hu : playE e b (L.take j) with
  | some u => exact ⟨u, rfl⟩
  | none =>
    have e1 : playE e b (L.take j ++ L.drop j) = (L.drop j).foldl (playS e b) (playE e b (L.take j)) := by unfold playE; rw [List.foldl_append]
    rw [List.take_append_drop, h, hu, play_none] at e1
    cases e1
theorem s_Play12 (L : Lvs) (e : Int) (b v : Bool) (h : playE e b L = some v) (hl : L.length ≤ 1000000) : Spec Tryz.prog 48 [vLE L, vI e, vB b] (vBB v true) := by
  obtain ⟨P, hP⟩ : ∃ P : Nat → Bool, ∀ j, playE e b (L.take j) = some (P j) := ⟨fun j => (play_take h j).choose, fun j => (play_take h j).choose_spec⟩
  have hP0 : P 0 = false := by have := hP 0; exact (Option.some.inj this).symm
  have hPv : P L.length = v := by have := hP L.length; rw [List.take_length, h] at this; exact (Option.some.inj this).symm
  refine spec_introF true tab_ok 0 Tryz.func48 rfl (by kernel_rfl) rfl ?_
  conv => whnf
  refine ⟨[], [0, 1, 2, 8, 9], [], ?_⟩
  apply Exists.intro
  conv => whnf
  refine loopK (fun j : Nat => L.length - j) (fun j => j ≤ L.length) (fun j => ⟨lay 64 0 [(0, vLE L), (1, vI e), (2, vB b), (8, vB (P j)), (9, vI (j : Int))], [], []⟩) ?_ 0 rfl (by show _ = (⟨lay 64 0 [(0, vLE L), (1, vI e), (2, vB b), (8, vB (P 0)), (9, vI ((0 : Nat) : Int))], [], []⟩ : St); rw [hP0]; rfl) (Nat.zero_le _)
  intro j ih hj hih
  conv => whnf
  refine dcase (fun h3 => ?_) (fun h3 => ?_)
  · replace h3 : (j : Int) < L.length := h3
    have hjl : j < L.length := by omega
    obtain ⟨x, hx⟩ : ∃ x : Evt, List.getD L ((j : Int)).toNat (dflt tEv) = x := ⟨_, rfl⟩
    have hxg : L[j] = x := by rw [← hx, Int.toNat_natCast, List.getD_eq_getElem?_getD, List.getElem?_eq_getElem hjl]; rfl
    have hs : playS e b (some (P j)) x = some (P (j + 1)) := by rw [← hP j, ← playE_snoc, ← hxg, ← List.take_succ_eq_append_getElem hjl]; exact hP (j + 1)
    have hnx := hih (j + 1) (by omega) (by omega)
    have hin : (0 : Int) ≤ (j : Int) ∧ (j : Int) < (L.length : Int) := ⟨by omega, h3⟩
    have hdA : (List.getD L ((j : Int)).toNat (dflt tEv)).2.2.1 = xA x := by rw [hx]
    have hdK : (List.getD L ((j : Int)).toNat (dflt tEv)).2.1 = xKind x := by rw [hx]
    have hdV : (List.getD L ((j : Int)).toNat (dflt tEv)).2.2.2.2.1 = xV x := by rw [hx]
    unfold playS at hs
    simp only at hs
    have inc : ∀ u : Bool, u = P (j + 1) → ih ⟨lay 64 0 [(0, vLE L), (1, vI e), (2, vB b), (8, vB u), (9, vI ((j + 1 : Nat) : Int))], [], []⟩ := fun u hu => by rw [hu]; exact hnx
    conv => whnf
    refine ⟨hin, ?_⟩
    conv => whnf
    refine dcase (fun hA => ?_) (fun hA => ?_)
    · replace hA : xA x ≠ e := by rw [← hdA]; exact hA
      rw [if_pos hA] at hs
      conv => whnf
      intro w hw
      replace hw : w = ((j + 1 : Nat) : Int) := by rw [IntWalk.wrap64_in _ (by omega)] at hw; omega
      subst hw
      conv => whnf
      exact inc _ (Option.some.inj hs)
    replace hA : ¬ xA x ≠ e := by rw [← hdA]; exact hA
    rw [if_neg hA] at hs
    conv => whnf
    refine ⟨hin, ?_⟩
    conv => whnf
    refine dcase (fun hK => ?_) (fun hK => ?_)
    · replace hK : xKind x = 10 := by rw [← hdK]; exact hK
      rw [if_pos hK] at hs
      conv => whnf
      intro w hw
      replace hw : w = ((j + 1 : Nat) : Int) := by rw [IntWalk.wrap64_in _ (by omega)] at hw; omega
      subst hw
      conv => whnf
      exact inc _ (Option.some.inj hs)
    replace hK : ¬ xKind x = 10 := by rw [← hdK]; exact hK
    rw [if_neg hK] at hs
    conv => whnf
    refine dcase (fun hK1 => ?_) (fun hK1 => ?_)
    · replace hK1 : xKind x = 11 := by rw [← hdK]; exact hK1
      rw [if_pos hK1] at hs
      conv => whnf
      intro w hw
      replace hw : w = ((j + 1 : Nat) : Int) := by rw [IntWalk.wrap64_in _ (by omega)] at hw; omega
      subst hw
      conv => whnf
      exact inc _ (Option.some.inj hs)
    replace hK1 : ¬ xKind x = 11 := by rw [← hdK]; exact hK1
    rw [if_neg hK1] at hs
    conv => whnf
    refine dcase (fun hK2 => ?_) (fun hK2 => ?_)
    · replace hK2 : xKind x = 12 := by rw [← hdK]; exact hK2
      rw [if_pos hK2] at hs
      by_cases hbad : decide (xV x = 1) ≠ P j ∨ xV x < 0 ∨ 1 < xV x
      · rw [if_pos hbad] at hs; cases hs
      rw [if_neg hbad] at hs
      have hb1 : decide (xV x = 1) = P j := Classical.not_not.1 fun h => hbad (.inl h)
      have hb2 : ¬ (List.getD L ((j : Int)).toNat (dflt tEv)).2.2.2.2.1 < 0 := by rw [hdV]; exact fun h => hbad (.inr (.inl h))
      have hb3 : ¬ 1 < (List.getD L ((j : Int)).toNat (dflt tEv)).2.2.2.2.1 := by rw [hdV]; exact fun h => hbad (.inr (.inr h))
      have hbq : (decide ((List.getD L ((j : Int)).toNat (dflt tEv)).2.2.2.2.1 = 1) == P j) = true := by rw [hdV, hb1]; exact beq_self_b _
      conv => whnf
      refine ⟨hin, ?_⟩
      conv => whnf
      refine ncaseb (fun h => Bool.noConfusion (h.symm.trans hbq)) (fun _ => ?_)
      conv => whnf
      refine ⟨hin, ?_⟩
      conv => whnf
      refine dcase (fun h => absurd h hb2) (fun _ => ?_)
      conv => whnf
      refine ⟨hin, ?_⟩
      conv => whnf
      refine dcase (fun h => absurd h hb3) (fun _ => ?_)
      conv => whnf
      cases hpj : P j with
      | false =>
        rw [hpj] at hs
        conv => whnf
        intro w hw
        replace hw : w = ((j + 1 : Nat) : Int) := by rw [IntWalk.wrap64_in _ (by omega)] at hw; omega
        subst hw
        conv => whnf
        exact inc _ (Option.some.inj hs)
      | true =>
        rw [hpj] at hs
        conv => whnf
        intro w hw
        replace hw : w = ((j + 1 : Nat) : Int) := by rw [IntWalk.wrap64_in _ (by omega)] at hw; omega
        subst hw
        conv => whnf
        exact inc _ (Option.some.inj hs)
    · replace hK2 : ¬ xKind x = 12 := by rw [← hdK]; exact hK2
      rw [if_neg hK2] at hs
      conv => whnf
      intro w hw
      replace hw : w = ((j + 1 : Nat) : Int) := by rw [IntWalk.wrap64_in _ (by omega)] at hw; omega
      subst hw
      conv => whnf
      exact inc _ (Option.some.inj hs)
  · have hjl : j = L.length := by
      have : ¬ (j : Int) < L.length := h3
      omega
    subst hjl
    rw [hPv]
    conv => whnf
    repeat (refine ⟨by first | omega | (simp only [Option.getD_none, Option.getD_some]; omega) | (simp; done) | (simp; omega), ?_⟩; conv => whnf)
    first | exact .inl rfl | exact .inr rfl
end Go.Proofs.YtlcjkogdbleboaaGreat.V
