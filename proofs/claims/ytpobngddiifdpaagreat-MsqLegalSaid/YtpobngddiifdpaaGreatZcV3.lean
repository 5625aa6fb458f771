/- Layer 3 of the document: cores. -/
import Derived.Test.YtpobngddiifdpaaGreatZcV2
set_option linter.unusedSimpArgs false
set_option linter.unusedVariables false
namespace Go.Proofs.YtpobngddiifdpaaGreat.V
open Go Go.RowKit Go.Proofs.YtpobngddiifdpaaGreat.Hz
set_option maxRecDepth 100000

def nearP (n : Int) : Prop := -2305843009213693952 ≤ n ∧ n ≤ 2305843009213693952
instance (n : Int) : Decidable (nearP n) := inferInstanceAs (Decidable (_ ∧ _))
abbrev fAt (l : List Frm) (i : Int) : Frm := l.getD i.toNat (dflt tFrame)
abbrev cAt (l : List Cor) (i : Int) : Cor := l.getD i.toNat (dflt tCore)
def cF (f : Frm) : List C := [.int .i64 f.1, .int .i64 f.2.1, .int .i64 f.2.2.1.1, .int .i64 f.2.2.1.2.1, .int .i64 f.2.2.1.2.2.1, .int .i64 f.2.2.1.2.2.2.1, .int .i64 f.2.2.1.2.2.2.2.1, .int .i64 f.2.2.1.2.2.2.2.2.1, .int .i64 f.2.2.1.2.2.2.2.2.2.1, .int .i64 f.2.2.1.2.2.2.2.2.2.2.1, .sl tI f.2.2.2.1 false]
abbrev vFB (f : Frm) (b : Bool) : SV := .tup [(true, cF f), (false, [.bool b])]
/-- The last frame of a core. -/
def topI (s : Sy) (k : Int) : Option Frm := if 0 ≤ k then (s.2.1[k.toNat]?).bind fun c => c.1.getLast? else none
theorem s_refTop (s : Sy) (k : Int) (hl : s.2.1.length ≤ 1000000000000) (hl2 : ∀ c ∈ s.2.1, c.1.length ≤ 1000000000000) : Spec Tryz.prog 30 [vS s, vI k] (vFB ((topI s k).getD (dflt tFrame)) (topI s k).isSome) := by
  refine spec_introF false tab_ok 0 Tryz.func30 rfl (by kernel_rfl) rfl ?_
  conv => whnf
  refine dcase (fun h => ?_) (fun h => ?_)
  · have e : topI s k = none := if_neg (by omega)
    rw [e]
    conv => whnf
    exact .inr rfl
  conv => whnf
  refine dcase (fun h1 => ?_) (fun h1 => ?_)
  · have e : topI s k = none := by
      unfold topI
      rw [if_pos (by omega), List.getElem?_eq_none (by omega)]; rfl
    rw [e]
    conv => whnf
    exact .inr rfl
  have hk : k.toNat < s.2.1.length := by omega
  have hget : s.2.1.getD k.toNat (dflt tCore) = s.2.1[k.toNat] := by simp [List.getD, hk]
  have ht : topI s k = s.2.1[k.toNat].1.getLast? := by
    unfold topI
    rw [if_pos (by omega), List.getElem?_eq_getElem hk]; rfl
  conv => whnf
  refine ⟨by omega, ?_⟩
  conv => whnf
  rw [hget]
  refine dcase (fun h2 => ?_) (fun h2 => ?_)
  · have e : topI s k = none := by rw [ht, List.getLast?_eq_none_iff]; exact List.eq_nil_of_length_eq_zero (by omega)
    rw [e]
    conv => whnf
    exact .inr rfl
  have hlen := hl2 _ (List.getElem_mem hk)
  conv => whnf
  refine ⟨p_hazelref03_Top_3, g_hazelref03_Top_3, by kernel_rfl, ?_⟩
  refine ⟨?st, ?_, ?_⟩
  rotate_left
  · conv => whnf
    repeat (refine ⟨by omega, ?_⟩; conv => whnf)
    rw [hget, IntWalk.wrap64_in _ (by omega)]
    repeat (refine ⟨by omega, ?_⟩; conv => whnf)
  have e : topI s k = some (s.2.1[k.toNat].1.getD (((s.2.1[k.toNat].1.length : Nat) : Int) - 1).toNat (dflt tFrame)) := by
    rw [ht, List.getLast?_eq_getElem?, show (((s.2.1[k.toNat].1.length : Nat) : Int) - 1).toNat = s.2.1[k.toNat].1.length - 1 by omega]
    rw [List.getD, List.getElem?_eq_getElem (by omega)]; rfl
  rw [e]
  conv => whnf
  exact .inl rfl

/-! ### Changes -/
theorem s_refMem (s : Sy) (m : Me) : Spec Tryz.prog 65 [vS s, vM m] (vS (m, s.2)) := by
  refine spec_introF false tab_ok 0 Tryz.func65 rfl (by kernel_rfl) rfl ?_
  conv => whnf
  first | exact .inl rfl | exact .inr rfl
/-- Another core. -/
def withS (s : Sy) (k : Int) (c : Cor) : Sy := (s.1, s.2.1.set k.toNat c, s.2.2.1, ())
theorem s_refWith (s : Sy) (k : Int) (c : Cor) (h1 : 0 ≤ k) (h2 : k < s.2.1.length) (hl : s.2.1.length ≤ 1000000) : Spec Tryz.prog 95 [vS s, vI k, vC c] (vS (withS s k c)) := by
  refine spec_introF false tab_ok 0 Tryz.func95 rfl (by kernel_rfl) rfl ?_
  conv => whnf
  refine ⟨le_most (by omega), ?_⟩
  conv => whnf
  repeat (refine ⟨by first | omega | (simp only [Option.getD_none, Option.getD_some]; omega) | (simp; done) | (simp; omega), ?_⟩; conv => whnf)
  first | exact .inl rfl | exact .inr rfl
/-- A new frame. -/
def frm0 (op a b c : Int) : Frm := (op, (0 : Int), (a, b, c, (0 : Int), (0 : Int), (0 : Int), (0 : Int), (0 : Int), ()), ([] : List Int), ())
def pushS (s : Sy) (k : Int) (f : Frm) : Sy := withS s k ((cAt s.2.1 k).1 ++ [f], (cAt s.2.1 k).2)
def callS (s : Sy) (k op a b c : Int) : Sy := if 0 ≤ k ∧ k < s.2.1.length ∧ (cAt s.2.1 k).1.length < 40 then pushS s k (frm0 op a b c) else s
theorem s_refCall (s : Sy) (k op a b c : Int) (hl : s.2.1.length ≤ 1000000) : Spec Tryz.prog 51 [vS s, vI k, vI op, vI a, vI b, vI c] (vS (callS s k op a b c)) := by
  refine spec_introF false tab_ok 0 Tryz.func51 rfl (by kernel_rfl) rfl ?_
  conv => whnf
  refine dcase (fun h1 => ?_) (fun h1 => ?_)
  · conv => whnf
    rw [show callS s k op a b c = s from if_neg (by omega)]
    first | exact .inl rfl | exact .inr rfl
  conv => whnf
  refine dcase (fun h2 => ?_) (fun h2 => ?_)
  · conv => whnf
    rw [show callS s k op a b c = s from if_neg (by omega)]
    first | exact .inl rfl | exact .inr rfl
  conv => whnf
  repeat (refine ⟨by first | omega | (simp only [Option.getD_none, Option.getD_some]; omega) | (simp; done) | (simp; omega), ?_⟩; conv => whnf)
  refine dcase (fun h3 => ?_) (fun h3 => ?_)
  · conv => whnf
    rw [show callS s k op a b c = s from if_neg (fun h => by have := h.2.2; exact absurd h3 (Int.not_le.2 (Int.ofNat_lt.2 this)))]
    first | exact .inl rfl | exact .inr rfl
  conv => whnf
  have h4 : (cAt s.2.1 k).1.length < 40 := Int.ofNat_lt.1 (Int.not_le.1 h3)
  rw [show callS s k op a b c = pushS s k (frm0 op a b c) from if_pos ⟨by omega, by omega, h4⟩]
  repeat (refine ⟨by first | omega | (simp only [Option.getD_none, Option.getD_some]; omega) | (simp; done) | (simp; omega), ?_⟩; conv => whnf)
  refine ⟨Nat.le_trans (Nat.le_of_lt h4) (le_most (by decide)), ?_⟩
  conv => whnf
  refine ⟨Nat.le_trans (Nat.succ_le_succ (Nat.le_of_lt h4)) (le_most (by decide)), ?_⟩
  conv => whnf
  first | refine .inr (.inl ⟨_, s_refWith s k ((cAt s.2.1 k).1 ++ [frm0 op a b c], (cAt s.2.1 k).2) (by omega) (by omega) hl, ?_⟩) | refine .inl (.inr (.inl ⟨_, s_refWith s k ((cAt s.2.1 k).1 ++ [frm0 op a b c], (cAt s.2.1 k).2) (by omega) (by omega) hl, ?_⟩))
  conv => whnf
  first | exact .inl rfl | exact .inr rfl
end Go.Proofs.YtpobngddiifdpaaGreat.V
