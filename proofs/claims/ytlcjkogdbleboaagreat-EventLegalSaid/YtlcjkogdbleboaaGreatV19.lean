/- Layer 7 of the program: new systems. -/
import Derived.Test.YtlcjkogdbleboaaGreatV18
set_option linter.unusedSimpArgs false
set_option linter.unusedVariables false
namespace Go.Proofs.YtlcjkogdbleboaaGreat.V
open Go Go.RowKit Go.Proofs.YtlcjkogdbleboaaGreat.Hz
set_option maxRecDepth 100000

theorem s_cut0 (w : Int) : Spec Tryz.prog 142 [vI w, vI 0] (vI (w % 2)) := by
  have e : wrap64 (((BitVec.ofInt 64 (w.fdiv (2 ^ 0)) &&& BitVec.ofInt 64 (wrap64 (wrap64 (1 * 2 ^ 1) - 1))).toNat : Nat) : Int) = w % 2 := by
    rw [show wrap64 (wrap64 (1 * 2 ^ 1) - 1) = 2 ^ 1 - 1 by rw [IntWalk.wrap64_in (1 * 2 ^ 1) (by omega), IntWalk.wrap64_in _ (by omega)]; rfl, and_low _ 1 (by omega), fdiv_pow]
    have h : (w / 2 ^ 0) % 2 ^ 1 = w % 2 := by omega
    rw [h, IntWalk.wrap64_in _ (by omega)]
  refine spec_introF false tab_ok 0 Tryz.func142 rfl (by kernel_rfl) rfl ?_
  conv => whnf
  refine ⟨p_pack_cut_1, g_pack_cut_1, by kernel_rfl, ?st1, ?_, ?_⟩
  rotate_left
  · conv => whnf
    first | refine .inl ⟨_, s_from0, ?_⟩ | refine .inl (.inl ⟨_, s_from0, ?_⟩)
    conv => whnf
    repeat (refine ⟨by first | omega | (simp only [Option.getD_none, Option.getD_some]; omega) | (simp; done) | (simp; omega), ?_⟩; conv => whnf)
    first | refine .inl ⟨_, s_wide, ?_⟩ | refine .inl (.inl ⟨_, s_wide, ?_⟩)
    conv => whnf
    repeat (refine ⟨by first | omega | (simp only [Option.getD_none, Option.getD_some]; omega) | (simp; done) | (simp; omega), ?_⟩; conv => whnf)
  conv => whnf
  exact .inl (congrArg vI e)
theorem s_Mark (w : Int) : Spec Tryz.prog 91 [vI w] (vI (w % 2)) := by
  refine spec_introF false tab_ok 0 Tryz.func91 rfl (by kernel_rfl) rfl ?_
  conv => whnf
  first | refine .inl ⟨_, s_cut0 w, ?_⟩ | refine .inl (.inl ⟨_, s_cut0 w, ?_⟩)
  conv => whnf
  first | exact .inl rfl | exact .inr rfl
theorem s_Of010 : Spec Tryz.prog 71 [vI 0, vI 1, vI 0] (.tup [(false, [.int .i64 2]), (false, [.int .i64 0])]) := by
  refine spec_introF false tab_ok 0 Tryz.func71 rfl (by kernel_rfl) rfl ?_
  conv => whnf
  first | refine .inr (.inl ⟨_, s_joined 0 1 0, ?_⟩) | refine .inl (.inr (.inl ⟨_, s_joined 0 1 0, ?_⟩))
  conv => whnf
  rw [show accI 0 1 0 3 = 2 from rfl]
  first | refine .inl ⟨_, s_Mark 2, ?_⟩ | refine .inl (.inl ⟨_, s_Mark 2, ?_⟩)
  conv => whnf
  first | refine .inl ⟨_, s_Index 2, ?_⟩ | refine .inl (.inl ⟨_, s_Index 2, ?_⟩)
  conv => whnf
  first | refine .inl ⟨_, s_Tag 2, ?_⟩ | refine .inl (.inl ⟨_, s_Tag 2, ?_⟩)
  conv => whnf
  first | exact .inl rfl | exact .inr rfl
end Go.Proofs.YtlcjkogdbleboaaGreat.V
