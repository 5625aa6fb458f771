/- New systems, of the program. -/
import Derived.Test.YtjeiopkfdgllhaaV11
set_option linter.unusedSimpArgs false
set_option linter.unusedVariables false
namespace Go.Proofs.Ytjeiopkfdgllhaa.V
open Go Go.RowKit Go.Proofs.Ytjeiopkfdgllhaa.Hz
set_option maxRecDepth 100000

/-- A memory of so many nodes, none of them in use. -/
def newI (n : Int) : Me := (List.replicate (128 + 4 * n).toNat (0 : Int), List.replicate (n + 1).toNat (0 : Int), false, ())
theorem s_mNew (n : Int) (h1 : 1 ≤ n) (h2 : n ≤ 200) : Spec Try.prog 72 [vI n] (vMI (newI n) 0) := by
  have e1 : wrap64 (128 + wrap64 (4 * n)) = 128 + 4 * n := by rw [IntWalk.wrap64_in (4 * n) (by omega), IntWalk.wrap64_in _ (by omega)]
  have e2 : wrap64 (n + 1) = n + 1 := IntWalk.wrap64_in _ (by omega)
  refine spec_introF false tab_ok 0 Try.func72 rfl (by kernel_rfl) rfl ?_
  conv => whnf
  refine dcase (fun h => absurd h1 (Int.not_le.2 h)) (fun _ => ?_)
  conv => whnf
  refine dcase (fun h => absurd h2 (Int.not_le.2 h)) (fun _ => ?_)
  conv => whnf
  refine ⟨p_mem_New_3, g_mem_New_3, by kernel_rfl, ?st1, ?_, ?_⟩
  rotate_left
  · conv => whnf
    refine ⟨?_, ?_⟩
    · conv => whnf
      repeat (refine ⟨by first | omega | (simp only [Option.getD_none, Option.getD_some]; omega) | (simp; done) | (simp; omega), ?_⟩; conv => whnf)
    · conv => whnf
      repeat (refine ⟨by first | omega | (simp only [Option.getD_none, Option.getD_some]; omega) | (simp; done) | (simp; omega), ?_⟩; conv => whnf)
  conv => whnf
  erw [e1, e2]
  first | exact .inl rfl | exact .inr rfl
theorem s_refNewM (n : Int) (h1 : 1 ≤ n) (h2 : n ≤ 200) : Spec Try.prog 52 [vI n] (vMI (newI n) 0) := by
  have e1 : wrap64 (128 + wrap64 (4 * n)) = 128 + 4 * n := by rw [IntWalk.wrap64_in (4 * n) (by omega), IntWalk.wrap64_in _ (by omega)]
  have e2 : wrap64 (n + 1) = n + 1 := IntWalk.wrap64_in _ (by omega)
  refine spec_introF false tab_ok 0 Try.func52 rfl (by kernel_rfl) rfl ?_
  conv => whnf
  refine dcase (fun h => absurd h1 (Int.not_le.2 h)) (fun _ => ?_)
  conv => whnf
  refine dcase (fun h => absurd h2 (Int.not_le.2 h)) (fun _ => ?_)
  conv => whnf
  refine ⟨p_hazelref02_New_3, g_hazelref02_New_3, by kernel_rfl, ?st2, ?_, ?_⟩
  rotate_left
  · conv => whnf
    refine ⟨?_, ?_⟩
    · conv => whnf
      repeat (refine ⟨by first | omega | (simp only [Option.getD_none, Option.getD_some]; omega) | (simp; done) | (simp; omega), ?_⟩; conv => whnf)
    · conv => whnf
      repeat (refine ⟨by first | omega | (simp only [Option.getD_none, Option.getD_some]; omega) | (simp; done) | (simp; omega), ?_⟩; conv => whnf)
  conv => whnf
  erw [e1, e2]
  first | exact .inl rfl | exact .inr rfl

def newS (c n : Int) : Sy := (newI n, List.replicate c.toNat (dflt tCore), ([] : List Evt), ())
abbrev vSI (s : Sy) (v : Int) : SV := .tup [(true, cS s), (false, [.int .i64 v])]
theorem s_cNew (c n : Int) (h1 : 1 ≤ n) (h2 : n ≤ 200) (c1 : 1 ≤ c) (c2 : c ≤ 8) : Spec Try.prog 50 [vI c, vI n] (vSI (newS c n) 0) := by
  refine spec_introF false tab_ok 0 Try.func50 rfl (by kernel_rfl) rfl ?_
  conv => whnf
  first | refine .inr (.inl ⟨_, s_mNew n h1 h2, ?_⟩) | refine .inl (.inr (.inl ⟨_, s_mNew n h1 h2, ?_⟩))
  conv => whnf
  refine dcase (fun h => absurd c1 (Int.not_le.2 h)) (fun _ => ?_)
  conv => whnf
  refine dcase (fun h => absurd c2 (Int.not_le.2 h)) (fun _ => ?_)
  conv => whnf
  refine ⟨p_core_New_4, g_core_New_4, by kernel_rfl, ?st3, ?_, ?_⟩
  rotate_left
  · conv => whnf
    repeat' (first | (refine ⟨by first | omega | (simp only [Option.getD_none, Option.getD_some]; omega) | (simp; done) | (simp; omega), ?_⟩; conv => whnf) | (refine And.intro ?_ ?_ <;> conv => whnf) | exact rfl)
  conv => whnf
  first | exact .inl rfl | exact .inr rfl
theorem s_refNewS (c n : Int) (h1 : 1 ≤ n) (h2 : n ≤ 200) (c1 : 1 ≤ c) (c2 : c ≤ 8) : Spec Try.prog 29 [vI c, vI n] (vSI (newS c n) 0) := by
  refine spec_introF false tab_ok 0 Try.func29 rfl (by kernel_rfl) rfl ?_
  conv => whnf
  first | refine .inr (.inl ⟨_, s_refNewM n h1 h2, ?_⟩) | refine .inl (.inr (.inl ⟨_, s_refNewM n h1 h2, ?_⟩))
  conv => whnf
  refine dcase (fun h => absurd c1 (Int.not_le.2 h)) (fun _ => ?_)
  conv => whnf
  refine dcase (fun h => absurd c2 (Int.not_le.2 h)) (fun _ => ?_)
  conv => whnf
  refine ⟨p_hazelref03_New_4, g_hazelref03_New_4, by kernel_rfl, ?st4, ?_, ?_⟩
  rotate_left
  · conv => whnf
    repeat' (first | (refine ⟨by first | omega | (simp only [Option.getD_none, Option.getD_some]; omega) | (simp; done) | (simp; omega), ?_⟩; conv => whnf) | (refine And.intro ?_ ?_ <;> conv => whnf) | exact rfl)
  conv => whnf
  first | exact .inl rfl | exact .inr rfl
end Go.Proofs.Ytjeiopkfdgllhaa.V
