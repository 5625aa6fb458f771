/- Queues: a step, the document. -/
import Derived.Test.YtpobngddiifdpaaGreatZbQ2
import Derived.Test.YtpobngddiifdpaaGreatZbVPlans
set_option linter.unusedSimpArgs false
set_option linter.unusedVariables false
namespace Go.Proofs.YtpobngddiifdpaaGreat.V
open Go Go.RowKit Go.Proofs.YtpobngddiifdpaaGreat.Hz
set_option maxRecDepth 100000

section
variable (s : Sy) (k pc q v n t w x e y : Int) (r : Den (.cons tI (.cons tI (.cons tI .nil)))) (l : Li) (h0 : 0 ≤ q) (h1 : q ≤ 7) (hf : Fine s) (hk0 : 0 ≤ k) (hk1 : k < s.2.1.length)
include h0 h1 hf hk0 hk1
theorem s_refPut : Spec Tryz.prog 77 [vS s, vI k, vF (9, pc, (q, v, n, t, w, r), l, ())] (vS (putS s k pc q v n t w r l)) := by
  by_cases c0 : pc = 0
  · subst c0; exact s_refPut_0 s k q v n t w r l h0 h1 hf
  by_cases c1 : pc = 1
  · subst c1; exact s_refPut_1 s k q v n t w r l h0 h1 hf hk0 hk1
  by_cases c2 : pc = 2
  · subst c2; exact s_refPut_2 s k q v n t w r l h0 h1 hf
  by_cases c3 : pc = 3
  · subst c3; exact s_refPut_3 s k q v n t w r l h0 h1 hf
  by_cases c4 : pc = 4
  · subst c4; exact s_refPut_4 s k q v n t w r l h0 h1 hf
  by_cases c5 : pc = 5
  · subst c5; exact s_refPut_5 s k q v n t w r l h0 h1 hf
  by_cases c6 : pc = 6
  · subst c6; exact s_refPut_6 s k q v n t w r l h0 h1 hf hk0 hk1
  by_cases c7 : pc = 7
  · subst c7; exact s_refPut_7 s k q v n t w r l h0 h1 hf
  by_cases c8 : pc = 8
  · subst c8; exact s_refPut_8 s k q v n t w r l h0 h1 hf
  by_cases c9 : pc = 9
  · subst c9; exact s_refPut_9 s k q v n t w r l h0 h1 hf
  by_cases c10 : pc = 10
  · subst c10; exact s_refPut_10 s k q v n t w r l h0 h1 hf
  by_cases c11 : pc = 11
  · subst c11; exact s_refPut_11 s k q v n t w r l h0 h1 hf
  rw [show putS s k pc q v n t w r l = s from (if_neg c0).trans ((if_neg c1).trans ((if_neg c2).trans ((if_neg c3).trans ((if_neg c4).trans ((if_neg c5).trans ((if_neg c6).trans ((if_neg c7).trans ((if_neg c8).trans ((if_neg c9).trans ((if_neg c10).trans ((if_neg c11).trans (rfl))))))))))))]
  refine spec_introF true tab_ok 0 Tryz.func77 rfl (by kernel_rfl) rfl ?_
  conv => whnf
  repeat (refine ⟨by first | omega | (simp only [Option.getD_none, Option.getD_some]; omega) | (simp; done) | (simp; omega), ?_⟩; conv => whnf)
  first | refine .inl ⟨_, s_Spot8 q h0 h1, ?_⟩ | refine .inl (.inl ⟨_, s_Spot8 q h0 h1, ?_⟩)
  conv => whnf
  intro z hz
  replace hz : z = 33 + 2 * q := by rw [IntWalk.wrap64_in _ (by omega)] at hz; omega
  subst hz
  conv => whnf
  repeat (refine ⟨by first | omega | (simp only [Option.getD_none, Option.getD_some]; omega) | (simp; done) | (simp; omega), ?_⟩; conv => whnf)
  refine dcase (fun h => absurd h c0) (fun _ => ?_)
  conv => whnf
  repeat (refine ⟨by first | omega | (simp only [Option.getD_none, Option.getD_some]; omega) | (simp; done) | (simp; omega), ?_⟩; conv => whnf)
  refine dcase (fun h => absurd h c1) (fun _ => ?_)
  conv => whnf
  repeat (refine ⟨by first | omega | (simp only [Option.getD_none, Option.getD_some]; omega) | (simp; done) | (simp; omega), ?_⟩; conv => whnf)
  refine dcase (fun h => absurd h c2) (fun _ => ?_)
  conv => whnf
  repeat (refine ⟨by first | omega | (simp only [Option.getD_none, Option.getD_some]; omega) | (simp; done) | (simp; omega), ?_⟩; conv => whnf)
  refine dcase (fun h => absurd h c3) (fun _ => ?_)
  conv => whnf
  repeat (refine ⟨by first | omega | (simp only [Option.getD_none, Option.getD_some]; omega) | (simp; done) | (simp; omega), ?_⟩; conv => whnf)
  refine dcase (fun h => absurd h c4) (fun _ => ?_)
  conv => whnf
  repeat (refine ⟨by first | omega | (simp only [Option.getD_none, Option.getD_some]; omega) | (simp; done) | (simp; omega), ?_⟩; conv => whnf)
  refine dcase (fun h => absurd h c5) (fun _ => ?_)
  conv => whnf
  repeat (refine ⟨by first | omega | (simp only [Option.getD_none, Option.getD_some]; omega) | (simp; done) | (simp; omega), ?_⟩; conv => whnf)
  refine dcase (fun h => absurd h c6) (fun _ => ?_)
  conv => whnf
  repeat (refine ⟨by first | omega | (simp only [Option.getD_none, Option.getD_some]; omega) | (simp; done) | (simp; omega), ?_⟩; conv => whnf)
  refine dcase (fun h => absurd h c7) (fun _ => ?_)
  conv => whnf
  repeat (refine ⟨by first | omega | (simp only [Option.getD_none, Option.getD_some]; omega) | (simp; done) | (simp; omega), ?_⟩; conv => whnf)
  refine dcase (fun h => absurd h c8) (fun _ => ?_)
  conv => whnf
  repeat (refine ⟨by first | omega | (simp only [Option.getD_none, Option.getD_some]; omega) | (simp; done) | (simp; omega), ?_⟩; conv => whnf)
  refine dcase (fun h => absurd h c9) (fun _ => ?_)
  conv => whnf
  repeat (refine ⟨by first | omega | (simp only [Option.getD_none, Option.getD_some]; omega) | (simp; done) | (simp; omega), ?_⟩; conv => whnf)
  refine dcase (fun h => absurd h c10) (fun _ => ?_)
  conv => whnf
  repeat (refine ⟨by first | omega | (simp only [Option.getD_none, Option.getD_some]; omega) | (simp; done) | (simp; omega), ?_⟩; conv => whnf)
  refine dcase (fun h => absurd h c11) (fun _ => ?_)
  conv => whnf
  repeat (refine ⟨by first | omega | (simp only [Option.getD_none, Option.getD_some]; omega) | (simp; done) | (simp; omega), ?_⟩; conv => whnf)
  first | exact .inl rfl | exact .inr rfl
theorem s_refTake : Spec Tryz.prog 78 [vS s, vI k, vF (10, pc, (q, v, n, t, w, x, e, y, ()), l, ())] (vS (takeS s k pc q v n t w x e y l)) := by
  by_cases c0 : pc = 0
  · subst c0; exact s_refTake_0 s k q v n t w x e y l h0 h1 hf
  by_cases c1 : pc = 1
  · subst c1; exact s_refTake_1 s k q v n t w x e y l h0 h1 hf hk0 hk1
  by_cases c2 : pc = 2
  · subst c2; exact s_refTake_2 s k q v n t w x e y l h0 h1 hf
  by_cases c3 : pc = 3
  · subst c3; exact s_refTake_3 s k q v n t w x e y l h0 h1 hf
  by_cases c4 : pc = 4
  · subst c4; exact s_refTake_4 s k q v n t w x e y l h0 h1 hf
  by_cases c5 : pc = 5
  · subst c5; exact s_refTake_5 s k q v n t w x e y l h0 h1 hf
  by_cases c6 : pc = 6
  · subst c6; exact s_refTake_6 s k q v n t w x e y l h0 h1 hf
  by_cases c7 : pc = 7
  · subst c7; exact s_refTake_7 s k q v n t w x e y l h0 h1 hf
  by_cases c8 : pc = 8
  · subst c8; exact s_refTake_8 s k q v n t w x e y l h0 h1 hf
  by_cases c9 : pc = 9
  · subst c9; exact s_refTake_9 s k q v n t w x e y l h0 h1 hf
  by_cases c10 : pc = 10
  · subst c10; exact s_refTake_10 s k q v n t w x e y l h0 h1 hf
  rw [show takeS s k pc q v n t w x e y l = s from (if_neg c0).trans ((if_neg c1).trans ((if_neg c2).trans ((if_neg c3).trans ((if_neg c4).trans ((if_neg c5).trans ((if_neg c6).trans ((if_neg c7).trans ((if_neg c8).trans ((if_neg c9).trans ((if_neg c10).trans (rfl)))))))))))]
  refine spec_introF true tab_ok 0 Tryz.func78 rfl (by kernel_rfl) rfl ?_
  conv => whnf
  repeat (refine ⟨by first | omega | (simp only [Option.getD_none, Option.getD_some]; omega) | (simp; done) | (simp; omega), ?_⟩; conv => whnf)
  first | refine .inl ⟨_, s_Spot8 q h0 h1, ?_⟩ | refine .inl (.inl ⟨_, s_Spot8 q h0 h1, ?_⟩)
  conv => whnf
  repeat (refine ⟨by first | omega | (simp only [Option.getD_none, Option.getD_some]; omega) | (simp; done) | (simp; omega), ?_⟩; conv => whnf)
  first | refine .inl ⟨_, s_refIndex w, ?_⟩ | refine .inl (.inl ⟨_, s_refIndex w, ?_⟩)
  conv => whnf
  repeat (refine ⟨by first | omega | (simp only [Option.getD_none, Option.getD_some]; omega) | (simp; done) | (simp; omega), ?_⟩; conv => whnf)
  refine dcase (fun h => absurd h c0) (fun _ => ?_)
  conv => whnf
  repeat (refine ⟨by first | omega | (simp only [Option.getD_none, Option.getD_some]; omega) | (simp; done) | (simp; omega), ?_⟩; conv => whnf)
  refine dcase (fun h => absurd h c1) (fun _ => ?_)
  conv => whnf
  repeat (refine ⟨by first | omega | (simp only [Option.getD_none, Option.getD_some]; omega) | (simp; done) | (simp; omega), ?_⟩; conv => whnf)
  refine dcase (fun h => absurd h c2) (fun _ => ?_)
  conv => whnf
  repeat (refine ⟨by first | omega | (simp only [Option.getD_none, Option.getD_some]; omega) | (simp; done) | (simp; omega), ?_⟩; conv => whnf)
  refine dcase (fun h => absurd h c3) (fun _ => ?_)
  conv => whnf
  repeat (refine ⟨by first | omega | (simp only [Option.getD_none, Option.getD_some]; omega) | (simp; done) | (simp; omega), ?_⟩; conv => whnf)
  refine dcase (fun h => absurd h c4) (fun _ => ?_)
  conv => whnf
  repeat (refine ⟨by first | omega | (simp only [Option.getD_none, Option.getD_some]; omega) | (simp; done) | (simp; omega), ?_⟩; conv => whnf)
  refine dcase (fun h => absurd h c5) (fun _ => ?_)
  conv => whnf
  repeat (refine ⟨by first | omega | (simp only [Option.getD_none, Option.getD_some]; omega) | (simp; done) | (simp; omega), ?_⟩; conv => whnf)
  refine dcase (fun h => absurd h c6) (fun _ => ?_)
  conv => whnf
  repeat (refine ⟨by first | omega | (simp only [Option.getD_none, Option.getD_some]; omega) | (simp; done) | (simp; omega), ?_⟩; conv => whnf)
  refine dcase (fun h => absurd h c7) (fun _ => ?_)
  conv => whnf
  repeat (refine ⟨by first | omega | (simp only [Option.getD_none, Option.getD_some]; omega) | (simp; done) | (simp; omega), ?_⟩; conv => whnf)
  refine dcase (fun h => absurd h c8) (fun _ => ?_)
  conv => whnf
  repeat (refine ⟨by first | omega | (simp only [Option.getD_none, Option.getD_some]; omega) | (simp; done) | (simp; omega), ?_⟩; conv => whnf)
  refine dcase (fun h => absurd h c9) (fun _ => ?_)
  conv => whnf
  repeat (refine ⟨by first | omega | (simp only [Option.getD_none, Option.getD_some]; omega) | (simp; done) | (simp; omega), ?_⟩; conv => whnf)
  refine dcase (fun h => absurd h c10) (fun _ => ?_)
  conv => whnf
  repeat (refine ⟨by first | omega | (simp only [Option.getD_none, Option.getD_some]; omega) | (simp; done) | (simp; omega), ?_⟩; conv => whnf)
  first | exact .inl rfl | exact .inr rfl
end
/-- A step of a core, of layers 1 to 8. -/
def msqF (s : Sy) (k op pc : Int) (r : R8) (l : Li) : Sy :=
  if op = 9 ∨ op = 10 then (if r.1 < 0 ∨ 7 < r.1 then s else if op = 9 then putS s k pc r.1 r.2.1 r.2.2.1 r.2.2.2.1 r.2.2.2.2.1 r.2.2.2.2.2 l else takeS s k pc r.1 r.2.1 r.2.2.1 r.2.2.2.1 r.2.2.2.2.1 r.2.2.2.2.2.1 r.2.2.2.2.2.2.1 r.2.2.2.2.2.2.2.1 l)
  else alS s k
def msqS (s : Sy) (k : Int) : Sy := match topI s k with
  | none => alS s k
  | some f => msqF s k f.1 f.2.1 f.2.2.1 f.2.2.2.1
theorem msqS_none {s : Sy} {k : Int} (h : topI s k = none) : msqS s k = alS s k := by unfold msqS; rw [h]
theorem msqS_some {s : Sy} {k : Int} {f : Frm} (h : topI s k = some f) : msqS s k = msqF s k f.1 f.2.1 f.2.2.1 f.2.2.2.1 := by unfold msqS; rw [h]
theorem s_refStep8 {N : Nat} (s : Sy) (k : Int) (hf : Fin N s) (hN : N ≤ 900000) : Spec Tryz.prog 28 [vS s, vI k] (vS (msqS s k)) := by
  have h7 := s_refStep7 s k hf hN
  cases ht : topI s k with
  | none =>
    rw [msqS_none ht]
    refine spec_introF false tab_ok 0 Tryz.func28 rfl (by kernel_rfl) rfl ?_
    conv => whnf
    first | refine .inr (.inl ⟨_, s_refTopNo ht (hf.fine hN), ?_⟩) | refine .inl (.inr (.inl ⟨_, s_refTopNo ht (hf.fine hN), ?_⟩))
    conv => whnf
    repeat (refine ⟨by first | omega | (simp only [Option.getD_none, Option.getD_some]; omega) | (simp; done) | (simp; omega), ?_⟩; conv => whnf)
    first | refine .inr (.inl ⟨_, h7, ?_⟩) | refine .inl (.inr (.inl ⟨_, h7, ?_⟩))
    conv => whnf
    repeat (refine ⟨by first | omega | (simp only [Option.getD_none, Option.getD_some]; omega) | (simp; done) | (simp; omega), ?_⟩; conv => whnf)
    first | exact .inl rfl | exact .inr rfl
  | some f =>
    obtain ⟨op, pc, ⟨q, v, n, t, w, x, e, y, u1⟩, l, u2⟩ := f
    obtain rfl : u2 = () := rfl
    obtain rfl : u1 = () := rfl
    have hi := topI_some ht
    have hfi := hf.fine hN
    rw [msqS_some ht]
    show Spec Tryz.prog 28 [vS s, vI k] (vS (msqF s k op pc (q, v, n, t, w, x, e, y, ()) l))
    have no : ¬ (op = 9 ∨ op = 10) → msqF s k op pc (q, v, n, t, w, x, e, y, ()) l = alS s k := fun h => if_neg h
    have bad : (op = 9 ∨ op = 10) → (q < 0 ∨ 7 < q) → msqF s k op pc (q, v, n, t, w, x, e, y, ()) l = s := fun h h2 => (if_pos h).trans (if_pos h2)
    have is9 : op = 9 → ¬ (q < 0 ∨ 7 < q) → msqF s k op pc (q, v, n, t, w, x, e, y, ()) l = putS s k pc q v n t w (x, e, y, ()) l := fun h h2 => (if_pos (.inl h)).trans ((if_neg h2).trans (if_pos h))
    have is10 : op = 10 → ¬ (q < 0 ∨ 7 < q) → msqF s k op pc (q, v, n, t, w, x, e, y, ()) l = takeS s k pc q v n t w x e y l := fun h h2 => (if_pos (.inr h)).trans ((if_neg h2).trans (if_neg (by rw [h]; decide)))
    generalize hmf : msqF s k op pc (q, v, n, t, w, x, e, y, ()) l = mf at *
    refine spec_introF false tab_ok 0 Tryz.func28 rfl (by kernel_rfl) rfl ?_
    conv => whnf
    first | refine .inr (.inl ⟨_, s_refTopOf ht hfi, ?_⟩) | refine .inl (.inr (.inl ⟨_, s_refTopOf ht hfi, ?_⟩))
    conv => whnf
    repeat (refine ⟨by first | omega | (simp only [Option.getD_none, Option.getD_some]; omega) | (simp; done) | (simp; omega), ?_⟩; conv => whnf)
    refine dcase (fun h9 => ?_) (fun h9 => ?_)
    · have h9 : ¬ op = 9 := h9
      conv => whnf
      repeat (refine ⟨by first | omega | (simp only [Option.getD_none, Option.getD_some]; omega) | (simp; done) | (simp; omega), ?_⟩; conv => whnf)
      refine dcase (fun h10 => ?_) (fun h10 => ?_)
      · have h10 : ¬ op = 10 := h10
        rw [no (fun h => h.elim h9 h10)]
        conv => whnf
        repeat (refine ⟨by first | omega | (simp only [Option.getD_none, Option.getD_some]; omega) | (simp; done) | (simp; omega), ?_⟩; conv => whnf)
        first | refine .inr (.inl ⟨_, h7, ?_⟩) | refine .inl (.inr (.inl ⟨_, h7, ?_⟩))
        conv => whnf
        repeat (refine ⟨by first | omega | (simp only [Option.getD_none, Option.getD_some]; omega) | (simp; done) | (simp; omega), ?_⟩; conv => whnf)
        first | exact .inl rfl | exact .inr rfl
      have h10 : op = 10 := Decidable.not_not.1 h10
      conv => whnf
      repeat (refine ⟨by first | omega | (simp only [Option.getD_none, Option.getD_some]; omega) | (simp; done) | (simp; omega), ?_⟩; conv => whnf)
      refine dcase (fun hq => ?_) (fun hq => ?_)
      · rw [bad (.inr h10) (.inl hq)]
        conv => whnf
        repeat (refine ⟨by first | omega | (simp only [Option.getD_none, Option.getD_some]; omega) | (simp; done) | (simp; omega), ?_⟩; conv => whnf)
        first | exact .inl rfl | exact .inr rfl
      conv => whnf
      repeat (refine ⟨by first | omega | (simp only [Option.getD_none, Option.getD_some]; omega) | (simp; done) | (simp; omega), ?_⟩; conv => whnf)
      refine dcase (fun hq2 => ?_) (fun hq2 => ?_)
      · rw [bad (.inr h10) (.inr hq2)]
        conv => whnf
        repeat (refine ⟨by first | omega | (simp only [Option.getD_none, Option.getD_some]; omega) | (simp; done) | (simp; omega), ?_⟩; conv => whnf)
        first | exact .inl rfl | exact .inr rfl
      have hq : ¬ q < 0 := hq
      have hq2 : ¬ 7 < q := hq2
      have htk := s_refTake s k pc q v n t w x e y l (Int.not_lt.1 hq) (Int.not_lt.1 hq2) hfi hi.1 hi.2.1
      rw [is10 h10 (fun h => h.elim hq hq2)]
      subst h10
      conv => whnf
      repeat (refine ⟨by first | omega | (simp only [Option.getD_none, Option.getD_some]; omega) | (simp; done) | (simp; omega), ?_⟩; conv => whnf)
      first | refine .inr (.inl ⟨_, htk, ?_⟩) | refine .inl (.inr (.inl ⟨_, htk, ?_⟩))
      conv => whnf
      repeat (refine ⟨by first | omega | (simp only [Option.getD_none, Option.getD_some]; omega) | (simp; done) | (simp; omega), ?_⟩; conv => whnf)
      first | exact .inl rfl | exact .inr rfl
    have h9 : op = 9 := Decidable.not_not.1 h9
    conv => whnf
    repeat (refine ⟨by first | omega | (simp only [Option.getD_none, Option.getD_some]; omega) | (simp; done) | (simp; omega), ?_⟩; conv => whnf)
    refine dcase (fun hq => ?_) (fun hq => ?_)
    · rw [bad (.inl h9) (.inl hq)]
      conv => whnf
      repeat (refine ⟨by first | omega | (simp only [Option.getD_none, Option.getD_some]; omega) | (simp; done) | (simp; omega), ?_⟩; conv => whnf)
      first | exact .inl rfl | exact .inr rfl
    conv => whnf
    repeat (refine ⟨by first | omega | (simp only [Option.getD_none, Option.getD_some]; omega) | (simp; done) | (simp; omega), ?_⟩; conv => whnf)
    refine dcase (fun hq2 => ?_) (fun hq2 => ?_)
    · rw [bad (.inl h9) (.inr hq2)]
      conv => whnf
      repeat (refine ⟨by first | omega | (simp only [Option.getD_none, Option.getD_some]; omega) | (simp; done) | (simp; omega), ?_⟩; conv => whnf)
      first | exact .inl rfl | exact .inr rfl
    have hq : ¬ q < 0 := hq
    have hq2 : ¬ 7 < q := hq2
    rw [is9 h9 (fun h => h.elim hq hq2)]
    subst h9
    conv => whnf
    repeat (refine ⟨by first | omega | (simp only [Option.getD_none, Option.getD_some]; omega) | (simp; done) | (simp; omega), ?_⟩; conv => whnf)
    first | refine .inr (.inl ⟨_, s_refPut s k pc q v n t w (x, e, y, ()) l (Int.not_lt.1 hq) (Int.not_lt.1 hq2) hfi hi.1 hi.2.1, ?_⟩) | refine .inl (.inr (.inl ⟨_, s_refPut s k pc q v n t w (x, e, y, ()) l (Int.not_lt.1 hq) (Int.not_lt.1 hq2) hfi hi.1 hi.2.1, ?_⟩))
    conv => whnf
    repeat (refine ⟨by first | omega | (simp only [Option.getD_none, Option.getD_some]; omega) | (simp; done) | (simp; omega), ?_⟩; conv => whnf)
    first | exact .inl rfl | exact .inr rfl
theorem s_refOwn8 (op : Int) : Spec Tryz.prog 24 [vI op] (vB (ownB 1 10 op)) := by
  refine spec_introF false tab_ok 0 Tryz.func24 rfl (by kernel_rfl) rfl ?_
  conv => whnf
  refine dcase (fun h => ?_) (fun h => ?_)
  · skip
    conv => whnf
    repeat (refine ⟨by first | omega | (simp only [Option.getD_none, Option.getD_some]; omega) | (simp; done) | (simp; omega), ?_⟩; conv => whnf)
    rw [show ownB 1 10 op = decide (op ≤ 10) from by unfold ownB; exact decide_eq_decide.2 ⟨fun e => e.2, fun e => ⟨h, e⟩⟩]
    first | exact .inl rfl | exact .inr rfl
  · skip
    conv => whnf
    repeat (refine ⟨by first | omega | (simp only [Option.getD_none, Option.getD_some]; omega) | (simp; done) | (simp; omega), ?_⟩; conv => whnf)
    rw [show ownB 1 10 op = false from by unfold ownB; exact decide_eq_false (fun e => h e.1)]
    first | exact .inl rfl | exact .inr rfl
end Go.Proofs.YtpobngddiifdpaaGreat.V

set_option linter.unusedSimpArgs false
set_option linter.unusedVariables false
namespace Go.Proofs.YtpobngddiifdpaaGreat.V
def pw_msq_Step_10 : VPlan := .take 0 (.take 1 (.take 2 (.take 3 (.take 4 (.take 5 (.take 6 (.take 7 (.take 8 (.one 9 (.one 10 (.one 11 .done)))))))))))
def gw_msq_Step_10 : List Nat := [2, 5, 7, 8, 33, 37]
def pw_msq_work_got_1 : VPlan := .take 0 (.take 1 (.take 2 (.take 3 (.take 4 (.take 5 (.take 6 (.take 7 (.take 8 (.take 9 (.take 10 (.one 11 (.one 12 .done))))))))))))
def pw_msq_work_got_3 : VPlan := .take 0 (.take 1 (.take 2 (.take 3 (.take 4 (.take 5 (.take 6 (.take 7 (.take 8 (.take 9 (.one 10 (.one 11 .done)))))))))))
def pw_msq_work_got_4 : VPlan := .take 0 (.take 1 (.take 2 (.take 3 (.take 4 (.take 5 (.take 6 (.one 7 .done)))))))
def pw_msq_work_value_1 : VPlan := .take 0 (.take 1 (.take 2 (.take 3 (.take 4 (.take 5 (.take 6 (.take 8 (.take 9 (.take 10 (.take 11 (.take 12 (.take 13 (.one 7 (.late (.one 14 .done)))))))))))))))
def pw_msq_work_old_1 : VPlan := .take 0 (.take 1 (.take 2 (.take 3 (.take 4 (.take 5 (.take 6 (.take 10 (.take 11 (.take 12 (.one 7 (.one 8 (.one 9 (.take 13 (.one 14 .done))))))))))))))
def pw_msq_work_fresh_1 : VPlan := .take 0 (.take 1 (.take 2 (.take 3 (.take 4 (.take 5 (.take 6 (.take 8 (.take 9 (.take 10 (.take 11 (.take 12 (.take 13 (.one 7 (.one 14 (.late (.one 15 .done))))))))))))))))
def pw_msq_work_seen_1 : VPlan := .take 0 (.take 1 (.take 2 (.take 3 (.take 4 (.take 5 (.take 6 (.take 7 (.take 8 (.take 9 (.take 10 (.take 11 (.take 12 (.take 13 (.take 14 (.take 15 (.take 16 (.late (.one 17 .done))))))))))))))))))
def pw_msq_work_behind_1 : VPlan := .take 0 (.take 1 (.take 2 (.take 3 (.take 4 (.take 5 (.take 6 (.take 10 (.take 11 (.take 12 (.one 7 (.one 8 (.one 9 (.take 13 (.one 14 .done))))))))))))))
def pw_msq_work_help_1 : VPlan := .take 0 (.take 1 (.take 2 (.take 3 (.take 4 (.take 5 (.take 6 (.take 9 (.take 10 (.take 11 (.take 12 (.take 13 (.take 14 (.take 15 (.take 16 (.take 17 (.take 18 (.take 19 (.take 20 (.one 7 (.reck 8 (.one 21 (.late (.one 22 .done)))))))))))))))))))))))
def pw_msq_work_link_1 : VPlan := .take 0 (.take 1 (.take 2 (.take 3 (.take 4 (.take 5 (.take 6 (.take 8 (.take 9 (.take 10 (.take 11 (.take 12 (.take 13 (.take 14 (.take 15 (.take 16 (.take 17 (.take 18 (.take 19 (.one 7 (.late (.one 20 (.reck 21 .done))))))))))))))))))))))
def pw_msq_work_link_3 : VPlan := .take 0 (.take 1 (.take 2 (.take 3 (.take 4 (.take 5 (.take 6 (.take 7 (.take 8 (.take 9 (.take 10 (.take 11 (.take 12 (.take 13 (.take 14 (.take 15 (.take 16 (.take 17 (.take 18 (.take 19 (.take 20 (.one 21 (.take 22 (.take 23 (.late (.one 24 .done)))))))))))))))))))))))))
def pw_msq_work_swing_1 : VPlan := .take 0 (.take 1 (.take 2 (.take 3 (.take 4 (.take 5 (.take 6 (.take 9 (.take 10 (.take 11 (.take 12 (.take 13 (.take 14 (.take 15 (.take 16 (.take 17 (.take 18 (.take 19 (.take 20 (.one 7 (.reck 8 (.late (.one 21 .done))))))))))))))))))))))
def pw_msq_work_ended_2 : VPlan := .take 0 (.take 1 (.take 2 (.take 3 (.take 4 (.take 5 (.take 6 (.take 7 (.one 8 (.one 9 .done)))))))))
def pw_msq_work_held_1 : VPlan := .take 0 (.take 1 (.take 2 (.take 3 (.take 4 (.take 5 (.take 6 (.take 7 (.take 8 (.take 9 (.take 10 (.take 11 (.take 12 (.take 13 (.take 14 (.take 15 (.take 16 (.late (.one 17 .done))))))))))))))))))
def pw_msq_work_tail_1 : VPlan := .take 0 (.take 1 (.take 2 (.take 3 (.take 4 (.take 5 (.take 6 (.take 11 (.take 12 (.take 13 (.one 7 (.one 8 (.reck 9 (.one 10 (.take 14 (.one 15 .done)))))))))))))))
def pw_msq_work_next_1 : VPlan := .take 0 (.take 1 (.take 2 (.take 3 (.take 4 (.take 5 (.take 6 (.take 10 (.take 11 (.take 12 (.one 7 (.one 8 (.one 9 (.take 13 (.one 14 .done))))))))))))))
def pw_msq_work_next_3 : VPlan := .take 0 (.take 1 (.take 2 (.take 3 (.take 4 (.take 5 (.take 6 (.take 8 (.take 9 (.take 10 (.take 11 (.take 12 (.take 13 (.one 7 (.one 14 (.reck 15 (.late (.one 16 (.one 17 .done))))))))))))))))))
def pw_msq_work_next_4 : VPlan := .take 0 (.take 1 (.take 2 (.take 3 (.take 4 (.take 5 (.take 6 (.take 7 (.take 8 (.take 9 (.take 10 (.take 11 (.take 12 (.take 13 (.take 14 (.one 15 (.take 16 (.take 17 (.late (.one 18 .done)))))))))))))))))))
def pw_msq_work_next_5 : VPlan := .take 0 (.take 1 (.take 2 (.take 3 (.take 4 (.take 5 (.take 7 (.take 8 (.take 9 (.one 6 (.take 10 (.one 11 .done)))))))))))
def pw_msq_work_lags_1 : VPlan := .take 0 (.take 1 (.take 2 (.take 3 (.take 4 (.take 5 (.take 6 (.take 9 (.take 10 (.take 11 (.take 12 (.take 13 (.take 14 (.take 15 (.take 16 (.take 17 (.take 18 (.take 19 (.take 20 (.one 7 (.reck 8 (.one 21 (.late (.one 22 .done)))))))))))))))))))))))
def pw_msq_work_name_1 : VPlan := .take 0 (.take 1 (.take 2 (.take 3 (.take 4 (.take 6 (.take 7 (.take 8 (.take 9 (.take 10 (.take 11 (.one 5 (.one 12 (.late (.one 13 .done))))))))))))))
def pw_msq_work_still_1 : VPlan := .take 0 (.take 1 (.take 2 (.take 3 (.take 4 (.take 5 (.take 6 (.take 10 (.take 11 (.take 12 (.take 13 (.take 14 (.two 7 15 (.two 8 15 (.two 9 15 (.one 15 (.reck 16 (.one 17 (.one 18 .done)))) (.one 9 (.reck 16 (.one 17 (.one 18 .done))))) (.one 8 (.one 9 (.reck 16 (.one 17 (.one 18 .done)))))) (.one 7 (.one 8 (.one 9 (.reck 16 (.one 17 (.one 18 .done))))))))))))))))))
def pw_msq_work_told_1 : VPlan := .take 0 (.take 1 (.take 2 (.take 3 (.take 4 (.take 5 (.take 6 (.take 10 (.take 11 (.take 12 (.one 7 (.one 8 (.one 9 (.take 13 (.one 14 .done))))))))))))))
def pw_msq_work_move_1 : VPlan := .take 0 (.take 1 (.take 2 (.take 3 (.take 4 (.take 5 (.take 6 (.take 8 (.take 9 (.take 10 (.take 11 (.take 12 (.take 13 (.take 14 (.take 15 (.take 16 (.take 17 (.take 18 (.take 19 (.one 7 (.one 20 (.late (.one 21 (.reck 22 .done)))))))))))))))))))))))
def pw_msq_work_move_3 : VPlan := .take 0 (.take 1 (.take 2 (.take 3 (.take 4 (.take 5 (.take 6 (.take 7 (.take 8 (.take 9 (.take 10 (.take 11 (.take 12 (.take 13 (.take 14 (.take 15 (.take 16 (.take 17 (.take 18 (.take 19 (.take 20 (.one 21 (.take 22 (.take 23 (.late (.one 24 .done)))))))))))))))))))))))))
def pw_msq_work_done_2 : VPlan := .take 0 (.take 1 (.take 2 (.take 3 (.take 4 (.take 5 (.take 6 (.take 7 (.take 8 (.take 9 (.take 10 (.take 11 (.take 12 (.take 13 (.take 14 (.take 15 (.take 16 (.take 17 (.take 18 (.take 19 (.one 20 (.one 21 .done)))))))))))))))))))))
def pw_msq_work_then_1 : VPlan := .take 0 (.take 1 (.take 3 (.take 4 (.take 5 (.take 7 (.take 8 (.two 2 6 (.one 6 (.one 9 (.one 10 .done))) (.one 2 (.one 9 (.one 10 .done))))))))))
def pw_msq_work_on_2 : VPlan := .take 0 (.take 1 (.take 2 (.take 3 (.take 4 (.take 5 (.take 6 (.take 7 (.take 8 (.take 9 (.take 10 (.take 11 (.one 12 (.one 13 .done)))))))))))))
def pw_msq_work_cas_1 : VPlan := .take 0 (.take 1 (.take 2 (.take 3 (.take 4 (.take 5 (.take 6 (.take 7 (.take 8 (.two 9 14 (.two 10 14 (.reck 11 (.reck 12 (.reck 13 (.one 14 (.one 15 (.one 16 .done)))))) (.one 10 (.reck 11 (.reck 12 (.reck 13 (.one 15 (.one 16 .done))))))) (.one 9 (.one 10 (.reck 11 (.reck 12 (.reck 13 (.one 15 (.one 16 .done))))))))))))))))
end Go.Proofs.YtpobngddiifdpaaGreat.V
