/- The document's cores: Set, Back, Turn, On. -/
import Derived.Test.YtlcjkogdbleboaaGreatV21
set_option linter.unusedSimpArgs false
set_option linter.unusedVariables false
namespace Go.Proofs.YtlcjkogdbleboaaGreat.V
open Go Go.RowKit Go.Proofs.YtlcjkogdbleboaaGreat.Hz
set_option maxRecDepth 100000

theorem cAt_frames {s : Sy} {k : Int} (hl2 : ∀ c ∈ s.2.1, c.1.length ≤ 1000) : (cAt s.2.1 k).1.length ≤ 1000 := by
  rcases cAt_mem (l := s.2.1) (k := k) with e | e
  · exact hl2 _ e
  · rw [e]; exact Nat.zero_le _
theorem s_refSet (s : Sy) (k : Int) (f : Frm) (hl : s.2.1.length ≤ 1000) (hl2 : ∀ c ∈ s.2.1, c.1.length ≤ 1000) : Spec Tryz.prog 203 [vS s, vI k, vF f] (vS (setS s k f)) := by
  refine spec_introF true tab_ok 0 Tryz.func203 rfl (by kernel_rfl) rfl ?_
  conv => whnf
  first | refine .inr (.inl ⟨_, s_refTop s k (by omega) (fun c hc => Nat.le_trans (hl2 c hc) (by decide)), ?_⟩) | refine .inl (.inr (.inl ⟨_, s_refTop s k (by omega) (fun c hc => Nat.le_trans (hl2 c hc) (by decide)), ?_⟩))
  conv => whnf
  refine ncaseb (fun h => ?_) (fun h => ?_)
  · rw [show setS s k f = s from if_neg (by rw [h]; decide)]
    conv => whnf
    first | exact .inl rfl | exact .inr rfl
  rw [show setS s k f = _ from if_pos h]
  obtain ⟨g, hg⟩ := Option.isSome_iff_exists.1 h
  obtain ⟨h0, h1, h2, h3⟩ := topI_some hg
  have hlen := cAt_frames (k := k) hl2
  unfold cAt at h2 h3 hlen
  conv => whnf
  repeat (refine ⟨by first | omega | (simp only [Option.getD_none, Option.getD_some]; omega) | (simp; done) | (simp; omega), ?_⟩; conv => whnf)
  refine ⟨le_most (by show (List.getD s.2.1 k.toNat (dflt tCore)).1.length ≤ _; omega), ?_⟩
  conv => whnf
  intro z hz
  have hz : z = ((List.getD s.2.1 k.toNat (dflt tCore)).1.length : Int) - 1 := hz.trans (IntWalk.wrap64_in _ (by omega))
  conv => whnf
  refine ⟨⟨by omega, by show z < ((List.getD s.2.1 k.toNat (dflt tCore)).1.length : Int); omega⟩, ?_⟩
  conv => whnf
  refine ⟨by show z.toNat < (List.getD s.2.1 k.toNat (dflt tCore)).1.length; omega, ?_⟩
  conv => whnf
  first | refine .inr (.inl ⟨_, s_refWith s k ((cAt s.2.1 k).1.set z.toNat f, (cAt s.2.1 k).2) h0 h1 (by omega), ?_⟩) | refine .inl (.inr (.inl ⟨_, s_refWith s k ((cAt s.2.1 k).1.set z.toNat f, (cAt s.2.1 k).2) h0 h1 (by omega), ?_⟩))
  conv => whnf
  rw [hz]
  first | exact .inl rfl | exact .inr rfl
theorem s_refBack (s : Sy) (k v e : Int) (hl : s.2.1.length ≤ 1000) (hl2 : ∀ c ∈ s.2.1, c.1.length ≤ 1000) : Spec Tryz.prog 175 [vS s, vI k, vI v, vI e] (vS (backS s k v e)) := by
  refine spec_introF true tab_ok 0 Tryz.func175 rfl (by kernel_rfl) rfl ?_
  conv => whnf
  first | refine .inr (.inl ⟨_, s_refTop s k (by omega) (fun c hc => Nat.le_trans (hl2 c hc) (by decide)), ?_⟩) | refine .inl (.inr (.inl ⟨_, s_refTop s k (by omega) (fun c hc => Nat.le_trans (hl2 c hc) (by decide)), ?_⟩))
  conv => whnf
  refine ncaseb (fun h => ?_) (fun h => ?_)
  · rw [show backS s k v e = s from if_neg (by rw [h]; decide)]
    conv => whnf
    first | exact .inl rfl | exact .inr rfl
  rw [show backS s k v e = _ from if_pos h]
  obtain ⟨g, hg⟩ := Option.isSome_iff_exists.1 h
  obtain ⟨h0, h1, h2, h3⟩ := topI_some hg
  have hlen := cAt_frames (k := k) hl2
  unfold cAt at h2 h3 hlen
  conv => whnf
  repeat (refine ⟨by first | omega | (simp only [Option.getD_none, Option.getD_some]; omega) | (simp; done) | (simp; omega), ?_⟩; conv => whnf)
  intro z hz
  have hz : z = ((List.getD s.2.1 k.toNat (dflt tCore)).1.length : Int) - 1 := hz.trans (IntWalk.wrap64_in _ (by omega))
  conv => whnf
  refine ⟨⟨by decide, by show 0 ≤ z; omega, by show z ≤ ((List.getD s.2.1 k.toNat (dflt tCore)).1.length : Int); omega⟩, ?_⟩
  conv => whnf
  first | refine .inr (.inl ⟨_, s_refWith s k ((cAt s.2.1 k).1.take z.toNat, v, e, (cAt s.2.1 k).2.2.2) h0 h1 (by omega), ?_⟩) | refine .inl (.inr (.inl ⟨_, s_refWith s k ((cAt s.2.1 k).1.take z.toNat, v, e, (cAt s.2.1 k).2.2.2) h0 h1 (by omega), ?_⟩))
  conv => whnf
  rw [hz]
  first | exact .inl rfl | exact .inr rfl
theorem s_refTurn (m : Me) (p to : Int) (hg : m.2.1.length ≤ 1000000) : Spec Tryz.prog 75 [vM m, vI p, vI to] (vM (turnM m p to)) := by
  have no : ¬ (1 ≤ p ∧ p < m.2.1.length ∧ turnB (nI m.2.1 p) to = true) → turnM m p to = (m.1, m.2.1, true, ()) := fun h => if_neg h
  have yes : 1 ≤ p ∧ p < m.2.1.length ∧ turnB (nI m.2.1 p) to = true → turnM m p to = (m.1, List.set (α := Int) m.2.1 p.toNat to, m.2.2) := fun h => if_pos h
  have tb : turnB (nI m.2.1 p) to = decide (nI m.2.1 p = 0 ∧ to = 1 ∨ nI m.2.1 p = 1 ∧ to = 2 ∨ nI m.2.1 p = 1 ∧ to = 0 ∨ nI m.2.1 p = 2 ∧ to = 0) := by
    unfold turnB eq2
    simp only [Bool.and_true, ← Bool.decide_and, ← Bool.decide_or]
  refine spec_introF true tab_ok 0 Tryz.func75 rfl (by kernel_rfl) rfl ?_
  conv => whnf
  refine dcase (fun h => ?_) (fun h => ?_)
  · rw [no (by omega)]
    conv => whnf
    first | exact .inl rfl | exact .inr rfl
  conv => whnf
  refine dcase (fun h1 => ?_) (fun h1 => ?_)
  · rw [no (by omega)]
    conv => whnf
    first | exact .inl rfl | exact .inr rfl
  conv => whnf
  refine ⟨⟨by omega, by omega⟩, ?_⟩
  conv => whnf
  obtain ⟨x, hx⟩ : ∃ x, nI m.2.1 p = x := ⟨_, rfl⟩
  have hx2 : List.getD m.2.1 p.toNat (dflt tI) = x := hx
  rw [hx] at tb no yes
  rw [tb] at no yes
  rw [decide_eq_true_eq] at no yes
  erw [hx2]
  repeat' (first | (refine ⟨by first | omega | (simp only [Option.getD_none, Option.getD_some]; omega) | (simp; done) | (simp; omega), ?_⟩; conv => whnf) | (rw [no (by omega)]) | (rw [yes (by omega)]) | (refine ⟨le_most (by omega), ?_⟩; conv => whnf) | (refine dcase (fun hc => ?_) (fun hc => ?_) <;> first | (exfalso; omega) | (exfalso; simp_all; done) | (conv => whnf)) | (refine ncase (fun hc => ?_) (fun hc => ?_) <;> first | (exfalso; omega) | (exfalso; simp_all; done) | (conv => whnf)) | (refine bcase (fun hc => ?_) (fun hc => ?_) <;> first | (exfalso; omega) | (exfalso; simp_all; done) | (conv => whnf)) | (refine ncaseb (fun hc => ?_) (fun hc => ?_) <;> first | (exfalso; omega) | (exfalso; simp_all; done) | (conv => whnf)) | (refine And.intro (fun hc => ?_) (fun hc => ?_) <;> first | (exfalso; omega) | (exfalso; simp_all; done) | (conv => whnf)) | (refine And.intro ?_ ?_ <;> conv => whnf) | exact .inl rfl | exact .inr rfl | exact rfl)
theorem s_refOn (s : Sy) (k op pc0 pc : Int) (m : Me) (r : R8) (l : Li) (hl : s.2.1.length ≤ 1000) (hl2 : ∀ c ∈ s.2.1, c.1.length ≤ 1000) : Spec Tryz.prog 112 [vS s, vI k, vM m, vF (op, pc0, r, l, ()), vI pc] (vS (setS (m, s.2) k (op, pc, r, l, ()))) := by
  refine spec_introF true tab_ok 0 Tryz.func112 rfl (by kernel_rfl) rfl ?_
  conv => whnf
  refine ⟨p_hazelref04_On_2, g_hazelref04_On_2, by kernel_rfl, ?st1, ?_, ?_⟩
  rotate_left
  · conv => whnf
    repeat' (first | (refine ⟨by first | omega | (simp only [Option.getD_none, Option.getD_some]; omega) | (simp; done) | (simp; omega), ?_⟩; conv => whnf) | (refine .inr (.inl ⟨_, s_refMem s m, ?_⟩); conv => whnf) | (refine .inl (.inr (.inl ⟨_, s_refMem s m, ?_⟩)); conv => whnf) | (refine .inr (.inl ⟨_, s_refSet (m, s.2) k (op, pc, r, l, ()) hl hl2, ?_⟩); conv => whnf) | (refine .inl (.inr (.inl ⟨_, s_refSet (m, s.2) k (op, pc, r, l, ()) hl hl2, ?_⟩)); conv => whnf) | (refine And.intro ?_ ?_ <;> conv => whnf) | exact rfl)
  conv => whnf
  first | exact .inl rfl | exact .inr rfl
theorem s_refThen (s : Sy) (k op pc0 pc o a b c : Int) (r : R8) (l : Li) (hl : s.2.1.length ≤ 1000) (hl2 : ∀ c ∈ s.2.1, c.1.length ≤ 1000) : Spec Tryz.prog 174 [vS s, vI k, vF (op, pc0, r, l, ()), vI pc, vI o, vI a, vI b, vI c] (vS (callS (setS s k (op, pc, r, l, ())) k o a b c)) := by
  have hs : (setS s k (op, pc, r, l, ())).2.1.length ≤ 1000000 := by
    unfold setS
    split
    · show (List.set _ _ _).length ≤ _
      rw [List.length_set]; omega
    · omega
  refine spec_introF true tab_ok 0 Tryz.func174 rfl (by kernel_rfl) rfl ?_
  conv => whnf
  first | refine .inr (.inl ⟨_, s_refSet s k (op, pc, r, l, ()) hl hl2, ?_⟩) | refine .inl (.inr (.inl ⟨_, s_refSet s k (op, pc, r, l, ()) hl hl2, ?_⟩))
  conv => whnf
  first | refine .inr (.inl ⟨_, s_refCall (setS s k (op, pc, r, l, ())) k o a b c hs, ?_⟩) | refine .inl (.inr (.inl ⟨_, s_refCall (setS s k (op, pc, r, l, ())) k o a b c hs, ?_⟩))
  conv => whnf
  first | exact .inl rfl | exact .inr rfl
end Go.Proofs.YtlcjkogdbleboaaGreat.V
