/- Queues: the program. -/
import Derived.Test.YtpobngddiifdpaaGreatZdN1
import Derived.Test.YtpobngddiifdpaaGreatZdPlanW
set_option linter.unusedSimpArgs false
set_option linter.unusedVariables false
namespace Go.Proofs.YtpobngddiifdpaaGreat.V
open Go Go.RowKit Go.Proofs.YtpobngddiifdpaaGreat.Hz
set_option maxRecDepth 100000

def callP2 (s : Sy) (k op a b : Int) : Sy := if isCoreB s k = true ∧ (cAt s.2.1 k).1.length < 40 then pushS s k (frm0 op a b 0) else s
theorem s_cCall2 (s : Sy) (k op a b : Int) (hl : s.2.1.length ≤ 1000) : Spec Tryz.prog 172 [vS s, vI k, vI op, vL [a, b]] (vS (callP2 s k op a b)) := by
  refine spec_introF false tab_ok 3 Tryz.func172 rfl (by kernel_rfl) rfl ?_
  conv => whnf
  refine .inl (.inl ⟨_, s_isCore s k, ?_⟩)
  conv => whnf
  refine ncaseb (fun h => ?_) (fun h => ?_)
  · rw [show callP2 s k op a b = s from if_neg (by rw [h]; exact fun h => nomatch h.1)]
    conv => whnf
    first | exact .inl rfl | exact .inr rfl
  obtain ⟨h0, h1⟩ := isCore_yes h
  conv => whnf
  repeat (refine ⟨by first | omega | (simp only [Option.getD_none, Option.getD_some]; omega) | (simp; done) | (simp; omega), ?_⟩; conv => whnf)
  refine dcase (fun h3 => ?_) (fun h3 => ?_)
  · rw [show callP2 s k op a b = s from if_neg (fun h => by have := h.2; exact absurd h3 (Int.not_le.2 (Int.ofNat_lt.2 this)))]
    conv => whnf
    first | exact .inl rfl | exact .inr rfl
  have h4 : (cAt s.2.1 k).1.length < 40 := Int.ofNat_lt.1 (Int.not_le.1 h3)
  rw [show callP2 s k op a b = _ from if_pos ⟨h, h4⟩]
  unfold cAt at h4
  have hk : k.toNat < s.2.1.length := by omega
  conv => whnf
  refine ⟨Nat.le_of_ble_eq_true rfl, ?_⟩
  conv => whnf
  refine .inr ⟨_, _, 1000, Tryz.func174, ⟨by kernel_rfl, rfl⟩, ?_⟩
  conv => whnf
  repeat (refine ⟨by first | omega | (simp only [Option.getD_none, Option.getD_some]; omega) | (simp; done) | (simp; omega), ?_⟩; conv => whnf)
  erw [copy_all]
  repeat (refine ⟨by first | omega | (simp only [Option.getD_none, Option.getD_some]; omega) | (simp; done) | (simp; omega), ?_⟩; conv => whnf)
  refine .inr ⟨_, _, 2000, Tryz.func201, ⟨by kernel_rfl, rfl⟩, ?_⟩
  conv => whnf
  refine ⟨p_core_Call_1_0, [9], by kernel_rfl, ?st1, ?_, ?_⟩
  rotate_left
  · conv => whnf
    refine ⟨?_, ?_⟩
    · conv => whnf
      repeat (refine ⟨by first | omega | (simp only [Option.getD_none, Option.getD_some]; omega) | (simp; done) | (simp; omega), ?_⟩; conv => whnf)
      refine ⟨?_, ?_⟩
      · conv => whnf
        first | refine .inr (.inl ⟨_, s_clipF _, ?_⟩) | refine .inl (.inr (.inl ⟨_, s_clipF _, ?_⟩))
        conv => whnf
        refine ⟨⟨Nat.le_trans (Nat.succ_le_succ (Nat.le_of_lt h4)) (le_most (by decide)), List.cons_ne_nil _ _⟩, ?_⟩
        conv => whnf
        repeat (refine ⟨by first | omega | (simp only [Option.getD_none, Option.getD_some]; omega) | (simp; done) | (simp; omega), ?_⟩; conv => whnf)
      · conv => whnf
        first | refine .inr (.inl ⟨_, s_clipF _, ?_⟩) | refine .inl (.inr (.inl ⟨_, s_clipF _, ?_⟩))
        conv => whnf
        refine ⟨⟨Nat.le_trans (Nat.succ_le_succ (Nat.le_of_lt h4)) (le_most (by decide)), List.cons_ne_nil _ _⟩, ?_⟩
        conv => whnf
        repeat (refine ⟨by first | omega | (simp only [Option.getD_none, Option.getD_some]; omega) | (simp; done) | (simp; omega), ?_⟩; conv => whnf)
    · conv => whnf
      repeat (refine ⟨by first | omega | (simp only [Option.getD_none, Option.getD_some]; omega) | (simp; done) | (simp; omega), ?_⟩; conv => whnf)
      first | refine .inr (.inl ⟨_, s_clipF _, ?_⟩) | refine .inl (.inr (.inl ⟨_, s_clipF _, ?_⟩))
      conv => whnf
      refine ⟨⟨Nat.le_trans (Nat.succ_le_succ (Nat.le_of_lt h4)) (le_most (by decide)), List.cons_ne_nil _ _⟩, ?_⟩
      conv => whnf
      repeat (refine ⟨by first | omega | (simp only [Option.getD_none, Option.getD_some]; omega) | (simp; done) | (simp; omega), ?_⟩; conv => whnf)
  conv => whnf
  first | exact .inl rfl | exact .inr rfl
theorem s_isQueue (e : Int) : Spec Tryz.prog 54 [vI e] (vB (decide (0 ≤ e) && decide (e < 8))) := by
  refine spec_introF false tab_ok 0 Tryz.func54 rfl (by kernel_rfl) rfl ?_
  conv => whnf
  refine dcase (fun h => ?_) (fun h => ?_)
  · rw [decide_eq_true h]
    conv => whnf
    first | exact .inl rfl | exact .inr rfl
  · rw [decide_eq_false h]
    conv => whnf
    first | exact .inl rfl | exact .inr rfl
theorem s_mSpot8 (q : Int) (h0 : 0 ≤ q) (h1 : q ≤ 7) : Spec Tryz.prog 21 [vI q] (vI (32 + 2 * q)) := by
  refine spec_introF true tab_ok 0 Tryz.func21 rfl (by kernel_rfl) rfl ?_
  conv => whnf
  intro z hz
  replace hz : z = 2 * q := hz.trans (IntWalk.wrap64_in _ (by omega))
  subst hz
  conv => whnf
  intro z hz
  replace hz : z = 32 + 2 * q := hz.trans (IntWalk.wrap64_in _ (by omega))
  subst hz
  conv => whnf
  first | exact .inl rfl | exact .inr rfl
theorem s_mCell (w c : Int) : Spec Tryz.prog 180 [vI w, vI c] (vI (atI (idxI w) c)) := by
  refine spec_introF true tab_ok 0 Tryz.func180 rfl (by kernel_rfl) rfl ?_
  conv => whnf
  first | refine .inl ⟨_, s_Index w, ?_⟩ | refine .inl (.inl ⟨_, s_Index w, ?_⟩)
  conv => whnf
  repeat (refine ⟨by first | omega | (simp only [Option.getD_none, Option.getD_some]; omega) | (simp; done) | (simp; omega), ?_⟩; conv => whnf)
  first | refine .inl ⟨_, s_mAt _ _, ?_⟩ | refine .inl (.inl ⟨_, s_mAt _ _, ?_⟩)
  conv => whnf
  repeat (refine ⟨by first | omega | (simp only [Option.getD_none, Option.getD_some]; omega) | (simp; done) | (simp; omega), ?_⟩; conv => whnf)
  first | exact .inl rfl | exact .inr rfl
theorem inS {P : Program} (f : Nat) {vs : List SV} {st : St} {K : St → SV → Prop} {X : Prop} (h : specS P f vs st K) : specCall P f vs st K ∨ X := .inl (.inl h)
theorem inD {P : Program} (f : Nat) {vs : List SV} {st : St} {K : St → SV → Prop} {X : Prop} (h : specD P f vs st K) : specCall P f vs st K ∨ X := .inl (.inr (.inl h))
theorem inI {P : Program} (f : Nat) {vs : List SV} {st : St} {K : St → SV → Prop} {X : Prop} (h : X) : specCall P f vs st K ∨ X := .inr h
theorem callS_P2 (s : Sy) (k op a b : Int) : callS s k op a b 0 = callP2 s k op a b := by
  unfold callS callP2 isCoreB
  by_cases h : 0 ≤ k ∧ k < s.2.1.length ∧ (cAt s.2.1 k).1.length < 40
  · rw [if_pos h, if_pos ⟨by rw [decide_eq_true h.1, decide_eq_true h.2.1]; rfl, h.2.2⟩]
  · rw [if_neg h, if_neg]
    intro e
    have := e.1
    simp at this
    exact h ⟨this.1, this.2, e.2⟩
theorem logS_cor {s : Sy} {k a b c d : Int} (h : s.2.1.length ≤ 1000) : (logS s k a b c d).2.1.length ≤ 1000 := by rw [(logS_cores s k a b c d).1]; exact h
theorem logS_frm {s : Sy} {k a b c d : Int} (h : ∀ x ∈ s.2.1, x.1.length ≤ 1000) : ∀ x ∈ (logS s k a b c d).2.1, x.1.length ≤ 1000 := by rw [(logS_cores s k a b c d).1]; exact h
theorem setS_logS (s : Sy) (k a b c d : Int) (f : Frm) : setS (logS s k a b c d) k f = logS (setS s k f) k a b c d := by
  have hc : ∀ s' : Sy, s'.2.1.length = s.2.1.length → isCoreB s' k = isCoreB s k := fun s' h => by unfold isCoreB; rw [h]
  have hl : (setS s k f).2.1.length = s.2.1.length := by
    unfold setS
    split
    · exact List.length_set
    · rfl
  by_cases h : isCoreB s k = true
  · have e1 : logS s k a b c d = (s.1, s.2.1, List.append (α := Evt) s.2.2.1 [(k, a, b, c, d, ())], ()) := if_pos h
    have e2 : logS (setS s k f) k a b c d = ((setS s k f).1, (setS s k f).2.1, List.append (α := Evt) (setS s k f).2.2.1 [(k, a, b, c, d, ())], ()) := if_pos (by rw [hc _ hl]; exact h)
    rw [e1, e2]
    unfold setS
    by_cases ht : (topI s k).isSome = true
    · rw [if_pos ht, if_pos (show (topI (s.1, s.2.1, List.append (α := Evt) s.2.2.1 [(k, a, b, c, d, ())], ()) k).isSome = true from ht)]
      rfl
    · rw [if_neg ht, if_neg (show ¬ (topI (s.1, s.2.1, List.append (α := Evt) s.2.2.1 [(k, a, b, c, d, ())], ()) k).isSome = true from ht)]
  · have e1 : logS s k a b c d = s := if_neg h
    have e2 : logS (setS s k f) k a b c d = setS s k f := if_neg (by rw [hc _ hl]; exact h)
    rw [e1, e2]
set_option maxHeartbeats 4000000 in
theorem s_mPut_0 (s : Sy) (k q v n t w : Int) (r : Den (.cons tI (.cons tI (.cons tI .nil)))) (l : Li) (ht : topI s k = some (9, 0, (q, v, n, t, w, r), l, ())) (h0 : 0 ≤ q) (h1 : q ≤ 7) (hf : Fine s) : Spec Tryz.prog 27 [vS s, vI k] (vS (putS s k 0 q v n t w r l)) := by
  have hq := s_isQueue q
  rw [decide_eq_true h0, decide_eq_true (Int.lt_of_le_of_lt h1 (by decide))] at hq
  rw [show putS s k 0 q v n t w r l = callS (setS s k (9, 1, (q, v, n, t, w, r), l, ())) k 7 0 0 0 from rfl, callS_P]
  refine spec_introF true tab_ok 5 Tryz.func27 rfl (by kernel_rfl) rfl ?_
  conv => whnf
  first | refine .inr (.inl ⟨_, s_topOf ht hf, ?_⟩) | refine .inl (.inr (.inl ⟨_, s_topOf ht hf, ?_⟩))
  conv => whnf
  repeat (refine ⟨by first | omega | (simp only [Option.getD_none, Option.getD_some]; omega) | (simp; done) | (simp; omega), ?_⟩; conv => whnf)
  refine .inr ⟨_, _, 300, Tryz.func74, ⟨by kernel_rfl, rfl⟩, ?_⟩
  conv => whnf
  repeat (refine ⟨by first | omega | (simp only [Option.getD_none, Option.getD_some]; omega) | (simp; done) | (simp; omega), ?_⟩; conv => whnf)
  refine .inr ⟨_, _, 400, Tryz.func75, ⟨by kernel_rfl, rfl⟩, ?_⟩
  conv => whnf
  repeat (refine ⟨by first | omega | (simp only [Option.getD_none, Option.getD_some]; omega) | (simp; done) | (simp; omega), ?_⟩; conv => whnf)
  refine .inl (.inl ⟨_, hq, ?_⟩)
  conv => whnf
  repeat (refine ⟨by first | omega | (simp only [Option.getD_none, Option.getD_some]; omega) | (simp; done) | (simp; omega), ?_⟩; conv => whnf)
  refine ⟨pw_msq_Step_10, gw_msq_Step_10, by kernel_rfl, ?_⟩
  apply Exists.intro
  refine ⟨?_, ?_⟩
  conv => whnf
  repeat (refine ⟨(by show (0 : Int) ≤ 0 ∧ (0 : Int) < 12; decide), ?_⟩; conv => whnf)
  repeat' (first | (refine inD 173 ?_; refine ⟨_, s_cSet s k (9, 1, (q, v, n, t, w, r), l, ()) hf.cores hf.frames, ?_⟩; conv => whnf) | (refine inD 172 ?_; refine ⟨_, s_cCallE (setS s k (9, 1, (q, v, n, t, w, r), l, ())) k 7 (setS_fine hf).cores, ?_⟩; conv => whnf) | (refine inI 115 ?_; refine ⟨_, _, 500, Tryz.func115, ⟨by kernel_rfl, rfl⟩, ?_⟩; conv => whnf) | (refine inI 176 ?_; refine ⟨_, _, 600, Tryz.func176, ⟨by kernel_rfl, rfl⟩, ?_⟩; conv => whnf) | (refine inI 177 ?_; refine ⟨_, _, 700, Tryz.func177, ⟨by kernel_rfl, rfl⟩, ?_⟩; conv => whnf) | (refine ⟨by decide, ?_⟩; conv => whnf) | (refine And.intro ?_ ?_ <;> conv => whnf) | (refine ⟨pw_msq_work_then_1, [], by decide +kernel, ?_⟩; apply Exists.intro; refine ⟨?_, ?_⟩; conv => whnf) | (refine ⟨pw_msq_work_on_2, [65], by decide +kernel, ?_⟩; apply Exists.intro; refine ⟨?_, ?_⟩; conv => whnf) | exact .inl rfl | exact .inr rfl | exact rfl)
set_option maxHeartbeats 4000000 in
theorem s_mPut_1a (s : Sy) (k q v n t w : Int) (r : Den (.cons tI (.cons tI (.cons tI .nil)))) (l : Li) (ht : topI s k = some (9, 1, (q, v, n, t, w, r), l, ())) (h0 : 0 ≤ q) (h1 : q ≤ 7) (hf : Fine s) (hk0 : 0 ≤ k) (hk1 : k < s.2.1.length) (hE : coE s k ≠ 0) : Spec Tryz.prog 27 [vS s, vI k] (vS (putS s k 1 q v n t w r l)) := by
  have hq := s_isQueue q
  rw [decide_eq_true h0, decide_eq_true (Int.lt_of_le_of_lt h1 (by decide))] at hq
  rw [show putS s k 1 q v n t w r l = (if coE s k ≠ 0 then backS s k 0 (coE s k) else setS s k (9, 2, (q, v, coV s k, t, w, r), l, ())) from rfl, if_pos hE]
  refine spec_introF true tab_ok 5 Tryz.func27 rfl (by kernel_rfl) rfl ?_
  conv => whnf
  first | refine .inr (.inl ⟨_, s_topOf ht hf, ?_⟩) | refine .inl (.inr (.inl ⟨_, s_topOf ht hf, ?_⟩))
  conv => whnf
  repeat (refine ⟨by first | omega | (simp only [Option.getD_none, Option.getD_some]; omega) | (simp; done) | (simp; omega), ?_⟩; conv => whnf)
  refine .inr ⟨_, _, 300, Tryz.func74, ⟨by kernel_rfl, rfl⟩, ?_⟩
  conv => whnf
  repeat (refine ⟨by first | omega | (simp only [Option.getD_none, Option.getD_some]; omega) | (simp; done) | (simp; omega), ?_⟩; conv => whnf)
  refine .inr ⟨_, _, 400, Tryz.func75, ⟨by kernel_rfl, rfl⟩, ?_⟩
  conv => whnf
  repeat (refine ⟨by first | omega | (simp only [Option.getD_none, Option.getD_some]; omega) | (simp; done) | (simp; omega), ?_⟩; conv => whnf)
  refine .inl (.inl ⟨_, hq, ?_⟩)
  conv => whnf
  repeat (refine ⟨by first | omega | (simp only [Option.getD_none, Option.getD_some]; omega) | (simp; done) | (simp; omega), ?_⟩; conv => whnf)
  refine ⟨pw_msq_Step_10, gw_msq_Step_10, by kernel_rfl, ?_⟩
  apply Exists.intro
  refine ⟨?_, ?_⟩
  conv => whnf
  repeat (refine ⟨(by show (0 : Int) ≤ 1 ∧ (1 : Int) < 12; decide), ?_⟩; conv => whnf)
  repeat' (first | (refine inD 113 ?_; refine ⟨_, s_cBack s k 0 (coE s k) hf.cores hf.frames, ?_⟩; conv => whnf) | (refine inI 116 ?_; refine ⟨_, _, 500, Tryz.func116, ⟨by kernel_rfl, rfl⟩, ?_⟩; conv => whnf) | (refine ⟨by decide, ?_⟩; conv => whnf) | (refine ⟨⟨hk0, hk1⟩, ?_⟩; conv => whnf) | (refine dcase (fun _ => ?_) (fun h => absurd hE h); conv => whnf) | (refine And.intro ?_ ?_ <;> conv => whnf) | (refine ⟨pw_msq_work_got_1, [502, 65], by decide +kernel, ?_⟩; apply Exists.intro; refine ⟨?_, ?_⟩; conv => whnf) | (refine ⟨pw_msq_work_got_3, [503, 65], by decide +kernel, ?_⟩; apply Exists.intro; refine ⟨?_, ?_⟩; conv => whnf) | (refine ⟨pw_msq_work_got_4, [502, 503], by decide +kernel, ?_⟩; apply Exists.intro; refine ⟨?_, ?_⟩; conv => whnf) | exact .inl rfl | exact .inr rfl | exact rfl)
set_option maxHeartbeats 4000000 in
theorem s_mPut_1b (s : Sy) (k q v n t w : Int) (r : Den (.cons tI (.cons tI (.cons tI .nil)))) (l : Li) (ht : topI s k = some (9, 1, (q, v, n, t, w, r), l, ())) (h0 : 0 ≤ q) (h1 : q ≤ 7) (hf : Fine s) (hk0 : 0 ≤ k) (hk1 : k < s.2.1.length) (hE : ¬ coE s k ≠ 0) : Spec Tryz.prog 27 [vS s, vI k] (vS (putS s k 1 q v n t w r l)) := by
  have hq := s_isQueue q
  rw [decide_eq_true h0, decide_eq_true (Int.lt_of_le_of_lt h1 (by decide))] at hq
  rw [show putS s k 1 q v n t w r l = (if coE s k ≠ 0 then backS s k 0 (coE s k) else setS s k (9, 2, (q, v, coV s k, t, w, r), l, ())) from rfl, if_neg hE]
  refine spec_introF true tab_ok 5 Tryz.func27 rfl (by kernel_rfl) rfl ?_
  conv => whnf
  first | refine .inr (.inl ⟨_, s_topOf ht hf, ?_⟩) | refine .inl (.inr (.inl ⟨_, s_topOf ht hf, ?_⟩))
  conv => whnf
  repeat (refine ⟨by first | omega | (simp only [Option.getD_none, Option.getD_some]; omega) | (simp; done) | (simp; omega), ?_⟩; conv => whnf)
  refine .inr ⟨_, _, 300, Tryz.func74, ⟨by kernel_rfl, rfl⟩, ?_⟩
  conv => whnf
  repeat (refine ⟨by first | omega | (simp only [Option.getD_none, Option.getD_some]; omega) | (simp; done) | (simp; omega), ?_⟩; conv => whnf)
  refine .inr ⟨_, _, 400, Tryz.func75, ⟨by kernel_rfl, rfl⟩, ?_⟩
  conv => whnf
  repeat (refine ⟨by first | omega | (simp only [Option.getD_none, Option.getD_some]; omega) | (simp; done) | (simp; omega), ?_⟩; conv => whnf)
  refine .inl (.inl ⟨_, hq, ?_⟩)
  conv => whnf
  repeat (refine ⟨by first | omega | (simp only [Option.getD_none, Option.getD_some]; omega) | (simp; done) | (simp; omega), ?_⟩; conv => whnf)
  refine ⟨pw_msq_Step_10, gw_msq_Step_10, by kernel_rfl, ?_⟩
  apply Exists.intro
  refine ⟨?_, ?_⟩
  conv => whnf
  repeat (refine ⟨(by show (0 : Int) ≤ 1 ∧ (1 : Int) < 12; decide), ?_⟩; conv => whnf)
  repeat' (first | (refine inD 173 ?_; refine ⟨_, s_cSet s k (9, 2, (q, v, coV s k, t, w, r), l, ()) hf.cores hf.frames, ?_⟩; conv => whnf) | (refine inI 116 ?_; refine ⟨_, _, 500, Tryz.func116, ⟨by kernel_rfl, rfl⟩, ?_⟩; conv => whnf) | (refine inI 177 ?_; refine ⟨_, _, 700, Tryz.func177, ⟨by kernel_rfl, rfl⟩, ?_⟩; conv => whnf) | (refine ⟨by decide, ?_⟩; conv => whnf) | (refine ⟨⟨hk0, hk1⟩, ?_⟩; conv => whnf) | (refine dcase (fun h => absurd h hE) (fun _ => ?_); conv => whnf) | (refine And.intro ?_ ?_ <;> conv => whnf) | (refine ⟨pw_msq_work_got_1, [502, 65], by decide +kernel, ?_⟩; apply Exists.intro; refine ⟨?_, ?_⟩; conv => whnf) | (refine ⟨pw_msq_work_got_3, [503, 65], by decide +kernel, ?_⟩; apply Exists.intro; refine ⟨?_, ?_⟩; conv => whnf) | (refine ⟨pw_msq_work_got_4, [502, 503], by decide +kernel, ?_⟩; apply Exists.intro; refine ⟨?_, ?_⟩; conv => whnf) | (refine ⟨pw_msq_work_on_2, [65], by decide +kernel, ?_⟩; apply Exists.intro; refine ⟨?_, ?_⟩; conv => whnf) | exact .inl rfl | exact .inr rfl | exact rfl)
set_option maxHeartbeats 4000000 in
theorem s_mPut_2 (s : Sy) (k q v n t w : Int) (r : Den (.cons tI (.cons tI (.cons tI .nil)))) (l : Li) (ht : topI s k = some (9, 2, (q, v, n, t, w, r), l, ())) (h0 : 0 ≤ q) (h1 : q ≤ 7) (hf : Fine s) : Spec Tryz.prog 27 [vS s, vI k] (vS (putS s k 2 q v n t w r l)) := by
  have hq := s_isQueue q
  rw [decide_eq_true h0, decide_eq_true (Int.lt_of_le_of_lt h1 (by decide))] at hq
  rw [show putS s k 2 q v n t w r l = setS ((storeM s.1 (atI n 3) v), s.2) k (9, 3, (q, v, n, t, w, r), l, ()) from rfl]
  refine spec_introF true tab_ok 5 Tryz.func27 rfl (by kernel_rfl) rfl ?_
  conv => whnf
  first | refine .inr (.inl ⟨_, s_topOf ht hf, ?_⟩) | refine .inl (.inr (.inl ⟨_, s_topOf ht hf, ?_⟩))
  conv => whnf
  repeat (refine ⟨by first | omega | (simp only [Option.getD_none, Option.getD_some]; omega) | (simp; done) | (simp; omega), ?_⟩; conv => whnf)
  refine .inr ⟨_, _, 300, Tryz.func74, ⟨by kernel_rfl, rfl⟩, ?_⟩
  conv => whnf
  repeat (refine ⟨by first | omega | (simp only [Option.getD_none, Option.getD_some]; omega) | (simp; done) | (simp; omega), ?_⟩; conv => whnf)
  refine .inr ⟨_, _, 400, Tryz.func75, ⟨by kernel_rfl, rfl⟩, ?_⟩
  conv => whnf
  repeat (refine ⟨by first | omega | (simp only [Option.getD_none, Option.getD_some]; omega) | (simp; done) | (simp; omega), ?_⟩; conv => whnf)
  refine .inl (.inl ⟨_, hq, ?_⟩)
  conv => whnf
  repeat (refine ⟨by first | omega | (simp only [Option.getD_none, Option.getD_some]; omega) | (simp; done) | (simp; omega), ?_⟩; conv => whnf)
  refine ⟨pw_msq_Step_10, gw_msq_Step_10, by kernel_rfl, ?_⟩
  apply Exists.intro
  refine ⟨?_, ?_⟩
  conv => whnf
  repeat (refine ⟨(by show (0 : Int) ≤ 2 ∧ (2 : Int) < 12; decide), ?_⟩; conv => whnf)
  repeat' (first | (refine inS 57 ?_; refine ⟨_, s_mAt n 3, ?_⟩; conv => whnf) | (refine inD 58 ?_; refine ⟨_, s_mStore s.1 (atI n 3) v hf.fits, ?_⟩; conv => whnf) | (refine inD 173 ?_; refine ⟨_, s_cSet ((storeM s.1 (atI n 3) v), s.2) k (9, 3, (q, v, n, t, w, r), l, ()) hf.cores hf.frames, ?_⟩; conv => whnf) | (refine inI 117 ?_; refine ⟨_, _, 500, Tryz.func117, ⟨by kernel_rfl, rfl⟩, ?_⟩; conv => whnf) | (refine inI 178 ?_; refine ⟨_, _, 800, Tryz.func178, ⟨by kernel_rfl, rfl⟩, ?_⟩; conv => whnf) | (refine inI 177 ?_; refine ⟨_, _, 700, Tryz.func177, ⟨by kernel_rfl, rfl⟩, ?_⟩; conv => whnf) | (refine ⟨by decide, ?_⟩; conv => whnf) | (refine And.intro ?_ ?_ <;> conv => whnf) | (refine ⟨pw_msq_work_value_1, [502, 65], by decide +kernel, ?_⟩; apply Exists.intro; refine ⟨?_, ?_⟩; conv => whnf) | (refine ⟨pw_msq_work_on_2, [65], by decide +kernel, ?_⟩; apply Exists.intro; refine ⟨?_, ?_⟩; conv => whnf) | exact .inl rfl | exact .inr rfl | exact rfl)
set_option maxHeartbeats 4000000 in
theorem s_mPut_3 (s : Sy) (k q v n t w : Int) (r : Den (.cons tI (.cons tI (.cons tI .nil)))) (l : Li) (ht : topI s k = some (9, 3, (q, v, n, t, w, r), l, ())) (h0 : 0 ≤ q) (h1 : q ≤ 7) (hf : Fine s) : Spec Tryz.prog 27 [vS s, vI k] (vS (putS s k 3 q v n t w r l)) := by
  have hq := s_isQueue q
  rw [decide_eq_true h0, decide_eq_true (Int.lt_of_le_of_lt h1 (by decide))] at hq
  rw [show putS s k 3 q v n t w r l = setS ((loadM s.1 (atI n 1)), s.2) k (9, 4, (q, v, n, t, (loadI s.1 (atI n 1)), r), l, ()) from rfl]
  refine spec_introF true tab_ok 5 Tryz.func27 rfl (by kernel_rfl) rfl ?_
  conv => whnf
  first | refine .inr (.inl ⟨_, s_topOf ht hf, ?_⟩) | refine .inl (.inr (.inl ⟨_, s_topOf ht hf, ?_⟩))
  conv => whnf
  repeat (refine ⟨by first | omega | (simp only [Option.getD_none, Option.getD_some]; omega) | (simp; done) | (simp; omega), ?_⟩; conv => whnf)
  refine .inr ⟨_, _, 300, Tryz.func74, ⟨by kernel_rfl, rfl⟩, ?_⟩
  conv => whnf
  repeat (refine ⟨by first | omega | (simp only [Option.getD_none, Option.getD_some]; omega) | (simp; done) | (simp; omega), ?_⟩; conv => whnf)
  refine .inr ⟨_, _, 400, Tryz.func75, ⟨by kernel_rfl, rfl⟩, ?_⟩
  conv => whnf
  repeat (refine ⟨by first | omega | (simp only [Option.getD_none, Option.getD_some]; omega) | (simp; done) | (simp; omega), ?_⟩; conv => whnf)
  refine .inl (.inl ⟨_, hq, ?_⟩)
  conv => whnf
  repeat (refine ⟨by first | omega | (simp only [Option.getD_none, Option.getD_some]; omega) | (simp; done) | (simp; omega), ?_⟩; conv => whnf)
  refine ⟨pw_msq_Step_10, gw_msq_Step_10, by kernel_rfl, ?_⟩
  apply Exists.intro
  refine ⟨?_, ?_⟩
  conv => whnf
  repeat (refine ⟨(by show (0 : Int) ≤ 3 ∧ (3 : Int) < 12; decide), ?_⟩; conv => whnf)
  repeat' (first | (refine inS 57 ?_; refine ⟨_, s_mAt n 1, ?_⟩; conv => whnf) | (refine inD 56 ?_; refine ⟨_, s_mLoad s.1 (atI n 1) hf.fits, ?_⟩; conv => whnf) | (refine inD 173 ?_; refine ⟨_, s_cSet ((loadM s.1 (atI n 1)), s.2) k (9, 4, (q, v, n, t, (loadI s.1 (atI n 1)), r), l, ()) hf.cores hf.frames, ?_⟩; conv => whnf) | (refine inI 118 ?_; refine ⟨_, _, 500, Tryz.func118, ⟨by kernel_rfl, rfl⟩, ?_⟩; conv => whnf) | (refine inI 179 ?_; refine ⟨_, _, 900, Tryz.func179, ⟨by kernel_rfl, rfl⟩, ?_⟩; conv => whnf) | (refine inI 177 ?_; refine ⟨_, _, 700, Tryz.func177, ⟨by kernel_rfl, rfl⟩, ?_⟩; conv => whnf) | (refine ⟨by decide, ?_⟩; conv => whnf) | (refine And.intro ?_ ?_ <;> conv => whnf) | (refine ⟨pw_msq_work_old_1, [502], by decide +kernel, ?_⟩; apply Exists.intro; refine ⟨?_, ?_⟩; conv => whnf) | (refine ⟨pw_msq_work_on_2, [65], by decide +kernel, ?_⟩; apply Exists.intro; refine ⟨?_, ?_⟩; conv => whnf) | exact .inl rfl | exact .inr rfl | exact rfl)
set_option maxHeartbeats 4000000 in
theorem s_mPut_4 (s : Sy) (k q v n t w : Int) (r : Den (.cons tI (.cons tI (.cons tI .nil)))) (l : Li) (ht : topI s k = some (9, 4, (q, v, n, t, w, r), l, ())) (h0 : 0 ≤ q) (h1 : q ≤ 7) (hf : Fine s) : Spec Tryz.prog 27 [vS s, vI k] (vS (putS s k 4 q v n t w r l)) := by
  have hq := s_isQueue q
  rw [decide_eq_true h0, decide_eq_true (Int.lt_of_le_of_lt h1 (by decide))] at hq
  rw [show putS s k 4 q v n t w r l = setS ((storeM s.1 (atI n 1) (nextI w 0 0)), s.2) k (9, 5, (q, v, n, t, w, r), l, ()) from rfl]
  refine spec_introF true tab_ok 5 Tryz.func27 rfl (by kernel_rfl) rfl ?_
  conv => whnf
  first | refine .inr (.inl ⟨_, s_topOf ht hf, ?_⟩) | refine .inl (.inr (.inl ⟨_, s_topOf ht hf, ?_⟩))
  conv => whnf
  repeat (refine ⟨by first | omega | (simp only [Option.getD_none, Option.getD_some]; omega) | (simp; done) | (simp; omega), ?_⟩; conv => whnf)
  refine .inr ⟨_, _, 300, Tryz.func74, ⟨by kernel_rfl, rfl⟩, ?_⟩
  conv => whnf
  repeat (refine ⟨by first | omega | (simp only [Option.getD_none, Option.getD_some]; omega) | (simp; done) | (simp; omega), ?_⟩; conv => whnf)
  refine .inr ⟨_, _, 400, Tryz.func75, ⟨by kernel_rfl, rfl⟩, ?_⟩
  conv => whnf
  repeat (refine ⟨by first | omega | (simp only [Option.getD_none, Option.getD_some]; omega) | (simp; done) | (simp; omega), ?_⟩; conv => whnf)
  refine .inl (.inl ⟨_, hq, ?_⟩)
  conv => whnf
  repeat (refine ⟨by first | omega | (simp only [Option.getD_none, Option.getD_some]; omega) | (simp; done) | (simp; omega), ?_⟩; conv => whnf)
  refine ⟨pw_msq_Step_10, gw_msq_Step_10, by kernel_rfl, ?_⟩
  apply Exists.intro
  refine ⟨?_, ?_⟩
  conv => whnf
  repeat (refine ⟨(by show (0 : Int) ≤ 4 ∧ (4 : Int) < 12; decide), ?_⟩; conv => whnf)
  repeat' (first | (refine inS 57 ?_; refine ⟨_, s_mAt n 1, ?_⟩; conv => whnf) | (refine inS 59 ?_; refine ⟨_, s_Next w 0 0, ?_⟩; conv => whnf) | (refine inD 58 ?_; refine ⟨_, s_mStore s.1 (atI n 1) (nextI w 0 0) hf.fits, ?_⟩; conv => whnf) | (refine inD 173 ?_; refine ⟨_, s_cSet ((storeM s.1 (atI n 1) (nextI w 0 0)), s.2) k (9, 5, (q, v, n, t, w, r), l, ()) hf.cores hf.frames, ?_⟩; conv => whnf) | (refine inI 119 ?_; refine ⟨_, _, 500, Tryz.func119, ⟨by kernel_rfl, rfl⟩, ?_⟩; conv => whnf) | (refine inI 178 ?_; refine ⟨_, _, 800, Tryz.func178, ⟨by kernel_rfl, rfl⟩, ?_⟩; conv => whnf) | (refine inI 177 ?_; refine ⟨_, _, 700, Tryz.func177, ⟨by kernel_rfl, rfl⟩, ?_⟩; conv => whnf) | (refine ⟨by decide, ?_⟩; conv => whnf) | (refine And.intro ?_ ?_ <;> conv => whnf) | (refine ⟨pw_msq_work_fresh_1, [502, 65], by decide +kernel, ?_⟩; apply Exists.intro; refine ⟨?_, ?_⟩; conv => whnf) | (refine ⟨pw_msq_work_on_2, [65], by decide +kernel, ?_⟩; apply Exists.intro; refine ⟨?_, ?_⟩; conv => whnf) | exact .inl rfl | exact .inr rfl | exact rfl)
set_option maxHeartbeats 4000000 in
theorem s_mPut_5 (s : Sy) (k q v n t w : Int) (r : Den (.cons tI (.cons tI (.cons tI .nil)))) (l : Li) (ht : topI s k = some (9, 5, (q, v, n, t, w, r), l, ())) (h0 : 0 ≤ q) (h1 : q ≤ 7) (hf : Fine s) : Spec Tryz.prog 27 [vS s, vI k] (vS (putS s k 5 q v n t w r l)) := by
  have hq := s_isQueue q
  rw [decide_eq_true h0, decide_eq_true (Int.lt_of_le_of_lt h1 (by decide))] at hq
  rw [show putS s k 5 q v n t w r l = callS (setS s k (9, 6, (q, v, n, t, w, r), l, ())) k 3 (33 + 2 * q) 0 0 from rfl, callS_P2]
  refine spec_introF true tab_ok 5 Tryz.func27 rfl (by kernel_rfl) rfl ?_
  conv => whnf
  first | refine .inr (.inl ⟨_, s_topOf ht hf, ?_⟩) | refine .inl (.inr (.inl ⟨_, s_topOf ht hf, ?_⟩))
  conv => whnf
  repeat (refine ⟨by first | omega | (simp only [Option.getD_none, Option.getD_some]; omega) | (simp; done) | (simp; omega), ?_⟩; conv => whnf)
  refine .inr ⟨_, _, 300, Tryz.func74, ⟨by kernel_rfl, rfl⟩, ?_⟩
  conv => whnf
  repeat (refine ⟨by first | omega | (simp only [Option.getD_none, Option.getD_some]; omega) | (simp; done) | (simp; omega), ?_⟩; conv => whnf)
  refine .inr ⟨_, _, 400, Tryz.func75, ⟨by kernel_rfl, rfl⟩, ?_⟩
  conv => whnf
  repeat (refine ⟨by first | omega | (simp only [Option.getD_none, Option.getD_some]; omega) | (simp; done) | (simp; omega), ?_⟩; conv => whnf)
  refine .inl (.inl ⟨_, hq, ?_⟩)
  conv => whnf
  repeat (refine ⟨by first | omega | (simp only [Option.getD_none, Option.getD_some]; omega) | (simp; done) | (simp; omega), ?_⟩; conv => whnf)
  refine ⟨pw_msq_Step_10, gw_msq_Step_10, by kernel_rfl, ?_⟩
  apply Exists.intro
  refine ⟨?_, ?_⟩
  conv => whnf
  repeat (refine ⟨(by show (0 : Int) ≤ 5 ∧ (5 : Int) < 12; decide), ?_⟩; conv => whnf)
  repeat' (first | (refine inS 21 ?_; refine ⟨_, s_mSpot8 q h0 h1, ?_⟩; conv => whnf) | (refine inD 173 ?_; refine ⟨_, s_cSet s k (9, 6, (q, v, n, t, w, r), l, ()) hf.cores hf.frames, ?_⟩; conv => whnf) | (refine inD 172 ?_; refine ⟨_, s_cCall2 (setS s k (9, 6, (q, v, n, t, w, r), l, ())) k 3 (33 + 2 * q) 0 (setS_fine hf).cores, ?_⟩; conv => whnf) | (refine inI 120 ?_; refine ⟨_, _, 500, Tryz.func120, ⟨by kernel_rfl, rfl⟩, ?_⟩; conv => whnf) | (refine inI 176 ?_; refine ⟨_, _, 600, Tryz.func176, ⟨by kernel_rfl, rfl⟩, ?_⟩; conv => whnf) | (refine inI 177 ?_; refine ⟨_, _, 700, Tryz.func177, ⟨by kernel_rfl, rfl⟩, ?_⟩; conv => whnf) | (refine ⟨by decide, ?_⟩; conv => whnf) | (intro z hz; (replace hz : z = 33 + 2 * q := by rw [IntWalk.wrap64_in _ (by omega)] at hz; omega); subst hz; conv => whnf) | (refine And.intro ?_ ?_ <;> conv => whnf) | (refine ⟨pw_msq_work_then_1, [], by decide +kernel, ?_⟩; apply Exists.intro; refine ⟨?_, ?_⟩; conv => whnf) | (refine ⟨pw_msq_work_on_2, [65], by decide +kernel, ?_⟩; apply Exists.intro; refine ⟨?_, ?_⟩; conv => whnf) | exact .inl rfl | exact .inr rfl | exact rfl)
set_option maxHeartbeats 4000000 in
theorem s_mPut_6 (s : Sy) (k q v n t w : Int) (r : Den (.cons tI (.cons tI (.cons tI .nil)))) (l : Li) (ht : topI s k = some (9, 6, (q, v, n, t, w, r), l, ())) (h0 : 0 ≤ q) (h1 : q ≤ 7) (hf : Fine s) (hk0 : 0 ≤ k) (hk1 : k < s.2.1.length) : Spec Tryz.prog 27 [vS s, vI k] (vS (putS s k 6 q v n t w r l)) := by
  have hq := s_isQueue q
  rw [decide_eq_true h0, decide_eq_true (Int.lt_of_le_of_lt h1 (by decide))] at hq
  rw [show putS s k 6 q v n t w r l = setS s k (9, 7, (q, v, n, coV s k, w, r), l, ()) from rfl]
  refine spec_introF true tab_ok 5 Tryz.func27 rfl (by kernel_rfl) rfl ?_
  conv => whnf
  first | refine .inr (.inl ⟨_, s_topOf ht hf, ?_⟩) | refine .inl (.inr (.inl ⟨_, s_topOf ht hf, ?_⟩))
  conv => whnf
  repeat (refine ⟨by first | omega | (simp only [Option.getD_none, Option.getD_some]; omega) | (simp; done) | (simp; omega), ?_⟩; conv => whnf)
  refine .inr ⟨_, _, 300, Tryz.func74, ⟨by kernel_rfl, rfl⟩, ?_⟩
  conv => whnf
  repeat (refine ⟨by first | omega | (simp only [Option.getD_none, Option.getD_some]; omega) | (simp; done) | (simp; omega), ?_⟩; conv => whnf)
  refine .inr ⟨_, _, 400, Tryz.func75, ⟨by kernel_rfl, rfl⟩, ?_⟩
  conv => whnf
  repeat (refine ⟨by first | omega | (simp only [Option.getD_none, Option.getD_some]; omega) | (simp; done) | (simp; omega), ?_⟩; conv => whnf)
  refine .inl (.inl ⟨_, hq, ?_⟩)
  conv => whnf
  repeat (refine ⟨by first | omega | (simp only [Option.getD_none, Option.getD_some]; omega) | (simp; done) | (simp; omega), ?_⟩; conv => whnf)
  refine ⟨pw_msq_Step_10, gw_msq_Step_10, by kernel_rfl, ?_⟩
  apply Exists.intro
  refine ⟨?_, ?_⟩
  conv => whnf
  repeat (refine ⟨(by show (0 : Int) ≤ 6 ∧ (6 : Int) < 12; decide), ?_⟩; conv => whnf)
  repeat' (first | (refine inD 173 ?_; refine ⟨_, s_cSet s k (9, 7, (q, v, n, coV s k, w, r), l, ()) hf.cores hf.frames, ?_⟩; conv => whnf) | (refine inI 121 ?_; refine ⟨_, _, 500, Tryz.func121, ⟨by kernel_rfl, rfl⟩, ?_⟩; conv => whnf) | (refine inI 177 ?_; refine ⟨_, _, 700, Tryz.func177, ⟨by kernel_rfl, rfl⟩, ?_⟩; conv => whnf) | (refine ⟨by decide, ?_⟩; conv => whnf) | (refine ⟨⟨hk0, hk1⟩, ?_⟩; conv => whnf) | (refine And.intro ?_ ?_ <;> conv => whnf) | (refine ⟨pw_msq_work_seen_1, [502, 65], by decide +kernel, ?_⟩; apply Exists.intro; refine ⟨?_, ?_⟩; conv => whnf) | (refine ⟨pw_msq_work_on_2, [65], by decide +kernel, ?_⟩; apply Exists.intro; refine ⟨?_, ?_⟩; conv => whnf) | exact .inl rfl | exact .inr rfl | exact rfl)
set_option maxHeartbeats 4000000 in
theorem s_mPut_7a (s : Sy) (k q v n t w : Int) (r : Den (.cons tI (.cons tI (.cons tI .nil)))) (l : Li) (ht : topI s k = some (9, 7, (q, v, n, t, w, r), l, ())) (h0 : 0 ≤ q) (h1 : q ≤ 7) (hf : Fine s) (hE : idxI (loadI s.1 (atI (idxI t) 1)) = 0) : Spec Tryz.prog 27 [vS s, vI k] (vS (putS s k 7 q v n t w r l)) := by
  have hq := s_isQueue q
  rw [decide_eq_true h0, decide_eq_true (Int.lt_of_le_of_lt h1 (by decide))] at hq
  rw [show putS s k 7 q v n t w r l = setS ((loadM s.1 (atI (idxI t) 1)), s.2) k (9, (if idxI (loadI s.1 (atI (idxI t) 1)) = 0 then 9 else 8), (q, v, n, t, (loadI s.1 (atI (idxI t) 1)), r), l, ()) from rfl, if_pos hE]
  refine spec_introF true tab_ok 5 Tryz.func27 rfl (by kernel_rfl) rfl ?_
  conv => whnf
  first | refine .inr (.inl ⟨_, s_topOf ht hf, ?_⟩) | refine .inl (.inr (.inl ⟨_, s_topOf ht hf, ?_⟩))
  conv => whnf
  repeat (refine ⟨by first | omega | (simp only [Option.getD_none, Option.getD_some]; omega) | (simp; done) | (simp; omega), ?_⟩; conv => whnf)
  refine .inr ⟨_, _, 300, Tryz.func74, ⟨by kernel_rfl, rfl⟩, ?_⟩
  conv => whnf
  repeat (refine ⟨by first | omega | (simp only [Option.getD_none, Option.getD_some]; omega) | (simp; done) | (simp; omega), ?_⟩; conv => whnf)
  refine .inr ⟨_, _, 400, Tryz.func75, ⟨by kernel_rfl, rfl⟩, ?_⟩
  conv => whnf
  repeat (refine ⟨by first | omega | (simp only [Option.getD_none, Option.getD_some]; omega) | (simp; done) | (simp; omega), ?_⟩; conv => whnf)
  refine .inl (.inl ⟨_, hq, ?_⟩)
  conv => whnf
  repeat (refine ⟨by first | omega | (simp only [Option.getD_none, Option.getD_some]; omega) | (simp; done) | (simp; omega), ?_⟩; conv => whnf)
  refine ⟨pw_msq_Step_10, gw_msq_Step_10, by kernel_rfl, ?_⟩
  apply Exists.intro
  refine ⟨?_, ?_⟩
  conv => whnf
  repeat (refine ⟨(by show (0 : Int) ≤ 7 ∧ (7 : Int) < 12; decide), ?_⟩; conv => whnf)
  repeat' (first | (refine inS 180 ?_; refine ⟨_, s_mCell t 1, ?_⟩; conv => whnf) | (refine inD 56 ?_; refine ⟨_, s_mLoad s.1 (atI (idxI t) 1) hf.fits, ?_⟩; conv => whnf) | (refine inS 66 ?_; refine ⟨_, s_Index (loadI s.1 (atI (idxI t) 1)), ?_⟩; conv => whnf) | (refine inD 173 ?_; refine ⟨_, s_cSet ((loadM s.1 (atI (idxI t) 1)), s.2) k (9, 9, (q, v, n, t, (loadI s.1 (atI (idxI t) 1)), r), l, ()) hf.cores hf.frames, ?_⟩; conv => whnf) | (refine inI 122 ?_; refine ⟨_, _, 500, Tryz.func122, ⟨by kernel_rfl, rfl⟩, ?_⟩; conv => whnf) | (refine inI 179 ?_; refine ⟨_, _, 900, Tryz.func179, ⟨by kernel_rfl, rfl⟩, ?_⟩; conv => whnf) | (refine inI 181 ?_; refine ⟨_, _, 1100, Tryz.func181, ⟨by kernel_rfl, rfl⟩, ?_⟩; conv => whnf) | (refine inI 177 ?_; refine ⟨_, _, 700, Tryz.func177, ⟨by kernel_rfl, rfl⟩, ?_⟩; conv => whnf) | (refine ⟨by decide, ?_⟩; conv => whnf) | (refine dcase (fun _ => ?_) (fun h => absurd hE h); conv => whnf) | (refine And.intro ?_ ?_ <;> conv => whnf) | (refine ⟨pw_msq_work_behind_1, [502], by decide +kernel, ?_⟩; apply Exists.intro; refine ⟨?_, ?_⟩; conv => whnf) | (refine ⟨pw_msq_work_on_2, [65], by decide +kernel, ?_⟩; apply Exists.intro; refine ⟨?_, ?_⟩; conv => whnf) | exact .inl rfl | exact .inr rfl | exact rfl)
set_option maxHeartbeats 4000000 in
theorem s_mPut_7b (s : Sy) (k q v n t w : Int) (r : Den (.cons tI (.cons tI (.cons tI .nil)))) (l : Li) (ht : topI s k = some (9, 7, (q, v, n, t, w, r), l, ())) (h0 : 0 ≤ q) (h1 : q ≤ 7) (hf : Fine s) (hE : ¬ idxI (loadI s.1 (atI (idxI t) 1)) = 0) : Spec Tryz.prog 27 [vS s, vI k] (vS (putS s k 7 q v n t w r l)) := by
  have hq := s_isQueue q
  rw [decide_eq_true h0, decide_eq_true (Int.lt_of_le_of_lt h1 (by decide))] at hq
  rw [show putS s k 7 q v n t w r l = setS ((loadM s.1 (atI (idxI t) 1)), s.2) k (9, (if idxI (loadI s.1 (atI (idxI t) 1)) = 0 then 9 else 8), (q, v, n, t, (loadI s.1 (atI (idxI t) 1)), r), l, ()) from rfl, if_neg hE]
  refine spec_introF true tab_ok 5 Tryz.func27 rfl (by kernel_rfl) rfl ?_
  conv => whnf
  first | refine .inr (.inl ⟨_, s_topOf ht hf, ?_⟩) | refine .inl (.inr (.inl ⟨_, s_topOf ht hf, ?_⟩))
  conv => whnf
  repeat (refine ⟨by first | omega | (simp only [Option.getD_none, Option.getD_some]; omega) | (simp; done) | (simp; omega), ?_⟩; conv => whnf)
  refine .inr ⟨_, _, 300, Tryz.func74, ⟨by kernel_rfl, rfl⟩, ?_⟩
  conv => whnf
  repeat (refine ⟨by first | omega | (simp only [Option.getD_none, Option.getD_some]; omega) | (simp; done) | (simp; omega), ?_⟩; conv => whnf)
  refine .inr ⟨_, _, 400, Tryz.func75, ⟨by kernel_rfl, rfl⟩, ?_⟩
  conv => whnf
  repeat (refine ⟨by first | omega | (simp only [Option.getD_none, Option.getD_some]; omega) | (simp; done) | (simp; omega), ?_⟩; conv => whnf)
  refine .inl (.inl ⟨_, hq, ?_⟩)
  conv => whnf
  repeat (refine ⟨by first | omega | (simp only [Option.getD_none, Option.getD_some]; omega) | (simp; done) | (simp; omega), ?_⟩; conv => whnf)
  refine ⟨pw_msq_Step_10, gw_msq_Step_10, by kernel_rfl, ?_⟩
  apply Exists.intro
  refine ⟨?_, ?_⟩
  conv => whnf
  repeat (refine ⟨(by show (0 : Int) ≤ 7 ∧ (7 : Int) < 12; decide), ?_⟩; conv => whnf)
  repeat' (first | (refine inS 180 ?_; refine ⟨_, s_mCell t 1, ?_⟩; conv => whnf) | (refine inD 56 ?_; refine ⟨_, s_mLoad s.1 (atI (idxI t) 1) hf.fits, ?_⟩; conv => whnf) | (refine inS 66 ?_; refine ⟨_, s_Index (loadI s.1 (atI (idxI t) 1)), ?_⟩; conv => whnf) | (refine inD 173 ?_; refine ⟨_, s_cSet ((loadM s.1 (atI (idxI t) 1)), s.2) k (9, 8, (q, v, n, t, (loadI s.1 (atI (idxI t) 1)), r), l, ()) hf.cores hf.frames, ?_⟩; conv => whnf) | (refine inI 122 ?_; refine ⟨_, _, 500, Tryz.func122, ⟨by kernel_rfl, rfl⟩, ?_⟩; conv => whnf) | (refine inI 179 ?_; refine ⟨_, _, 900, Tryz.func179, ⟨by kernel_rfl, rfl⟩, ?_⟩; conv => whnf) | (refine inI 181 ?_; refine ⟨_, _, 1100, Tryz.func181, ⟨by kernel_rfl, rfl⟩, ?_⟩; conv => whnf) | (refine inI 177 ?_; refine ⟨_, _, 700, Tryz.func177, ⟨by kernel_rfl, rfl⟩, ?_⟩; conv => whnf) | (refine ⟨by decide, ?_⟩; conv => whnf) | (refine dcase (fun h => absurd h hE) (fun _ => ?_); conv => whnf) | (refine And.intro ?_ ?_ <;> conv => whnf) | (refine ⟨pw_msq_work_behind_1, [502], by decide +kernel, ?_⟩; apply Exists.intro; refine ⟨?_, ?_⟩; conv => whnf) | (refine ⟨pw_msq_work_on_2, [65], by decide +kernel, ?_⟩; apply Exists.intro; refine ⟨?_, ?_⟩; conv => whnf) | exact .inl rfl | exact .inr rfl | exact rfl)
set_option maxHeartbeats 4000000 in
theorem s_mPut_11 (s : Sy) (k q v n t w : Int) (r : Den (.cons tI (.cons tI (.cons tI .nil)))) (l : Li) (ht : topI s k = some (9, 11, (q, v, n, t, w, r), l, ())) (h0 : 0 ≤ q) (h1 : q ≤ 7) (hf : Fine s) : Spec Tryz.prog 27 [vS s, vI k] (vS (putS s k 11 q v n t w r l)) := by
  have hq := s_isQueue q
  rw [decide_eq_true h0, decide_eq_true (Int.lt_of_le_of_lt h1 (by decide))] at hq
  rw [show putS s k 11 q v n t w r l = backS ((storeM s.1 (placeI k 0) 0), s.2) k 0 0 from rfl]
  refine spec_introF true tab_ok 5 Tryz.func27 rfl (by kernel_rfl) rfl ?_
  conv => whnf
  first | refine .inr (.inl ⟨_, s_topOf ht hf, ?_⟩) | refine .inl (.inr (.inl ⟨_, s_topOf ht hf, ?_⟩))
  conv => whnf
  repeat (refine ⟨by first | omega | (simp only [Option.getD_none, Option.getD_some]; omega) | (simp; done) | (simp; omega), ?_⟩; conv => whnf)
  refine .inr ⟨_, _, 300, Tryz.func74, ⟨by kernel_rfl, rfl⟩, ?_⟩
  conv => whnf
  repeat (refine ⟨by first | omega | (simp only [Option.getD_none, Option.getD_some]; omega) | (simp; done) | (simp; omega), ?_⟩; conv => whnf)
  refine .inr ⟨_, _, 400, Tryz.func75, ⟨by kernel_rfl, rfl⟩, ?_⟩
  conv => whnf
  repeat (refine ⟨by first | omega | (simp only [Option.getD_none, Option.getD_some]; omega) | (simp; done) | (simp; omega), ?_⟩; conv => whnf)
  refine .inl (.inl ⟨_, hq, ?_⟩)
  conv => whnf
  repeat (refine ⟨by first | omega | (simp only [Option.getD_none, Option.getD_some]; omega) | (simp; done) | (simp; omega), ?_⟩; conv => whnf)
  refine ⟨pw_msq_Step_10, gw_msq_Step_10, by kernel_rfl, ?_⟩
  apply Exists.intro
  refine ⟨?_, ?_⟩
  conv => whnf
  repeat (refine ⟨(by show (0 : Int) ≤ 11 ∧ (11 : Int) < 12; decide), ?_⟩; conv => whnf)
  repeat' (first | (refine inS 184 ?_; refine ⟨_, s_hPlace k 0, ?_⟩; conv => whnf) | (refine inD 58 ?_; refine ⟨_, s_mStore s.1 (placeI k 0) 0 hf.fits, ?_⟩; conv => whnf) | (refine inD 113 ?_; refine ⟨_, s_cBack ((storeM s.1 (placeI k 0) 0), s.2) k 0 0 hf.cores hf.frames, ?_⟩; conv => whnf) | (refine inI 126 ?_; refine ⟨_, _, 500, Tryz.func126, ⟨by kernel_rfl, rfl⟩, ?_⟩; conv => whnf) | (refine inI 178 ?_; refine ⟨_, _, 800, Tryz.func178, ⟨by kernel_rfl, rfl⟩, ?_⟩; conv => whnf) | (refine ⟨by decide, ?_⟩; conv => whnf) | (refine And.intro ?_ ?_ <;> conv => whnf) | (refine ⟨pw_msq_work_ended_2, [65], by decide +kernel, ?_⟩; apply Exists.intro; refine ⟨?_, ?_⟩; conv => whnf) | exact .inl rfl | exact .inr rfl | exact rfl)
end Go.Proofs.YtpobngddiifdpaaGreat.V
