/- Queues: ODeq's steps, the program. -/
import Derived.Test.YtpobngddiifdpaaGreatZdQ4
import Derived.Test.YtpobngddiifdpaaGreatZdV30
set_option linter.unusedSimpArgs false
set_option linter.unusedVariables false
namespace Go.Proofs.YtpobngddiifdpaaGreat.V
open Go Go.RowKit Go.Proofs.YtpobngddiifdpaaGreat.Hz
set_option maxRecDepth 100000

set_option maxHeartbeats 4000000 in
theorem s_mTake_0 (s : Sy) (k q v h t w x e y : Int) (l : Li) (ht : topI s k = some (10, 0, (q, v, h, t, w, x, e, y, ()), l, ())) (h0 : 0 ≤ q) (h1 : q ≤ 7) (hf : Fine s) : Spec Tryz.prog 27 [vS s, vI k] (vS (takeS s k 0 q v h t w x e y l)) := by
  have hq := s_isQueue q
  rw [decide_eq_true h0, decide_eq_true (Int.lt_of_le_of_lt h1 (by decide))] at hq
  rw [show takeS s k 0 q v h t w x e y l = callS (setS s k (10, 1, (q, v, h, t, w, x, e, y, ()), l, ())) k 3 (32 + 2 * q) 0 0 from rfl, callS_P2]
  refine spec_introF true tab_ok 5 Tryz.func27 rfl (by kernel_rfl) rfl ?_
  conv => whnf
  first | refine .inr (.inl ⟨_, s_topOf ht hf, ?_⟩) | refine .inl (.inr (.inl ⟨_, s_topOf ht hf, ?_⟩))
  conv => whnf
  repeat (refine ⟨by first | omega | (simp only [Option.getD_none, Option.getD_some]; omega) | (simp; done) | (simp; omega), ?_⟩; conv => whnf)
  refine .inr ⟨_, _, 300, Tryz.func74, ⟨by kernel_rfl, rfl⟩, ?_⟩
  conv => whnf
  repeat (refine ⟨by first | omega | (simp only [Option.getD_none, Option.getD_some]; omega) | (simp; done) | (simp; omega), ?_⟩; conv => whnf)
  refine .inr ⟨_, _, 400, Tryz.func75, ⟨by kernel_rfl, rfl⟩, ?_⟩
  conv => whnf
  repeat (refine ⟨by first | omega | (simp only [Option.getD_none, Option.getD_some]; omega) | (simp; done) | (simp; omega), ?_⟩; conv => whnf)
  refine .inl (.inl ⟨_, hq, ?_⟩)
  conv => whnf
  repeat (refine ⟨by first | omega | (simp only [Option.getD_none, Option.getD_some]; omega) | (simp; done) | (simp; omega), ?_⟩; conv => whnf)
  refine ⟨pw_msq_Step_10, gw_msq_Step_10, by kernel_rfl, ?_⟩
  apply Exists.intro
  refine ⟨?_, ?_⟩
  conv => whnf
  repeat (refine ⟨(by show (0 : Int) ≤ 0 ∧ (0 : Int) < 11; decide), ?_⟩; conv => whnf)
  repeat' (first | (refine inS 21 ?_; refine ⟨_, s_mSpot8 q h0 h1, ?_⟩; conv => whnf) | (refine inD 173 ?_; refine ⟨_, s_cSet s k (10, 1, (q, v, h, t, w, x, e, y, ()), l, ()) hf.cores hf.frames, ?_⟩; conv => whnf) | (refine inD 172 ?_; refine ⟨_, s_cCall2 (setS s k (10, 1, (q, v, h, t, w, x, e, y, ()), l, ())) k 3 (32 + 2 * q) 0 (setS_fine hf).cores, ?_⟩; conv => whnf) | (refine inI 127 ?_; refine ⟨_, _, 500, Tryz.func127, ⟨by kernel_rfl, rfl⟩, ?_⟩; conv => whnf) | (refine inI 176 ?_; refine ⟨_, _, 600, Tryz.func176, ⟨by kernel_rfl, rfl⟩, ?_⟩; conv => whnf) | (refine inI 177 ?_; refine ⟨_, _, 700, Tryz.func177, ⟨by kernel_rfl, rfl⟩, ?_⟩; conv => whnf) | (refine ⟨by decide, ?_⟩; conv => whnf) | (refine And.intro ?_ ?_ <;> conv => whnf) | (refine ⟨pw_msq_work_then_1, [], by decide +kernel, ?_⟩; apply Exists.intro; refine ⟨?_, ?_⟩; conv => whnf) | (refine ⟨pw_msq_work_on_2, [65], by decide +kernel, ?_⟩; apply Exists.intro; refine ⟨?_, ?_⟩; conv => whnf) | exact .inl rfl | exact .inr rfl | exact rfl)
set_option maxHeartbeats 4000000 in
theorem s_mTake_1 (s : Sy) (k q v h t w x e y : Int) (l : Li) (ht : topI s k = some (10, 1, (q, v, h, t, w, x, e, y, ()), l, ())) (h0 : 0 ≤ q) (h1 : q ≤ 7) (hf : Fine s) (hk0 : 0 ≤ k) (hk1 : k < s.2.1.length) : Spec Tryz.prog 27 [vS s, vI k] (vS (takeS s k 1 q v h t w x e y l)) := by
  have hq := s_isQueue q
  rw [decide_eq_true h0, decide_eq_true (Int.lt_of_le_of_lt h1 (by decide))] at hq
  rw [show takeS s k 1 q v h t w x e y l = setS s k (10, 2, (q, v, (coV s k), t, w, x, e, y, ()), l, ()) from rfl]
  refine spec_introF true tab_ok 5 Tryz.func27 rfl (by kernel_rfl) rfl ?_
  conv => whnf
  first | refine .inr (.inl ⟨_, s_topOf ht hf, ?_⟩) | refine .inl (.inr (.inl ⟨_, s_topOf ht hf, ?_⟩))
  conv => whnf
  repeat (refine ⟨by first | omega | (simp only [Option.getD_none, Option.getD_some]; omega) | (simp; done) | (simp; omega), ?_⟩; conv => whnf)
  refine .inr ⟨_, _, 300, Tryz.func74, ⟨by kernel_rfl, rfl⟩, ?_⟩
  conv => whnf
  repeat (refine ⟨by first | omega | (simp only [Option.getD_none, Option.getD_some]; omega) | (simp; done) | (simp; omega), ?_⟩; conv => whnf)
  refine .inr ⟨_, _, 400, Tryz.func75, ⟨by kernel_rfl, rfl⟩, ?_⟩
  conv => whnf
  repeat (refine ⟨by first | omega | (simp only [Option.getD_none, Option.getD_some]; omega) | (simp; done) | (simp; omega), ?_⟩; conv => whnf)
  refine .inl (.inl ⟨_, hq, ?_⟩)
  conv => whnf
  repeat (refine ⟨by first | omega | (simp only [Option.getD_none, Option.getD_some]; omega) | (simp; done) | (simp; omega), ?_⟩; conv => whnf)
  refine ⟨pw_msq_Step_10, gw_msq_Step_10, by kernel_rfl, ?_⟩
  apply Exists.intro
  refine ⟨?_, ?_⟩
  conv => whnf
  repeat (refine ⟨(by show (0 : Int) ≤ 1 ∧ (1 : Int) < 11; decide), ?_⟩; conv => whnf)
  repeat' (first | (refine inD 173 ?_; refine ⟨_, s_cSet s k (10, 2, (q, v, (coV s k), t, w, x, e, y, ()), l, ()) hf.cores hf.frames, ?_⟩; conv => whnf) | (refine inI 128 ?_; refine ⟨_, _, 500, Tryz.func128, ⟨by kernel_rfl, rfl⟩, ?_⟩; conv => whnf) | (refine inI 177 ?_; refine ⟨_, _, 700, Tryz.func177, ⟨by kernel_rfl, rfl⟩, ?_⟩; conv => whnf) | (refine ⟨by decide, ?_⟩; conv => whnf) | (refine ⟨⟨hk0, hk1⟩, ?_⟩; conv => whnf) | (refine And.intro ?_ ?_ <;> conv => whnf) | (refine ⟨pw_msq_work_held_1, [502, 65], by decide +kernel, ?_⟩; apply Exists.intro; refine ⟨?_, ?_⟩; conv => whnf) | (refine ⟨pw_msq_work_on_2, [65], by decide +kernel, ?_⟩; apply Exists.intro; refine ⟨?_, ?_⟩; conv => whnf) | exact .inl rfl | exact .inr rfl | exact rfl)
set_option maxHeartbeats 4000000 in
theorem s_mTake_2 (s : Sy) (k q v h t w x e y : Int) (l : Li) (ht : topI s k = some (10, 2, (q, v, h, t, w, x, e, y, ()), l, ())) (h0 : 0 ≤ q) (h1 : q ≤ 7) (hf : Fine s) : Spec Tryz.prog 27 [vS s, vI k] (vS (takeS s k 2 q v h t w x e y l)) := by
  have hq := s_isQueue q
  rw [decide_eq_true h0, decide_eq_true (Int.lt_of_le_of_lt h1 (by decide))] at hq
  rw [show takeS s k 2 q v h t w x e y l = setS ((loadM s.1 (33 + 2 * q)), s.2) k (10, 3, (q, v, h, (loadI s.1 (33 + 2 * q)), w, x, e, y, ()), l, ()) from rfl]
  refine spec_introF true tab_ok 5 Tryz.func27 rfl (by kernel_rfl) rfl ?_
  conv => whnf
  first | refine .inr (.inl ⟨_, s_topOf ht hf, ?_⟩) | refine .inl (.inr (.inl ⟨_, s_topOf ht hf, ?_⟩))
  conv => whnf
  repeat (refine ⟨by first | omega | (simp only [Option.getD_none, Option.getD_some]; omega) | (simp; done) | (simp; omega), ?_⟩; conv => whnf)
  refine .inr ⟨_, _, 300, Tryz.func74, ⟨by kernel_rfl, rfl⟩, ?_⟩
  conv => whnf
  repeat (refine ⟨by first | omega | (simp only [Option.getD_none, Option.getD_some]; omega) | (simp; done) | (simp; omega), ?_⟩; conv => whnf)
  refine .inr ⟨_, _, 400, Tryz.func75, ⟨by kernel_rfl, rfl⟩, ?_⟩
  conv => whnf
  repeat (refine ⟨by first | omega | (simp only [Option.getD_none, Option.getD_some]; omega) | (simp; done) | (simp; omega), ?_⟩; conv => whnf)
  refine .inl (.inl ⟨_, hq, ?_⟩)
  conv => whnf
  repeat (refine ⟨by first | omega | (simp only [Option.getD_none, Option.getD_some]; omega) | (simp; done) | (simp; omega), ?_⟩; conv => whnf)
  refine ⟨pw_msq_Step_10, gw_msq_Step_10, by kernel_rfl, ?_⟩
  apply Exists.intro
  refine ⟨?_, ?_⟩
  conv => whnf
  repeat (refine ⟨(by show (0 : Int) ≤ 2 ∧ (2 : Int) < 11; decide), ?_⟩; conv => whnf)
  repeat' (first | (refine inS 21 ?_; refine ⟨_, s_mSpot8 q h0 h1, ?_⟩; conv => whnf) | (refine inD 56 ?_; refine ⟨_, s_mLoad s.1 (33 + 2 * q) hf.fits, ?_⟩; conv => whnf) | (refine inD 173 ?_; refine ⟨_, s_cSet ((loadM s.1 (33 + 2 * q)), s.2) k (10, 3, (q, v, h, (loadI s.1 (33 + 2 * q)), w, x, e, y, ()), l, ()) hf.cores hf.frames, ?_⟩; conv => whnf) | (refine inI 129 ?_; refine ⟨_, _, 500, Tryz.func129, ⟨by kernel_rfl, rfl⟩, ?_⟩; conv => whnf) | (refine inI 179 ?_; refine ⟨_, _, 900, Tryz.func179, ⟨by kernel_rfl, rfl⟩, ?_⟩; conv => whnf) | (refine inI 177 ?_; refine ⟨_, _, 700, Tryz.func177, ⟨by kernel_rfl, rfl⟩, ?_⟩; conv => whnf) | (refine ⟨by decide, ?_⟩; conv => whnf) | (intro z hz; (replace hz : z = 33 + 2 * q := by rw [IntWalk.wrap64_in _ (by omega)] at hz; omega); subst hz; conv => whnf) | (refine And.intro ?_ ?_ <;> conv => whnf) | (refine ⟨pw_msq_work_tail_1, [502], by decide +kernel, ?_⟩; apply Exists.intro; refine ⟨?_, ?_⟩; conv => whnf) | (refine ⟨pw_msq_work_on_2, [65], by decide +kernel, ?_⟩; apply Exists.intro; refine ⟨?_, ?_⟩; conv => whnf) | exact .inl rfl | exact .inr rfl | exact rfl)
set_option maxHeartbeats 4000000 in
theorem s_mTake_3a (s : Sy) (k q v h t w x e y : Int) (l : Li) (ht : topI s k = some (10, 3, (q, v, h, t, w, x, e, y, ()), l, ())) (h0 : 0 ≤ q) (h1 : q ≤ 7) (hf : Fine s) (hE : idxI (loadI s.1 (atI (idxI h) 1)) = 0) : Spec Tryz.prog 27 [vS s, vI k] (vS (takeS s k 3 q v h t w x e y l)) := by
  have hq := s_isQueue q
  rw [decide_eq_true h0, decide_eq_true (Int.lt_of_le_of_lt h1 (by decide))] at hq
  rw [show takeS s k 3 q v h t w x e y l = (if idxI (loadI s.1 (atI (idxI h) 1)) = 0 then logS (setS ((loadM s.1 (atI (idxI h) 1)), s.2) k (10, 9, (q, v, h, t, (loadI s.1 (atI (idxI h) 1)), 0, 3, y, ()), l, ())) k 3 q 0 0 else if idxI h = idxI t then setS ((loadM s.1 (atI (idxI h) 1)), s.2) k (10, 4, (q, v, h, t, (loadI s.1 (atI (idxI h) 1)), x, e, y, ()), l, ()) else setS ((loadM s.1 (atI (idxI h) 1)), s.2) k (10, 5, (q, v, h, t, (loadI s.1 (atI (idxI h) 1)), x, e, y, ()), l, ())) from rfl, if_pos hE, ← setS_logS]
  refine spec_introF true tab_ok 5 Tryz.func27 rfl (by kernel_rfl) rfl ?_
  conv => whnf
  first | refine .inr (.inl ⟨_, s_topOf ht hf, ?_⟩) | refine .inl (.inr (.inl ⟨_, s_topOf ht hf, ?_⟩))
  conv => whnf
  repeat (refine ⟨by first | omega | (simp only [Option.getD_none, Option.getD_some]; omega) | (simp; done) | (simp; omega), ?_⟩; conv => whnf)
  refine .inr ⟨_, _, 300, Tryz.func74, ⟨by kernel_rfl, rfl⟩, ?_⟩
  conv => whnf
  repeat (refine ⟨by first | omega | (simp only [Option.getD_none, Option.getD_some]; omega) | (simp; done) | (simp; omega), ?_⟩; conv => whnf)
  refine .inr ⟨_, _, 400, Tryz.func75, ⟨by kernel_rfl, rfl⟩, ?_⟩
  conv => whnf
  repeat (refine ⟨by first | omega | (simp only [Option.getD_none, Option.getD_some]; omega) | (simp; done) | (simp; omega), ?_⟩; conv => whnf)
  refine .inl (.inl ⟨_, hq, ?_⟩)
  conv => whnf
  repeat (refine ⟨by first | omega | (simp only [Option.getD_none, Option.getD_some]; omega) | (simp; done) | (simp; omega), ?_⟩; conv => whnf)
  refine ⟨pw_msq_Step_10, gw_msq_Step_10, by kernel_rfl, ?_⟩
  apply Exists.intro
  refine ⟨?_, ?_⟩
  conv => whnf
  repeat (refine ⟨(by show (0 : Int) ≤ 3 ∧ (3 : Int) < 11; decide), ?_⟩; conv => whnf)
  repeat' (first | (refine inS 180 ?_; refine ⟨_, s_mCell h 1, ?_⟩; conv => whnf) | (refine inD 56 ?_; refine ⟨_, s_mLoad s.1 (atI (idxI h) 1) hf.fits, ?_⟩; conv => whnf) | (refine inS 66 ?_; refine ⟨_, s_Index (loadI s.1 (atI (idxI h) 1)), ?_⟩; conv => whnf) | (refine inS 66 ?_; refine ⟨_, s_Index h, ?_⟩; conv => whnf) | (refine inS 66 ?_; refine ⟨_, s_Index t, ?_⟩; conv => whnf) | (refine inD 183 ?_; refine ⟨_, s_cLog ((loadM s.1 (atI (idxI h) 1)), s.2) k 3 q 0 0 hf.log, ?_⟩; conv => whnf) | (refine inD 173 ?_; refine ⟨_, s_cSet (logS ((loadM s.1 (atI (idxI h) 1)), s.2) k 3 q 0 0) k (10, 9, (q, v, h, t, (loadI s.1 (atI (idxI h) 1)), 0, 3, y, ()), l, ()) (logS_cor hf.cores) (logS_frm hf.frames), ?_⟩; conv => whnf) | (refine inI 130 ?_; refine ⟨_, _, 500, Tryz.func130, ⟨by kernel_rfl, rfl⟩, ?_⟩; conv => whnf) | (refine inI 179 ?_; refine ⟨_, _, 900, Tryz.func179, ⟨by kernel_rfl, rfl⟩, ?_⟩; conv => whnf) | (refine inI 177 ?_; refine ⟨_, _, 700, Tryz.func177, ⟨by kernel_rfl, rfl⟩, ?_⟩; conv => whnf) | (refine ⟨by decide, ?_⟩; conv => whnf) | (refine dcase (fun h => absurd hE (Int.ne_of_gt h)) (fun _ => ?_); conv => whnf) | (refine And.intro ?_ ?_ <;> conv => whnf) | (refine ⟨pw_msq_work_next_1, [502], by decide +kernel, ?_⟩; apply Exists.intro; refine ⟨?_, ?_⟩; conv => whnf) | (refine ⟨pw_msq_work_next_3, [65], by decide +kernel, ?_⟩; apply Exists.intro; refine ⟨?_, ?_⟩; conv => whnf) | (refine ⟨pw_msq_work_next_4, [502, 65], by decide +kernel, ?_⟩; apply Exists.intro; refine ⟨?_, ?_⟩; conv => whnf) | (refine ⟨pw_msq_work_next_5, [502], by decide +kernel, ?_⟩; apply Exists.intro; refine ⟨?_, ?_⟩; conv => whnf) | (refine ⟨pw_msq_work_on_2, [65], by decide +kernel, ?_⟩; apply Exists.intro; refine ⟨?_, ?_⟩; conv => whnf) | exact .inl rfl | exact .inr rfl | exact rfl)
set_option maxHeartbeats 4000000 in
theorem s_mTake_3b (s : Sy) (k q v h t w x e y : Int) (l : Li) (ht : topI s k = some (10, 3, (q, v, h, t, w, x, e, y, ()), l, ())) (h0 : 0 ≤ q) (h1 : q ≤ 7) (hf : Fine s) (hE : ¬ idxI (loadI s.1 (atI (idxI h) 1)) = 0) (hT : idxI h = idxI t) : Spec Tryz.prog 27 [vS s, vI k] (vS (takeS s k 3 q v h t w x e y l)) := by
  have hq := s_isQueue q
  rw [decide_eq_true h0, decide_eq_true (Int.lt_of_le_of_lt h1 (by decide))] at hq
  rw [show takeS s k 3 q v h t w x e y l = (if idxI (loadI s.1 (atI (idxI h) 1)) = 0 then logS (setS ((loadM s.1 (atI (idxI h) 1)), s.2) k (10, 9, (q, v, h, t, (loadI s.1 (atI (idxI h) 1)), 0, 3, y, ()), l, ())) k 3 q 0 0 else if idxI h = idxI t then setS ((loadM s.1 (atI (idxI h) 1)), s.2) k (10, 4, (q, v, h, t, (loadI s.1 (atI (idxI h) 1)), x, e, y, ()), l, ()) else setS ((loadM s.1 (atI (idxI h) 1)), s.2) k (10, 5, (q, v, h, t, (loadI s.1 (atI (idxI h) 1)), x, e, y, ()), l, ())) from rfl, if_neg hE, if_pos hT]
  have hpos : 0 < idxI (loadI s.1 (atI (idxI h) 1)) := by
    have : 0 ≤ idxI (loadI s.1 (atI (idxI h) 1)) := by unfold idxI; omega
    omega
  refine spec_introF true tab_ok 5 Tryz.func27 rfl (by kernel_rfl) rfl ?_
  conv => whnf
  first | refine .inr (.inl ⟨_, s_topOf ht hf, ?_⟩) | refine .inl (.inr (.inl ⟨_, s_topOf ht hf, ?_⟩))
  conv => whnf
  repeat (refine ⟨by first | omega | (simp only [Option.getD_none, Option.getD_some]; omega) | (simp; done) | (simp; omega), ?_⟩; conv => whnf)
  refine .inr ⟨_, _, 300, Tryz.func74, ⟨by kernel_rfl, rfl⟩, ?_⟩
  conv => whnf
  repeat (refine ⟨by first | omega | (simp only [Option.getD_none, Option.getD_some]; omega) | (simp; done) | (simp; omega), ?_⟩; conv => whnf)
  refine .inr ⟨_, _, 400, Tryz.func75, ⟨by kernel_rfl, rfl⟩, ?_⟩
  conv => whnf
  repeat (refine ⟨by first | omega | (simp only [Option.getD_none, Option.getD_some]; omega) | (simp; done) | (simp; omega), ?_⟩; conv => whnf)
  refine .inl (.inl ⟨_, hq, ?_⟩)
  conv => whnf
  repeat (refine ⟨by first | omega | (simp only [Option.getD_none, Option.getD_some]; omega) | (simp; done) | (simp; omega), ?_⟩; conv => whnf)
  refine ⟨pw_msq_Step_10, gw_msq_Step_10, by kernel_rfl, ?_⟩
  apply Exists.intro
  refine ⟨?_, ?_⟩
  conv => whnf
  repeat (refine ⟨(by show (0 : Int) ≤ 3 ∧ (3 : Int) < 11; decide), ?_⟩; conv => whnf)
  repeat' (first | (refine inS 180 ?_; refine ⟨_, s_mCell h 1, ?_⟩; conv => whnf) | (refine inD 56 ?_; refine ⟨_, s_mLoad s.1 (atI (idxI h) 1) hf.fits, ?_⟩; conv => whnf) | (refine inS 66 ?_; refine ⟨_, s_Index (loadI s.1 (atI (idxI h) 1)), ?_⟩; conv => whnf) | (refine inS 66 ?_; refine ⟨_, s_Index h, ?_⟩; conv => whnf) | (refine inS 66 ?_; refine ⟨_, s_Index t, ?_⟩; conv => whnf) | (refine inD 173 ?_; refine ⟨_, s_cSet ((loadM s.1 (atI (idxI h) 1)), s.2) k (10, 4, (q, v, h, t, (loadI s.1 (atI (idxI h) 1)), x, e, y, ()), l, ()) hf.cores hf.frames, ?_⟩; conv => whnf) | (refine inI 130 ?_; refine ⟨_, _, 500, Tryz.func130, ⟨by kernel_rfl, rfl⟩, ?_⟩; conv => whnf) | (refine inI 179 ?_; refine ⟨_, _, 900, Tryz.func179, ⟨by kernel_rfl, rfl⟩, ?_⟩; conv => whnf) | (refine inI 181 ?_; refine ⟨_, _, 1100, Tryz.func181, ⟨by kernel_rfl, rfl⟩, ?_⟩; conv => whnf) | (refine inI 177 ?_; refine ⟨_, _, 700, Tryz.func177, ⟨by kernel_rfl, rfl⟩, ?_⟩; conv => whnf) | (refine ⟨by decide, ?_⟩; conv => whnf) | (refine dcase (fun _ => ?_) (fun h => absurd hpos h); conv => whnf) | (refine dcase (fun _ => ?_) (fun h => absurd hT h); conv => whnf) | (refine And.intro ?_ ?_ <;> conv => whnf) | (refine ⟨pw_msq_work_next_1, [502], by decide +kernel, ?_⟩; apply Exists.intro; refine ⟨?_, ?_⟩; conv => whnf) | (refine ⟨pw_msq_work_next_3, [65], by decide +kernel, ?_⟩; apply Exists.intro; refine ⟨?_, ?_⟩; conv => whnf) | (refine ⟨pw_msq_work_next_4, [502, 65], by decide +kernel, ?_⟩; apply Exists.intro; refine ⟨?_, ?_⟩; conv => whnf) | (refine ⟨pw_msq_work_next_5, [502], by decide +kernel, ?_⟩; apply Exists.intro; refine ⟨?_, ?_⟩; conv => whnf) | (refine ⟨pw_msq_work_on_2, [65], by decide +kernel, ?_⟩; apply Exists.intro; refine ⟨?_, ?_⟩; conv => whnf) | exact .inl rfl | exact .inr rfl | exact rfl)
set_option maxHeartbeats 4000000 in
theorem s_mTake_3c (s : Sy) (k q v h t w x e y : Int) (l : Li) (ht : topI s k = some (10, 3, (q, v, h, t, w, x, e, y, ()), l, ())) (h0 : 0 ≤ q) (h1 : q ≤ 7) (hf : Fine s) (hE : ¬ idxI (loadI s.1 (atI (idxI h) 1)) = 0) (hT : ¬ idxI h = idxI t) : Spec Tryz.prog 27 [vS s, vI k] (vS (takeS s k 3 q v h t w x e y l)) := by
  have hq := s_isQueue q
  rw [decide_eq_true h0, decide_eq_true (Int.lt_of_le_of_lt h1 (by decide))] at hq
  rw [show takeS s k 3 q v h t w x e y l = (if idxI (loadI s.1 (atI (idxI h) 1)) = 0 then logS (setS ((loadM s.1 (atI (idxI h) 1)), s.2) k (10, 9, (q, v, h, t, (loadI s.1 (atI (idxI h) 1)), 0, 3, y, ()), l, ())) k 3 q 0 0 else if idxI h = idxI t then setS ((loadM s.1 (atI (idxI h) 1)), s.2) k (10, 4, (q, v, h, t, (loadI s.1 (atI (idxI h) 1)), x, e, y, ()), l, ()) else setS ((loadM s.1 (atI (idxI h) 1)), s.2) k (10, 5, (q, v, h, t, (loadI s.1 (atI (idxI h) 1)), x, e, y, ()), l, ())) from rfl, if_neg hE, if_neg hT]
  have hpos : 0 < idxI (loadI s.1 (atI (idxI h) 1)) := by
    have : 0 ≤ idxI (loadI s.1 (atI (idxI h) 1)) := by unfold idxI; omega
    omega
  refine spec_introF true tab_ok 5 Tryz.func27 rfl (by kernel_rfl) rfl ?_
  conv => whnf
  first | refine .inr (.inl ⟨_, s_topOf ht hf, ?_⟩) | refine .inl (.inr (.inl ⟨_, s_topOf ht hf, ?_⟩))
  conv => whnf
  repeat (refine ⟨by first | omega | (simp only [Option.getD_none, Option.getD_some]; omega) | (simp; done) | (simp; omega), ?_⟩; conv => whnf)
  refine .inr ⟨_, _, 300, Tryz.func74, ⟨by kernel_rfl, rfl⟩, ?_⟩
  conv => whnf
  repeat (refine ⟨by first | omega | (simp only [Option.getD_none, Option.getD_some]; omega) | (simp; done) | (simp; omega), ?_⟩; conv => whnf)
  refine .inr ⟨_, _, 400, Tryz.func75, ⟨by kernel_rfl, rfl⟩, ?_⟩
  conv => whnf
  repeat (refine ⟨by first | omega | (simp only [Option.getD_none, Option.getD_some]; omega) | (simp; done) | (simp; omega), ?_⟩; conv => whnf)
  refine .inl (.inl ⟨_, hq, ?_⟩)
  conv => whnf
  repeat (refine ⟨by first | omega | (simp only [Option.getD_none, Option.getD_some]; omega) | (simp; done) | (simp; omega), ?_⟩; conv => whnf)
  refine ⟨pw_msq_Step_10, gw_msq_Step_10, by kernel_rfl, ?_⟩
  apply Exists.intro
  refine ⟨?_, ?_⟩
  conv => whnf
  repeat (refine ⟨(by show (0 : Int) ≤ 3 ∧ (3 : Int) < 11; decide), ?_⟩; conv => whnf)
  repeat' (first | (refine inS 180 ?_; refine ⟨_, s_mCell h 1, ?_⟩; conv => whnf) | (refine inD 56 ?_; refine ⟨_, s_mLoad s.1 (atI (idxI h) 1) hf.fits, ?_⟩; conv => whnf) | (refine inS 66 ?_; refine ⟨_, s_Index (loadI s.1 (atI (idxI h) 1)), ?_⟩; conv => whnf) | (refine inS 66 ?_; refine ⟨_, s_Index h, ?_⟩; conv => whnf) | (refine inS 66 ?_; refine ⟨_, s_Index t, ?_⟩; conv => whnf) | (refine inD 173 ?_; refine ⟨_, s_cSet ((loadM s.1 (atI (idxI h) 1)), s.2) k (10, 5, (q, v, h, t, (loadI s.1 (atI (idxI h) 1)), x, e, y, ()), l, ()) hf.cores hf.frames, ?_⟩; conv => whnf) | (refine inI 130 ?_; refine ⟨_, _, 500, Tryz.func130, ⟨by kernel_rfl, rfl⟩, ?_⟩; conv => whnf) | (refine inI 179 ?_; refine ⟨_, _, 900, Tryz.func179, ⟨by kernel_rfl, rfl⟩, ?_⟩; conv => whnf) | (refine inI 181 ?_; refine ⟨_, _, 1100, Tryz.func181, ⟨by kernel_rfl, rfl⟩, ?_⟩; conv => whnf) | (refine inI 177 ?_; refine ⟨_, _, 700, Tryz.func177, ⟨by kernel_rfl, rfl⟩, ?_⟩; conv => whnf) | (refine ⟨by decide, ?_⟩; conv => whnf) | (refine dcase (fun _ => ?_) (fun h => absurd hpos h); conv => whnf) | (refine dcase (fun h => absurd h hT) (fun _ => ?_); conv => whnf) | (refine And.intro ?_ ?_ <;> conv => whnf) | (refine ⟨pw_msq_work_next_1, [502], by decide +kernel, ?_⟩; apply Exists.intro; refine ⟨?_, ?_⟩; conv => whnf) | (refine ⟨pw_msq_work_next_3, [65], by decide +kernel, ?_⟩; apply Exists.intro; refine ⟨?_, ?_⟩; conv => whnf) | (refine ⟨pw_msq_work_next_4, [502, 65], by decide +kernel, ?_⟩; apply Exists.intro; refine ⟨?_, ?_⟩; conv => whnf) | (refine ⟨pw_msq_work_next_5, [502], by decide +kernel, ?_⟩; apply Exists.intro; refine ⟨?_, ?_⟩; conv => whnf) | (refine ⟨pw_msq_work_on_2, [65], by decide +kernel, ?_⟩; apply Exists.intro; refine ⟨?_, ?_⟩; conv => whnf) | exact .inl rfl | exact .inr rfl | exact rfl)
set_option maxHeartbeats 4000000 in
theorem s_mTake_4 (s : Sy) (k q v h t w x e y : Int) (l : Li) (ht : topI s k = some (10, 4, (q, v, h, t, w, x, e, y, ()), l, ())) (h0 : 0 ≤ q) (h1 : q ≤ 7) (hf : Fine s) : Spec Tryz.prog 27 [vS s, vI k] (vS (takeS s k 4 q v h t w x e y l)) := by
  have hq := s_isQueue q
  rw [decide_eq_true h0, decide_eq_true (Int.lt_of_le_of_lt h1 (by decide))] at hq
  rw [show takeS s k 4 q v h t w x e y l = setS ((casM s.1 (33 + 2 * q) t (nextI t (idxI w) 0)), s.2) k (10, 0, (q, v, h, t, w, x, e, y, ()), l, ()) from rfl]
  refine spec_introF true tab_ok 5 Tryz.func27 rfl (by kernel_rfl) rfl ?_
  conv => whnf
  first | refine .inr (.inl ⟨_, s_topOf ht hf, ?_⟩) | refine .inl (.inr (.inl ⟨_, s_topOf ht hf, ?_⟩))
  conv => whnf
  repeat (refine ⟨by first | omega | (simp only [Option.getD_none, Option.getD_some]; omega) | (simp; done) | (simp; omega), ?_⟩; conv => whnf)
  refine .inr ⟨_, _, 300, Tryz.func74, ⟨by kernel_rfl, rfl⟩, ?_⟩
  conv => whnf
  repeat (refine ⟨by first | omega | (simp only [Option.getD_none, Option.getD_some]; omega) | (simp; done) | (simp; omega), ?_⟩; conv => whnf)
  refine .inr ⟨_, _, 400, Tryz.func75, ⟨by kernel_rfl, rfl⟩, ?_⟩
  conv => whnf
  repeat (refine ⟨by first | omega | (simp only [Option.getD_none, Option.getD_some]; omega) | (simp; done) | (simp; omega), ?_⟩; conv => whnf)
  refine .inl (.inl ⟨_, hq, ?_⟩)
  conv => whnf
  repeat (refine ⟨by first | omega | (simp only [Option.getD_none, Option.getD_some]; omega) | (simp; done) | (simp; omega), ?_⟩; conv => whnf)
  refine ⟨pw_msq_Step_10, gw_msq_Step_10, by kernel_rfl, ?_⟩
  apply Exists.intro
  refine ⟨?_, ?_⟩
  conv => whnf
  repeat (refine ⟨(by show (0 : Int) ≤ 4 ∧ (4 : Int) < 11; decide), ?_⟩; conv => whnf)
  repeat' (first | (refine inS 21 ?_; refine ⟨_, s_mSpot8 q h0 h1, ?_⟩; conv => whnf) | (refine inS 66 ?_; refine ⟨_, s_Index w, ?_⟩; conv => whnf) | (refine inS 59 ?_; refine ⟨_, s_Next t (idxI w) 0, ?_⟩; conv => whnf) | (refine inD 191 ?_; refine ⟨_, s_mCas s.1 (33 + 2 * q) t (nextI t (idxI w) 0) hf.fits, ?_⟩; conv => whnf) | (refine inD 173 ?_; refine ⟨_, s_cSet ((casM s.1 (33 + 2 * q) t (nextI t (idxI w) 0)), s.2) k (10, 0, (q, v, h, t, w, x, e, y, ()), l, ()) hf.cores hf.frames, ?_⟩; conv => whnf) | (refine inI 131 ?_; refine ⟨_, _, 500, Tryz.func131, ⟨by kernel_rfl, rfl⟩, ?_⟩; conv => whnf) | (refine inI 182 ?_; refine ⟨_, _, 1000, Tryz.func182, ⟨by kernel_rfl, rfl⟩, ?_⟩; conv => whnf) | (refine inI 177 ?_; refine ⟨_, _, 700, Tryz.func177, ⟨by kernel_rfl, rfl⟩, ?_⟩; conv => whnf) | (refine ⟨by decide, ?_⟩; conv => whnf) | (intro z hz; (replace hz : z = 33 + 2 * q := by rw [IntWalk.wrap64_in _ (by omega)] at hz; omega); subst hz; conv => whnf) | (refine And.intro ?_ ?_ <;> conv => whnf) | (refine ⟨pw_msq_work_lags_1, [502, 65], by decide +kernel, ?_⟩; apply Exists.intro; refine ⟨?_, ?_⟩; conv => whnf) | (refine ⟨pw_msq_work_cas_1, [65], by decide +kernel, ?_⟩; apply Exists.intro; refine ⟨?_, ?_⟩; conv => whnf) | (refine ⟨pw_msq_work_on_2, [65], by decide +kernel, ?_⟩; apply Exists.intro; refine ⟨?_, ?_⟩; conv => whnf) | exact .inl rfl | exact .inr rfl | exact rfl)
set_option maxHeartbeats 4000000 in
theorem s_mTake_5 (s : Sy) (k q v h t w x e y : Int) (l : Li) (ht : topI s k = some (10, 5, (q, v, h, t, w, x, e, y, ()), l, ())) (h0 : 0 ≤ q) (h1 : q ≤ 7) (hf : Fine s) : Spec Tryz.prog 27 [vS s, vI k] (vS (takeS s k 5 q v h t w x e y l)) := by
  have hq := s_isQueue q
  rw [decide_eq_true h0, decide_eq_true (Int.lt_of_le_of_lt h1 (by decide))] at hq
  rw [show takeS s k 5 q v h t w x e y l = setS ((storeM s.1 (placeI k 1) (idxI w)), s.2) k (10, 6, (q, v, h, t, w, x, e, y, ()), l, ()) from rfl]
  refine spec_introF true tab_ok 5 Tryz.func27 rfl (by kernel_rfl) rfl ?_
  conv => whnf
  first | refine .inr (.inl ⟨_, s_topOf ht hf, ?_⟩) | refine .inl (.inr (.inl ⟨_, s_topOf ht hf, ?_⟩))
  conv => whnf
  repeat (refine ⟨by first | omega | (simp only [Option.getD_none, Option.getD_some]; omega) | (simp; done) | (simp; omega), ?_⟩; conv => whnf)
  refine .inr ⟨_, _, 300, Tryz.func74, ⟨by kernel_rfl, rfl⟩, ?_⟩
  conv => whnf
  repeat (refine ⟨by first | omega | (simp only [Option.getD_none, Option.getD_some]; omega) | (simp; done) | (simp; omega), ?_⟩; conv => whnf)
  refine .inr ⟨_, _, 400, Tryz.func75, ⟨by kernel_rfl, rfl⟩, ?_⟩
  conv => whnf
  repeat (refine ⟨by first | omega | (simp only [Option.getD_none, Option.getD_some]; omega) | (simp; done) | (simp; omega), ?_⟩; conv => whnf)
  refine .inl (.inl ⟨_, hq, ?_⟩)
  conv => whnf
  repeat (refine ⟨by first | omega | (simp only [Option.getD_none, Option.getD_some]; omega) | (simp; done) | (simp; omega), ?_⟩; conv => whnf)
  refine ⟨pw_msq_Step_10, gw_msq_Step_10, by kernel_rfl, ?_⟩
  apply Exists.intro
  refine ⟨?_, ?_⟩
  conv => whnf
  repeat (refine ⟨(by show (0 : Int) ≤ 5 ∧ (5 : Int) < 11; decide), ?_⟩; conv => whnf)
  repeat' (first | (refine inS 184 ?_; refine ⟨_, s_hPlace k 1, ?_⟩; conv => whnf) | (refine inS 66 ?_; refine ⟨_, s_Index w, ?_⟩; conv => whnf) | (refine inD 58 ?_; refine ⟨_, s_mStore s.1 (placeI k 1) (idxI w) hf.fits, ?_⟩; conv => whnf) | (refine inD 173 ?_; refine ⟨_, s_cSet ((storeM s.1 (placeI k 1) (idxI w)), s.2) k (10, 6, (q, v, h, t, w, x, e, y, ()), l, ()) hf.cores hf.frames, ?_⟩; conv => whnf) | (refine inI 132 ?_; refine ⟨_, _, 500, Tryz.func132, ⟨by kernel_rfl, rfl⟩, ?_⟩; conv => whnf) | (refine inI 178 ?_; refine ⟨_, _, 800, Tryz.func178, ⟨by kernel_rfl, rfl⟩, ?_⟩; conv => whnf) | (refine inI 177 ?_; refine ⟨_, _, 700, Tryz.func177, ⟨by kernel_rfl, rfl⟩, ?_⟩; conv => whnf) | (refine ⟨by decide, ?_⟩; conv => whnf) | (refine And.intro ?_ ?_ <;> conv => whnf) | (refine ⟨pw_msq_work_name_1, [502, 65], by decide +kernel, ?_⟩; apply Exists.intro; refine ⟨?_, ?_⟩; conv => whnf) | (refine ⟨pw_msq_work_on_2, [65], by decide +kernel, ?_⟩; apply Exists.intro; refine ⟨?_, ?_⟩; conv => whnf) | exact .inl rfl | exact .inr rfl | exact rfl)
set_option maxHeartbeats 4000000 in
theorem s_mTake_6a (s : Sy) (k q v h t w x e y : Int) (l : Li) (ht : topI s k = some (10, 6, (q, v, h, t, w, x, e, y, ()), l, ())) (h0 : 0 ≤ q) (h1 : q ≤ 7) (hf : Fine s) (hE : (loadI s.1 (32 + 2 * q)) ≠ h) : Spec Tryz.prog 27 [vS s, vI k] (vS (takeS s k 6 q v h t w x e y l)) := by
  have hq := s_isQueue q
  rw [decide_eq_true h0, decide_eq_true (Int.lt_of_le_of_lt h1 (by decide))] at hq
  rw [show takeS s k 6 q v h t w x e y l = (if (loadI s.1 (32 + 2 * q)) ≠ h then setS ((loadM s.1 (32 + 2 * q)), s.2) k (10, 0, (q, v, h, t, w, x, e, y, ()), l, ()) else setS ((loadM s.1 (32 + 2 * q)), s.2) k (10, 7, (q, v, h, t, w, x, e, y, ()), l, ())) from rfl, if_pos hE]
  refine spec_introF true tab_ok 5 Tryz.func27 rfl (by kernel_rfl) rfl ?_
  conv => whnf
  first | refine .inr (.inl ⟨_, s_topOf ht hf, ?_⟩) | refine .inl (.inr (.inl ⟨_, s_topOf ht hf, ?_⟩))
  conv => whnf
  repeat (refine ⟨by first | omega | (simp only [Option.getD_none, Option.getD_some]; omega) | (simp; done) | (simp; omega), ?_⟩; conv => whnf)
  refine .inr ⟨_, _, 300, Tryz.func74, ⟨by kernel_rfl, rfl⟩, ?_⟩
  conv => whnf
  repeat (refine ⟨by first | omega | (simp only [Option.getD_none, Option.getD_some]; omega) | (simp; done) | (simp; omega), ?_⟩; conv => whnf)
  refine .inr ⟨_, _, 400, Tryz.func75, ⟨by kernel_rfl, rfl⟩, ?_⟩
  conv => whnf
  repeat (refine ⟨by first | omega | (simp only [Option.getD_none, Option.getD_some]; omega) | (simp; done) | (simp; omega), ?_⟩; conv => whnf)
  refine .inl (.inl ⟨_, hq, ?_⟩)
  conv => whnf
  repeat (refine ⟨by first | omega | (simp only [Option.getD_none, Option.getD_some]; omega) | (simp; done) | (simp; omega), ?_⟩; conv => whnf)
  refine ⟨pw_msq_Step_10, gw_msq_Step_10, by kernel_rfl, ?_⟩
  apply Exists.intro
  refine ⟨?_, ?_⟩
  conv => whnf
  repeat (refine ⟨(by show (0 : Int) ≤ 6 ∧ (6 : Int) < 11; decide), ?_⟩; conv => whnf)
  repeat' (first | (refine inS 21 ?_; refine ⟨_, s_mSpot8 q h0 h1, ?_⟩; conv => whnf) | (refine inD 56 ?_; refine ⟨_, s_mLoad s.1 (32 + 2 * q) hf.fits, ?_⟩; conv => whnf) | (refine inD 173 ?_; refine ⟨_, s_cSet ((loadM s.1 (32 + 2 * q)), s.2) k (10, 0, (q, v, h, t, w, x, e, y, ()), l, ()) hf.cores hf.frames, ?_⟩; conv => whnf) | (refine inI 133 ?_; refine ⟨_, _, 500, Tryz.func133, ⟨by kernel_rfl, rfl⟩, ?_⟩; conv => whnf) | (refine inI 179 ?_; refine ⟨_, _, 900, Tryz.func179, ⟨by kernel_rfl, rfl⟩, ?_⟩; conv => whnf) | (refine inI 181 ?_; refine ⟨_, _, 1100, Tryz.func181, ⟨by kernel_rfl, rfl⟩, ?_⟩; conv => whnf) | (refine inI 177 ?_; refine ⟨_, _, 700, Tryz.func177, ⟨by kernel_rfl, rfl⟩, ?_⟩; conv => whnf) | (refine ⟨by decide, ?_⟩; conv => whnf) | (refine dcase (fun h => absurd h hE) (fun _ => ?_); conv => whnf) | (refine And.intro ?_ ?_ <;> conv => whnf) | (refine ⟨pw_msq_work_still_1, [], by decide +kernel, ?_⟩; apply Exists.intro; refine ⟨?_, ?_⟩; conv => whnf) | (refine ⟨pw_msq_work_on_2, [65], by decide +kernel, ?_⟩; apply Exists.intro; refine ⟨?_, ?_⟩; conv => whnf) | exact .inl rfl | exact .inr rfl | exact rfl)
set_option maxHeartbeats 4000000 in
theorem s_mTake_6b (s : Sy) (k q v h t w x e y : Int) (l : Li) (ht : topI s k = some (10, 6, (q, v, h, t, w, x, e, y, ()), l, ())) (h0 : 0 ≤ q) (h1 : q ≤ 7) (hf : Fine s) (hE : (loadI s.1 (32 + 2 * q)) = h) : Spec Tryz.prog 27 [vS s, vI k] (vS (takeS s k 6 q v h t w x e y l)) := by
  have hq := s_isQueue q
  rw [decide_eq_true h0, decide_eq_true (Int.lt_of_le_of_lt h1 (by decide))] at hq
  rw [show takeS s k 6 q v h t w x e y l = (if (loadI s.1 (32 + 2 * q)) ≠ h then setS ((loadM s.1 (32 + 2 * q)), s.2) k (10, 0, (q, v, h, t, w, x, e, y, ()), l, ()) else setS ((loadM s.1 (32 + 2 * q)), s.2) k (10, 7, (q, v, h, t, w, x, e, y, ()), l, ())) from rfl, if_neg (fun h => h hE)]
  refine spec_introF true tab_ok 5 Tryz.func27 rfl (by kernel_rfl) rfl ?_
  conv => whnf
  first | refine .inr (.inl ⟨_, s_topOf ht hf, ?_⟩) | refine .inl (.inr (.inl ⟨_, s_topOf ht hf, ?_⟩))
  conv => whnf
  repeat (refine ⟨by first | omega | (simp only [Option.getD_none, Option.getD_some]; omega) | (simp; done) | (simp; omega), ?_⟩; conv => whnf)
  refine .inr ⟨_, _, 300, Tryz.func74, ⟨by kernel_rfl, rfl⟩, ?_⟩
  conv => whnf
  repeat (refine ⟨by first | omega | (simp only [Option.getD_none, Option.getD_some]; omega) | (simp; done) | (simp; omega), ?_⟩; conv => whnf)
  refine .inr ⟨_, _, 400, Tryz.func75, ⟨by kernel_rfl, rfl⟩, ?_⟩
  conv => whnf
  repeat (refine ⟨by first | omega | (simp only [Option.getD_none, Option.getD_some]; omega) | (simp; done) | (simp; omega), ?_⟩; conv => whnf)
  refine .inl (.inl ⟨_, hq, ?_⟩)
  conv => whnf
  repeat (refine ⟨by first | omega | (simp only [Option.getD_none, Option.getD_some]; omega) | (simp; done) | (simp; omega), ?_⟩; conv => whnf)
  refine ⟨pw_msq_Step_10, gw_msq_Step_10, by kernel_rfl, ?_⟩
  apply Exists.intro
  refine ⟨?_, ?_⟩
  conv => whnf
  repeat (refine ⟨(by show (0 : Int) ≤ 6 ∧ (6 : Int) < 11; decide), ?_⟩; conv => whnf)
  repeat' (first | (refine inS 21 ?_; refine ⟨_, s_mSpot8 q h0 h1, ?_⟩; conv => whnf) | (refine inD 56 ?_; refine ⟨_, s_mLoad s.1 (32 + 2 * q) hf.fits, ?_⟩; conv => whnf) | (refine inD 173 ?_; refine ⟨_, s_cSet ((loadM s.1 (32 + 2 * q)), s.2) k (10, 7, (q, v, h, t, w, x, e, y, ()), l, ()) hf.cores hf.frames, ?_⟩; conv => whnf) | (refine inI 133 ?_; refine ⟨_, _, 500, Tryz.func133, ⟨by kernel_rfl, rfl⟩, ?_⟩; conv => whnf) | (refine inI 179 ?_; refine ⟨_, _, 900, Tryz.func179, ⟨by kernel_rfl, rfl⟩, ?_⟩; conv => whnf) | (refine inI 181 ?_; refine ⟨_, _, 1100, Tryz.func181, ⟨by kernel_rfl, rfl⟩, ?_⟩; conv => whnf) | (refine inI 177 ?_; refine ⟨_, _, 700, Tryz.func177, ⟨by kernel_rfl, rfl⟩, ?_⟩; conv => whnf) | (refine ⟨by decide, ?_⟩; conv => whnf) | (refine dcase (fun _ => ?_) (fun h => absurd hE h); conv => whnf) | (refine And.intro ?_ ?_ <;> conv => whnf) | (refine ⟨pw_msq_work_still_1, [], by decide +kernel, ?_⟩; apply Exists.intro; refine ⟨?_, ?_⟩; conv => whnf) | (refine ⟨pw_msq_work_on_2, [65], by decide +kernel, ?_⟩; apply Exists.intro; refine ⟨?_, ?_⟩; conv => whnf) | exact .inl rfl | exact .inr rfl | exact rfl)
set_option maxHeartbeats 4000000 in
theorem s_mTake_7 (s : Sy) (k q v h t w x e y : Int) (l : Li) (ht : topI s k = some (10, 7, (q, v, h, t, w, x, e, y, ()), l, ())) (h0 : 0 ≤ q) (h1 : q ≤ 7) (hf : Fine s) : Spec Tryz.prog 27 [vS s, vI k] (vS (takeS s k 7 q v h t w x e y l)) := by
  have hq := s_isQueue q
  rw [decide_eq_true h0, decide_eq_true (Int.lt_of_le_of_lt h1 (by decide))] at hq
  rw [show takeS s k 7 q v h t w x e y l = setS ((loadM s.1 (atI (idxI w) 3)), s.2) k (10, 8, (q, v, h, t, w, (loadI s.1 (atI (idxI w) 3)), e, y, ()), l, ()) from rfl]
  refine spec_introF true tab_ok 5 Tryz.func27 rfl (by kernel_rfl) rfl ?_
  conv => whnf
  first | refine .inr (.inl ⟨_, s_topOf ht hf, ?_⟩) | refine .inl (.inr (.inl ⟨_, s_topOf ht hf, ?_⟩))
  conv => whnf
  repeat (refine ⟨by first | omega | (simp only [Option.getD_none, Option.getD_some]; omega) | (simp; done) | (simp; omega), ?_⟩; conv => whnf)
  refine .inr ⟨_, _, 300, Tryz.func74, ⟨by kernel_rfl, rfl⟩, ?_⟩
  conv => whnf
  repeat (refine ⟨by first | omega | (simp only [Option.getD_none, Option.getD_some]; omega) | (simp; done) | (simp; omega), ?_⟩; conv => whnf)
  refine .inr ⟨_, _, 400, Tryz.func75, ⟨by kernel_rfl, rfl⟩, ?_⟩
  conv => whnf
  repeat (refine ⟨by first | omega | (simp only [Option.getD_none, Option.getD_some]; omega) | (simp; done) | (simp; omega), ?_⟩; conv => whnf)
  refine .inl (.inl ⟨_, hq, ?_⟩)
  conv => whnf
  repeat (refine ⟨by first | omega | (simp only [Option.getD_none, Option.getD_some]; omega) | (simp; done) | (simp; omega), ?_⟩; conv => whnf)
  refine ⟨pw_msq_Step_10, gw_msq_Step_10, by kernel_rfl, ?_⟩
  apply Exists.intro
  refine ⟨?_, ?_⟩
  conv => whnf
  repeat (refine ⟨(by show (0 : Int) ≤ 7 ∧ (7 : Int) < 11; decide), ?_⟩; conv => whnf)
  repeat' (first | (refine inS 180 ?_; refine ⟨_, s_mCell w 3, ?_⟩; conv => whnf) | (refine inD 56 ?_; refine ⟨_, s_mLoad s.1 (atI (idxI w) 3) hf.fits, ?_⟩; conv => whnf) | (refine inD 173 ?_; refine ⟨_, s_cSet ((loadM s.1 (atI (idxI w) 3)), s.2) k (10, 8, (q, v, h, t, w, (loadI s.1 (atI (idxI w) 3)), e, y, ()), l, ()) hf.cores hf.frames, ?_⟩; conv => whnf) | (refine inI 134 ?_; refine ⟨_, _, 500, Tryz.func134, ⟨by kernel_rfl, rfl⟩, ?_⟩; conv => whnf) | (refine inI 179 ?_; refine ⟨_, _, 900, Tryz.func179, ⟨by kernel_rfl, rfl⟩, ?_⟩; conv => whnf) | (refine inI 177 ?_; refine ⟨_, _, 700, Tryz.func177, ⟨by kernel_rfl, rfl⟩, ?_⟩; conv => whnf) | (refine ⟨by decide, ?_⟩; conv => whnf) | (refine And.intro ?_ ?_ <;> conv => whnf) | (refine ⟨pw_msq_work_told_1, [502], by decide +kernel, ?_⟩; apply Exists.intro; refine ⟨?_, ?_⟩; conv => whnf) | (refine ⟨pw_msq_work_on_2, [65], by decide +kernel, ?_⟩; apply Exists.intro; refine ⟨?_, ?_⟩; conv => whnf) | exact .inl rfl | exact .inr rfl | exact rfl)
set_option maxHeartbeats 4000000 in
theorem s_mTake_8a (s : Sy) (k q v h t w x e y : Int) (l : Li) (ht : topI s k = some (10, 8, (q, v, h, t, w, x, e, y, ()), l, ())) (h0 : 0 ≤ q) (h1 : q ≤ 7) (hf : Fine s) (hE : casB s.1 (32 + 2 * q) h = true) : Spec Tryz.prog 27 [vS s, vI k] (vS (takeS s k 8 q v h t w x e y l)) := by
  have hq := s_isQueue q
  rw [decide_eq_true h0, decide_eq_true (Int.lt_of_le_of_lt h1 (by decide))] at hq
  rw [show takeS s k 8 q v h t w x e y l = (if casB s.1 (32 + 2 * q) h = true then callS (setS (logS ((casM s.1 (32 + 2 * q) h (nextI h (idxI w) 0)), s.2) k 2 q 0 x) k (10, 9, (q, v, h, t, w, x, 0, y, ()), l, ())) k 5 (idxI h) 0 0 else setS ((casM s.1 (32 + 2 * q) h (nextI h (idxI w) 0)), s.2) k (10, 0, (q, v, h, t, w, x, e, y, ()), l, ())) from rfl, if_pos hE, callS_P]
  have hcas := s_mCas s.1 (32 + 2 * q) h (nextI h (idxI w) 0) hf.fits
  rw [hE] at hcas
  refine spec_introF true tab_ok 5 Tryz.func27 rfl (by kernel_rfl) rfl ?_
  conv => whnf
  first | refine .inr (.inl ⟨_, s_topOf ht hf, ?_⟩) | refine .inl (.inr (.inl ⟨_, s_topOf ht hf, ?_⟩))
  conv => whnf
  repeat (refine ⟨by first | omega | (simp only [Option.getD_none, Option.getD_some]; omega) | (simp; done) | (simp; omega), ?_⟩; conv => whnf)
  refine .inr ⟨_, _, 300, Tryz.func74, ⟨by kernel_rfl, rfl⟩, ?_⟩
  conv => whnf
  repeat (refine ⟨by first | omega | (simp only [Option.getD_none, Option.getD_some]; omega) | (simp; done) | (simp; omega), ?_⟩; conv => whnf)
  refine .inr ⟨_, _, 400, Tryz.func75, ⟨by kernel_rfl, rfl⟩, ?_⟩
  conv => whnf
  repeat (refine ⟨by first | omega | (simp only [Option.getD_none, Option.getD_some]; omega) | (simp; done) | (simp; omega), ?_⟩; conv => whnf)
  refine .inl (.inl ⟨_, hq, ?_⟩)
  conv => whnf
  repeat (refine ⟨by first | omega | (simp only [Option.getD_none, Option.getD_some]; omega) | (simp; done) | (simp; omega), ?_⟩; conv => whnf)
  refine ⟨pw_msq_Step_10, gw_msq_Step_10, by kernel_rfl, ?_⟩
  apply Exists.intro
  refine ⟨?_, ?_⟩
  conv => whnf
  repeat (refine ⟨(by show (0 : Int) ≤ 8 ∧ (8 : Int) < 11; decide), ?_⟩; conv => whnf)
  repeat' (first | (refine inS 21 ?_; refine ⟨_, s_mSpot8 q h0 h1, ?_⟩; conv => whnf) | (refine inS 66 ?_; refine ⟨_, s_Index w, ?_⟩; conv => whnf) | (refine inS 66 ?_; refine ⟨_, s_Index h, ?_⟩; conv => whnf) | (refine inS 59 ?_; refine ⟨_, s_Next h (idxI w) 0, ?_⟩; conv => whnf) | (refine inD 191 ?_; refine ⟨_, hcas, ?_⟩; conv => whnf) | (refine inD 183 ?_; refine ⟨_, s_cLog ((casM s.1 (32 + 2 * q) h (nextI h (idxI w) 0)), s.2) k 2 q 0 x hf.log, ?_⟩; conv => whnf) | (refine inD 173 ?_; refine ⟨_, s_cSet (logS ((casM s.1 (32 + 2 * q) h (nextI h (idxI w) 0)), s.2) k 2 q 0 x) k (10, 9, (q, v, h, t, w, x, 0, y, ()), l, ()) (logS_cor hf.cores) (logS_frm hf.frames), ?_⟩; conv => whnf) | (refine inD 172 ?_; refine ⟨_, s_cCall1 (setS (logS ((casM s.1 (32 + 2 * q) h (nextI h (idxI w) 0)), s.2) k 2 q 0 x) k (10, 9, (q, v, h, t, w, x, 0, y, ()), l, ())) k 5 (idxI h) (Nat.le_trans (Nat.le_of_eq setS_n) (logS_cor hf.cores)), ?_⟩; conv => whnf) | (refine inI 135 ?_; refine ⟨_, _, 500, Tryz.func135, ⟨by kernel_rfl, rfl⟩, ?_⟩; conv => whnf) | (refine inI 182 ?_; refine ⟨_, _, 1000, Tryz.func182, ⟨by kernel_rfl, rfl⟩, ?_⟩; conv => whnf) | (refine inI 176 ?_; refine ⟨_, _, 600, Tryz.func176, ⟨by kernel_rfl, rfl⟩, ?_⟩; conv => whnf) | (refine inI 177 ?_; refine ⟨_, _, 700, Tryz.func177, ⟨by kernel_rfl, rfl⟩, ?_⟩; conv => whnf) | (refine ⟨by decide, ?_⟩; conv => whnf) | (refine And.intro ?_ ?_ <;> conv => whnf) | (refine ⟨pw_msq_work_move_1, [502, 65], by decide +kernel, ?_⟩; apply Exists.intro; refine ⟨?_, ?_⟩; conv => whnf) | (refine ⟨pw_msq_work_move_3, [502, 65], by decide +kernel, ?_⟩; apply Exists.intro; refine ⟨?_, ?_⟩; conv => whnf) | (refine ⟨pw_msq_work_cas_1, [65], by decide +kernel, ?_⟩; apply Exists.intro; refine ⟨?_, ?_⟩; conv => whnf) | (refine ⟨pw_msq_work_then_1, [], by decide +kernel, ?_⟩; apply Exists.intro; refine ⟨?_, ?_⟩; conv => whnf) | (refine ⟨pw_msq_work_on_2, [65], by decide +kernel, ?_⟩; apply Exists.intro; refine ⟨?_, ?_⟩; conv => whnf) | exact .inl rfl | exact .inr rfl | exact rfl)
set_option maxHeartbeats 4000000 in
theorem s_mTake_8b (s : Sy) (k q v h t w x e y : Int) (l : Li) (ht : topI s k = some (10, 8, (q, v, h, t, w, x, e, y, ()), l, ())) (h0 : 0 ≤ q) (h1 : q ≤ 7) (hf : Fine s) (hE : casB s.1 (32 + 2 * q) h = false) : Spec Tryz.prog 27 [vS s, vI k] (vS (takeS s k 8 q v h t w x e y l)) := by
  have hq := s_isQueue q
  rw [decide_eq_true h0, decide_eq_true (Int.lt_of_le_of_lt h1 (by decide))] at hq
  rw [show takeS s k 8 q v h t w x e y l = (if casB s.1 (32 + 2 * q) h = true then callS (setS (logS ((casM s.1 (32 + 2 * q) h (nextI h (idxI w) 0)), s.2) k 2 q 0 x) k (10, 9, (q, v, h, t, w, x, 0, y, ()), l, ())) k 5 (idxI h) 0 0 else setS ((casM s.1 (32 + 2 * q) h (nextI h (idxI w) 0)), s.2) k (10, 0, (q, v, h, t, w, x, e, y, ()), l, ())) from rfl, if_neg (by rw [hE]; decide)]
  have hcas := s_mCas s.1 (32 + 2 * q) h (nextI h (idxI w) 0) hf.fits
  rw [hE] at hcas
  refine spec_introF true tab_ok 5 Tryz.func27 rfl (by kernel_rfl) rfl ?_
  conv => whnf
  first | refine .inr (.inl ⟨_, s_topOf ht hf, ?_⟩) | refine .inl (.inr (.inl ⟨_, s_topOf ht hf, ?_⟩))
  conv => whnf
  repeat (refine ⟨by first | omega | (simp only [Option.getD_none, Option.getD_some]; omega) | (simp; done) | (simp; omega), ?_⟩; conv => whnf)
  refine .inr ⟨_, _, 300, Tryz.func74, ⟨by kernel_rfl, rfl⟩, ?_⟩
  conv => whnf
  repeat (refine ⟨by first | omega | (simp only [Option.getD_none, Option.getD_some]; omega) | (simp; done) | (simp; omega), ?_⟩; conv => whnf)
  refine .inr ⟨_, _, 400, Tryz.func75, ⟨by kernel_rfl, rfl⟩, ?_⟩
  conv => whnf
  repeat (refine ⟨by first | omega | (simp only [Option.getD_none, Option.getD_some]; omega) | (simp; done) | (simp; omega), ?_⟩; conv => whnf)
  refine .inl (.inl ⟨_, hq, ?_⟩)
  conv => whnf
  repeat (refine ⟨by first | omega | (simp only [Option.getD_none, Option.getD_some]; omega) | (simp; done) | (simp; omega), ?_⟩; conv => whnf)
  refine ⟨pw_msq_Step_10, gw_msq_Step_10, by kernel_rfl, ?_⟩
  apply Exists.intro
  refine ⟨?_, ?_⟩
  conv => whnf
  repeat (refine ⟨(by show (0 : Int) ≤ 8 ∧ (8 : Int) < 11; decide), ?_⟩; conv => whnf)
  repeat' (first | (refine inS 21 ?_; refine ⟨_, s_mSpot8 q h0 h1, ?_⟩; conv => whnf) | (refine inS 66 ?_; refine ⟨_, s_Index w, ?_⟩; conv => whnf) | (refine inS 59 ?_; refine ⟨_, s_Next h (idxI w) 0, ?_⟩; conv => whnf) | (refine inD 191 ?_; refine ⟨_, hcas, ?_⟩; conv => whnf) | (refine inD 173 ?_; refine ⟨_, s_cSet ((casM s.1 (32 + 2 * q) h (nextI h (idxI w) 0)), s.2) k (10, 0, (q, v, h, t, w, x, e, y, ()), l, ()) hf.cores hf.frames, ?_⟩; conv => whnf) | (refine inI 135 ?_; refine ⟨_, _, 500, Tryz.func135, ⟨by kernel_rfl, rfl⟩, ?_⟩; conv => whnf) | (refine inI 182 ?_; refine ⟨_, _, 1000, Tryz.func182, ⟨by kernel_rfl, rfl⟩, ?_⟩; conv => whnf) | (refine inI 177 ?_; refine ⟨_, _, 700, Tryz.func177, ⟨by kernel_rfl, rfl⟩, ?_⟩; conv => whnf) | (refine ⟨by decide, ?_⟩; conv => whnf) | (refine And.intro ?_ ?_ <;> conv => whnf) | (refine ⟨pw_msq_work_move_1, [502, 65], by decide +kernel, ?_⟩; apply Exists.intro; refine ⟨?_, ?_⟩; conv => whnf) | (refine ⟨pw_msq_work_move_3, [502, 65], by decide +kernel, ?_⟩; apply Exists.intro; refine ⟨?_, ?_⟩; conv => whnf) | (refine ⟨pw_msq_work_cas_1, [65], by decide +kernel, ?_⟩; apply Exists.intro; refine ⟨?_, ?_⟩; conv => whnf) | (refine ⟨pw_msq_work_on_2, [65], by decide +kernel, ?_⟩; apply Exists.intro; refine ⟨?_, ?_⟩; conv => whnf) | exact .inl rfl | exact .inr rfl | exact rfl)
set_option maxHeartbeats 4000000 in
theorem s_mTake_9 (s : Sy) (k q v h t w x e y : Int) (l : Li) (ht : topI s k = some (10, 9, (q, v, h, t, w, x, e, y, ()), l, ())) (h0 : 0 ≤ q) (h1 : q ≤ 7) (hf : Fine s) : Spec Tryz.prog 27 [vS s, vI k] (vS (takeS s k 9 q v h t w x e y l)) := by
  have hq := s_isQueue q
  rw [decide_eq_true h0, decide_eq_true (Int.lt_of_le_of_lt h1 (by decide))] at hq
  rw [show takeS s k 9 q v h t w x e y l = setS ((storeM s.1 (placeI k 0) 0), s.2) k (10, 10, (q, v, h, t, w, x, e, y, ()), l, ()) from rfl]
  refine spec_introF true tab_ok 5 Tryz.func27 rfl (by kernel_rfl) rfl ?_
  conv => whnf
  first | refine .inr (.inl ⟨_, s_topOf ht hf, ?_⟩) | refine .inl (.inr (.inl ⟨_, s_topOf ht hf, ?_⟩))
  conv => whnf
  repeat (refine ⟨by first | omega | (simp only [Option.getD_none, Option.getD_some]; omega) | (simp; done) | (simp; omega), ?_⟩; conv => whnf)
  refine .inr ⟨_, _, 300, Tryz.func74, ⟨by kernel_rfl, rfl⟩, ?_⟩
  conv => whnf
  repeat (refine ⟨by first | omega | (simp only [Option.getD_none, Option.getD_some]; omega) | (simp; done) | (simp; omega), ?_⟩; conv => whnf)
  refine .inr ⟨_, _, 400, Tryz.func75, ⟨by kernel_rfl, rfl⟩, ?_⟩
  conv => whnf
  repeat (refine ⟨by first | omega | (simp only [Option.getD_none, Option.getD_some]; omega) | (simp; done) | (simp; omega), ?_⟩; conv => whnf)
  refine .inl (.inl ⟨_, hq, ?_⟩)
  conv => whnf
  repeat (refine ⟨by first | omega | (simp only [Option.getD_none, Option.getD_some]; omega) | (simp; done) | (simp; omega), ?_⟩; conv => whnf)
  refine ⟨pw_msq_Step_10, gw_msq_Step_10, by kernel_rfl, ?_⟩
  apply Exists.intro
  refine ⟨?_, ?_⟩
  conv => whnf
  repeat (refine ⟨(by show (0 : Int) ≤ 9 ∧ (9 : Int) < 11; decide), ?_⟩; conv => whnf)
  repeat' (first | (refine inS 184 ?_; refine ⟨_, s_hPlace k 0, ?_⟩; conv => whnf) | (refine inD 58 ?_; refine ⟨_, s_mStore s.1 (placeI k 0) 0 hf.fits, ?_⟩; conv => whnf) | (refine inD 173 ?_; refine ⟨_, s_cSet ((storeM s.1 (placeI k 0) 0), s.2) k (10, 10, (q, v, h, t, w, x, e, y, ()), l, ()) hf.cores hf.frames, ?_⟩; conv => whnf) | (refine inI 136 ?_; refine ⟨_, _, 500, Tryz.func136, ⟨by kernel_rfl, rfl⟩, ?_⟩; conv => whnf) | (refine inI 178 ?_; refine ⟨_, _, 800, Tryz.func178, ⟨by kernel_rfl, rfl⟩, ?_⟩; conv => whnf) | (refine inI 177 ?_; refine ⟨_, _, 700, Tryz.func177, ⟨by kernel_rfl, rfl⟩, ?_⟩; conv => whnf) | (refine ⟨by decide, ?_⟩; conv => whnf) | (refine And.intro ?_ ?_ <;> conv => whnf) | (refine ⟨pw_msq_work_on_2, [65], by decide +kernel, ?_⟩; apply Exists.intro; refine ⟨?_, ?_⟩; conv => whnf) | exact .inl rfl | exact .inr rfl | exact rfl)
set_option maxHeartbeats 4000000 in
theorem s_mTake_10 (s : Sy) (k q v h t w x e y : Int) (l : Li) (ht : topI s k = some (10, 10, (q, v, h, t, w, x, e, y, ()), l, ())) (h0 : 0 ≤ q) (h1 : q ≤ 7) (hf : Fine s) : Spec Tryz.prog 27 [vS s, vI k] (vS (takeS s k 10 q v h t w x e y l)) := by
  have hq := s_isQueue q
  rw [decide_eq_true h0, decide_eq_true (Int.lt_of_le_of_lt h1 (by decide))] at hq
  rw [show takeS s k 10 q v h t w x e y l = backS ((storeM s.1 (placeI k 1) 0), s.2) k x e from rfl]
  refine spec_introF true tab_ok 5 Tryz.func27 rfl (by kernel_rfl) rfl ?_
  conv => whnf
  first | refine .inr (.inl ⟨_, s_topOf ht hf, ?_⟩) | refine .inl (.inr (.inl ⟨_, s_topOf ht hf, ?_⟩))
  conv => whnf
  repeat (refine ⟨by first | omega | (simp only [Option.getD_none, Option.getD_some]; omega) | (simp; done) | (simp; omega), ?_⟩; conv => whnf)
  refine .inr ⟨_, _, 300, Tryz.func74, ⟨by kernel_rfl, rfl⟩, ?_⟩
  conv => whnf
  repeat (refine ⟨by first | omega | (simp only [Option.getD_none, Option.getD_some]; omega) | (simp; done) | (simp; omega), ?_⟩; conv => whnf)
  refine .inr ⟨_, _, 400, Tryz.func75, ⟨by kernel_rfl, rfl⟩, ?_⟩
  conv => whnf
  repeat (refine ⟨by first | omega | (simp only [Option.getD_none, Option.getD_some]; omega) | (simp; done) | (simp; omega), ?_⟩; conv => whnf)
  refine .inl (.inl ⟨_, hq, ?_⟩)
  conv => whnf
  repeat (refine ⟨by first | omega | (simp only [Option.getD_none, Option.getD_some]; omega) | (simp; done) | (simp; omega), ?_⟩; conv => whnf)
  refine ⟨pw_msq_Step_10, gw_msq_Step_10, by kernel_rfl, ?_⟩
  apply Exists.intro
  refine ⟨?_, ?_⟩
  conv => whnf
  repeat (refine ⟨(by show (0 : Int) ≤ 10 ∧ (10 : Int) < 11; decide), ?_⟩; conv => whnf)
  repeat' (first | (refine inS 184 ?_; refine ⟨_, s_hPlace k 1, ?_⟩; conv => whnf) | (refine inD 58 ?_; refine ⟨_, s_mStore s.1 (placeI k 1) 0 hf.fits, ?_⟩; conv => whnf) | (refine inD 113 ?_; refine ⟨_, s_cBack ((storeM s.1 (placeI k 1) 0), s.2) k x e hf.cores hf.frames, ?_⟩; conv => whnf) | (refine inI 137 ?_; refine ⟨_, _, 500, Tryz.func137, ⟨by kernel_rfl, rfl⟩, ?_⟩; conv => whnf) | (refine inI 178 ?_; refine ⟨_, _, 800, Tryz.func178, ⟨by kernel_rfl, rfl⟩, ?_⟩; conv => whnf) | (refine ⟨by decide, ?_⟩; conv => whnf) | (refine And.intro ?_ ?_ <;> conv => whnf) | (refine ⟨pw_msq_work_done_2, [65], by decide +kernel, ?_⟩; apply Exists.intro; refine ⟨?_, ?_⟩; conv => whnf) | exact .inl rfl | exact .inr rfl | exact rfl)
end Go.Proofs.YtpobngddiifdpaaGreat.V
