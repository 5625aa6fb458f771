/- Queues: OEnq's steps that swap a word, the program. -/
import Derived.Test.YtpobngddiifdpaaGreatZdQ4
set_option linter.unusedSimpArgs false
set_option linter.unusedVariables false
namespace Go.Proofs.YtpobngddiifdpaaGreat.V
open Go Go.RowKit Go.Proofs.YtpobngddiifdpaaGreat.Hz
set_option maxRecDepth 100000

set_option maxHeartbeats 4000000 in
theorem s_mPut_8 (s : Sy) (k q v n t w : Int) (r : Den (.cons tI (.cons tI (.cons tI .nil)))) (l : Li) (ht : topI s k = some (9, 8, (q, v, n, t, w, r), l, ())) (h0 : 0 ≤ q) (h1 : q ≤ 7) (hf : Fine s) : Spec Tryz.prog 27 [vS s, vI k] (vS (putS s k 8 q v n t w r l)) := by
  have hq := s_isQueue q
  rw [decide_eq_true h0, decide_eq_true (Int.lt_of_le_of_lt h1 (by decide))] at hq
  rw [show putS s k 8 q v n t w r l = setS ((casM s.1 (33 + 2 * q) t (nextI t (idxI w) 0)), s.2) k (9, 5, (q, v, n, t, w, r), l, ()) from rfl]
  refine spec_introF true tab_ok 5 Tryz.func27 rfl (by kernel_rfl) rfl ?_
  conv => whnf
  first | refine .inr (.inl ⟨_, s_topOf ht hf, ?_⟩) | refine .inl (.inr (.inl ⟨_, s_topOf ht hf, ?_⟩))
  conv => whnf
  repeat (refine ⟨by first | omega | (simp only [Option.getD_none, Option.getD_some]; omega) | (simp; done) | (simp; omega), ?_⟩; conv => whnf)
  refine .inr ⟨_, _, 300, Tryz.func74, ⟨by kernel_rfl, rfl⟩, ?_⟩
  conv => whnf
  repeat (refine ⟨by first | omega | (simp only [Option.getD_none, Option.getD_some]; omega) | (simp; done) | (simp; omega), ?_⟩; conv => whnf)
  refine .inr ⟨_, _, 400, Tryz.func75, ⟨by kernel_rfl, rfl⟩, ?_⟩
  conv => whnf
  repeat (refine ⟨by first | omega | (simp only [Option.getD_none, Option.getD_some]; omega) | (simp; done) | (simp; omega), ?_⟩; conv => whnf)
  refine .inl (.inl ⟨_, hq, ?_⟩)
  conv => whnf
  repeat (refine ⟨by first | omega | (simp only [Option.getD_none, Option.getD_some]; omega) | (simp; done) | (simp; omega), ?_⟩; conv => whnf)
  refine ⟨pw_msq_Step_10, gw_msq_Step_10, by kernel_rfl, ?_⟩
  apply Exists.intro
  refine ⟨?_, ?_⟩
  conv => whnf
  repeat (refine ⟨(by show (0 : Int) ≤ 8 ∧ (8 : Int) < 12; decide), ?_⟩; conv => whnf)
  repeat' (first | (refine inS 21 ?_; refine ⟨_, s_mSpot8 q h0 h1, ?_⟩; conv => whnf) | (refine inS 66 ?_; refine ⟨_, s_Index w, ?_⟩; conv => whnf) | (refine inS 59 ?_; refine ⟨_, s_Next t (idxI w) 0, ?_⟩; conv => whnf) | (refine inD 191 ?_; refine ⟨_, s_mCas s.1 (33 + 2 * q) t (nextI t (idxI w) 0) hf.fits, ?_⟩; conv => whnf) | (refine inD 173 ?_; refine ⟨_, s_cSet ((casM s.1 (33 + 2 * q) t (nextI t (idxI w) 0)), s.2) k (9, 5, (q, v, n, t, w, r), l, ()) hf.cores hf.frames, ?_⟩; conv => whnf) | (refine inI 123 ?_; refine ⟨_, _, 500, Tryz.func123, ⟨by kernel_rfl, rfl⟩, ?_⟩; conv => whnf) | (refine inI 182 ?_; refine ⟨_, _, 1000, Tryz.func182, ⟨by kernel_rfl, rfl⟩, ?_⟩; conv => whnf) | (refine inI 177 ?_; refine ⟨_, _, 700, Tryz.func177, ⟨by kernel_rfl, rfl⟩, ?_⟩; conv => whnf) | (refine ⟨by decide, ?_⟩; conv => whnf) | (intro z hz; (replace hz : z = 33 + 2 * q := by rw [IntWalk.wrap64_in _ (by omega)] at hz; omega); subst hz; conv => whnf) | (refine And.intro ?_ ?_ <;> conv => whnf) | (refine ⟨pw_msq_work_help_1, [502, 65], by decide +kernel, ?_⟩; apply Exists.intro; refine ⟨?_, ?_⟩; conv => whnf) | (refine ⟨pw_msq_work_cas_1, [65], by decide +kernel, ?_⟩; apply Exists.intro; refine ⟨?_, ?_⟩; conv => whnf) | (refine ⟨pw_msq_work_on_2, [65], by decide +kernel, ?_⟩; apply Exists.intro; refine ⟨?_, ?_⟩; conv => whnf) | exact .inl rfl | exact .inr rfl | exact rfl)
set_option maxHeartbeats 4000000 in
theorem s_mPut_10 (s : Sy) (k q v n t w : Int) (r : Den (.cons tI (.cons tI (.cons tI .nil)))) (l : Li) (ht : topI s k = some (9, 10, (q, v, n, t, w, r), l, ())) (h0 : 0 ≤ q) (h1 : q ≤ 7) (hf : Fine s) : Spec Tryz.prog 27 [vS s, vI k] (vS (putS s k 10 q v n t w r l)) := by
  have hq := s_isQueue q
  rw [decide_eq_true h0, decide_eq_true (Int.lt_of_le_of_lt h1 (by decide))] at hq
  rw [show putS s k 10 q v n t w r l = setS ((casM s.1 (33 + 2 * q) t (nextI t n 0)), s.2) k (9, 11, (q, v, n, t, w, r), l, ()) from rfl]
  refine spec_introF true tab_ok 5 Tryz.func27 rfl (by kernel_rfl) rfl ?_
  conv => whnf
  first | refine .inr (.inl ⟨_, s_topOf ht hf, ?_⟩) | refine .inl (.inr (.inl ⟨_, s_topOf ht hf, ?_⟩))
  conv => whnf
  repeat (refine ⟨by first | omega | (simp only [Option.getD_none, Option.getD_some]; omega) | (simp; done) | (simp; omega), ?_⟩; conv => whnf)
  refine .inr ⟨_, _, 300, Tryz.func74, ⟨by kernel_rfl, rfl⟩, ?_⟩
  conv => whnf
  repeat (refine ⟨by first | omega | (simp only [Option.getD_none, Option.getD_some]; omega) | (simp; done) | (simp; omega), ?_⟩; conv => whnf)
  refine .inr ⟨_, _, 400, Tryz.func75, ⟨by kernel_rfl, rfl⟩, ?_⟩
  conv => whnf
  repeat (refine ⟨by first | omega | (simp only [Option.getD_none, Option.getD_some]; omega) | (simp; done) | (simp; omega), ?_⟩; conv => whnf)
  refine .inl (.inl ⟨_, hq, ?_⟩)
  conv => whnf
  repeat (refine ⟨by first | omega | (simp only [Option.getD_none, Option.getD_some]; omega) | (simp; done) | (simp; omega), ?_⟩; conv => whnf)
  refine ⟨pw_msq_Step_10, gw_msq_Step_10, by kernel_rfl, ?_⟩
  apply Exists.intro
  refine ⟨?_, ?_⟩
  conv => whnf
  repeat (refine ⟨(by show (0 : Int) ≤ 10 ∧ (10 : Int) < 12; decide), ?_⟩; conv => whnf)
  repeat' (first | (refine inS 21 ?_; refine ⟨_, s_mSpot8 q h0 h1, ?_⟩; conv => whnf) | (refine inS 59 ?_; refine ⟨_, s_Next t n 0, ?_⟩; conv => whnf) | (refine inD 191 ?_; refine ⟨_, s_mCas s.1 (33 + 2 * q) t (nextI t n 0) hf.fits, ?_⟩; conv => whnf) | (refine inD 173 ?_; refine ⟨_, s_cSet ((casM s.1 (33 + 2 * q) t (nextI t n 0)), s.2) k (9, 11, (q, v, n, t, w, r), l, ()) hf.cores hf.frames, ?_⟩; conv => whnf) | (refine inI 125 ?_; refine ⟨_, _, 500, Tryz.func125, ⟨by kernel_rfl, rfl⟩, ?_⟩; conv => whnf) | (refine inI 182 ?_; refine ⟨_, _, 1000, Tryz.func182, ⟨by kernel_rfl, rfl⟩, ?_⟩; conv => whnf) | (refine inI 177 ?_; refine ⟨_, _, 700, Tryz.func177, ⟨by kernel_rfl, rfl⟩, ?_⟩; conv => whnf) | (refine ⟨by decide, ?_⟩; conv => whnf) | (intro z hz; (replace hz : z = 33 + 2 * q := by rw [IntWalk.wrap64_in _ (by omega)] at hz; omega); subst hz; conv => whnf) | (refine And.intro ?_ ?_ <;> conv => whnf) | (refine ⟨pw_msq_work_swing_1, [502, 65], by decide +kernel, ?_⟩; apply Exists.intro; refine ⟨?_, ?_⟩; conv => whnf) | (refine ⟨pw_msq_work_cas_1, [65], by decide +kernel, ?_⟩; apply Exists.intro; refine ⟨?_, ?_⟩; conv => whnf) | (refine ⟨pw_msq_work_on_2, [65], by decide +kernel, ?_⟩; apply Exists.intro; refine ⟨?_, ?_⟩; conv => whnf) | exact .inl rfl | exact .inr rfl | exact rfl)
end Go.Proofs.YtpobngddiifdpaaGreat.V

set_option linter.unusedSimpArgs false
set_option linter.unusedVariables false
namespace Go.Proofs.YtpobngddiifdpaaGreat.V
open Go Go.RowKit Go.Proofs.YtpobngddiifdpaaGreat.Hz
set_option maxRecDepth 100000

set_option maxHeartbeats 4000000 in
theorem s_mPut_9a (s : Sy) (k q v n t w : Int) (r : Den (.cons tI (.cons tI (.cons tI .nil)))) (l : Li) (ht : topI s k = some (9, 9, (q, v, n, t, w, r), l, ())) (h0 : 0 ≤ q) (h1 : q ≤ 7) (hf : Fine s) (hE : casB s.1 (atI (idxI t) 1) w = true) : Spec Tryz.prog 27 [vS s, vI k] (vS (putS s k 9 q v n t w r l)) := by
  have hq := s_isQueue q
  rw [decide_eq_true h0, decide_eq_true (Int.lt_of_le_of_lt h1 (by decide))] at hq
  rw [show putS s k 9 q v n t w r l = (if casB s.1 (atI (idxI t) 1) w = true then logS (setS ((casM s.1 (atI (idxI t) 1) w (nextI w n 0)), s.2) k (9, 10, (q, v, n, t, w, r), l, ())) k 1 q 0 v else setS ((casM s.1 (atI (idxI t) 1) w (nextI w n 0)), s.2) k (9, 5, (q, v, n, t, w, r), l, ())) from rfl, if_pos hE, ← setS_logS]
  have hcas := s_mCas s.1 (atI (idxI t) 1) w (nextI w n 0) hf.fits
  rw [hE] at hcas
  refine spec_introF true tab_ok 5 Tryz.func27 rfl (by kernel_rfl) rfl ?_
  conv => whnf
  first | refine .inr (.inl ⟨_, s_topOf ht hf, ?_⟩) | refine .inl (.inr (.inl ⟨_, s_topOf ht hf, ?_⟩))
  conv => whnf
  repeat (refine ⟨by first | omega | (simp only [Option.getD_none, Option.getD_some]; omega) | (simp; done) | (simp; omega), ?_⟩; conv => whnf)
  refine .inr ⟨_, _, 300, Tryz.func74, ⟨by kernel_rfl, rfl⟩, ?_⟩
  conv => whnf
  repeat (refine ⟨by first | omega | (simp only [Option.getD_none, Option.getD_some]; omega) | (simp; done) | (simp; omega), ?_⟩; conv => whnf)
  refine .inr ⟨_, _, 400, Tryz.func75, ⟨by kernel_rfl, rfl⟩, ?_⟩
  conv => whnf
  repeat (refine ⟨by first | omega | (simp only [Option.getD_none, Option.getD_some]; omega) | (simp; done) | (simp; omega), ?_⟩; conv => whnf)
  refine .inl (.inl ⟨_, hq, ?_⟩)
  conv => whnf
  repeat (refine ⟨by first | omega | (simp only [Option.getD_none, Option.getD_some]; omega) | (simp; done) | (simp; omega), ?_⟩; conv => whnf)
  refine ⟨pw_msq_Step_10, gw_msq_Step_10, by kernel_rfl, ?_⟩
  apply Exists.intro
  refine ⟨?_, ?_⟩
  conv => whnf
  repeat (refine ⟨(by show (0 : Int) ≤ 9 ∧ (9 : Int) < 12; decide), ?_⟩; conv => whnf)
  repeat' (first | (refine inS 180 ?_; refine ⟨_, s_mCell t 1, ?_⟩; conv => whnf) | (refine inS 59 ?_; refine ⟨_, s_Next w n 0, ?_⟩; conv => whnf) | (refine inD 191 ?_; refine ⟨_, hcas, ?_⟩; conv => whnf) | (refine inD 183 ?_; refine ⟨_, s_cLog ((casM s.1 (atI (idxI t) 1) w (nextI w n 0)), s.2) k 1 q 0 v hf.log, ?_⟩; conv => whnf) | (refine inD 173 ?_; refine ⟨_, s_cSet (logS ((casM s.1 (atI (idxI t) 1) w (nextI w n 0)), s.2) k 1 q 0 v) k (9, 10, (q, v, n, t, w, r), l, ()) (logS_cor hf.cores) (logS_frm hf.frames), ?_⟩; conv => whnf) | (refine inI 124 ?_; refine ⟨_, _, 500, Tryz.func124, ⟨by kernel_rfl, rfl⟩, ?_⟩; conv => whnf) | (refine inI 182 ?_; refine ⟨_, _, 1000, Tryz.func182, ⟨by kernel_rfl, rfl⟩, ?_⟩; conv => whnf) | (refine inI 177 ?_; refine ⟨_, _, 700, Tryz.func177, ⟨by kernel_rfl, rfl⟩, ?_⟩; conv => whnf) | (refine ⟨by decide, ?_⟩; conv => whnf) | (refine And.intro ?_ ?_ <;> conv => whnf) | (refine ⟨pw_msq_work_link_1, [502, 65], by decide +kernel, ?_⟩; apply Exists.intro; refine ⟨?_, ?_⟩; conv => whnf) | (refine ⟨pw_msq_work_link_3, [502, 65], by decide +kernel, ?_⟩; apply Exists.intro; refine ⟨?_, ?_⟩; conv => whnf) | (refine ⟨pw_msq_work_cas_1, [65], by decide +kernel, ?_⟩; apply Exists.intro; refine ⟨?_, ?_⟩; conv => whnf) | (refine ⟨pw_msq_work_on_2, [65], by decide +kernel, ?_⟩; apply Exists.intro; refine ⟨?_, ?_⟩; conv => whnf) | exact .inl rfl | exact .inr rfl | exact rfl)
set_option maxHeartbeats 4000000 in
theorem s_mPut_9b (s : Sy) (k q v n t w : Int) (r : Den (.cons tI (.cons tI (.cons tI .nil)))) (l : Li) (ht : topI s k = some (9, 9, (q, v, n, t, w, r), l, ())) (h0 : 0 ≤ q) (h1 : q ≤ 7) (hf : Fine s) (hE : casB s.1 (atI (idxI t) 1) w = false) : Spec Tryz.prog 27 [vS s, vI k] (vS (putS s k 9 q v n t w r l)) := by
  have hq := s_isQueue q
  rw [decide_eq_true h0, decide_eq_true (Int.lt_of_le_of_lt h1 (by decide))] at hq
  rw [show putS s k 9 q v n t w r l = (if casB s.1 (atI (idxI t) 1) w = true then logS (setS ((casM s.1 (atI (idxI t) 1) w (nextI w n 0)), s.2) k (9, 10, (q, v, n, t, w, r), l, ())) k 1 q 0 v else setS ((casM s.1 (atI (idxI t) 1) w (nextI w n 0)), s.2) k (9, 5, (q, v, n, t, w, r), l, ())) from rfl, if_neg (by rw [hE]; decide)]
  have hcas := s_mCas s.1 (atI (idxI t) 1) w (nextI w n 0) hf.fits
  rw [hE] at hcas
  refine spec_introF true tab_ok 5 Tryz.func27 rfl (by kernel_rfl) rfl ?_
  conv => whnf
  first | refine .inr (.inl ⟨_, s_topOf ht hf, ?_⟩) | refine .inl (.inr (.inl ⟨_, s_topOf ht hf, ?_⟩))
  conv => whnf
  repeat (refine ⟨by first | omega | (simp only [Option.getD_none, Option.getD_some]; omega) | (simp; done) | (simp; omega), ?_⟩; conv => whnf)
  refine .inr ⟨_, _, 300, Tryz.func74, ⟨by kernel_rfl, rfl⟩, ?_⟩
  conv => whnf
  repeat (refine ⟨by first | omega | (simp only [Option.getD_none, Option.getD_some]; omega) | (simp; done) | (simp; omega), ?_⟩; conv => whnf)
  refine .inr ⟨_, _, 400, Tryz.func75, ⟨by kernel_rfl, rfl⟩, ?_⟩
  conv => whnf
  repeat (refine ⟨by first | omega | (simp only [Option.getD_none, Option.getD_some]; omega) | (simp; done) | (simp; omega), ?_⟩; conv => whnf)
  refine .inl (.inl ⟨_, hq, ?_⟩)
  conv => whnf
  repeat (refine ⟨by first | omega | (simp only [Option.getD_none, Option.getD_some]; omega) | (simp; done) | (simp; omega), ?_⟩; conv => whnf)
  refine ⟨pw_msq_Step_10, gw_msq_Step_10, by kernel_rfl, ?_⟩
  apply Exists.intro
  refine ⟨?_, ?_⟩
  conv => whnf
  repeat (refine ⟨(by show (0 : Int) ≤ 9 ∧ (9 : Int) < 12; decide), ?_⟩; conv => whnf)
  repeat' (first | (refine inS 180 ?_; refine ⟨_, s_mCell t 1, ?_⟩; conv => whnf) | (refine inS 59 ?_; refine ⟨_, s_Next w n 0, ?_⟩; conv => whnf) | (refine inD 191 ?_; refine ⟨_, hcas, ?_⟩; conv => whnf) | (refine inD 173 ?_; refine ⟨_, s_cSet ((casM s.1 (atI (idxI t) 1) w (nextI w n 0)), s.2) k (9, 5, (q, v, n, t, w, r), l, ()) hf.cores hf.frames, ?_⟩; conv => whnf) | (refine inI 124 ?_; refine ⟨_, _, 500, Tryz.func124, ⟨by kernel_rfl, rfl⟩, ?_⟩; conv => whnf) | (refine inI 182 ?_; refine ⟨_, _, 1000, Tryz.func182, ⟨by kernel_rfl, rfl⟩, ?_⟩; conv => whnf) | (refine inI 177 ?_; refine ⟨_, _, 700, Tryz.func177, ⟨by kernel_rfl, rfl⟩, ?_⟩; conv => whnf) | (refine ⟨by decide, ?_⟩; conv => whnf) | (refine And.intro ?_ ?_ <;> conv => whnf) | (refine ⟨pw_msq_work_link_1, [502, 65], by decide +kernel, ?_⟩; apply Exists.intro; refine ⟨?_, ?_⟩; conv => whnf) | (refine ⟨pw_msq_work_link_3, [502, 65], by decide +kernel, ?_⟩; apply Exists.intro; refine ⟨?_, ?_⟩; conv => whnf) | (refine ⟨pw_msq_work_cas_1, [65], by decide +kernel, ?_⟩; apply Exists.intro; refine ⟨?_, ?_⟩; conv => whnf) | (refine ⟨pw_msq_work_on_2, [65], by decide +kernel, ?_⟩; apply Exists.intro; refine ⟨?_, ?_⟩; conv => whnf) | exact .inl rfl | exact .inr rfl | exact rfl)
end Go.Proofs.YtpobngddiifdpaaGreat.V
