/- The document's free list, hazard slots. -/
import Derived.Test.YtpobngddiifdpaaGreatZcV21
import Derived.Test.YtpobngddiifdpaaGreatZcVPlans
set_option linter.unusedSimpArgs false
set_option linter.unusedVariables false
namespace Go.Proofs.YtpobngddiifdpaaGreat.V
open Go Go.RowKit Go.Proofs.YtpobngddiifdpaaGreat.Hz
set_option maxRecDepth 100000

theorem Fine.top {s : Sy} {k : Int} (hf : Fine s) : Spec Tryz.prog 30 [vS s, vI k] (vFB ((topI s k).getD (dflt tFrame)) (topI s k).isSome) := s_refTop s k (Nat.le_trans hf.cores (by decide)) (fun c hc => Nat.le_trans (hf.frames c hc) (by decide))
theorem s_refTopOf {s : Sy} {k : Int} {f : Frm} (ht : topI s k = some f) (hf : Fine s) : Spec Tryz.prog 30 [vS s, vI k] (vFB f true) := by
  have h := hf.top (k := k)
  rw [ht] at h
  exact h
theorem s_refTopNo {s : Sy} {k : Int} (ht : topI s k = none) (hf : Fine s) : Spec Tryz.prog 30 [vS s, vI k] (vFB (dflt tFrame) false) := by
  have h := hf.top (k := k)
  rw [ht] at h
  exact h
end Go.Proofs.YtpobngddiifdpaaGreat.V

set_option linter.unusedSimpArgs false
set_option linter.unusedVariables false
namespace Go.Proofs.YtpobngddiifdpaaGreat.V
open Go Go.RowKit Go.Proofs.YtpobngddiifdpaaGreat.Hz
set_option maxRecDepth 100000

theorem callS_P (s : Sy) (k op a : Int) : callS s k op a 0 0 = callP s k op a := by
  have e : isCoreB s k = true ↔ 0 ≤ k ∧ k < s.2.1.length := by unfold isCoreB; rw [Bool.and_eq_true, decide_eq_true_eq, decide_eq_true_eq]
  by_cases c : 0 ≤ k ∧ k < s.2.1.length ∧ (cAt s.2.1 k).1.length < 40
  · exact (if_pos c).trans (if_pos (⟨e.2 ⟨c.1, c.2.1⟩, c.2.2⟩ : isCoreB s k = true ∧ (cAt s.2.1 k).1.length < 40)).symm
  · exact (if_neg c).trans (if_neg (fun h : isCoreB s k = true ∧ (cAt s.2.1 k).1.length < 40 => c ⟨(e.1 h.1).1, (e.1 h.1).2, h.2⟩)).symm
end Go.Proofs.YtpobngddiifdpaaGreat.V

set_option linter.unusedSimpArgs false
set_option linter.unusedVariables false
namespace Go.Proofs.YtpobngddiifdpaaGreat.V
open Go Go.RowKit Go.Proofs.YtpobngddiifdpaaGreat.Hz
set_option maxRecDepth 100000

/-- A core's value and error. -/
abbrev coV (s : Sy) (k : Int) : Int := (cAt s.2.1 k).2.1
abbrev coE (s : Sy) (k : Int) : Int := (cAt s.2.1 k).2.2.1
/-- A step of OEnq: of queue q, value v, node n, tail t, next w. -/
def putS (s : Sy) (k pc q v n t w : Int) (r : Den (.cons tI (.cons tI (.cons tI .nil)))) (l : Li) : Sy :=
  if pc = 0 then callS (setS s k (9, 1, (q, v, n, t, w, r), l, ())) k 7 0 0 0
  else if pc = 1 then (if coE s k ≠ 0 then backS s k 0 (coE s k) else setS s k (9, 2, (q, v, coV s k, t, w, r), l, ()))
  else if pc = 2 then setS (storeM s.1 (atI n 3) v, s.2) k (9, 3, (q, v, n, t, w, r), l, ())
  else if pc = 3 then setS (loadM s.1 (atI n 1), s.2) k (9, 4, (q, v, n, t, loadI s.1 (atI n 1), r), l, ())
  else if pc = 4 then setS (storeM s.1 (atI n 1) (nextI w 0 0), s.2) k (9, 5, (q, v, n, t, w, r), l, ())
  else if pc = 5 then callS (setS s k (9, 6, (q, v, n, t, w, r), l, ())) k 3 (33 + 2 * q) 0 0
  else if pc = 6 then setS s k (9, 7, (q, v, n, coV s k, w, r), l, ())
  else if pc = 7 then setS (loadM s.1 (atI (idxI t) 1), s.2) k (9, (if idxI (loadI s.1 (atI (idxI t) 1)) = 0 then 9 else 8), (q, v, n, t, loadI s.1 (atI (idxI t) 1), r), l, ())
  else if pc = 8 then setS (casM s.1 (33 + 2 * q) t (nextI t (idxI w) 0), s.2) k (9, 5, (q, v, n, t, w, r), l, ())
  else if pc = 9 then (if casB s.1 (atI (idxI t) 1) w = true then logS (setS (casM s.1 (atI (idxI t) 1) w (nextI w n 0), s.2) k (9, 10, (q, v, n, t, w, r), l, ())) k 1 q 0 v else setS (casM s.1 (atI (idxI t) 1) w (nextI w n 0), s.2) k (9, 5, (q, v, n, t, w, r), l, ()))
  else if pc = 10 then setS (casM s.1 (33 + 2 * q) t (nextI t n 0), s.2) k (9, 11, (q, v, n, t, w, r), l, ())
  else if pc = 11 then backS (storeM s.1 (placeI k 0) 0, s.2) k 0 0
  else s
end Go.Proofs.YtpobngddiifdpaaGreat.V

set_option linter.unusedSimpArgs false
set_option linter.unusedVariables false
namespace Go.Proofs.YtpobngddiifdpaaGreat.V
open Go Go.RowKit Go.Proofs.YtpobngddiifdpaaGreat.Hz
set_option maxRecDepth 100000

/-- A step of ODeq: of queue q, head h, tail t, next w, value x, error e. -/
def takeS (s : Sy) (k pc q v h t w x e y : Int) (l : Li) : Sy :=
  if pc = 0 then callS (setS s k (10, 1, (q, v, h, t, w, x, e, y, ()), l, ())) k 3 (32 + 2 * q) 0 0
  else if pc = 1 then setS s k (10, 2, (q, v, (coV s k), t, w, x, e, y, ()), l, ())
  else if pc = 2 then setS (loadM s.1 (33 + 2 * q), s.2) k (10, 3, (q, v, h, (loadI s.1 (33 + 2 * q)), w, x, e, y, ()), l, ())
  else if pc = 3 then (if idxI (loadI s.1 (atI (idxI h) 1)) = 0 then logS (setS ((loadM s.1 (atI (idxI h) 1)), s.2) k (10, 9, (q, v, h, t, (loadI s.1 (atI (idxI h) 1)), 0, 3, y, ()), l, ())) k 3 q 0 0 else if idxI h = idxI t then setS ((loadM s.1 (atI (idxI h) 1)), s.2) k (10, 4, (q, v, h, t, (loadI s.1 (atI (idxI h) 1)), x, e, y, ()), l, ()) else setS ((loadM s.1 (atI (idxI h) 1)), s.2) k (10, 5, (q, v, h, t, (loadI s.1 (atI (idxI h) 1)), x, e, y, ()), l, ()))
  else if pc = 4 then setS ((casM s.1 (33 + 2 * q) t (nextI t (idxI w) 0)), s.2) k (10, 0, (q, v, h, t, w, x, e, y, ()), l, ())
  else if pc = 5 then setS ((storeM s.1 (placeI k 1) (idxI w)), s.2) k (10, 6, (q, v, h, t, w, x, e, y, ()), l, ())
  else if pc = 6 then (if loadI s.1 (32 + 2 * q) ≠ h then setS (loadM s.1 (32 + 2 * q), s.2) k (10, 0, (q, v, h, t, w, x, e, y, ()), l, ()) else setS (loadM s.1 (32 + 2 * q), s.2) k (10, 7, (q, v, h, t, w, x, e, y, ()), l, ()))
  else if pc = 7 then setS ((loadM s.1 (atI (idxI w) 3)), s.2) k (10, 8, (q, v, h, t, w, (loadI s.1 (atI (idxI w) 3)), e, y, ()), l, ())
  else if pc = 8 then (if casB s.1 (32 + 2 * q) h = true then callS (setS (logS ((casM s.1 (32 + 2 * q) h (nextI h (idxI w) 0)), s.2) k 2 q 0 x) k (10, 9, (q, v, h, t, w, x, 0, y, ()), l, ())) k 5 (idxI h) 0 0 else setS ((casM s.1 (32 + 2 * q) h (nextI h (idxI w) 0)), s.2) k (10, 0, (q, v, h, t, w, x, e, y, ()), l, ()))
  else if pc = 9 then setS ((storeM s.1 (placeI k 0) 0), s.2) k (10, 10, (q, v, h, t, w, x, e, y, ()), l, ())
  else if pc = 10 then backS ((storeM s.1 (placeI k 1) 0), s.2) k x e
  else s
end Go.Proofs.YtpobngddiifdpaaGreat.V

set_option linter.unusedSimpArgs false
set_option linter.unusedVariables false
namespace Go.Proofs.YtpobngddiifdpaaGreat.V
open Go Go.RowKit Go.Proofs.YtpobngddiifdpaaGreat.Hz
set_option maxRecDepth 100000

/-- A step of a core, of layers 1 to 8. -/
def msqF (s : Sy) (k op pc : Int) (r : R8) (l : Li) : Sy :=
  if op = 9 ∨ op = 10 then (if r.1 < 0 ∨ 7 < r.1 then s else if op = 9 then putS s k pc r.1 r.2.1 r.2.2.1 r.2.2.2.1 r.2.2.2.2.1 r.2.2.2.2.2 l else takeS s k pc r.1 r.2.1 r.2.2.1 r.2.2.2.1 r.2.2.2.2.1 r.2.2.2.2.2.1 r.2.2.2.2.2.2.1 r.2.2.2.2.2.2.2.1 l)
  else alS s k
def msqS (s : Sy) (k : Int) : Sy := match topI s k with
  | none => alS s k
  | some f => msqF s k f.1 f.2.1 f.2.2.1 f.2.2.2.1
theorem msqS_none {s : Sy} {k : Int} (h : topI s k = none) : msqS s k = alS s k := by unfold msqS; rw [h]
theorem msqS_some {s : Sy} {k : Int} {f : Frm} (h : topI s k = some f) : msqS s k = msqF s k f.1 f.2.1 f.2.2.1 f.2.2.2.1 := by unfold msqS; rw [h]
end Go.Proofs.YtpobngddiifdpaaGreat.V

set_option linter.unusedSimpArgs false
set_option linter.unusedVariables false
namespace Go.Proofs.YtpobngddiifdpaaGreat.V
def pw_msq_Step_10 : VPlan := .take 0 (.take 1 (.take 2 (.take 3 (.take 4 (.take 5 (.take 6 (.take 7 (.take 8 (.one 9 (.one 10 (.one 11 .done)))))))))))
def gw_msq_Step_10 : List Nat := [2, 5, 7, 8, 33, 37]
def pw_msq_work_got_1 : VPlan := .take 0 (.take 1 (.take 2 (.take 3 (.take 4 (.take 5 (.take 6 (.take 7 (.take 8 (.take 9 (.take 10 (.one 11 (.one 12 .done))))))))))))
def pw_msq_work_got_3 : VPlan := .take 0 (.take 1 (.take 2 (.take 3 (.take 4 (.take 5 (.take 6 (.take 7 (.take 8 (.take 9 (.one 10 (.one 11 .done)))))))))))
def pw_msq_work_got_4 : VPlan := .take 0 (.take 1 (.take 2 (.take 3 (.take 4 (.take 5 (.take 6 (.one 7 .done)))))))
def pw_msq_work_value_1 : VPlan := .take 0 (.take 1 (.take 2 (.take 3 (.take 4 (.take 5 (.take 6 (.take 8 (.take 9 (.take 10 (.take 11 (.take 12 (.take 13 (.one 7 (.late (.one 14 .done)))))))))))))))
def pw_msq_work_old_1 : VPlan := .take 0 (.take 1 (.take 2 (.take 3 (.take 4 (.take 5 (.take 6 (.take 10 (.take 11 (.take 12 (.one 7 (.one 8 (.one 9 (.take 13 (.one 14 .done))))))))))))))
def pw_msq_work_fresh_1 : VPlan := .take 0 (.take 1 (.take 2 (.take 3 (.take 4 (.take 5 (.take 6 (.take 8 (.take 9 (.take 10 (.take 11 (.take 12 (.take 13 (.one 7 (.one 14 (.late (.one 15 .done))))))))))))))))
def pw_msq_work_seen_1 : VPlan := .take 0 (.take 1 (.take 2 (.take 3 (.take 4 (.take 5 (.take 6 (.take 7 (.take 8 (.take 9 (.take 10 (.take 11 (.take 12 (.take 13 (.take 14 (.take 15 (.take 16 (.late (.one 17 .done))))))))))))))))))
def pw_msq_work_behind_1 : VPlan := .take 0 (.take 1 (.take 2 (.take 3 (.take 4 (.take 5 (.take 6 (.take 10 (.take 11 (.take 12 (.one 7 (.one 8 (.one 9 (.take 13 (.one 14 .done))))))))))))))
def pw_msq_work_help_1 : VPlan := .take 0 (.take 1 (.take 2 (.take 3 (.take 4 (.take 5 (.take 6 (.take 9 (.take 10 (.take 11 (.take 12 (.take 13 (.take 14 (.take 15 (.take 16 (.take 17 (.take 18 (.take 19 (.take 20 (.one 7 (.reck 8 (.one 21 (.late (.one 22 .done)))))))))))))))))))))))
def pw_msq_work_link_1 : VPlan := .take 0 (.take 1 (.take 2 (.take 3 (.take 4 (.take 5 (.take 6 (.take 8 (.take 9 (.take 10 (.take 11 (.take 12 (.take 13 (.take 14 (.take 15 (.take 16 (.take 17 (.take 18 (.take 19 (.one 7 (.late (.one 20 (.reck 21 .done))))))))))))))))))))))
def pw_msq_work_link_3 : VPlan := .take 0 (.take 1 (.take 2 (.take 3 (.take 4 (.take 5 (.take 6 (.take 7 (.take 8 (.take 9 (.take 10 (.take 11 (.take 12 (.take 13 (.take 14 (.take 15 (.take 16 (.take 17 (.take 18 (.take 19 (.take 20 (.one 21 (.take 22 (.take 23 (.late (.one 24 .done)))))))))))))))))))))))))
def pw_msq_work_swing_1 : VPlan := .take 0 (.take 1 (.take 2 (.take 3 (.take 4 (.take 5 (.take 6 (.take 9 (.take 10 (.take 11 (.take 12 (.take 13 (.take 14 (.take 15 (.take 16 (.take 17 (.take 18 (.take 19 (.take 20 (.one 7 (.reck 8 (.late (.one 21 .done))))))))))))))))))))))
def pw_msq_work_ended_2 : VPlan := .take 0 (.take 1 (.take 2 (.take 3 (.take 4 (.take 5 (.take 6 (.take 7 (.one 8 (.one 9 .done)))))))))
def pw_msq_work_held_1 : VPlan := .take 0 (.take 1 (.take 2 (.take 3 (.take 4 (.take 5 (.take 6 (.take 7 (.take 8 (.take 9 (.take 10 (.take 11 (.take 12 (.take 13 (.take 14 (.take 15 (.take 16 (.late (.one 17 .done))))))))))))))))))
def pw_msq_work_tail_1 : VPlan := .take 0 (.take 1 (.take 2 (.take 3 (.take 4 (.take 5 (.take 6 (.take 11 (.take 12 (.take 13 (.one 7 (.one 8 (.reck 9 (.one 10 (.take 14 (.one 15 .done)))))))))))))))
def pw_msq_work_next_1 : VPlan := .take 0 (.take 1 (.take 2 (.take 3 (.take 4 (.take 5 (.take 6 (.take 10 (.take 11 (.take 12 (.one 7 (.one 8 (.one 9 (.take 13 (.one 14 .done))))))))))))))
def pw_msq_work_next_3 : VPlan := .take 0 (.take 1 (.take 2 (.take 3 (.take 4 (.take 5 (.take 6 (.take 8 (.take 9 (.take 10 (.take 11 (.take 12 (.take 13 (.one 7 (.one 14 (.reck 15 (.late (.one 16 (.one 17 .done))))))))))))))))))
def pw_msq_work_next_4 : VPlan := .take 0 (.take 1 (.take 2 (.take 3 (.take 4 (.take 5 (.take 6 (.take 7 (.take 8 (.take 9 (.take 10 (.take 11 (.take 12 (.take 13 (.take 14 (.one 15 (.take 16 (.take 17 (.late (.one 18 .done)))))))))))))))))))
def pw_msq_work_next_5 : VPlan := .take 0 (.take 1 (.take 2 (.take 3 (.take 4 (.take 5 (.take 7 (.take 8 (.take 9 (.one 6 (.take 10 (.one 11 .done)))))))))))
def pw_msq_work_lags_1 : VPlan := .take 0 (.take 1 (.take 2 (.take 3 (.take 4 (.take 5 (.take 6 (.take 9 (.take 10 (.take 11 (.take 12 (.take 13 (.take 14 (.take 15 (.take 16 (.take 17 (.take 18 (.take 19 (.take 20 (.one 7 (.reck 8 (.one 21 (.late (.one 22 .done)))))))))))))))))))))))
def pw_msq_work_name_1 : VPlan := .take 0 (.take 1 (.take 2 (.take 3 (.take 4 (.take 6 (.take 7 (.take 8 (.take 9 (.take 10 (.take 11 (.one 5 (.one 12 (.late (.one 13 .done))))))))))))))
def pw_msq_work_still_1 : VPlan := .take 0 (.take 1 (.take 2 (.take 3 (.take 4 (.take 5 (.take 6 (.take 10 (.take 11 (.take 12 (.take 13 (.take 14 (.two 7 15 (.two 8 15 (.two 9 15 (.one 15 (.reck 16 (.one 17 (.one 18 .done)))) (.one 9 (.reck 16 (.one 17 (.one 18 .done))))) (.one 8 (.one 9 (.reck 16 (.one 17 (.one 18 .done)))))) (.one 7 (.one 8 (.one 9 (.reck 16 (.one 17 (.one 18 .done))))))))))))))))))
def pw_msq_work_told_1 : VPlan := .take 0 (.take 1 (.take 2 (.take 3 (.take 4 (.take 5 (.take 6 (.take 10 (.take 11 (.take 12 (.one 7 (.one 8 (.one 9 (.take 13 (.one 14 .done))))))))))))))
def pw_msq_work_move_1 : VPlan := .take 0 (.take 1 (.take 2 (.take 3 (.take 4 (.take 5 (.take 6 (.take 8 (.take 9 (.take 10 (.take 11 (.take 12 (.take 13 (.take 14 (.take 15 (.take 16 (.take 17 (.take 18 (.take 19 (.one 7 (.one 20 (.late (.one 21 (.reck 22 .done)))))))))))))))))))))))
def pw_msq_work_move_3 : VPlan := .take 0 (.take 1 (.take 2 (.take 3 (.take 4 (.take 5 (.take 6 (.take 7 (.take 8 (.take 9 (.take 10 (.take 11 (.take 12 (.take 13 (.take 14 (.take 15 (.take 16 (.take 17 (.take 18 (.take 19 (.take 20 (.one 21 (.take 22 (.take 23 (.late (.one 24 .done)))))))))))))))))))))))))
def pw_msq_work_done_2 : VPlan := .take 0 (.take 1 (.take 2 (.take 3 (.take 4 (.take 5 (.take 6 (.take 7 (.take 8 (.take 9 (.take 10 (.take 11 (.take 12 (.take 13 (.take 14 (.take 15 (.take 16 (.take 17 (.take 18 (.take 19 (.one 20 (.one 21 .done)))))))))))))))))))))
def pw_msq_work_then_1 : VPlan := .take 0 (.take 1 (.take 3 (.take 4 (.take 5 (.take 7 (.take 8 (.two 2 6 (.one 6 (.one 9 (.one 10 .done))) (.one 2 (.one 9 (.one 10 .done))))))))))
def pw_msq_work_on_2 : VPlan := .take 0 (.take 1 (.take 2 (.take 3 (.take 4 (.take 5 (.take 6 (.take 7 (.take 8 (.take 9 (.take 10 (.take 11 (.one 12 (.one 13 .done)))))))))))))
def pw_msq_work_cas_1 : VPlan := .take 0 (.take 1 (.take 2 (.take 3 (.take 4 (.take 5 (.take 6 (.take 7 (.take 8 (.two 9 14 (.two 10 14 (.reck 11 (.reck 12 (.reck 13 (.one 14 (.one 15 (.one 16 .done)))))) (.one 10 (.reck 11 (.reck 12 (.reck 13 (.one 15 (.one 16 .done))))))) (.one 9 (.one 10 (.reck 11 (.reck 12 (.reck 13 (.one 15 (.one 16 .done))))))))))))))))
end Go.Proofs.YtpobngddiifdpaaGreat.V
