/- Queues: what a step of ODeq does; the document's step. -/
import Derived.Test.YtpobngddiifdpaaGreatZbQ1
set_option linter.unusedSimpArgs false
set_option linter.unusedVariables false
namespace Go.Proofs.YtpobngddiifdpaaGreat.V
open Go Go.RowKit Go.Proofs.YtpobngddiifdpaaGreat.Hz
set_option maxRecDepth 100000

/-- A step of ODeq: of queue q, head h, tail t, next w, value x, error e. -/
def takeS (s : Sy) (k pc q v h t w x e y : Int) (l : Li) : Sy :=
  if pc = 0 then callS (setS s k (10, 1, (q, v, h, t, w, x, e, y, ()), l, ())) k 3 (32 + 2 * q) 0 0
  else if pc = 1 then setS s k (10, 2, (q, v, (coV s k), t, w, x, e, y, ()), l, ())
  else if pc = 2 then setS (loadM s.1 (33 + 2 * q), s.2) k (10, 3, (q, v, h, (loadI s.1 (33 + 2 * q)), w, x, e, y, ()), l, ())
  else if pc = 3 then (if idxI (loadI s.1 (atI (idxI h) 1)) = 0 then logS (setS ((loadM s.1 (atI (idxI h) 1)), s.2) k (10, 9, (q, v, h, t, (loadI s.1 (atI (idxI h) 1)), 0, 3, y, ()), l, ())) k 3 q 0 0 else if idxI h = idxI t then setS ((loadM s.1 (atI (idxI h) 1)), s.2) k (10, 4, (q, v, h, t, (loadI s.1 (atI (idxI h) 1)), x, e, y, ()), l, ()) else setS ((loadM s.1 (atI (idxI h) 1)), s.2) k (10, 5, (q, v, h, t, (loadI s.1 (atI (idxI h) 1)), x, e, y, ()), l, ()))
  else if pc = 4 then setS ((casM s.1 (33 + 2 * q) t (nextI t (idxI w) 0)), s.2) k (10, 0, (q, v, h, t, w, x, e, y, ()), l, ())
  else if pc = 5 then setS ((storeM s.1 (placeI k 1) (idxI w)), s.2) k (10, 6, (q, v, h, t, w, x, e, y, ()), l, ())
  else if pc = 6 then (if loadI s.1 (32 + 2 * q) ≠ h then setS (loadM s.1 (32 + 2 * q), s.2) k (10, 0, (q, v, h, t, w, x, e, y, ()), l, ()) else setS (loadM s.1 (32 + 2 * q), s.2) k (10, 7, (q, v, h, t, w, x, e, y, ()), l, ()))
  else if pc = 7 then setS ((loadM s.1 (atI (idxI w) 3)), s.2) k (10, 8, (q, v, h, t, w, (loadI s.1 (atI (idxI w) 3)), e, y, ()), l, ())
  else if pc = 8 then (if casB s.1 (32 + 2 * q) h = true then callS (setS (logS ((casM s.1 (32 + 2 * q) h (nextI h (idxI w) 0)), s.2) k 2 q 0 x) k (10, 9, (q, v, h, t, w, x, 0, y, ()), l, ())) k 5 (idxI h) 0 0 else setS ((casM s.1 (32 + 2 * q) h (nextI h (idxI w) 0)), s.2) k (10, 0, (q, v, h, t, w, x, e, y, ()), l, ()))
  else if pc = 9 then setS ((storeM s.1 (placeI k 0) 0), s.2) k (10, 10, (q, v, h, t, w, x, e, y, ()), l, ())
  else if pc = 10 then backS ((storeM s.1 (placeI k 1) 0), s.2) k x e
  else s
section
variable (s : Sy) (k q v h t w x e y : Int) (l : Li) (h0 : 0 ≤ q) (h1 : q ≤ 7) (hf : Fine s)
include h0 h1 hf
theorem s_refTake_0 : Spec Tryz.prog 78 [vS s, vI k, vF (10, 0, (q, v, h, t, w, x, e, y, ()), l, ())] (vS (takeS s k 0 q v h t w x e y l)) := by
  have hg : s.1.2.1.length ≤ 1000000 := Nat.le_trans hf.fits.2 (by decide)
  have hw : s.1.1.length ≤ 1000000 := by have := hf.fits.1; have := hf.fits.2; omega
  rw [show takeS s k 0 q v h t w x e y l = callS (setS s k (10, 1, (q, v, h, t, w, x, e, y, ()), l, ())) k 3 (32 + 2 * q) 0 0 from rfl]
  refine spec_introF true tab_ok 0 Tryz.func78 rfl (by kernel_rfl) rfl ?_
  conv => whnf
  repeat (refine ⟨by first | omega | (simp only [Option.getD_none, Option.getD_some]; omega) | (simp; done) | (simp; omega), ?_⟩; conv => whnf)
  first | refine .inl ⟨_, s_Spot8 q h0 h1, ?_⟩ | refine .inl (.inl ⟨_, s_Spot8 q h0 h1, ?_⟩)
  conv => whnf
  repeat (refine ⟨by first | omega | (simp only [Option.getD_none, Option.getD_some]; omega) | (simp; done) | (simp; omega), ?_⟩; conv => whnf)
  first | refine .inl ⟨_, s_refIndex w, ?_⟩ | refine .inl (.inl ⟨_, s_refIndex w, ?_⟩)
  conv => whnf
  repeat (refine ⟨by first | omega | (simp only [Option.getD_none, Option.getD_some]; omega) | (simp; done) | (simp; omega), ?_⟩; conv => whnf)
  first | refine .inr (.inl ⟨_, s_refThen s k 10 0 1 3 (32 + 2 * q) 0 0 (q, v, h, t, w, x, e, y, ()) l hf.cores hf.frames, ?_⟩) | refine .inl (.inr (.inl ⟨_, s_refThen s k 10 0 1 3 (32 + 2 * q) 0 0 (q, v, h, t, w, x, e, y, ()) l hf.cores hf.frames, ?_⟩))
  conv => whnf
  repeat (refine ⟨by first | omega | (simp only [Option.getD_none, Option.getD_some]; omega) | (simp; done) | (simp; omega), ?_⟩; conv => whnf)
  first | exact .inl rfl | exact .inr rfl
theorem s_refTake_1 (hk0 : 0 ≤ k) (hk1 : k < s.2.1.length) : Spec Tryz.prog 78 [vS s, vI k, vF (10, 1, (q, v, h, t, w, x, e, y, ()), l, ())] (vS (takeS s k 1 q v h t w x e y l)) := by
  have hg : s.1.2.1.length ≤ 1000000 := Nat.le_trans hf.fits.2 (by decide)
  have hw : s.1.1.length ≤ 1000000 := by have := hf.fits.1; have := hf.fits.2; omega
  rw [show takeS s k 1 q v h t w x e y l = setS s k (10, 2, (q, v, (coV s k), t, w, x, e, y, ()), l, ()) from rfl]
  refine spec_introF true tab_ok 0 Tryz.func78 rfl (by kernel_rfl) rfl ?_
  conv => whnf
  repeat (refine ⟨by first | omega | (simp only [Option.getD_none, Option.getD_some]; omega) | (simp; done) | (simp; omega), ?_⟩; conv => whnf)
  first | refine .inl ⟨_, s_Spot8 q h0 h1, ?_⟩ | refine .inl (.inl ⟨_, s_Spot8 q h0 h1, ?_⟩)
  conv => whnf
  repeat (refine ⟨by first | omega | (simp only [Option.getD_none, Option.getD_some]; omega) | (simp; done) | (simp; omega), ?_⟩; conv => whnf)
  first | refine .inl ⟨_, s_refIndex w, ?_⟩ | refine .inl (.inl ⟨_, s_refIndex w, ?_⟩)
  conv => whnf
  repeat (refine ⟨by first | omega | (simp only [Option.getD_none, Option.getD_some]; omega) | (simp; done) | (simp; omega), ?_⟩; conv => whnf)
  first | refine .inr (.inl ⟨_, s_refOn s k 10 1 2 s.1 (q, v, (coV s k), t, w, x, e, y, ()) l hf.cores hf.frames, ?_⟩) | refine .inl (.inr (.inl ⟨_, s_refOn s k 10 1 2 s.1 (q, v, (coV s k), t, w, x, e, y, ()) l hf.cores hf.frames, ?_⟩))
  conv => whnf
  repeat (refine ⟨by first | omega | (simp only [Option.getD_none, Option.getD_some]; omega) | (simp; done) | (simp; omega), ?_⟩; conv => whnf)
  first | exact .inl rfl | exact .inr rfl
theorem s_refTake_2 : Spec Tryz.prog 78 [vS s, vI k, vF (10, 2, (q, v, h, t, w, x, e, y, ()), l, ())] (vS (takeS s k 2 q v h t w x e y l)) := by
  have hg : s.1.2.1.length ≤ 1000000 := Nat.le_trans hf.fits.2 (by decide)
  have hw : s.1.1.length ≤ 1000000 := by have := hf.fits.1; have := hf.fits.2; omega
  rw [show takeS s k 2 q v h t w x e y l = setS (loadM s.1 (33 + 2 * q), s.2) k (10, 3, (q, v, h, (loadI s.1 (33 + 2 * q)), w, x, e, y, ()), l, ()) from rfl]
  refine spec_introF true tab_ok 0 Tryz.func78 rfl (by kernel_rfl) rfl ?_
  conv => whnf
  repeat (refine ⟨by first | omega | (simp only [Option.getD_none, Option.getD_some]; omega) | (simp; done) | (simp; omega), ?_⟩; conv => whnf)
  first | refine .inl ⟨_, s_Spot8 q h0 h1, ?_⟩ | refine .inl (.inl ⟨_, s_Spot8 q h0 h1, ?_⟩)
  conv => whnf
  repeat (refine ⟨by first | omega | (simp only [Option.getD_none, Option.getD_some]; omega) | (simp; done) | (simp; omega), ?_⟩; conv => whnf)
  first | refine .inl ⟨_, s_refIndex w, ?_⟩ | refine .inl (.inl ⟨_, s_refIndex w, ?_⟩)
  conv => whnf
  repeat (refine ⟨by first | omega | (simp only [Option.getD_none, Option.getD_some]; omega) | (simp; done) | (simp; omega), ?_⟩; conv => whnf)
  intro z hz
  replace hz : z = 33 + 2 * q := by rw [IntWalk.wrap64_in _ (by omega)] at hz; omega
  subst hz
  conv => whnf
  repeat (refine ⟨by first | omega | (simp only [Option.getD_none, Option.getD_some]; omega) | (simp; done) | (simp; omega), ?_⟩; conv => whnf)
  first | refine .inr (.inl ⟨_, s_refLoad s.1 (33 + 2 * q) hg, ?_⟩) | refine .inl (.inr (.inl ⟨_, s_refLoad s.1 (33 + 2 * q) hg, ?_⟩))
  conv => whnf
  repeat (refine ⟨by first | omega | (simp only [Option.getD_none, Option.getD_some]; omega) | (simp; done) | (simp; omega), ?_⟩; conv => whnf)
  first | refine .inr (.inl ⟨_, s_refOn s k 10 2 3 (loadM s.1 (33 + 2 * q)) (q, v, h, (loadI s.1 (33 + 2 * q)), w, x, e, y, ()) l hf.cores hf.frames, ?_⟩) | refine .inl (.inr (.inl ⟨_, s_refOn s k 10 2 3 (loadM s.1 (33 + 2 * q)) (q, v, h, (loadI s.1 (33 + 2 * q)), w, x, e, y, ()) l hf.cores hf.frames, ?_⟩))
  conv => whnf
  repeat (refine ⟨by first | omega | (simp only [Option.getD_none, Option.getD_some]; omega) | (simp; done) | (simp; omega), ?_⟩; conv => whnf)
  first | exact .inl rfl | exact .inr rfl
theorem s_refTake_3 : Spec Tryz.prog 78 [vS s, vI k, vF (10, 3, (q, v, h, t, w, x, e, y, ()), l, ())] (vS (takeS s k 3 q v h t w x e y l)) := by
  have hg : s.1.2.1.length ≤ 1000000 := Nat.le_trans hf.fits.2 (by decide)
  have hw : s.1.1.length ≤ 1000000 := by have := hf.fits.1; have := hf.fits.2; omega
  rw [show takeS s k 3 q v h t w x e y l = (if idxI (loadI s.1 (atI (idxI h) 1)) = 0 then logS (setS ((loadM s.1 (atI (idxI h) 1)), s.2) k (10, 9, (q, v, h, t, (loadI s.1 (atI (idxI h) 1)), 0, 3, y, ()), l, ())) k 3 q 0 0 else if idxI h = idxI t then setS ((loadM s.1 (atI (idxI h) 1)), s.2) k (10, 4, (q, v, h, t, (loadI s.1 (atI (idxI h) 1)), x, e, y, ()), l, ()) else setS ((loadM s.1 (atI (idxI h) 1)), s.2) k (10, 5, (q, v, h, t, (loadI s.1 (atI (idxI h) 1)), x, e, y, ()), l, ())) from rfl]
  refine spec_introF true tab_ok 0 Tryz.func78 rfl (by kernel_rfl) rfl ?_
  conv => whnf
  repeat (refine ⟨by first | omega | (simp only [Option.getD_none, Option.getD_some]; omega) | (simp; done) | (simp; omega), ?_⟩; conv => whnf)
  first | refine .inl ⟨_, s_Spot8 q h0 h1, ?_⟩ | refine .inl (.inl ⟨_, s_Spot8 q h0 h1, ?_⟩)
  conv => whnf
  repeat (refine ⟨by first | omega | (simp only [Option.getD_none, Option.getD_some]; omega) | (simp; done) | (simp; omega), ?_⟩; conv => whnf)
  first | refine .inl ⟨_, s_refIndex w, ?_⟩ | refine .inl (.inl ⟨_, s_refIndex w, ?_⟩)
  conv => whnf
  repeat (refine ⟨by first | omega | (simp only [Option.getD_none, Option.getD_some]; omega) | (simp; done) | (simp; omega), ?_⟩; conv => whnf)
  refine ⟨p_hazelref08_take_14, g_hazelref08_take_14, by kernel_rfl, ?st1, ?_, ?_⟩
  rotate_left
  · conv => whnf
    repeat' (first | (refine ⟨(by decide), ?_⟩; conv => whnf) | (refine .inl ⟨_, s_refAt8 h 1, ?_⟩; conv => whnf) | (refine .inl (.inl ⟨_, s_refAt8 h 1, ?_⟩); conv => whnf) | (refine .inr (.inl ⟨_, s_refLoad s.1 (atI (idxI h) 1) hg, ?_⟩); conv => whnf) | (refine .inl (.inr (.inl ⟨_, s_refLoad s.1 (atI (idxI h) 1) hg, ?_⟩)); conv => whnf) | (refine And.intro ?_ ?_ <;> conv => whnf) | exact rfl)
  conv => whnf
  repeat (refine ⟨by first | omega | (simp only [Option.getD_none, Option.getD_some]; omega) | (simp; done) | (simp; omega), ?_⟩; conv => whnf)
  first | refine .inl ⟨_, s_refIndex (loadI s.1 (atI (idxI h) 1)), ?_⟩ | refine .inl (.inl ⟨_, s_refIndex (loadI s.1 (atI (idxI h) 1)), ?_⟩)
  conv => whnf
  repeat (refine ⟨by first | omega | (simp only [Option.getD_none, Option.getD_some]; omega) | (simp; done) | (simp; omega), ?_⟩; conv => whnf)
  refine dcase (fun hz => ?_) (fun hz => ?_)
  · rw [if_pos hz]
    conv => whnf
    repeat (refine ⟨by first | omega | (simp only [Option.getD_none, Option.getD_some]; omega) | (simp; done) | (simp; omega), ?_⟩; conv => whnf)
    refine ⟨p_hazelref08_take_19, g_hazelref08_take_19, by kernel_rfl, ?st2, ?_, ?_⟩
    rotate_left
    · conv => whnf
      repeat' (first | (refine ⟨(by decide), ?_⟩; conv => whnf) | (refine .inr (.inl ⟨_, s_refOn s k 10 3 9 (loadM s.1 (atI (idxI h) 1)) (q, v, h, t, (loadI s.1 (atI (idxI h) 1)), 0, 3, y, ()) l hf.cores hf.frames, ?_⟩); conv => whnf) | (refine .inl (.inr (.inl ⟨_, s_refOn s k 10 3 9 (loadM s.1 (atI (idxI h) 1)) (q, v, h, t, (loadI s.1 (atI (idxI h) 1)), 0, 3, y, ()) l hf.cores hf.frames, ?_⟩)); conv => whnf) | (refine .inr (.inl ⟨_, s_refLog (setS ((loadM s.1 (atI (idxI h) 1)), s.2) k (10, 9, (q, v, h, t, (loadI s.1 (atI (idxI h) 1)), 0, 3, y, ()), l, ())) k 0 3 q 0 0 (by rw [setS_log]; exact hf.log), ?_⟩); conv => whnf) | (refine .inl (.inr (.inl ⟨_, s_refLog (setS ((loadM s.1 (atI (idxI h) 1)), s.2) k (10, 9, (q, v, h, t, (loadI s.1 (atI (idxI h) 1)), 0, 3, y, ()), l, ())) k 0 3 q 0 0 (by rw [setS_log]; exact hf.log), ?_⟩)); conv => whnf) | (refine And.intro ?_ ?_ <;> conv => whnf) | exact rfl)
    conv => whnf
    repeat (refine ⟨by first | omega | (simp only [Option.getD_none, Option.getD_some]; omega) | (simp; done) | (simp; omega), ?_⟩; conv => whnf)
    first | exact .inl rfl | exact .inr rfl
  · rw [if_neg hz]
    conv => whnf
    repeat (refine ⟨by first | omega | (simp only [Option.getD_none, Option.getD_some]; omega) | (simp; done) | (simp; omega), ?_⟩; conv => whnf)
    refine ⟨p_hazelref08_take_20, g_hazelref08_take_20, by kernel_rfl, ?st3, ?_, ?_⟩
    rotate_left
    · conv => whnf
      repeat' (first | (refine ⟨(by decide), ?_⟩; conv => whnf) | (refine .inl ⟨_, s_refIndex h, ?_⟩; conv => whnf) | (refine .inl (.inl ⟨_, s_refIndex h, ?_⟩); conv => whnf) | (refine .inl ⟨_, s_refIndex t, ?_⟩; conv => whnf) | (refine .inl (.inl ⟨_, s_refIndex t, ?_⟩); conv => whnf) | (refine And.intro ?_ ?_ <;> conv => whnf) | exact rfl)
    conv => whnf
    repeat (refine ⟨by first | omega | (simp only [Option.getD_none, Option.getD_some]; omega) | (simp; done) | (simp; omega), ?_⟩; conv => whnf)
    refine dcase (fun hz => ?_) (fun hz => ?_)
    · rw [if_pos hz]
      conv => whnf
      repeat (refine ⟨by first | omega | (simp only [Option.getD_none, Option.getD_some]; omega) | (simp; done) | (simp; omega), ?_⟩; conv => whnf)
      first | refine .inr (.inl ⟨_, s_refOn s k 10 3 4 (loadM s.1 (atI (idxI h) 1)) (q, v, h, t, (loadI s.1 (atI (idxI h) 1)), x, e, y, ()) l hf.cores hf.frames, ?_⟩) | refine .inl (.inr (.inl ⟨_, s_refOn s k 10 3 4 (loadM s.1 (atI (idxI h) 1)) (q, v, h, t, (loadI s.1 (atI (idxI h) 1)), x, e, y, ()) l hf.cores hf.frames, ?_⟩))
      conv => whnf
      repeat (refine ⟨by first | omega | (simp only [Option.getD_none, Option.getD_some]; omega) | (simp; done) | (simp; omega), ?_⟩; conv => whnf)
      first | exact .inl rfl | exact .inr rfl
    · rw [if_neg hz]
      conv => whnf
      repeat (refine ⟨by first | omega | (simp only [Option.getD_none, Option.getD_some]; omega) | (simp; done) | (simp; omega), ?_⟩; conv => whnf)
      first | refine .inr (.inl ⟨_, s_refOn s k 10 3 5 (loadM s.1 (atI (idxI h) 1)) (q, v, h, t, (loadI s.1 (atI (idxI h) 1)), x, e, y, ()) l hf.cores hf.frames, ?_⟩) | refine .inl (.inr (.inl ⟨_, s_refOn s k 10 3 5 (loadM s.1 (atI (idxI h) 1)) (q, v, h, t, (loadI s.1 (atI (idxI h) 1)), x, e, y, ()) l hf.cores hf.frames, ?_⟩))
      conv => whnf
      repeat (refine ⟨by first | omega | (simp only [Option.getD_none, Option.getD_some]; omega) | (simp; done) | (simp; omega), ?_⟩; conv => whnf)
      first | exact .inl rfl | exact .inr rfl
theorem s_refTake_4 : Spec Tryz.prog 78 [vS s, vI k, vF (10, 4, (q, v, h, t, w, x, e, y, ()), l, ())] (vS (takeS s k 4 q v h t w x e y l)) := by
  have hg : s.1.2.1.length ≤ 1000000 := Nat.le_trans hf.fits.2 (by decide)
  have hw : s.1.1.length ≤ 1000000 := by have := hf.fits.1; have := hf.fits.2; omega
  rw [show takeS s k 4 q v h t w x e y l = setS ((casM s.1 (33 + 2 * q) t (nextI t (idxI w) 0)), s.2) k (10, 0, (q, v, h, t, w, x, e, y, ()), l, ()) from rfl]
  refine spec_introF true tab_ok 0 Tryz.func78 rfl (by kernel_rfl) rfl ?_
  conv => whnf
  repeat (refine ⟨by first | omega | (simp only [Option.getD_none, Option.getD_some]; omega) | (simp; done) | (simp; omega), ?_⟩; conv => whnf)
  first | refine .inl ⟨_, s_Spot8 q h0 h1, ?_⟩ | refine .inl (.inl ⟨_, s_Spot8 q h0 h1, ?_⟩)
  conv => whnf
  repeat (refine ⟨by first | omega | (simp only [Option.getD_none, Option.getD_some]; omega) | (simp; done) | (simp; omega), ?_⟩; conv => whnf)
  first | refine .inl ⟨_, s_refIndex w, ?_⟩ | refine .inl (.inl ⟨_, s_refIndex w, ?_⟩)
  conv => whnf
  repeat (refine ⟨by first | omega | (simp only [Option.getD_none, Option.getD_some]; omega) | (simp; done) | (simp; omega), ?_⟩; conv => whnf)
  refine ⟨p_hazelref08_take_24, g_hazelref08_take_24, by kernel_rfl, ?st4, ?_, ?_⟩
  rotate_left
  · conv => whnf
    repeat' (first | (refine ⟨(by decide), ?_⟩; conv => whnf) | ((intro z hz; replace hz : z = 33 + 2 * q := (by rw [IntWalk.wrap64_in _ (by omega)] at hz; omega); subst hz; conv => whnf)) | (refine .inl ⟨_, s_refNext8 t (idxI w), ?_⟩; conv => whnf) | (refine .inl (.inl ⟨_, s_refNext8 t (idxI w), ?_⟩); conv => whnf) | (refine .inr (.inl ⟨_, s_refCas s.1 (33 + 2 * q) t (nextI t (idxI w) 0) hf.fits, ?_⟩); conv => whnf) | (refine .inl (.inr (.inl ⟨_, s_refCas s.1 (33 + 2 * q) t (nextI t (idxI w) 0) hf.fits, ?_⟩)); conv => whnf) | (refine And.intro ?_ ?_ <;> conv => whnf) | exact rfl)
  conv => whnf
  repeat (refine ⟨by first | omega | (simp only [Option.getD_none, Option.getD_some]; omega) | (simp; done) | (simp; omega), ?_⟩; conv => whnf)
  first | refine .inr (.inl ⟨_, s_refOn s k 10 4 0 (casM s.1 (33 + 2 * q) t (nextI t (idxI w) 0)) (q, v, h, t, w, x, e, y, ()) l hf.cores hf.frames, ?_⟩) | refine .inl (.inr (.inl ⟨_, s_refOn s k 10 4 0 (casM s.1 (33 + 2 * q) t (nextI t (idxI w) 0)) (q, v, h, t, w, x, e, y, ()) l hf.cores hf.frames, ?_⟩))
  conv => whnf
  repeat (refine ⟨by first | omega | (simp only [Option.getD_none, Option.getD_some]; omega) | (simp; done) | (simp; omega), ?_⟩; conv => whnf)
  first | exact .inl rfl | exact .inr rfl
theorem s_refTake_5 : Spec Tryz.prog 78 [vS s, vI k, vF (10, 5, (q, v, h, t, w, x, e, y, ()), l, ())] (vS (takeS s k 5 q v h t w x e y l)) := by
  have hg : s.1.2.1.length ≤ 1000000 := Nat.le_trans hf.fits.2 (by decide)
  have hw : s.1.1.length ≤ 1000000 := by have := hf.fits.1; have := hf.fits.2; omega
  rw [show takeS s k 5 q v h t w x e y l = setS ((storeM s.1 (placeI k 1) (idxI w)), s.2) k (10, 6, (q, v, h, t, w, x, e, y, ()), l, ()) from rfl]
  refine spec_introF true tab_ok 0 Tryz.func78 rfl (by kernel_rfl) rfl ?_
  conv => whnf
  repeat (refine ⟨by first | omega | (simp only [Option.getD_none, Option.getD_some]; omega) | (simp; done) | (simp; omega), ?_⟩; conv => whnf)
  first | refine .inl ⟨_, s_Spot8 q h0 h1, ?_⟩ | refine .inl (.inl ⟨_, s_Spot8 q h0 h1, ?_⟩)
  conv => whnf
  repeat (refine ⟨by first | omega | (simp only [Option.getD_none, Option.getD_some]; omega) | (simp; done) | (simp; omega), ?_⟩; conv => whnf)
  first | refine .inl ⟨_, s_refIndex w, ?_⟩ | refine .inl (.inl ⟨_, s_refIndex w, ?_⟩)
  conv => whnf
  repeat (refine ⟨by first | omega | (simp only [Option.getD_none, Option.getD_some]; omega) | (simp; done) | (simp; omega), ?_⟩; conv => whnf)
  refine ⟨p_hazelref08_take_27, g_hazelref08_take_27, by kernel_rfl, ?st5, ?_, ?_⟩
  rotate_left
  · conv => whnf
    repeat' (first | (refine ⟨(by decide), ?_⟩; conv => whnf) | (refine .inl ⟨_, s_refPlace k 1, ?_⟩; conv => whnf) | (refine .inl (.inl ⟨_, s_refPlace k 1, ?_⟩); conv => whnf) | (refine .inr (.inl ⟨_, s_refStore s.1 (placeI k 1) (idxI w) hg hw, ?_⟩); conv => whnf) | (refine .inl (.inr (.inl ⟨_, s_refStore s.1 (placeI k 1) (idxI w) hg hw, ?_⟩)); conv => whnf) | (refine .inr (.inl ⟨_, s_refOn s k 10 5 6 (storeM s.1 (placeI k 1) (idxI w)) (q, v, h, t, w, x, e, y, ()) l hf.cores hf.frames, ?_⟩); conv => whnf) | (refine .inl (.inr (.inl ⟨_, s_refOn s k 10 5 6 (storeM s.1 (placeI k 1) (idxI w)) (q, v, h, t, w, x, e, y, ()) l hf.cores hf.frames, ?_⟩)); conv => whnf) | (refine And.intro ?_ ?_ <;> conv => whnf) | exact rfl)
  conv => whnf
  repeat (refine ⟨by first | omega | (simp only [Option.getD_none, Option.getD_some]; omega) | (simp; done) | (simp; omega), ?_⟩; conv => whnf)
  first | exact .inl rfl | exact .inr rfl
theorem s_refTake_6 : Spec Tryz.prog 78 [vS s, vI k, vF (10, 6, (q, v, h, t, w, x, e, y, ()), l, ())] (vS (takeS s k 6 q v h t w x e y l)) := by
  have hg : s.1.2.1.length ≤ 1000000 := Nat.le_trans hf.fits.2 (by decide)
  have hw : s.1.1.length ≤ 1000000 := by have := hf.fits.1; have := hf.fits.2; omega
  rw [show takeS s k 6 q v h t w x e y l = (if loadI s.1 (32 + 2 * q) ≠ h then setS (loadM s.1 (32 + 2 * q), s.2) k (10, 0, (q, v, h, t, w, x, e, y, ()), l, ()) else setS (loadM s.1 (32 + 2 * q), s.2) k (10, 7, (q, v, h, t, w, x, e, y, ()), l, ())) from rfl]
  refine spec_introF true tab_ok 0 Tryz.func78 rfl (by kernel_rfl) rfl ?_
  conv => whnf
  repeat (refine ⟨by first | omega | (simp only [Option.getD_none, Option.getD_some]; omega) | (simp; done) | (simp; omega), ?_⟩; conv => whnf)
  first | refine .inl ⟨_, s_Spot8 q h0 h1, ?_⟩ | refine .inl (.inl ⟨_, s_Spot8 q h0 h1, ?_⟩)
  conv => whnf
  repeat (refine ⟨by first | omega | (simp only [Option.getD_none, Option.getD_some]; omega) | (simp; done) | (simp; omega), ?_⟩; conv => whnf)
  first | refine .inl ⟨_, s_refIndex w, ?_⟩ | refine .inl (.inl ⟨_, s_refIndex w, ?_⟩)
  conv => whnf
  repeat (refine ⟨by first | omega | (simp only [Option.getD_none, Option.getD_some]; omega) | (simp; done) | (simp; omega), ?_⟩; conv => whnf)
  first | refine .inr (.inl ⟨_, s_refLoad s.1 (32 + 2 * q) hg, ?_⟩) | refine .inl (.inr (.inl ⟨_, s_refLoad s.1 (32 + 2 * q) hg, ?_⟩))
  conv => whnf
  repeat (refine ⟨by first | omega | (simp only [Option.getD_none, Option.getD_some]; omega) | (simp; done) | (simp; omega), ?_⟩; conv => whnf)
  refine dcase (fun hz => ?_) (fun hz => ?_)
  · rw [if_pos hz]
    conv => whnf
    repeat (refine ⟨by first | omega | (simp only [Option.getD_none, Option.getD_some]; omega) | (simp; done) | (simp; omega), ?_⟩; conv => whnf)
    first | refine .inr (.inl ⟨_, s_refOn s k 10 6 0 (loadM s.1 (32 + 2 * q)) (q, v, h, t, w, x, e, y, ()) l hf.cores hf.frames, ?_⟩) | refine .inl (.inr (.inl ⟨_, s_refOn s k 10 6 0 (loadM s.1 (32 + 2 * q)) (q, v, h, t, w, x, e, y, ()) l hf.cores hf.frames, ?_⟩))
    conv => whnf
    repeat (refine ⟨by first | omega | (simp only [Option.getD_none, Option.getD_some]; omega) | (simp; done) | (simp; omega), ?_⟩; conv => whnf)
    first | exact .inl rfl | exact .inr rfl
  · rw [if_neg hz]
    conv => whnf
    repeat (refine ⟨by first | omega | (simp only [Option.getD_none, Option.getD_some]; omega) | (simp; done) | (simp; omega), ?_⟩; conv => whnf)
    first | refine .inr (.inl ⟨_, s_refOn s k 10 6 7 (loadM s.1 (32 + 2 * q)) (q, v, h, t, w, x, e, y, ()) l hf.cores hf.frames, ?_⟩) | refine .inl (.inr (.inl ⟨_, s_refOn s k 10 6 7 (loadM s.1 (32 + 2 * q)) (q, v, h, t, w, x, e, y, ()) l hf.cores hf.frames, ?_⟩))
    conv => whnf
    repeat (refine ⟨by first | omega | (simp only [Option.getD_none, Option.getD_some]; omega) | (simp; done) | (simp; omega), ?_⟩; conv => whnf)
    first | exact .inl rfl | exact .inr rfl
theorem s_refTake_7 : Spec Tryz.prog 78 [vS s, vI k, vF (10, 7, (q, v, h, t, w, x, e, y, ()), l, ())] (vS (takeS s k 7 q v h t w x e y l)) := by
  have hg : s.1.2.1.length ≤ 1000000 := Nat.le_trans hf.fits.2 (by decide)
  have hw : s.1.1.length ≤ 1000000 := by have := hf.fits.1; have := hf.fits.2; omega
  rw [show takeS s k 7 q v h t w x e y l = setS ((loadM s.1 (atI (idxI w) 3)), s.2) k (10, 8, (q, v, h, t, w, (loadI s.1 (atI (idxI w) 3)), e, y, ()), l, ()) from rfl]
  refine spec_introF true tab_ok 0 Tryz.func78 rfl (by kernel_rfl) rfl ?_
  conv => whnf
  repeat (refine ⟨by first | omega | (simp only [Option.getD_none, Option.getD_some]; omega) | (simp; done) | (simp; omega), ?_⟩; conv => whnf)
  first | refine .inl ⟨_, s_Spot8 q h0 h1, ?_⟩ | refine .inl (.inl ⟨_, s_Spot8 q h0 h1, ?_⟩)
  conv => whnf
  repeat (refine ⟨by first | omega | (simp only [Option.getD_none, Option.getD_some]; omega) | (simp; done) | (simp; omega), ?_⟩; conv => whnf)
  first | refine .inl ⟨_, s_refIndex w, ?_⟩ | refine .inl (.inl ⟨_, s_refIndex w, ?_⟩)
  conv => whnf
  repeat (refine ⟨by first | omega | (simp only [Option.getD_none, Option.getD_some]; omega) | (simp; done) | (simp; omega), ?_⟩; conv => whnf)
  refine ⟨p_hazelref08_take_34, g_hazelref08_take_34, by kernel_rfl, ?st6, ?_, ?_⟩
  rotate_left
  · conv => whnf
    repeat' (first | (refine ⟨(by decide), ?_⟩; conv => whnf) | (refine .inl ⟨_, s_refAt8 w 3, ?_⟩; conv => whnf) | (refine .inl (.inl ⟨_, s_refAt8 w 3, ?_⟩); conv => whnf) | (refine .inr (.inl ⟨_, s_refLoad s.1 (atI (idxI w) 3) hg, ?_⟩); conv => whnf) | (refine .inl (.inr (.inl ⟨_, s_refLoad s.1 (atI (idxI w) 3) hg, ?_⟩)); conv => whnf) | (refine And.intro ?_ ?_ <;> conv => whnf) | exact rfl)
  conv => whnf
  repeat (refine ⟨by first | omega | (simp only [Option.getD_none, Option.getD_some]; omega) | (simp; done) | (simp; omega), ?_⟩; conv => whnf)
  first | refine .inr (.inl ⟨_, s_refOn s k 10 7 8 (loadM s.1 (atI (idxI w) 3)) (q, v, h, t, w, (loadI s.1 (atI (idxI w) 3)), e, y, ()) l hf.cores hf.frames, ?_⟩) | refine .inl (.inr (.inl ⟨_, s_refOn s k 10 7 8 (loadM s.1 (atI (idxI w) 3)) (q, v, h, t, w, (loadI s.1 (atI (idxI w) 3)), e, y, ()) l hf.cores hf.frames, ?_⟩))
  conv => whnf
  repeat (refine ⟨by first | omega | (simp only [Option.getD_none, Option.getD_some]; omega) | (simp; done) | (simp; omega), ?_⟩; conv => whnf)
  first | exact .inl rfl | exact .inr rfl
theorem s_refTake_8 : Spec Tryz.prog 78 [vS s, vI k, vF (10, 8, (q, v, h, t, w, x, e, y, ()), l, ())] (vS (takeS s k 8 q v h t w x e y l)) := by
  have hg : s.1.2.1.length ≤ 1000000 := Nat.le_trans hf.fits.2 (by decide)
  have hw : s.1.1.length ≤ 1000000 := by have := hf.fits.1; have := hf.fits.2; omega
  rw [show takeS s k 8 q v h t w x e y l = (if casB s.1 (32 + 2 * q) h = true then callS (setS (logS ((casM s.1 (32 + 2 * q) h (nextI h (idxI w) 0)), s.2) k 2 q 0 x) k (10, 9, (q, v, h, t, w, x, 0, y, ()), l, ())) k 5 (idxI h) 0 0 else setS ((casM s.1 (32 + 2 * q) h (nextI h (idxI w) 0)), s.2) k (10, 0, (q, v, h, t, w, x, e, y, ()), l, ())) from rfl]
  have hlc : (logS ((casM s.1 (32 + 2 * q) h (nextI h (idxI w) 0)), s.2) k 2 q 0 x).2.1.length ≤ 1000 := by erw [(logS_cores _ _ _ _ _ _).1]; exact hf.cores
  have hlf : ∀ c ∈ (logS ((casM s.1 (32 + 2 * q) h (nextI h (idxI w) 0)), s.2) k 2 q 0 x).2.1, c.1.length ≤ 1000 := by erw [(logS_cores _ _ _ _ _ _).1]; exact hf.frames
  have hC := s_refCas s.1 (32 + 2 * q) h (nextI h (idxI w) 0) hf.fits
  obtain ⟨b, hb⟩ : ∃ b, casB s.1 (32 + 2 * q) h = b := ⟨_, rfl⟩
  rw [hb] at hC ⊢
  refine spec_introF true tab_ok 0 Tryz.func78 rfl (by kernel_rfl) rfl ?_
  conv => whnf
  repeat (refine ⟨by first | omega | (simp only [Option.getD_none, Option.getD_some]; omega) | (simp; done) | (simp; omega), ?_⟩; conv => whnf)
  first | refine .inl ⟨_, s_Spot8 q h0 h1, ?_⟩ | refine .inl (.inl ⟨_, s_Spot8 q h0 h1, ?_⟩)
  conv => whnf
  repeat (refine ⟨by first | omega | (simp only [Option.getD_none, Option.getD_some]; omega) | (simp; done) | (simp; omega), ?_⟩; conv => whnf)
  first | refine .inl ⟨_, s_refIndex w, ?_⟩ | refine .inl (.inl ⟨_, s_refIndex w, ?_⟩)
  conv => whnf
  repeat (refine ⟨by first | omega | (simp only [Option.getD_none, Option.getD_some]; omega) | (simp; done) | (simp; omega), ?_⟩; conv => whnf)
  refine ⟨p_hazelref08_take_38, g_hazelref08_take_38, by kernel_rfl, ?st7, ?_, ?_⟩
  rotate_left
  · conv => whnf
    repeat' (first | (refine ⟨(by decide), ?_⟩; conv => whnf) | (refine .inl ⟨_, s_refNext8 h (idxI w), ?_⟩; conv => whnf) | (refine .inl (.inl ⟨_, s_refNext8 h (idxI w), ?_⟩); conv => whnf) | (refine .inr (.inl ⟨_, hC, ?_⟩); conv => whnf) | (refine .inl (.inr (.inl ⟨_, hC, ?_⟩)); conv => whnf) | (refine And.intro ?_ ?_ <;> conv => whnf) | exact rfl)
  conv => whnf
  repeat (refine ⟨by first | omega | (simp only [Option.getD_none, Option.getD_some]; omega) | (simp; done) | (simp; omega), ?_⟩; conv => whnf)
  cases b with
  | false =>
    rw [if_neg (by decide)]
    conv => whnf
    repeat (refine ⟨by first | omega | (simp only [Option.getD_none, Option.getD_some]; omega) | (simp; done) | (simp; omega), ?_⟩; conv => whnf)
    first | refine .inr (.inl ⟨_, s_refOn s k 10 8 0 (casM s.1 (32 + 2 * q) h (nextI h (idxI w) 0)) (q, v, h, t, w, x, e, y, ()) l hf.cores hf.frames, ?_⟩) | refine .inl (.inr (.inl ⟨_, s_refOn s k 10 8 0 (casM s.1 (32 + 2 * q) h (nextI h (idxI w) 0)) (q, v, h, t, w, x, e, y, ()) l hf.cores hf.frames, ?_⟩))
    conv => whnf
    repeat (refine ⟨by first | omega | (simp only [Option.getD_none, Option.getD_some]; omega) | (simp; done) | (simp; omega), ?_⟩; conv => whnf)
    first | exact .inl rfl | exact .inr rfl
  | true =>
    rw [if_pos rfl]
    conv => whnf
    repeat (refine ⟨by first | omega | (simp only [Option.getD_none, Option.getD_some]; omega) | (simp; done) | (simp; omega), ?_⟩; conv => whnf)
    refine ⟨p_hazelref08_take_42, g_hazelref08_take_42, by kernel_rfl, ?st8, ?_, ?_⟩
    rotate_left
    · conv => whnf
      repeat' (first | (refine ⟨(by decide), ?_⟩; conv => whnf) | (refine .inr (.inl ⟨_, s_refMem s (casM s.1 (32 + 2 * q) h (nextI h (idxI w) 0)), ?_⟩); conv => whnf) | (refine .inl (.inr (.inl ⟨_, s_refMem s (casM s.1 (32 + 2 * q) h (nextI h (idxI w) 0)), ?_⟩)); conv => whnf) | (refine .inr (.inl ⟨_, s_refLog ((casM s.1 (32 + 2 * q) h (nextI h (idxI w) 0)), s.2) k 0 2 q 0 x hf.log, ?_⟩); conv => whnf) | (refine .inl (.inr (.inl ⟨_, s_refLog ((casM s.1 (32 + 2 * q) h (nextI h (idxI w) 0)), s.2) k 0 2 q 0 x hf.log, ?_⟩)); conv => whnf) | (refine And.intro ?_ ?_ <;> conv => whnf) | exact rfl)
    conv => whnf
    repeat (refine ⟨by first | omega | (simp only [Option.getD_none, Option.getD_some]; omega) | (simp; done) | (simp; omega), ?_⟩; conv => whnf)
    refine ⟨p_hazelref08_take_43, g_hazelref08_take_43, by kernel_rfl, ?st9, ?_, ?_⟩
    rotate_left
    · conv => whnf
      repeat' (first | (refine ⟨(by decide), ?_⟩; conv => whnf) | (refine .inl ⟨_, s_refIndex h, ?_⟩; conv => whnf) | (refine .inl (.inl ⟨_, s_refIndex h, ?_⟩); conv => whnf) | (refine .inr (.inl ⟨_, s_refThen (logS ((casM s.1 (32 + 2 * q) h (nextI h (idxI w) 0)), s.2) k 2 q 0 x) k 10 8 9 5 (idxI h) 0 0 (q, v, h, t, w, x, 0, y, ()) l hlc hlf, ?_⟩); conv => whnf) | (refine .inl (.inr (.inl ⟨_, s_refThen (logS ((casM s.1 (32 + 2 * q) h (nextI h (idxI w) 0)), s.2) k 2 q 0 x) k 10 8 9 5 (idxI h) 0 0 (q, v, h, t, w, x, 0, y, ()) l hlc hlf, ?_⟩)); conv => whnf) | (refine And.intro ?_ ?_ <;> conv => whnf) | exact rfl)
    conv => whnf
    repeat (refine ⟨by first | omega | (simp only [Option.getD_none, Option.getD_some]; omega) | (simp; done) | (simp; omega), ?_⟩; conv => whnf)
    first | exact .inl rfl | exact .inr rfl
theorem s_refTake_9 : Spec Tryz.prog 78 [vS s, vI k, vF (10, 9, (q, v, h, t, w, x, e, y, ()), l, ())] (vS (takeS s k 9 q v h t w x e y l)) := by
  have hg : s.1.2.1.length ≤ 1000000 := Nat.le_trans hf.fits.2 (by decide)
  have hw : s.1.1.length ≤ 1000000 := by have := hf.fits.1; have := hf.fits.2; omega
  rw [show takeS s k 9 q v h t w x e y l = setS ((storeM s.1 (placeI k 0) 0), s.2) k (10, 10, (q, v, h, t, w, x, e, y, ()), l, ()) from rfl]
  refine spec_introF true tab_ok 0 Tryz.func78 rfl (by kernel_rfl) rfl ?_
  conv => whnf
  repeat (refine ⟨by first | omega | (simp only [Option.getD_none, Option.getD_some]; omega) | (simp; done) | (simp; omega), ?_⟩; conv => whnf)
  first | refine .inl ⟨_, s_Spot8 q h0 h1, ?_⟩ | refine .inl (.inl ⟨_, s_Spot8 q h0 h1, ?_⟩)
  conv => whnf
  repeat (refine ⟨by first | omega | (simp only [Option.getD_none, Option.getD_some]; omega) | (simp; done) | (simp; omega), ?_⟩; conv => whnf)
  first | refine .inl ⟨_, s_refIndex w, ?_⟩ | refine .inl (.inl ⟨_, s_refIndex w, ?_⟩)
  conv => whnf
  repeat (refine ⟨by first | omega | (simp only [Option.getD_none, Option.getD_some]; omega) | (simp; done) | (simp; omega), ?_⟩; conv => whnf)
  refine ⟨p_hazelref08_take_45, g_hazelref08_take_45, by kernel_rfl, ?st10, ?_, ?_⟩
  rotate_left
  · conv => whnf
    repeat' (first | (refine ⟨(by decide), ?_⟩; conv => whnf) | (refine .inl ⟨_, s_refPlace k 0, ?_⟩; conv => whnf) | (refine .inl (.inl ⟨_, s_refPlace k 0, ?_⟩); conv => whnf) | (refine .inr (.inl ⟨_, s_refStore s.1 (placeI k 0) 0 hg hw, ?_⟩); conv => whnf) | (refine .inl (.inr (.inl ⟨_, s_refStore s.1 (placeI k 0) 0 hg hw, ?_⟩)); conv => whnf) | (refine .inr (.inl ⟨_, s_refOn s k 10 9 10 (storeM s.1 (placeI k 0) 0) (q, v, h, t, w, x, e, y, ()) l hf.cores hf.frames, ?_⟩); conv => whnf) | (refine .inl (.inr (.inl ⟨_, s_refOn s k 10 9 10 (storeM s.1 (placeI k 0) 0) (q, v, h, t, w, x, e, y, ()) l hf.cores hf.frames, ?_⟩)); conv => whnf) | (refine And.intro ?_ ?_ <;> conv => whnf) | exact rfl)
  conv => whnf
  repeat (refine ⟨by first | omega | (simp only [Option.getD_none, Option.getD_some]; omega) | (simp; done) | (simp; omega), ?_⟩; conv => whnf)
  first | exact .inl rfl | exact .inr rfl
theorem s_refTake_10 : Spec Tryz.prog 78 [vS s, vI k, vF (10, 10, (q, v, h, t, w, x, e, y, ()), l, ())] (vS (takeS s k 10 q v h t w x e y l)) := by
  have hg : s.1.2.1.length ≤ 1000000 := Nat.le_trans hf.fits.2 (by decide)
  have hw : s.1.1.length ≤ 1000000 := by have := hf.fits.1; have := hf.fits.2; omega
  rw [show takeS s k 10 q v h t w x e y l = backS ((storeM s.1 (placeI k 1) 0), s.2) k x e from rfl]
  refine spec_introF true tab_ok 0 Tryz.func78 rfl (by kernel_rfl) rfl ?_
  conv => whnf
  repeat (refine ⟨by first | omega | (simp only [Option.getD_none, Option.getD_some]; omega) | (simp; done) | (simp; omega), ?_⟩; conv => whnf)
  first | refine .inl ⟨_, s_Spot8 q h0 h1, ?_⟩ | refine .inl (.inl ⟨_, s_Spot8 q h0 h1, ?_⟩)
  conv => whnf
  repeat (refine ⟨by first | omega | (simp only [Option.getD_none, Option.getD_some]; omega) | (simp; done) | (simp; omega), ?_⟩; conv => whnf)
  first | refine .inl ⟨_, s_refIndex w, ?_⟩ | refine .inl (.inl ⟨_, s_refIndex w, ?_⟩)
  conv => whnf
  repeat (refine ⟨by first | omega | (simp only [Option.getD_none, Option.getD_some]; omega) | (simp; done) | (simp; omega), ?_⟩; conv => whnf)
  refine ⟨p_hazelref08_take_47, g_hazelref08_take_47, by kernel_rfl, ?st11, ?_, ?_⟩
  rotate_left
  · conv => whnf
    repeat' (first | (refine .inl ⟨_, s_refPlace k 1, ?_⟩; conv => whnf) | (refine .inl (.inl ⟨_, s_refPlace k 1, ?_⟩); conv => whnf) | (refine .inr (.inl ⟨_, s_refStore s.1 (placeI k 1) 0 hg hw, ?_⟩); conv => whnf) | (refine .inl (.inr (.inl ⟨_, s_refStore s.1 (placeI k 1) 0 hg hw, ?_⟩)); conv => whnf) | (refine And.intro ?_ ?_ <;> conv => whnf) | exact rfl)
  conv => whnf
  repeat (refine ⟨by first | omega | (simp only [Option.getD_none, Option.getD_some]; omega) | (simp; done) | (simp; omega), ?_⟩; conv => whnf)
  refine ⟨p_hazelref08_take_48, g_hazelref08_take_48, by kernel_rfl, ?st12, ?_, ?_⟩
  rotate_left
  · conv => whnf
    repeat' (first | (refine ⟨(by decide), ?_⟩; conv => whnf) | (refine .inr (.inl ⟨_, s_refMem s (storeM s.1 (placeI k 1) 0), ?_⟩); conv => whnf) | (refine .inl (.inr (.inl ⟨_, s_refMem s (storeM s.1 (placeI k 1) 0), ?_⟩)); conv => whnf) | (refine .inr (.inl ⟨_, s_refBack ((storeM s.1 (placeI k 1) 0), s.2) k x e hf.cores hf.frames, ?_⟩); conv => whnf) | (refine .inl (.inr (.inl ⟨_, s_refBack ((storeM s.1 (placeI k 1) 0), s.2) k x e hf.cores hf.frames, ?_⟩)); conv => whnf) | (refine And.intro ?_ ?_ <;> conv => whnf) | exact rfl)
  conv => whnf
  repeat (refine ⟨by first | omega | (simp only [Option.getD_none, Option.getD_some]; omega) | (simp; done) | (simp; omega), ?_⟩; conv => whnf)
  first | exact .inl rfl | exact .inr rfl
end
end Go.Proofs.YtpobngddiifdpaaGreat.V
