/- Queues: what a step of OEnq does; the document's step. -/
import Derived.Test.YtpobngddiifdpaaGreatZbR5
set_option linter.unusedSimpArgs false
set_option linter.unusedVariables false
namespace Go.Proofs.YtpobngddiifdpaaGreat.V
open Go Go.RowKit Go.Proofs.YtpobngddiifdpaaGreat.Hz
set_option maxRecDepth 100000

theorem s_Spot8 (q : Int) (h0 : 0 ≤ q) (h1 : q ≤ 7) : Spec Tryz.prog 22 [vI q] (vI (32 + 2 * q)) := by
  refine spec_introF true tab_ok 0 Tryz.func22 rfl (by kernel_rfl) rfl ?_
  conv => whnf
  intro z hz
  replace hz : z = 2 * q := hz.trans (IntWalk.wrap64_in _ (by omega))
  subst hz
  conv => whnf
  intro z hz
  replace hz : z = 32 + 2 * q := hz.trans (IntWalk.wrap64_in _ (by omega))
  subst hz
  conv => whnf
  first | exact .inl rfl | exact .inr rfl
theorem s_refAt8 (w c : Int) : Spec Tryz.prog 144 [vI w, vI c] (vI (atI (idxI w) c)) := by
  refine spec_introF true tab_ok 0 Tryz.func144 rfl (by kernel_rfl) rfl ?_
  conv => whnf
  first | refine .inl ⟨_, s_refIndex w, ?_⟩ | refine .inl (.inl ⟨_, s_refIndex w, ?_⟩)
  conv => whnf
  repeat (refine ⟨by first | omega | (simp only [Option.getD_none, Option.getD_some]; omega) | (simp; done) | (simp; omega), ?_⟩; conv => whnf)
  first | refine .inl ⟨_, s_refAt _ _, ?_⟩ | refine .inl (.inl ⟨_, s_refAt _ _, ?_⟩)
  conv => whnf
  repeat (refine ⟨by first | omega | (simp only [Option.getD_none, Option.getD_some]; omega) | (simp; done) | (simp; omega), ?_⟩; conv => whnf)
  first | exact .inl rfl | exact .inr rfl
theorem s_refNext8 (w i : Int) : Spec Tryz.prog 143 [vI w, vI i] (vI (nextI w i 0)) := by
  refine spec_introF true tab_ok 0 Tryz.func143 rfl (by kernel_rfl) rfl ?_
  conv => whnf
  first | refine .inl ⟨_, s_refNext _ _ _, ?_⟩ | refine .inl (.inl ⟨_, s_refNext _ _ _, ?_⟩)
  conv => whnf
  repeat (refine ⟨by first | omega | (simp only [Option.getD_none, Option.getD_some]; omega) | (simp; done) | (simp; omega), ?_⟩; conv => whnf)
  first | exact .inl rfl | exact .inr rfl
/-- A core's value and error. -/
abbrev coV (s : Sy) (k : Int) : Int := (cAt s.2.1 k).2.1
abbrev coE (s : Sy) (k : Int) : Int := (cAt s.2.1 k).2.2.1
/-- A step of OEnq: of queue q, value v, node n, tail t, next w. -/
def putS (s : Sy) (k pc q v n t w : Int) (r : Den (.cons tI (.cons tI (.cons tI .nil)))) (l : Li) : Sy :=
  if pc = 0 then callS (setS s k (9, 1, (q, v, n, t, w, r), l, ())) k 7 0 0 0
  else if pc = 1 then (if coE s k ≠ 0 then backS s k 0 (coE s k) else setS s k (9, 2, (q, v, coV s k, t, w, r), l, ()))
  else if pc = 2 then setS (storeM s.1 (atI n 3) v, s.2) k (9, 3, (q, v, n, t, w, r), l, ())
  else if pc = 3 then setS (loadM s.1 (atI n 1), s.2) k (9, 4, (q, v, n, t, loadI s.1 (atI n 1), r), l, ())
  else if pc = 4 then setS (storeM s.1 (atI n 1) (nextI w 0 0), s.2) k (9, 5, (q, v, n, t, w, r), l, ())
  else if pc = 5 then callS (setS s k (9, 6, (q, v, n, t, w, r), l, ())) k 3 (33 + 2 * q) 0 0
  else if pc = 6 then setS s k (9, 7, (q, v, n, coV s k, w, r), l, ())
  else if pc = 7 then setS (loadM s.1 (atI (idxI t) 1), s.2) k (9, (if idxI (loadI s.1 (atI (idxI t) 1)) = 0 then 9 else 8), (q, v, n, t, loadI s.1 (atI (idxI t) 1), r), l, ())
  else if pc = 8 then setS (casM s.1 (33 + 2 * q) t (nextI t (idxI w) 0), s.2) k (9, 5, (q, v, n, t, w, r), l, ())
  else if pc = 9 then (if casB s.1 (atI (idxI t) 1) w = true then logS (setS (casM s.1 (atI (idxI t) 1) w (nextI w n 0), s.2) k (9, 10, (q, v, n, t, w, r), l, ())) k 1 q 0 v else setS (casM s.1 (atI (idxI t) 1) w (nextI w n 0), s.2) k (9, 5, (q, v, n, t, w, r), l, ()))
  else if pc = 10 then setS (casM s.1 (33 + 2 * q) t (nextI t n 0), s.2) k (9, 11, (q, v, n, t, w, r), l, ())
  else if pc = 11 then backS (storeM s.1 (placeI k 0) 0, s.2) k 0 0
  else s
theorem setS_log {s : Sy} {k : Int} {f : Frm} : (setS s k f).2.2.1 = s.2.2.1 := by
  unfold setS
  split
  · rfl
  · rfl
section
variable (s : Sy) (k q v n t w : Int) (r : Den (.cons tI (.cons tI (.cons tI .nil)))) (l : Li) (h0 : 0 ≤ q) (h1 : q ≤ 7) (hf : Fine s)
include h0 h1 hf
theorem s_refPut_0 : Spec Tryz.prog 77 [vS s, vI k, vF (9, 0, (q, v, n, t, w, r), l, ())] (vS (putS s k 0 q v n t w r l)) := by
  refine spec_introF true tab_ok 0 Tryz.func77 rfl (by kernel_rfl) rfl ?_
  conv => whnf
  repeat (refine ⟨by first | omega | (simp only [Option.getD_none, Option.getD_some]; omega) | (simp; done) | (simp; omega), ?_⟩; conv => whnf)
  first | refine .inl ⟨_, s_Spot8 q h0 h1, ?_⟩ | refine .inl (.inl ⟨_, s_Spot8 q h0 h1, ?_⟩)
  conv => whnf
  intro z hz
  replace hz : z = 33 + 2 * q := by rw [IntWalk.wrap64_in _ (by omega)] at hz; omega
  subst hz
  conv => whnf
  repeat (refine ⟨by first | omega | (simp only [Option.getD_none, Option.getD_some]; omega) | (simp; done) | (simp; omega), ?_⟩; conv => whnf)
  first | refine .inr (.inl ⟨_, s_refThen s k 9 0 1 7 0 0 0 (q, v, n, t, w, r) l hf.cores hf.frames, ?_⟩) | refine .inl (.inr (.inl ⟨_, s_refThen s k 9 0 1 7 0 0 0 (q, v, n, t, w, r) l hf.cores hf.frames, ?_⟩))
  conv => whnf
  repeat (refine ⟨by first | omega | (simp only [Option.getD_none, Option.getD_some]; omega) | (simp; done) | (simp; omega), ?_⟩; conv => whnf)
  first | exact .inl rfl | exact .inr rfl
theorem s_refPut_1 (hk0 : 0 ≤ k) (hk1 : k < s.2.1.length) : Spec Tryz.prog 77 [vS s, vI k, vF (9, 1, (q, v, n, t, w, r), l, ())] (vS (putS s k 1 q v n t w r l)) := by
  rw [show putS s k 1 q v n t w r l = (if coE s k ≠ 0 then backS s k 0 (coE s k) else setS s k (9, 2, (q, v, coV s k, t, w, r), l, ())) from rfl]
  have hkU : (0 : Int) ≤ k ∧ k < (s.2.1.length : Int) := ⟨hk0, hk1⟩
  refine spec_introF true tab_ok 0 Tryz.func77 rfl (by kernel_rfl) rfl ?_
  conv => whnf
  repeat (refine ⟨by first | omega | (simp only [Option.getD_none, Option.getD_some]; omega) | (simp; done) | (simp; omega), ?_⟩; conv => whnf)
  first | refine .inl ⟨_, s_Spot8 q h0 h1, ?_⟩ | refine .inl (.inl ⟨_, s_Spot8 q h0 h1, ?_⟩)
  conv => whnf
  intro z hz
  replace hz : z = 33 + 2 * q := by rw [IntWalk.wrap64_in _ (by omega)] at hz; omega
  subst hz
  conv => whnf
  repeat (refine ⟨by first | omega | (simp only [Option.getD_none, Option.getD_some]; omega) | (simp; done) | (simp; omega), ?_⟩; conv => whnf)
  refine dcase (fun h => ?_) (fun h => ?_)
  · rw [if_pos h]
    conv => whnf
    repeat (refine ⟨by first | omega | (simp only [Option.getD_none, Option.getD_some]; omega) | (simp; done) | (simp; omega), ?_⟩; conv => whnf)
    refine ⟨p_hazelref08_put_7, g_hazelref08_put_7, by kernel_rfl, ?st1, ?_, ?_⟩
    rotate_left
    · conv => whnf
      repeat' (first | (refine ⟨hkU, ?_⟩; conv => whnf) | (refine .inr (.inl ⟨_, s_refBack s k 0 (coE s k) hf.cores hf.frames, ?_⟩); conv => whnf) | (refine .inl (.inr (.inl ⟨_, s_refBack s k 0 (coE s k) hf.cores hf.frames, ?_⟩)); conv => whnf) | (refine And.intro ?_ ?_ <;> conv => whnf) | exact rfl)
    conv => whnf
    repeat (refine ⟨by first | omega | (simp only [Option.getD_none, Option.getD_some]; omega) | (simp; done) | (simp; omega), ?_⟩; conv => whnf)
    first | exact .inl rfl | exact .inr rfl
  · rw [if_neg h]
    conv => whnf
    repeat (refine ⟨by first | omega | (simp only [Option.getD_none, Option.getD_some]; omega) | (simp; done) | (simp; omega), ?_⟩; conv => whnf)
    first | refine .inr (.inl ⟨_, s_refOn s k 9 1 2 s.1 (q, v, coV s k, t, w, r) l hf.cores hf.frames, ?_⟩) | refine .inl (.inr (.inl ⟨_, s_refOn s k 9 1 2 s.1 (q, v, coV s k, t, w, r) l hf.cores hf.frames, ?_⟩))
    conv => whnf
    repeat (refine ⟨by first | omega | (simp only [Option.getD_none, Option.getD_some]; omega) | (simp; done) | (simp; omega), ?_⟩; conv => whnf)
    first | exact .inl rfl | exact .inr rfl
theorem s_refPut_2 : Spec Tryz.prog 77 [vS s, vI k, vF (9, 2, (q, v, n, t, w, r), l, ())] (vS (putS s k 2 q v n t w r l)) := by
  have hg : s.1.2.1.length ≤ 1000000 := Nat.le_trans hf.fits.2 (by decide)
  have hw : s.1.1.length ≤ 1000000 := by have := hf.fits.1; have := hf.fits.2; omega
  refine spec_introF true tab_ok 0 Tryz.func77 rfl (by kernel_rfl) rfl ?_
  conv => whnf
  repeat (refine ⟨by first | omega | (simp only [Option.getD_none, Option.getD_some]; omega) | (simp; done) | (simp; omega), ?_⟩; conv => whnf)
  first | refine .inl ⟨_, s_Spot8 q h0 h1, ?_⟩ | refine .inl (.inl ⟨_, s_Spot8 q h0 h1, ?_⟩)
  conv => whnf
  intro z hz
  replace hz : z = 33 + 2 * q := by rw [IntWalk.wrap64_in _ (by omega)] at hz; omega
  subst hz
  conv => whnf
  repeat (refine ⟨by first | omega | (simp only [Option.getD_none, Option.getD_some]; omega) | (simp; done) | (simp; omega), ?_⟩; conv => whnf)
  refine ⟨p_hazelref08_put_11, g_hazelref08_put_11, by kernel_rfl, ?st2, ?_, ?_⟩
  rotate_left
  · conv => whnf
    repeat' (first | (refine ⟨(by decide), ?_⟩; conv => whnf) | (refine .inl ⟨_, s_refAt n 3, ?_⟩; conv => whnf) | (refine .inl (.inl ⟨_, s_refAt n 3, ?_⟩); conv => whnf) | (refine .inr (.inl ⟨_, s_refStore s.1 (atI n 3) v hg hw, ?_⟩); conv => whnf) | (refine .inl (.inr (.inl ⟨_, s_refStore s.1 (atI n 3) v hg hw, ?_⟩)); conv => whnf) | (refine .inr (.inl ⟨_, s_refOn s k 9 2 3 (storeM s.1 (atI n 3) v) (q, v, n, t, w, r) l hf.cores hf.frames, ?_⟩); conv => whnf) | (refine .inl (.inr (.inl ⟨_, s_refOn s k 9 2 3 (storeM s.1 (atI n 3) v) (q, v, n, t, w, r) l hf.cores hf.frames, ?_⟩)); conv => whnf) | (refine And.intro ?_ ?_ <;> conv => whnf) | exact rfl)
  conv => whnf
  repeat (refine ⟨by first | omega | (simp only [Option.getD_none, Option.getD_some]; omega) | (simp; done) | (simp; omega), ?_⟩; conv => whnf)
  first | exact .inl rfl | exact .inr rfl
theorem s_refPut_3 : Spec Tryz.prog 77 [vS s, vI k, vF (9, 3, (q, v, n, t, w, r), l, ())] (vS (putS s k 3 q v n t w r l)) := by
  have hg : s.1.2.1.length ≤ 1000000 := Nat.le_trans hf.fits.2 (by decide)
  have hw : s.1.1.length ≤ 1000000 := by have := hf.fits.1; have := hf.fits.2; omega
  refine spec_introF true tab_ok 0 Tryz.func77 rfl (by kernel_rfl) rfl ?_
  conv => whnf
  repeat (refine ⟨by first | omega | (simp only [Option.getD_none, Option.getD_some]; omega) | (simp; done) | (simp; omega), ?_⟩; conv => whnf)
  first | refine .inl ⟨_, s_Spot8 q h0 h1, ?_⟩ | refine .inl (.inl ⟨_, s_Spot8 q h0 h1, ?_⟩)
  conv => whnf
  intro z hz
  replace hz : z = 33 + 2 * q := by rw [IntWalk.wrap64_in _ (by omega)] at hz; omega
  subst hz
  conv => whnf
  repeat (refine ⟨by first | omega | (simp only [Option.getD_none, Option.getD_some]; omega) | (simp; done) | (simp; omega), ?_⟩; conv => whnf)
  refine ⟨p_hazelref08_put_13, g_hazelref08_put_13, by kernel_rfl, ?st3, ?_, ?_⟩
  rotate_left
  · conv => whnf
    repeat' (first | (refine ⟨(by decide), ?_⟩; conv => whnf) | (refine .inl ⟨_, s_refAt n 1, ?_⟩; conv => whnf) | (refine .inl (.inl ⟨_, s_refAt n 1, ?_⟩); conv => whnf) | (refine .inr (.inl ⟨_, s_refLoad s.1 (atI n 1) hg, ?_⟩); conv => whnf) | (refine .inl (.inr (.inl ⟨_, s_refLoad s.1 (atI n 1) hg, ?_⟩)); conv => whnf) | (refine And.intro ?_ ?_ <;> conv => whnf) | exact rfl)
  conv => whnf
  repeat (refine ⟨by first | omega | (simp only [Option.getD_none, Option.getD_some]; omega) | (simp; done) | (simp; omega), ?_⟩; conv => whnf)
  first | refine .inr (.inl ⟨_, s_refOn s k 9 3 4 (loadM s.1 (atI n 1)) (q, v, n, t, loadI s.1 (atI n 1), r) l hf.cores hf.frames, ?_⟩) | refine .inl (.inr (.inl ⟨_, s_refOn s k 9 3 4 (loadM s.1 (atI n 1)) (q, v, n, t, loadI s.1 (atI n 1), r) l hf.cores hf.frames, ?_⟩))
  conv => whnf
  repeat (refine ⟨by first | omega | (simp only [Option.getD_none, Option.getD_some]; omega) | (simp; done) | (simp; omega), ?_⟩; conv => whnf)
  first | exact .inl rfl | exact .inr rfl
theorem s_refPut_4 : Spec Tryz.prog 77 [vS s, vI k, vF (9, 4, (q, v, n, t, w, r), l, ())] (vS (putS s k 4 q v n t w r l)) := by
  have hg : s.1.2.1.length ≤ 1000000 := Nat.le_trans hf.fits.2 (by decide)
  have hw : s.1.1.length ≤ 1000000 := by have := hf.fits.1; have := hf.fits.2; omega
  refine spec_introF true tab_ok 0 Tryz.func77 rfl (by kernel_rfl) rfl ?_
  conv => whnf
  repeat (refine ⟨by first | omega | (simp only [Option.getD_none, Option.getD_some]; omega) | (simp; done) | (simp; omega), ?_⟩; conv => whnf)
  first | refine .inl ⟨_, s_Spot8 q h0 h1, ?_⟩ | refine .inl (.inl ⟨_, s_Spot8 q h0 h1, ?_⟩)
  conv => whnf
  intro z hz
  replace hz : z = 33 + 2 * q := by rw [IntWalk.wrap64_in _ (by omega)] at hz; omega
  subst hz
  conv => whnf
  repeat (refine ⟨by first | omega | (simp only [Option.getD_none, Option.getD_some]; omega) | (simp; done) | (simp; omega), ?_⟩; conv => whnf)
  refine ⟨p_hazelref08_put_17, g_hazelref08_put_17, by kernel_rfl, ?st4, ?_, ?_⟩
  rotate_left
  · conv => whnf
    repeat' (first | (refine ⟨(by decide), ?_⟩; conv => whnf) | (refine .inl ⟨_, s_refAt n 1, ?_⟩; conv => whnf) | (refine .inl (.inl ⟨_, s_refAt n 1, ?_⟩); conv => whnf) | (refine .inl ⟨_, s_refNext8 w 0, ?_⟩; conv => whnf) | (refine .inl (.inl ⟨_, s_refNext8 w 0, ?_⟩); conv => whnf) | (refine .inr (.inl ⟨_, s_refStore s.1 (atI n 1) (nextI w 0 0) hg hw, ?_⟩); conv => whnf) | (refine .inl (.inr (.inl ⟨_, s_refStore s.1 (atI n 1) (nextI w 0 0) hg hw, ?_⟩)); conv => whnf) | (refine .inr (.inl ⟨_, s_refOn s k 9 4 5 (storeM s.1 (atI n 1) (nextI w 0 0)) (q, v, n, t, w, r) l hf.cores hf.frames, ?_⟩); conv => whnf) | (refine .inl (.inr (.inl ⟨_, s_refOn s k 9 4 5 (storeM s.1 (atI n 1) (nextI w 0 0)) (q, v, n, t, w, r) l hf.cores hf.frames, ?_⟩)); conv => whnf) | (refine And.intro ?_ ?_ <;> conv => whnf) | exact rfl)
  conv => whnf
  repeat (refine ⟨by first | omega | (simp only [Option.getD_none, Option.getD_some]; omega) | (simp; done) | (simp; omega), ?_⟩; conv => whnf)
  first | exact .inl rfl | exact .inr rfl
theorem s_refPut_5 : Spec Tryz.prog 77 [vS s, vI k, vF (9, 5, (q, v, n, t, w, r), l, ())] (vS (putS s k 5 q v n t w r l)) := by
  have hg : s.1.2.1.length ≤ 1000000 := Nat.le_trans hf.fits.2 (by decide)
  have hw : s.1.1.length ≤ 1000000 := by have := hf.fits.1; have := hf.fits.2; omega
  refine spec_introF true tab_ok 0 Tryz.func77 rfl (by kernel_rfl) rfl ?_
  conv => whnf
  repeat (refine ⟨by first | omega | (simp only [Option.getD_none, Option.getD_some]; omega) | (simp; done) | (simp; omega), ?_⟩; conv => whnf)
  first | refine .inl ⟨_, s_Spot8 q h0 h1, ?_⟩ | refine .inl (.inl ⟨_, s_Spot8 q h0 h1, ?_⟩)
  conv => whnf
  intro z hz
  replace hz : z = 33 + 2 * q := by rw [IntWalk.wrap64_in _ (by omega)] at hz; omega
  subst hz
  conv => whnf
  repeat (refine ⟨by first | omega | (simp only [Option.getD_none, Option.getD_some]; omega) | (simp; done) | (simp; omega), ?_⟩; conv => whnf)
  first | refine .inr (.inl ⟨_, s_refThen s k 9 5 6 3 (33 + 2 * q) 0 0 (q, v, n, t, w, r) l hf.cores hf.frames, ?_⟩) | refine .inl (.inr (.inl ⟨_, s_refThen s k 9 5 6 3 (33 + 2 * q) 0 0 (q, v, n, t, w, r) l hf.cores hf.frames, ?_⟩))
  conv => whnf
  repeat (refine ⟨by first | omega | (simp only [Option.getD_none, Option.getD_some]; omega) | (simp; done) | (simp; omega), ?_⟩; conv => whnf)
  first | exact .inl rfl | exact .inr rfl
theorem s_refPut_6 (hk0 : 0 ≤ k) (hk1 : k < s.2.1.length) : Spec Tryz.prog 77 [vS s, vI k, vF (9, 6, (q, v, n, t, w, r), l, ())] (vS (putS s k 6 q v n t w r l)) := by
  have hg : s.1.2.1.length ≤ 1000000 := Nat.le_trans hf.fits.2 (by decide)
  have hw : s.1.1.length ≤ 1000000 := by have := hf.fits.1; have := hf.fits.2; omega
  refine spec_introF true tab_ok 0 Tryz.func77 rfl (by kernel_rfl) rfl ?_
  conv => whnf
  repeat (refine ⟨by first | omega | (simp only [Option.getD_none, Option.getD_some]; omega) | (simp; done) | (simp; omega), ?_⟩; conv => whnf)
  first | refine .inl ⟨_, s_Spot8 q h0 h1, ?_⟩ | refine .inl (.inl ⟨_, s_Spot8 q h0 h1, ?_⟩)
  conv => whnf
  intro z hz
  replace hz : z = 33 + 2 * q := by rw [IntWalk.wrap64_in _ (by omega)] at hz; omega
  subst hz
  conv => whnf
  repeat (refine ⟨by first | omega | (simp only [Option.getD_none, Option.getD_some]; omega) | (simp; done) | (simp; omega), ?_⟩; conv => whnf)
  first | refine .inr (.inl ⟨_, s_refOn s k 9 6 7 s.1 (q, v, n, coV s k, w, r) l hf.cores hf.frames, ?_⟩) | refine .inl (.inr (.inl ⟨_, s_refOn s k 9 6 7 s.1 (q, v, n, coV s k, w, r) l hf.cores hf.frames, ?_⟩))
  conv => whnf
  repeat (refine ⟨by first | omega | (simp only [Option.getD_none, Option.getD_some]; omega) | (simp; done) | (simp; omega), ?_⟩; conv => whnf)
  first | exact .inl rfl | exact .inr rfl
theorem s_refPut_7 : Spec Tryz.prog 77 [vS s, vI k, vF (9, 7, (q, v, n, t, w, r), l, ())] (vS (putS s k 7 q v n t w r l)) := by
  have hg : s.1.2.1.length ≤ 1000000 := Nat.le_trans hf.fits.2 (by decide)
  have hw : s.1.1.length ≤ 1000000 := by have := hf.fits.1; have := hf.fits.2; omega
  rw [show putS s k 7 q v n t w r l = setS ((loadM s.1 (atI (idxI t) 1)), s.2) k (9, (if idxI (loadI s.1 (atI (idxI t) 1)) = 0 then 9 else 8), (q, v, n, t, (loadI s.1 (atI (idxI t) 1)), r), l, ()) from rfl]
  refine spec_introF true tab_ok 0 Tryz.func77 rfl (by kernel_rfl) rfl ?_
  conv => whnf
  repeat (refine ⟨by first | omega | (simp only [Option.getD_none, Option.getD_some]; omega) | (simp; done) | (simp; omega), ?_⟩; conv => whnf)
  first | refine .inl ⟨_, s_Spot8 q h0 h1, ?_⟩ | refine .inl (.inl ⟨_, s_Spot8 q h0 h1, ?_⟩)
  conv => whnf
  intro z hz
  replace hz : z = 33 + 2 * q := by rw [IntWalk.wrap64_in _ (by omega)] at hz; omega
  subst hz
  conv => whnf
  repeat (refine ⟨by first | omega | (simp only [Option.getD_none, Option.getD_some]; omega) | (simp; done) | (simp; omega), ?_⟩; conv => whnf)
  refine ⟨p_hazelref08_put_24, g_hazelref08_put_24, by kernel_rfl, ?st5, ?_, ?_⟩
  rotate_left
  · conv => whnf
    repeat' (first | (refine ⟨(by decide), ?_⟩; conv => whnf) | (refine .inl ⟨_, s_refAt8 t 1, ?_⟩; conv => whnf) | (refine .inl (.inl ⟨_, s_refAt8 t 1, ?_⟩); conv => whnf) | (refine .inr (.inl ⟨_, s_refLoad s.1 (atI (idxI t) 1) hg, ?_⟩); conv => whnf) | (refine .inl (.inr (.inl ⟨_, s_refLoad s.1 (atI (idxI t) 1) hg, ?_⟩)); conv => whnf) | (refine And.intro ?_ ?_ <;> conv => whnf) | exact rfl)
  conv => whnf
  repeat (refine ⟨by first | omega | (simp only [Option.getD_none, Option.getD_some]; omega) | (simp; done) | (simp; omega), ?_⟩; conv => whnf)
  first | refine .inl ⟨_, s_refIndex (loadI s.1 (atI (idxI t) 1)), ?_⟩ | refine .inl (.inl ⟨_, s_refIndex (loadI s.1 (atI (idxI t) 1)), ?_⟩)
  conv => whnf
  repeat (refine ⟨by first | omega | (simp only [Option.getD_none, Option.getD_some]; omega) | (simp; done) | (simp; omega), ?_⟩; conv => whnf)
  refine dcase (fun h => ?_) (fun h => ?_)
  · rw [if_pos h]
    conv => whnf
    repeat (refine ⟨by first | omega | (simp only [Option.getD_none, Option.getD_some]; omega) | (simp; done) | (simp; omega), ?_⟩; conv => whnf)
    first | refine .inr (.inl ⟨_, s_refOn s k 9 7 9 (loadM s.1 (atI (idxI t) 1)) (q, v, n, t, (loadI s.1 (atI (idxI t) 1)), r) l hf.cores hf.frames, ?_⟩) | refine .inl (.inr (.inl ⟨_, s_refOn s k 9 7 9 (loadM s.1 (atI (idxI t) 1)) (q, v, n, t, (loadI s.1 (atI (idxI t) 1)), r) l hf.cores hf.frames, ?_⟩))
    conv => whnf
    repeat (refine ⟨by first | omega | (simp only [Option.getD_none, Option.getD_some]; omega) | (simp; done) | (simp; omega), ?_⟩; conv => whnf)
    first | exact .inl rfl | exact .inr rfl
  · rw [if_neg h]
    conv => whnf
    repeat (refine ⟨by first | omega | (simp only [Option.getD_none, Option.getD_some]; omega) | (simp; done) | (simp; omega), ?_⟩; conv => whnf)
    first | refine .inr (.inl ⟨_, s_refOn s k 9 7 8 (loadM s.1 (atI (idxI t) 1)) (q, v, n, t, (loadI s.1 (atI (idxI t) 1)), r) l hf.cores hf.frames, ?_⟩) | refine .inl (.inr (.inl ⟨_, s_refOn s k 9 7 8 (loadM s.1 (atI (idxI t) 1)) (q, v, n, t, (loadI s.1 (atI (idxI t) 1)), r) l hf.cores hf.frames, ?_⟩))
    conv => whnf
    repeat (refine ⟨by first | omega | (simp only [Option.getD_none, Option.getD_some]; omega) | (simp; done) | (simp; omega), ?_⟩; conv => whnf)
    first | exact .inl rfl | exact .inr rfl
theorem s_refPut_8 : Spec Tryz.prog 77 [vS s, vI k, vF (9, 8, (q, v, n, t, w, r), l, ())] (vS (putS s k 8 q v n t w r l)) := by
  have hg : s.1.2.1.length ≤ 1000000 := Nat.le_trans hf.fits.2 (by decide)
  have hw : s.1.1.length ≤ 1000000 := by have := hf.fits.1; have := hf.fits.2; omega
  refine spec_introF true tab_ok 0 Tryz.func77 rfl (by kernel_rfl) rfl ?_
  conv => whnf
  repeat (refine ⟨by first | omega | (simp only [Option.getD_none, Option.getD_some]; omega) | (simp; done) | (simp; omega), ?_⟩; conv => whnf)
  first | refine .inl ⟨_, s_Spot8 q h0 h1, ?_⟩ | refine .inl (.inl ⟨_, s_Spot8 q h0 h1, ?_⟩)
  conv => whnf
  intro z hz
  replace hz : z = 33 + 2 * q := by rw [IntWalk.wrap64_in _ (by omega)] at hz; omega
  subst hz
  conv => whnf
  repeat (refine ⟨by first | omega | (simp only [Option.getD_none, Option.getD_some]; omega) | (simp; done) | (simp; omega), ?_⟩; conv => whnf)
  refine ⟨p_hazelref08_put_30, g_hazelref08_put_30, by kernel_rfl, ?st6, ?_, ?_⟩
  rotate_left
  · conv => whnf
    repeat' (first | (refine ⟨(by decide), ?_⟩; conv => whnf) | (refine .inl ⟨_, s_refIndex w, ?_⟩; conv => whnf) | (refine .inl (.inl ⟨_, s_refIndex w, ?_⟩); conv => whnf) | (refine .inl ⟨_, s_refNext8 t (idxI w), ?_⟩; conv => whnf) | (refine .inl (.inl ⟨_, s_refNext8 t (idxI w), ?_⟩); conv => whnf) | (refine .inr (.inl ⟨_, s_refCas s.1 (33 + 2 * q) t (nextI t (idxI w) 0) hf.fits, ?_⟩); conv => whnf) | (refine .inl (.inr (.inl ⟨_, s_refCas s.1 (33 + 2 * q) t (nextI t (idxI w) 0) hf.fits, ?_⟩)); conv => whnf) | (refine And.intro ?_ ?_ <;> conv => whnf) | exact rfl)
  conv => whnf
  repeat (refine ⟨by first | omega | (simp only [Option.getD_none, Option.getD_some]; omega) | (simp; done) | (simp; omega), ?_⟩; conv => whnf)
  first | refine .inr (.inl ⟨_, s_refOn s k 9 8 5 (casM s.1 (33 + 2 * q) t (nextI t (idxI w) 0)) (q, v, n, t, w, r) l hf.cores hf.frames, ?_⟩) | refine .inl (.inr (.inl ⟨_, s_refOn s k 9 8 5 (casM s.1 (33 + 2 * q) t (nextI t (idxI w) 0)) (q, v, n, t, w, r) l hf.cores hf.frames, ?_⟩))
  conv => whnf
  repeat (refine ⟨by first | omega | (simp only [Option.getD_none, Option.getD_some]; omega) | (simp; done) | (simp; omega), ?_⟩; conv => whnf)
  first | exact .inl rfl | exact .inr rfl
theorem s_refPut_9 : Spec Tryz.prog 77 [vS s, vI k, vF (9, 9, (q, v, n, t, w, r), l, ())] (vS (putS s k 9 q v n t w r l)) := by
  have hg : s.1.2.1.length ≤ 1000000 := Nat.le_trans hf.fits.2 (by decide)
  have hw : s.1.1.length ≤ 1000000 := by have := hf.fits.1; have := hf.fits.2; omega
  rw [show putS s k 9 q v n t w r l = (if casB s.1 (atI (idxI t) 1) w = true then logS (setS ((casM s.1 (atI (idxI t) 1) w (nextI w n 0)), s.2) k (9, 10, (q, v, n, t, w, r), l, ())) k 1 q 0 v else setS ((casM s.1 (atI (idxI t) 1) w (nextI w n 0)), s.2) k (9, 5, (q, v, n, t, w, r), l, ())) from rfl]
  have hC := s_refCas s.1 (atI (idxI t) 1) w (nextI w n 0) hf.fits
  obtain ⟨b, hb⟩ : ∃ b, casB s.1 (atI (idxI t) 1) w = b := ⟨_, rfl⟩
  rw [hb] at hC ⊢
  refine spec_introF true tab_ok 0 Tryz.func77 rfl (by kernel_rfl) rfl ?_
  conv => whnf
  repeat (refine ⟨by first | omega | (simp only [Option.getD_none, Option.getD_some]; omega) | (simp; done) | (simp; omega), ?_⟩; conv => whnf)
  first | refine .inl ⟨_, s_Spot8 q h0 h1, ?_⟩ | refine .inl (.inl ⟨_, s_Spot8 q h0 h1, ?_⟩)
  conv => whnf
  intro z hz
  replace hz : z = 33 + 2 * q := by rw [IntWalk.wrap64_in _ (by omega)] at hz; omega
  subst hz
  conv => whnf
  repeat (refine ⟨by first | omega | (simp only [Option.getD_none, Option.getD_some]; omega) | (simp; done) | (simp; omega), ?_⟩; conv => whnf)
  refine ⟨p_hazelref08_put_33, g_hazelref08_put_33, by kernel_rfl, ?st7, ?_, ?_⟩
  rotate_left
  · conv => whnf
    repeat' (first | (refine ⟨(by decide), ?_⟩; conv => whnf) | (refine .inl ⟨_, s_refAt8 t 1, ?_⟩; conv => whnf) | (refine .inl (.inl ⟨_, s_refAt8 t 1, ?_⟩); conv => whnf) | (refine .inl ⟨_, s_refNext8 w n, ?_⟩; conv => whnf) | (refine .inl (.inl ⟨_, s_refNext8 w n, ?_⟩); conv => whnf) | (refine .inr (.inl ⟨_, hC, ?_⟩); conv => whnf) | (refine .inl (.inr (.inl ⟨_, hC, ?_⟩)); conv => whnf) | (refine And.intro ?_ ?_ <;> conv => whnf) | exact rfl)
  conv => whnf
  repeat (refine ⟨by first | omega | (simp only [Option.getD_none, Option.getD_some]; omega) | (simp; done) | (simp; omega), ?_⟩; conv => whnf)
  cases b with
  | false =>
    rw [if_neg (by decide)]
    conv => whnf
    repeat (refine ⟨by first | omega | (simp only [Option.getD_none, Option.getD_some]; omega) | (simp; done) | (simp; omega), ?_⟩; conv => whnf)
    first | refine .inr (.inl ⟨_, s_refOn s k 9 9 5 (casM s.1 (atI (idxI t) 1) w (nextI w n 0)) (q, v, n, t, w, r) l hf.cores hf.frames, ?_⟩) | refine .inl (.inr (.inl ⟨_, s_refOn s k 9 9 5 (casM s.1 (atI (idxI t) 1) w (nextI w n 0)) (q, v, n, t, w, r) l hf.cores hf.frames, ?_⟩))
    conv => whnf
    repeat (refine ⟨by first | omega | (simp only [Option.getD_none, Option.getD_some]; omega) | (simp; done) | (simp; omega), ?_⟩; conv => whnf)
    first | exact .inl rfl | exact .inr rfl
  | true =>
    rw [if_pos rfl]
    conv => whnf
    repeat (refine ⟨by first | omega | (simp only [Option.getD_none, Option.getD_some]; omega) | (simp; done) | (simp; omega), ?_⟩; conv => whnf)
    refine ⟨p_hazelref08_put_36, g_hazelref08_put_36, by kernel_rfl, ?st8, ?_, ?_⟩
    rotate_left
    · conv => whnf
      repeat' (first | (refine ⟨(by decide), ?_⟩; conv => whnf) | (refine .inr (.inl ⟨_, s_refOn s k 9 9 10 (casM s.1 (atI (idxI t) 1) w (nextI w n 0)) (q, v, n, t, w, r) l hf.cores hf.frames, ?_⟩); conv => whnf) | (refine .inl (.inr (.inl ⟨_, s_refOn s k 9 9 10 (casM s.1 (atI (idxI t) 1) w (nextI w n 0)) (q, v, n, t, w, r) l hf.cores hf.frames, ?_⟩)); conv => whnf) | (refine .inr (.inl ⟨_, s_refLog (setS ((casM s.1 (atI (idxI t) 1) w (nextI w n 0)), s.2) k (9, 10, (q, v, n, t, w, r), l, ())) k 0 1 q 0 v (by rw [setS_log]; exact hf.log), ?_⟩); conv => whnf) | (refine .inl (.inr (.inl ⟨_, s_refLog (setS ((casM s.1 (atI (idxI t) 1) w (nextI w n 0)), s.2) k (9, 10, (q, v, n, t, w, r), l, ())) k 0 1 q 0 v (by rw [setS_log]; exact hf.log), ?_⟩)); conv => whnf) | (refine And.intro ?_ ?_ <;> conv => whnf) | exact rfl)
    conv => whnf
    repeat (refine ⟨by first | omega | (simp only [Option.getD_none, Option.getD_some]; omega) | (simp; done) | (simp; omega), ?_⟩; conv => whnf)
    first | exact .inl rfl | exact .inr rfl
theorem s_refPut_10 : Spec Tryz.prog 77 [vS s, vI k, vF (9, 10, (q, v, n, t, w, r), l, ())] (vS (putS s k 10 q v n t w r l)) := by
  have hg : s.1.2.1.length ≤ 1000000 := Nat.le_trans hf.fits.2 (by decide)
  have hw : s.1.1.length ≤ 1000000 := by have := hf.fits.1; have := hf.fits.2; omega
  refine spec_introF true tab_ok 0 Tryz.func77 rfl (by kernel_rfl) rfl ?_
  conv => whnf
  repeat (refine ⟨by first | omega | (simp only [Option.getD_none, Option.getD_some]; omega) | (simp; done) | (simp; omega), ?_⟩; conv => whnf)
  first | refine .inl ⟨_, s_Spot8 q h0 h1, ?_⟩ | refine .inl (.inl ⟨_, s_Spot8 q h0 h1, ?_⟩)
  conv => whnf
  intro z hz
  replace hz : z = 33 + 2 * q := by rw [IntWalk.wrap64_in _ (by omega)] at hz; omega
  subst hz
  conv => whnf
  repeat (refine ⟨by first | omega | (simp only [Option.getD_none, Option.getD_some]; omega) | (simp; done) | (simp; omega), ?_⟩; conv => whnf)
  refine ⟨p_hazelref08_put_38, g_hazelref08_put_38, by kernel_rfl, ?st9, ?_, ?_⟩
  rotate_left
  · conv => whnf
    repeat' (first | (refine ⟨(by decide), ?_⟩; conv => whnf) | (refine .inl ⟨_, s_refNext8 t n, ?_⟩; conv => whnf) | (refine .inl (.inl ⟨_, s_refNext8 t n, ?_⟩); conv => whnf) | (refine .inr (.inl ⟨_, s_refCas s.1 (33 + 2 * q) t (nextI t n 0) hf.fits, ?_⟩); conv => whnf) | (refine .inl (.inr (.inl ⟨_, s_refCas s.1 (33 + 2 * q) t (nextI t n 0) hf.fits, ?_⟩)); conv => whnf) | (refine And.intro ?_ ?_ <;> conv => whnf) | exact rfl)
  conv => whnf
  repeat (refine ⟨by first | omega | (simp only [Option.getD_none, Option.getD_some]; omega) | (simp; done) | (simp; omega), ?_⟩; conv => whnf)
  first | refine .inr (.inl ⟨_, s_refOn s k 9 10 11 (casM s.1 (33 + 2 * q) t (nextI t n 0)) (q, v, n, t, w, r) l hf.cores hf.frames, ?_⟩) | refine .inl (.inr (.inl ⟨_, s_refOn s k 9 10 11 (casM s.1 (33 + 2 * q) t (nextI t n 0)) (q, v, n, t, w, r) l hf.cores hf.frames, ?_⟩))
  conv => whnf
  repeat (refine ⟨by first | omega | (simp only [Option.getD_none, Option.getD_some]; omega) | (simp; done) | (simp; omega), ?_⟩; conv => whnf)
  first | exact .inl rfl | exact .inr rfl
theorem s_refPut_11 : Spec Tryz.prog 77 [vS s, vI k, vF (9, 11, (q, v, n, t, w, r), l, ())] (vS (putS s k 11 q v n t w r l)) := by
  have hg : s.1.2.1.length ≤ 1000000 := Nat.le_trans hf.fits.2 (by decide)
  have hw : s.1.1.length ≤ 1000000 := by have := hf.fits.1; have := hf.fits.2; omega
  refine spec_introF true tab_ok 0 Tryz.func77 rfl (by kernel_rfl) rfl ?_
  conv => whnf
  repeat (refine ⟨by first | omega | (simp only [Option.getD_none, Option.getD_some]; omega) | (simp; done) | (simp; omega), ?_⟩; conv => whnf)
  first | refine .inl ⟨_, s_Spot8 q h0 h1, ?_⟩ | refine .inl (.inl ⟨_, s_Spot8 q h0 h1, ?_⟩)
  conv => whnf
  intro z hz
  replace hz : z = 33 + 2 * q := by rw [IntWalk.wrap64_in _ (by omega)] at hz; omega
  subst hz
  conv => whnf
  repeat (refine ⟨by first | omega | (simp only [Option.getD_none, Option.getD_some]; omega) | (simp; done) | (simp; omega), ?_⟩; conv => whnf)
  refine ⟨p_hazelref08_put_41, g_hazelref08_put_41, by kernel_rfl, ?st10, ?_, ?_⟩
  rotate_left
  · conv => whnf
    repeat' (first | (refine .inl ⟨_, s_refPlace k 0, ?_⟩; conv => whnf) | (refine .inl (.inl ⟨_, s_refPlace k 0, ?_⟩); conv => whnf) | (refine .inr (.inl ⟨_, s_refStore s.1 (placeI k 0) 0 hg hw, ?_⟩); conv => whnf) | (refine .inl (.inr (.inl ⟨_, s_refStore s.1 (placeI k 0) 0 hg hw, ?_⟩)); conv => whnf) | (refine And.intro ?_ ?_ <;> conv => whnf) | exact rfl)
  conv => whnf
  repeat (refine ⟨by first | omega | (simp only [Option.getD_none, Option.getD_some]; omega) | (simp; done) | (simp; omega), ?_⟩; conv => whnf)
  first | refine .inr (.inl ⟨_, s_refMem s (storeM s.1 (placeI k 0) 0), ?_⟩) | refine .inl (.inr (.inl ⟨_, s_refMem s (storeM s.1 (placeI k 0) 0), ?_⟩))
  conv => whnf
  repeat (refine ⟨by first | omega | (simp only [Option.getD_none, Option.getD_some]; omega) | (simp; done) | (simp; omega), ?_⟩; conv => whnf)
  first | refine .inr (.inl ⟨_, s_refBack (storeM s.1 (placeI k 0) 0, s.2) k 0 0 hf.cores hf.frames, ?_⟩) | refine .inl (.inr (.inl ⟨_, s_refBack (storeM s.1 (placeI k 0) 0, s.2) k 0 0 hf.cores hf.frames, ?_⟩))
  conv => whnf
  repeat (refine ⟨by first | omega | (simp only [Option.getD_none, Option.getD_some]; omega) | (simp; done) | (simp; omega), ?_⟩; conv => whnf)
  first | exact .inl rfl | exact .inr rfl
end
end Go.Proofs.YtpobngddiifdpaaGreat.V
