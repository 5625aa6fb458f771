/- Layer 12: events, the document's and the program's. Layer 12: new events, and whether they are set. Layer 12: a step, whatever the last frame is; the example of its statements. -/
import Derived.Test.YtlcjkogdbleboaaGreatR5
import Derived.Test.YtlcjkogdbleboaaGreatV23
set_option linter.unusedSimpArgs false
set_option linter.unusedVariables false
namespace Go.Proofs.YtlcjkogdbleboaaGreat.V
open Go Go.RowKit Go.Proofs.YtlcjkogdbleboaaGreat.Hz
set_option maxRecDepth 100000

theorem s_refMark (w : Int) : Spec Tryz.prog 92 [vI w] (vI (w % 2)) := by
  refine spec_introF false tab_ok 0 Tryz.func92 rfl (by kernel_rfl) rfl ?_
  conv => whnf
  first | refine .inl ⟨_, s_mod _ _ (by decide) (by decide), ?_⟩ | refine .inl (.inl ⟨_, s_mod _ _ (by decide) (by decide), ?_⟩)
  conv => whnf
  first | exact .inl rfl | exact .inr rfl
/-- An event ends an op. -/
def endE (s : Sy) (k kind e v : Int) : Sy := backS (logS s k kind e 0 v) k v 0
def ev0 (s : Sy) (k op : Int) (r : R8) (l : Li) : Sy :=
  if op = 21 ∧ idxI (loadI s.1 (80 + r.1)) = 0 then endE (loadM s.1 (80 + r.1), s.2) k 12 r.1 0
  else if op = 21 ∧ loadI s.1 (80 + r.1) % 2 = 0 then endE (loadM s.1 (80 + r.1), s.2) k 12 r.1 1
  else setS (loadM s.1 (80 + r.1), s.2) k (op, (1 : Int), (r.1, loadI s.1 (80 + r.1), r.2.2), l, ())
def evI (op : Int) : Int := if op = 19 then 1 else 0
def evMk (op w : Int) : Int := if op = 21 then 1 else w % 2
def evK (op : Int) : Int := if op = 19 then 10 else if op = 20 then 11 else 12
def evV (op : Int) : Int := if op = 21 then 1 else 0
def evN (op w : Int) : Int := nextI w (evI op) (evMk op w)
def ev1 (s : Sy) (k op : Int) (r : R8) (l : Li) : Sy :=
  if casB s.1 (80 + r.1) r.2.1 = true then endE (casM s.1 (80 + r.1) r.2.1 (evN op r.2.1), s.2) k (evK op) r.1 (evV op)
  else setS (casM s.1 (80 + r.1) r.2.1 (evN op r.2.1), s.2) k (op, (0 : Int), r, l, ())
/-- A step of an event's op. -/
def evF (s : Sy) (k op pc : Int) (r : R8) (l : Li) : Sy := if 0 ≤ r.1 ∧ r.1 ≤ 15 then (if pc = 0 then ev0 s k op r l else if pc = 1 then ev1 s k op r l else s) else s
theorem endE_fine {s : Sy} {k kind e v : Int} (hf : Fine s) (hl : s.2.2.1.length ≤ 800000) : True := trivial
theorem s_isEvent (e : Int) : Spec Tryz.prog 102 [vI e] (vB (decide (0 ≤ e) && decide (e < 16))) := by
  refine spec_introF false tab_ok 0 Tryz.func102 rfl (by kernel_rfl) rfl ?_
  conv => whnf
  refine dcase (fun h => ?_) (fun h => ?_)
  · rw [decide_eq_true h]
    conv => whnf
    first | exact .inl rfl | exact .inr rfl
  · rw [decide_eq_false h]
    conv => whnf
    first | exact .inl rfl | exact .inr rfl
theorem s_Spot12 (e : Int) (h0 : 0 ≤ e) (h1 : e ≤ 15) : Spec Tryz.prog 41 [vI e] (vI (80 + e)) := by
  refine spec_introF false tab_ok 0 Tryz.func41 rfl (by kernel_rfl) rfl ?_
  conv => whnf
  rw [IntWalk.wrap64_in _ (by omega)]
  first | exact .inl rfl | exact .inr rfl
theorem s_refSpot12 (e : Int) (h0 : 0 ≤ e) (h1 : e ≤ 15) : Spec Tryz.prog 42 [vI e] (vI (80 + e)) := by
  refine spec_introF false tab_ok 0 Tryz.func42 rfl (by kernel_rfl) rfl ?_
  conv => whnf
  rw [IntWalk.wrap64_in _ (by omega)]
  first | exact .inl rfl | exact .inr rfl
theorem s_evStep0 (s : Sy) (k op : Int) (r : R8) (l : Li) (ht : topI s k = some (op, (0 : Int), r, l, ())) (h19 : 19 ≤ op) (h21 : op ≤ 21) (h0 : 0 ≤ r.1) (h1 : r.1 ≤ 15) (hf : Fine s) : Spec Tryz.prog 43 [vS s, vI k] (vS (ev0 s k op r l)) := by
  have hsp := s_Spot12 r.1 h0 h1
  have hie := s_isEvent r.1
  rw [decide_eq_true h0, decide_eq_true (Int.lt_of_le_of_lt h1 (by decide))] at hie
  have hld := s_mLoad s.1 (80 + r.1) hf.fits
  obtain ⟨w, hw⟩ : ∃ w, loadI s.1 (80 + r.1) = w := ⟨_, rfl⟩
  obtain ⟨m, hm⟩ : ∃ m, loadM s.1 (80 + r.1) = m := ⟨_, rfl⟩
  have hlog : ∀ kind v : Int, Spec Tryz.prog 105 [vS (m, s.2), vI k, vI kind, vI r.1, vI 0, vI v] (vS (logS (m, s.2) k kind r.1 0 v)) := fun kind v => s_cLog (m, s.2) k kind r.1 0 v hf.log
  have hbk : ∀ kind v : Int, Spec Tryz.prog 104 [vS (logS (m, s.2) k kind r.1 0 v), vI k, vI v, vI 0] (vS (endE (m, s.2) k kind r.1 v)) := fun kind v => s_cBack _ k v 0 (by erw [(logS_cores _ _ _ _ _ _).1]; exact hf.cores) (by erw [(logS_cores _ _ _ _ _ _).1]; exact hf.frames)
  have hset := s_cSet (m, s.2) k (op, (1 : Int), (r.1, w, r.2.2), l, ()) hf.cores hf.frames
  unfold ev0
  rw [hw, hm] at hld ⊢
  refine spec_introF true tab_ok 1 Tryz.func43 rfl (by kernel_rfl) rfl ?_
  conv => whnf
  first | refine .inr (.inl ⟨_, s_topOf ht hf, ?_⟩) | refine .inl (.inr (.inl ⟨_, s_topOf ht hf, ?_⟩))
  conv => whnf
  repeat (refine ⟨by first | omega | (simp only [Option.getD_none, Option.getD_some]; omega) | (simp; done) | (simp; omega), ?_⟩; conv => whnf)
  conv => whnf
  repeat (refine ⟨by first | omega | (simp only [Option.getD_none, Option.getD_some]; omega) | (simp; done) | (simp; omega), ?_⟩; conv => whnf)
  refine dcase (fun h => absurd h (by show ¬ op < 19; omega)) (fun _ => ?_)
  conv => whnf
  repeat (refine ⟨by first | omega | (simp only [Option.getD_none, Option.getD_some]; omega) | (simp; done) | (simp; omega), ?_⟩; conv => whnf)
  refine dcase (fun h => absurd h (by show ¬ 21 < op; omega)) (fun _ => ?_)
  conv => whnf
  repeat (refine ⟨by first | omega | (simp only [Option.getD_none, Option.getD_some]; omega) | (simp; done) | (simp; omega), ?_⟩; conv => whnf)
  first | refine .inl ⟨_, hie, ?_⟩ | refine .inl (.inl ⟨_, hie, ?_⟩)
  conv => whnf
  repeat (refine ⟨by first | omega | (simp only [Option.getD_none, Option.getD_some]; omega) | (simp; done) | (simp; omega), ?_⟩; conv => whnf)
  conv => whnf
  repeat (refine ⟨by first | omega | (simp only [Option.getD_none, Option.getD_some]; omega) | (simp; done) | (simp; omega), ?_⟩; conv => whnf)
  refine ⟨p_event_Step_10, g_event_Step_10, by kernel_rfl, ?st1, ?_, ?_⟩
  rotate_left
  · conv => whnf
    repeat' (first | (refine ⟨by first | omega | (simp only [Option.getD_none, Option.getD_some]; omega) | (simp; done) | (simp; omega), ?_⟩; conv => whnf) | (refine .inl ⟨_, hsp, ?_⟩; conv => whnf) | (refine .inl (.inl ⟨_, hsp, ?_⟩); conv => whnf) | (refine .inr (.inl ⟨_, hld, ?_⟩); conv => whnf) | (refine .inl (.inr (.inl ⟨_, hld, ?_⟩)); conv => whnf) | (refine And.intro ?_ ?_ <;> conv => whnf) | exact rfl)
  conv => whnf
  repeat (refine ⟨by first | omega | (simp only [Option.getD_none, Option.getD_some]; omega) | (simp; done) | (simp; omega), ?_⟩; conv => whnf)
  refine dcase (fun hn => ?_) (fun he => ?_)
  · have hn : ¬ op = 21 := hn
    rw [if_neg (fun e => hn e.1), if_neg (fun e => hn e.1)]
    conv => whnf
    refine .inr ⟨_, _, 500, Tryz.func106, ⟨by kernel_rfl, rfl⟩, ?_⟩
    conv => whnf
    repeat (refine ⟨by first | omega | (simp only [Option.getD_none, Option.getD_some]; omega) | (simp; done) | (simp; omega), ?_⟩; conv => whnf)
    first | refine .inr (.inl ⟨_, hset, ?_⟩) | refine .inl (.inr (.inl ⟨_, hset, ?_⟩))
    conv => whnf
    repeat (refine ⟨by first | omega | (simp only [Option.getD_none, Option.getD_some]; omega) | (simp; done) | (simp; omega), ?_⟩; conv => whnf)
    first | exact .inl rfl | exact .inr rfl
  have he : op = 21 := Classical.not_not.1 he
  subst he
  conv => whnf
  repeat (refine ⟨by first | omega | (simp only [Option.getD_none, Option.getD_some]; omega) | (simp; done) | (simp; omega), ?_⟩; conv => whnf)
  first | refine .inl ⟨_, s_Index w, ?_⟩ | refine .inl (.inl ⟨_, s_Index w, ?_⟩)
  conv => whnf
  repeat (refine ⟨by first | omega | (simp only [Option.getD_none, Option.getD_some]; omega) | (simp; done) | (simp; omega), ?_⟩; conv => whnf)
  refine dcase (fun hi => ?_) (fun hi => ?_)
  · rw [if_pos ⟨rfl, hi⟩]
    conv => whnf
    refine .inr ⟨_, _, 500, Tryz.func103, ⟨by kernel_rfl, rfl⟩, ?_⟩
    conv => whnf
    repeat (refine ⟨by first | omega | (simp only [Option.getD_none, Option.getD_some]; omega) | (simp; done) | (simp; omega), ?_⟩; conv => whnf)
    refine ⟨p_event_Step_1_1, [2, 3, 7], by kernel_rfl, ?sn0, ?_, ?_⟩
    rotate_left
    · conv => whnf
      repeat' (first | (refine ⟨by first | omega | (simp only [Option.getD_none, Option.getD_some]; omega) | (simp; done) | (simp; omega), ?_⟩; conv => whnf) | (refine .inr (.inl ⟨_, hlog 12 0, ?_⟩); conv => whnf) | (refine .inl (.inr (.inl ⟨_, hlog 12 0, ?_⟩)); conv => whnf) | (refine .inr (.inl ⟨_, hbk 12 0, ?_⟩); conv => whnf) | (refine .inl (.inr (.inl ⟨_, hbk 12 0, ?_⟩)); conv => whnf) | (refine And.intro ?_ ?_ <;> conv => whnf) | exact rfl)
    conv => whnf
    repeat (refine ⟨by first | omega | (simp only [Option.getD_none, Option.getD_some]; omega) | (simp; done) | (simp; omega), ?_⟩; conv => whnf)
    first | exact .inl rfl | exact .inr rfl
  rw [if_neg (fun e => hi e.2)]
  conv => whnf
  repeat (refine ⟨by first | omega | (simp only [Option.getD_none, Option.getD_some]; omega) | (simp; done) | (simp; omega), ?_⟩; conv => whnf)
  first | refine .inl ⟨_, s_Mark w, ?_⟩ | refine .inl (.inl ⟨_, s_Mark w, ?_⟩)
  conv => whnf
  repeat (refine ⟨by first | omega | (simp only [Option.getD_none, Option.getD_some]; omega) | (simp; done) | (simp; omega), ?_⟩; conv => whnf)
  refine dcase (fun hi => ?_) (fun hi => ?_)
  · rw [if_pos ⟨rfl, hi⟩]
    conv => whnf
    refine .inr ⟨_, _, 500, Tryz.func103, ⟨by kernel_rfl, rfl⟩, ?_⟩
    conv => whnf
    repeat (refine ⟨by first | omega | (simp only [Option.getD_none, Option.getD_some]; omega) | (simp; done) | (simp; omega), ?_⟩; conv => whnf)
    refine ⟨p_event_Step_1_1, [2, 3, 7], by kernel_rfl, ?sn1, ?_, ?_⟩
    rotate_left
    · conv => whnf
      repeat' (first | (refine ⟨by first | omega | (simp only [Option.getD_none, Option.getD_some]; omega) | (simp; done) | (simp; omega), ?_⟩; conv => whnf) | (refine .inr (.inl ⟨_, hlog 12 1, ?_⟩); conv => whnf) | (refine .inl (.inr (.inl ⟨_, hlog 12 1, ?_⟩)); conv => whnf) | (refine .inr (.inl ⟨_, hbk 12 1, ?_⟩); conv => whnf) | (refine .inl (.inr (.inl ⟨_, hbk 12 1, ?_⟩)); conv => whnf) | (refine And.intro ?_ ?_ <;> conv => whnf) | exact rfl)
    conv => whnf
    repeat (refine ⟨by first | omega | (simp only [Option.getD_none, Option.getD_some]; omega) | (simp; done) | (simp; omega), ?_⟩; conv => whnf)
    first | exact .inl rfl | exact .inr rfl
  rw [if_neg (fun e => hi e.2)]
  conv => whnf
  refine .inr ⟨_, _, 500, Tryz.func106, ⟨by kernel_rfl, rfl⟩, ?_⟩
  conv => whnf
  repeat (refine ⟨by first | omega | (simp only [Option.getD_none, Option.getD_some]; omega) | (simp; done) | (simp; omega), ?_⟩; conv => whnf)
  first | refine .inr (.inl ⟨_, hset, ?_⟩) | refine .inl (.inr (.inl ⟨_, hset, ?_⟩))
  conv => whnf
  repeat (refine ⟨by first | omega | (simp only [Option.getD_none, Option.getD_some]; omega) | (simp; done) | (simp; omega), ?_⟩; conv => whnf)
  first | exact .inl rfl | exact .inr rfl
set_option maxHeartbeats 4000000 in
theorem s_evStep1 (s : Sy) (k op : Int) (r : R8) (l : Li) (ht : topI s k = some (op, (1 : Int), r, l, ())) (h19 : 19 ≤ op) (h21 : op ≤ 21) (h0 : 0 ≤ r.1) (h1 : r.1 ≤ 15) (hf : Fine s) : Spec Tryz.prog 43 [vS s, vI k] (vS (ev1 s k op r l)) := by
  have hsp := s_Spot12 r.1 h0 h1
  have hie := s_isEvent r.1
  rw [decide_eq_true h0, decide_eq_true (Int.lt_of_le_of_lt h1 (by decide))] at hie
  have hmk := s_Mark r.2.1
  have hcas := fun n => s_mCas s.1 (80 + r.1) r.2.1 n hf.fits
  have hnx := fun i mk => s_Next r.2.1 i mk
  have hfin : ∀ (m : Me) (kind v : Int), Spec Tryz.prog 105 [vS (m, s.2), vI k, vI kind, vI r.1, vI 0, vI v] (vS (logS (m, s.2) k kind r.1 0 v)) ∧ Spec Tryz.prog 104 [vS (logS (m, s.2) k kind r.1 0 v), vI k, vI v, vI 0] (vS (endE (m, s.2) k kind r.1 v)) := fun m kind v => ⟨s_cLog (m, s.2) k kind r.1 0 v hf.log, s_cBack _ k v 0 (by erw [(logS_cores _ _ _ _ _ _).1]; exact hf.cores) (by erw [(logS_cores _ _ _ _ _ _).1]; exact hf.frames)⟩
  have hset := fun m : Me => s_cSet (m, s.2) k (op, (0 : Int), r, l, ()) hf.cores hf.frames
  have hNx : Spec Tryz.prog 69 [vI r.2.1, vI (evI op), vI (evMk op r.2.1)] (vI (evN op r.2.1)) := s_Next r.2.1 (evI op) (evMk op r.2.1)
  have hCas := hcas (evN op r.2.1)
  have hLog := hfin (casM s.1 (80 + r.1) r.2.1 (evN op r.2.1)) (evK op) (evV op)
  have hSet := hset (casM s.1 (80 + r.1) r.2.1 (evN op r.2.1))
  unfold ev1
  clear hfin hset hcas hnx
  obtain ⟨N, hN⟩ : ∃ N, evN op r.2.1 = N := ⟨_, rfl⟩
  rw [hN] at hNx hCas hLog hSet ⊢
  obtain ⟨M, hM⟩ : ∃ M, casM s.1 (80 + r.1) r.2.1 N = M := ⟨_, rfl⟩
  obtain ⟨b, hb⟩ : ∃ b, casB s.1 (80 + r.1) r.2.1 = b := ⟨_, rfl⟩
  rw [hM] at hCas hLog hSet ⊢
  rw [hb] at hCas ⊢
  have h3 : op = 19 ∨ op = 20 ∨ op = 21 := by omega
  rcases h3 with e | e | e <;> subst e
  · have hNx : Spec Tryz.prog 69 [vI r.2.1, vI 1, vI (r.2.1 % 2)] (vI N) := hNx
    obtain ⟨hLog, hBk⟩ := hLog
    refine spec_introF true tab_ok 1 Tryz.func43 rfl (by kernel_rfl) rfl ?_
    conv => whnf
    first | refine .inr (.inl ⟨_, s_topOf ht hf, ?_⟩) | refine .inl (.inr (.inl ⟨_, s_topOf ht hf, ?_⟩))
    conv => whnf
    repeat (refine ⟨by first | omega | (simp only [Option.getD_none, Option.getD_some]; omega) | (simp; done) | (simp; omega), ?_⟩; conv => whnf)
    first | refine .inl ⟨_, hie, ?_⟩ | refine .inl (.inl ⟨_, hie, ?_⟩)
    conv => whnf
    repeat (refine ⟨by first | omega | (simp only [Option.getD_none, Option.getD_some]; omega) | (simp; done) | (simp; omega), ?_⟩; conv => whnf)
    refine ⟨p_event_Step_18, g_event_Step_18, by kernel_rfl, ?st2, ?_, ?_⟩
    rotate_left
    · conv => whnf
      repeat' (first | (refine ⟨(by decide), ?_⟩; conv => whnf) | (refine .inl ⟨_, hmk, ?_⟩; conv => whnf) | (refine .inl (.inl ⟨_, hmk, ?_⟩); conv => whnf) | ((refine .inr ⟨_, _, 500, Tryz.func108, ⟨by kernel_rfl, rfl⟩, ?_⟩; conv => whnf)) | ((refine ⟨fun _ => ?_, fun h => absurd rfl h⟩; conv => whnf)) | ((refine ⟨fun h => absurd (show (19 : Int) = 20 from h) (by decide), fun _ => ?_⟩; conv => whnf)) | (refine And.intro ?_ ?_ <;> conv => whnf) | exact rfl)
    conv => whnf
    repeat (refine ⟨by first | omega | (simp only [Option.getD_none, Option.getD_some]; omega) | (simp; done) | (simp; omega), ?_⟩; conv => whnf)
    refine ⟨p_event_Step_21, g_event_Step_21, by kernel_rfl, ?st3, ?_, ?_⟩
    rotate_left
    · conv => whnf
      repeat' (first | (refine ⟨by first | omega | (simp only [Option.getD_none, Option.getD_some]; omega) | (simp; done) | (simp; omega), ?_⟩; conv => whnf) | (refine .inl ⟨_, hsp, ?_⟩; conv => whnf) | (refine .inl (.inl ⟨_, hsp, ?_⟩); conv => whnf) | (refine .inl ⟨_, hNx, ?_⟩; conv => whnf) | (refine .inl (.inl ⟨_, hNx, ?_⟩); conv => whnf) | (refine .inr (.inl ⟨_, hCas, ?_⟩); conv => whnf) | (refine .inl (.inr (.inl ⟨_, hCas, ?_⟩)); conv => whnf) | (refine And.intro ?_ ?_ <;> conv => whnf) | exact rfl)
    conv => whnf
    repeat (refine ⟨by first | omega | (simp only [Option.getD_none, Option.getD_some]; omega) | (simp; done) | (simp; omega), ?_⟩; conv => whnf)
    refine ncaseb (fun hb0 => ?_) (fun hb1 => ?_)
    · rw [if_neg (by rw [hb0]; decide)]
      conv => whnf
      refine .inr ⟨_, _, 600, Tryz.func106, ⟨by kernel_rfl, rfl⟩, ?_⟩
      conv => whnf
      repeat (refine ⟨by first | omega | (simp only [Option.getD_none, Option.getD_some]; omega) | (simp; done) | (simp; omega), ?_⟩; conv => whnf)
      first | refine .inr (.inl ⟨_, hSet, ?_⟩) | refine .inl (.inr (.inl ⟨_, hSet, ?_⟩))
      conv => whnf
      repeat (refine ⟨by first | omega | (simp only [Option.getD_none, Option.getD_some]; omega) | (simp; done) | (simp; omega), ?_⟩; conv => whnf)
      first | exact .inl rfl | exact .inr rfl
    · rw [if_pos hb1]
      conv => whnf
      repeat (refine ⟨by first | omega | (simp only [Option.getD_none, Option.getD_some]; omega) | (simp; done) | (simp; omega), ?_⟩; conv => whnf)
      refine .inr ⟨_, _, 600, Tryz.func103, ⟨by kernel_rfl, rfl⟩, ?_⟩
      conv => whnf
      repeat (refine ⟨by first | omega | (simp only [Option.getD_none, Option.getD_some]; omega) | (simp; done) | (simp; omega), ?_⟩; conv => whnf)
      refine ⟨p_event_Step_1_1, [2, 3, 7], by kernel_rfl, ?sq19, ?_, ?_⟩
      rotate_left
      · conv => whnf
        repeat' (first | (refine ⟨by first | omega | (simp only [Option.getD_none, Option.getD_some]; omega) | (simp; done) | (simp; omega), ?_⟩; conv => whnf) | (refine .inr (.inl ⟨_, hLog, ?_⟩); conv => whnf) | (refine .inl (.inr (.inl ⟨_, hLog, ?_⟩)); conv => whnf) | (refine .inr (.inl ⟨_, hBk, ?_⟩); conv => whnf) | (refine .inl (.inr (.inl ⟨_, hBk, ?_⟩)); conv => whnf) | (refine And.intro ?_ ?_ <;> conv => whnf) | exact rfl)
      conv => whnf
      repeat (refine ⟨by first | omega | (simp only [Option.getD_none, Option.getD_some]; omega) | (simp; done) | (simp; omega), ?_⟩; conv => whnf)
      first | exact .inl rfl | exact .inr rfl
  · have hNx : Spec Tryz.prog 69 [vI r.2.1, vI 0, vI (r.2.1 % 2)] (vI N) := hNx
    obtain ⟨hLog, hBk⟩ := hLog
    refine spec_introF true tab_ok 1 Tryz.func43 rfl (by kernel_rfl) rfl ?_
    conv => whnf
    first | refine .inr (.inl ⟨_, s_topOf ht hf, ?_⟩) | refine .inl (.inr (.inl ⟨_, s_topOf ht hf, ?_⟩))
    conv => whnf
    repeat (refine ⟨by first | omega | (simp only [Option.getD_none, Option.getD_some]; omega) | (simp; done) | (simp; omega), ?_⟩; conv => whnf)
    first | refine .inl ⟨_, hie, ?_⟩ | refine .inl (.inl ⟨_, hie, ?_⟩)
    conv => whnf
    repeat (refine ⟨by first | omega | (simp only [Option.getD_none, Option.getD_some]; omega) | (simp; done) | (simp; omega), ?_⟩; conv => whnf)
    refine ⟨p_event_Step_18, g_event_Step_18, by kernel_rfl, ?st4, ?_, ?_⟩
    rotate_left
    · conv => whnf
      repeat' (first | (refine ⟨(by decide), ?_⟩; conv => whnf) | (refine .inl ⟨_, hmk, ?_⟩; conv => whnf) | (refine .inl (.inl ⟨_, hmk, ?_⟩); conv => whnf) | ((refine .inr ⟨_, _, 500, Tryz.func108, ⟨by kernel_rfl, rfl⟩, ?_⟩; conv => whnf)) | ((refine ⟨fun _ => ?_, fun h => absurd rfl h⟩; conv => whnf)) | ((refine ⟨fun h => absurd (show (20 : Int) = 19 from h) (by decide), fun _ => ?_⟩; conv => whnf)) | (refine And.intro ?_ ?_ <;> conv => whnf) | exact rfl)
    conv => whnf
    repeat (refine ⟨by first | omega | (simp only [Option.getD_none, Option.getD_some]; omega) | (simp; done) | (simp; omega), ?_⟩; conv => whnf)
    refine ⟨p_event_Step_21, g_event_Step_21, by kernel_rfl, ?st5, ?_, ?_⟩
    rotate_left
    · conv => whnf
      repeat' (first | (refine ⟨by first | omega | (simp only [Option.getD_none, Option.getD_some]; omega) | (simp; done) | (simp; omega), ?_⟩; conv => whnf) | (refine .inl ⟨_, hsp, ?_⟩; conv => whnf) | (refine .inl (.inl ⟨_, hsp, ?_⟩); conv => whnf) | (refine .inl ⟨_, hNx, ?_⟩; conv => whnf) | (refine .inl (.inl ⟨_, hNx, ?_⟩); conv => whnf) | (refine .inr (.inl ⟨_, hCas, ?_⟩); conv => whnf) | (refine .inl (.inr (.inl ⟨_, hCas, ?_⟩)); conv => whnf) | (refine And.intro ?_ ?_ <;> conv => whnf) | exact rfl)
    conv => whnf
    repeat (refine ⟨by first | omega | (simp only [Option.getD_none, Option.getD_some]; omega) | (simp; done) | (simp; omega), ?_⟩; conv => whnf)
    refine ncaseb (fun hb0 => ?_) (fun hb1 => ?_)
    · rw [if_neg (by rw [hb0]; decide)]
      conv => whnf
      refine .inr ⟨_, _, 600, Tryz.func106, ⟨by kernel_rfl, rfl⟩, ?_⟩
      conv => whnf
      repeat (refine ⟨by first | omega | (simp only [Option.getD_none, Option.getD_some]; omega) | (simp; done) | (simp; omega), ?_⟩; conv => whnf)
      first | refine .inr (.inl ⟨_, hSet, ?_⟩) | refine .inl (.inr (.inl ⟨_, hSet, ?_⟩))
      conv => whnf
      repeat (refine ⟨by first | omega | (simp only [Option.getD_none, Option.getD_some]; omega) | (simp; done) | (simp; omega), ?_⟩; conv => whnf)
      first | exact .inl rfl | exact .inr rfl
    · rw [if_pos hb1]
      conv => whnf
      repeat (refine ⟨by first | omega | (simp only [Option.getD_none, Option.getD_some]; omega) | (simp; done) | (simp; omega), ?_⟩; conv => whnf)
      refine .inr ⟨_, _, 600, Tryz.func103, ⟨by kernel_rfl, rfl⟩, ?_⟩
      conv => whnf
      repeat (refine ⟨by first | omega | (simp only [Option.getD_none, Option.getD_some]; omega) | (simp; done) | (simp; omega), ?_⟩; conv => whnf)
      refine ⟨p_event_Step_1_1, [2, 3, 7], by kernel_rfl, ?sq20, ?_, ?_⟩
      rotate_left
      · conv => whnf
        repeat' (first | (refine ⟨by first | omega | (simp only [Option.getD_none, Option.getD_some]; omega) | (simp; done) | (simp; omega), ?_⟩; conv => whnf) | (refine .inr (.inl ⟨_, hLog, ?_⟩); conv => whnf) | (refine .inl (.inr (.inl ⟨_, hLog, ?_⟩)); conv => whnf) | (refine .inr (.inl ⟨_, hBk, ?_⟩); conv => whnf) | (refine .inl (.inr (.inl ⟨_, hBk, ?_⟩)); conv => whnf) | (refine And.intro ?_ ?_ <;> conv => whnf) | exact rfl)
      conv => whnf
      repeat (refine ⟨by first | omega | (simp only [Option.getD_none, Option.getD_some]; omega) | (simp; done) | (simp; omega), ?_⟩; conv => whnf)
      first | exact .inl rfl | exact .inr rfl
  · have hNx : Spec Tryz.prog 69 [vI r.2.1, vI 0, vI (1)] (vI N) := hNx
    obtain ⟨hLog, hBk⟩ := hLog
    refine spec_introF true tab_ok 1 Tryz.func43 rfl (by kernel_rfl) rfl ?_
    conv => whnf
    first | refine .inr (.inl ⟨_, s_topOf ht hf, ?_⟩) | refine .inl (.inr (.inl ⟨_, s_topOf ht hf, ?_⟩))
    conv => whnf
    repeat (refine ⟨by first | omega | (simp only [Option.getD_none, Option.getD_some]; omega) | (simp; done) | (simp; omega), ?_⟩; conv => whnf)
    first | refine .inl ⟨_, hie, ?_⟩ | refine .inl (.inl ⟨_, hie, ?_⟩)
    conv => whnf
    repeat (refine ⟨by first | omega | (simp only [Option.getD_none, Option.getD_some]; omega) | (simp; done) | (simp; omega), ?_⟩; conv => whnf)
    refine ⟨p_event_Step_18, g_event_Step_18, by kernel_rfl, ?st6, ?_, ?_⟩
    rotate_left
    · conv => whnf
      repeat' (first | (refine ⟨(by decide), ?_⟩; conv => whnf) | (refine .inl ⟨_, hmk, ?_⟩; conv => whnf) | (refine .inl (.inl ⟨_, hmk, ?_⟩); conv => whnf) | ((refine .inr ⟨_, _, 500, Tryz.func108, ⟨by kernel_rfl, rfl⟩, ?_⟩; conv => whnf)) | ((refine ⟨fun _ => ?_, fun h => absurd rfl h⟩; conv => whnf)) | ((refine ⟨fun h => absurd (show (21 : Int) = 19 from h) (by decide), fun _ => ?_⟩; conv => whnf)) | ((refine ⟨fun h => absurd (show (21 : Int) = 20 from h) (by decide), fun _ => ?_⟩; conv => whnf)) | (refine And.intro ?_ ?_ <;> conv => whnf) | exact rfl)
    conv => whnf
    repeat (refine ⟨by first | omega | (simp only [Option.getD_none, Option.getD_some]; omega) | (simp; done) | (simp; omega), ?_⟩; conv => whnf)
    refine ⟨p_event_Step_21, g_event_Step_21, by kernel_rfl, ?st7, ?_, ?_⟩
    rotate_left
    · conv => whnf
      repeat' (first | (refine ⟨by first | omega | (simp only [Option.getD_none, Option.getD_some]; omega) | (simp; done) | (simp; omega), ?_⟩; conv => whnf) | (refine .inl ⟨_, hsp, ?_⟩; conv => whnf) | (refine .inl (.inl ⟨_, hsp, ?_⟩); conv => whnf) | (refine .inl ⟨_, hNx, ?_⟩; conv => whnf) | (refine .inl (.inl ⟨_, hNx, ?_⟩); conv => whnf) | (refine .inr (.inl ⟨_, hCas, ?_⟩); conv => whnf) | (refine .inl (.inr (.inl ⟨_, hCas, ?_⟩)); conv => whnf) | (refine And.intro ?_ ?_ <;> conv => whnf) | exact rfl)
    conv => whnf
    repeat (refine ⟨by first | omega | (simp only [Option.getD_none, Option.getD_some]; omega) | (simp; done) | (simp; omega), ?_⟩; conv => whnf)
    refine ncaseb (fun hb0 => ?_) (fun hb1 => ?_)
    · rw [if_neg (by rw [hb0]; decide)]
      conv => whnf
      refine .inr ⟨_, _, 600, Tryz.func106, ⟨by kernel_rfl, rfl⟩, ?_⟩
      conv => whnf
      repeat (refine ⟨by first | omega | (simp only [Option.getD_none, Option.getD_some]; omega) | (simp; done) | (simp; omega), ?_⟩; conv => whnf)
      first | refine .inr (.inl ⟨_, hSet, ?_⟩) | refine .inl (.inr (.inl ⟨_, hSet, ?_⟩))
      conv => whnf
      repeat (refine ⟨by first | omega | (simp only [Option.getD_none, Option.getD_some]; omega) | (simp; done) | (simp; omega), ?_⟩; conv => whnf)
      first | exact .inl rfl | exact .inr rfl
    · rw [if_pos hb1]
      conv => whnf
      repeat (refine ⟨by first | omega | (simp only [Option.getD_none, Option.getD_some]; omega) | (simp; done) | (simp; omega), ?_⟩; conv => whnf)
      refine .inr ⟨_, _, 600, Tryz.func103, ⟨by kernel_rfl, rfl⟩, ?_⟩
      conv => whnf
      repeat (refine ⟨by first | omega | (simp only [Option.getD_none, Option.getD_some]; omega) | (simp; done) | (simp; omega), ?_⟩; conv => whnf)
      refine ⟨p_event_Step_1_1, [2, 3, 7], by kernel_rfl, ?sq21, ?_, ?_⟩
      rotate_left
      · conv => whnf
        repeat' (first | (refine ⟨by first | omega | (simp only [Option.getD_none, Option.getD_some]; omega) | (simp; done) | (simp; omega), ?_⟩; conv => whnf) | (refine .inr (.inl ⟨_, hLog, ?_⟩); conv => whnf) | (refine .inl (.inr (.inl ⟨_, hLog, ?_⟩)); conv => whnf) | (refine .inr (.inl ⟨_, hBk, ?_⟩); conv => whnf) | (refine .inl (.inr (.inl ⟨_, hBk, ?_⟩)); conv => whnf) | (refine And.intro ?_ ?_ <;> conv => whnf) | exact rfl)
      conv => whnf
      repeat (refine ⟨by first | omega | (simp only [Option.getD_none, Option.getD_some]; omega) | (simp; done) | (simp; omega), ?_⟩; conv => whnf)
      first | exact .inl rfl | exact .inr rfl

theorem s_Of001 : Spec Tryz.prog 71 [vI 0, vI 0, vI 1] (.tup [(false, [.int .i64 1]), (false, [.int .i64 0])]) := by
  refine spec_introF false tab_ok 0 Tryz.func71 rfl (by kernel_rfl) rfl ?_
  conv => whnf
  first | refine .inl ⟨_, s_joined 1 0 0, ?_⟩ | refine .inl (.inl ⟨_, s_joined 1 0 0, ?_⟩)
  conv => whnf
  rw [show accI 1 0 0 3 = 1 from rfl]
  first | refine .inl ⟨_, s_Mark 1, ?_⟩ | refine .inl (.inl ⟨_, s_Mark 1, ?_⟩)
  conv => whnf
  rw [show (1 : Int) % 2 = 1 from rfl]
  conv => whnf
  first | refine .inl ⟨_, s_Index 1, ?_⟩ | refine .inl (.inl ⟨_, s_Index 1, ?_⟩)
  conv => whnf
  rw [show idxI 1 = 0 from rfl]
  conv => whnf
  first | refine .inl ⟨_, s_Tag 1, ?_⟩ | refine .inl (.inl ⟨_, s_Tag 1, ?_⟩)
  conv => whnf
  first | exact .inl rfl | exact .inr rfl
def selfI (b : Bool) : Int := if b = true then 1 else 0
/-- A system with a new event. -/
def mkE (s : Sy) (e : Int) (b : Bool) : Sy := (storeM s.1 (80 + e) (selfI b), s.2)
theorem s_evMake (s : Sy) (e : Int) (b : Bool) (h0 : 0 ≤ e) (h1 : e ≤ 15) (hf : Fits s.1) : Spec Tryz.prog 35 [vS s, vI e, vB b] (vSI (mkE s e b) 0) := by
  have hie := s_isEvent e
  rw [decide_eq_true h0, decide_eq_true (Int.lt_of_le_of_lt h1 (by decide))] at hie
  have hsp := s_Spot12 e h0 h1
  have hst := s_mStore s.1 (80 + e) (selfI b) hf
  unfold mkE
  cases b with
  | true =>
    have hst : Spec Tryz.prog 68 [vM s.1, vI (80 + e), vI 1] (vM (storeM s.1 (80 + e) 1)) := hst
    refine spec_introF true tab_ok 0 Tryz.func35 rfl (by kernel_rfl) rfl ?_
    conv => whnf
    first | refine .inl ⟨_, hie, ?_⟩ | refine .inl (.inl ⟨_, hie, ?_⟩)
    conv => whnf
    repeat (refine ⟨by first | omega | (simp only [Option.getD_none, Option.getD_some]; omega) | (simp; done) | (simp; omega), ?_⟩; conv => whnf)
    first | refine .inl ⟨_, s_Of001, ?_⟩ | refine .inl (.inl ⟨_, s_Of001, ?_⟩)
    conv => whnf
    repeat (refine ⟨by first | omega | (simp only [Option.getD_none, Option.getD_some]; omega) | (simp; done) | (simp; omega), ?_⟩; conv => whnf)
    refine ⟨p_event_Make_6, g_event_Make_6, by kernel_rfl, ?st8, ?_, ?_⟩
    rotate_left
    · conv => whnf
      repeat' (first | (refine ⟨by first | omega | (simp only [Option.getD_none, Option.getD_some]; omega) | (simp; done) | (simp; omega), ?_⟩; conv => whnf) | (refine .inl ⟨_, hsp, ?_⟩; conv => whnf) | (refine .inl (.inl ⟨_, hsp, ?_⟩); conv => whnf) | (refine .inr (.inl ⟨_, hst, ?_⟩); conv => whnf) | (refine .inl (.inr (.inl ⟨_, hst, ?_⟩)); conv => whnf) | (refine And.intro ?_ ?_ <;> conv => whnf) | exact rfl)
    conv => whnf
    repeat (refine ⟨by first | omega | (simp only [Option.getD_none, Option.getD_some]; omega) | (simp; done) | (simp; omega), ?_⟩; conv => whnf)
    first | exact .inl rfl | exact .inr rfl
  | false =>
    have hst : Spec Tryz.prog 68 [vM s.1, vI (80 + e), vI 0] (vM (storeM s.1 (80 + e) 0)) := hst
    refine spec_introF true tab_ok 0 Tryz.func35 rfl (by kernel_rfl) rfl ?_
    conv => whnf
    first | refine .inl ⟨_, hie, ?_⟩ | refine .inl (.inl ⟨_, hie, ?_⟩)
    conv => whnf
    repeat (refine ⟨by first | omega | (simp only [Option.getD_none, Option.getD_some]; omega) | (simp; done) | (simp; omega), ?_⟩; conv => whnf)
    refine ⟨p_event_Make_6, g_event_Make_6, by kernel_rfl, ?st9, ?_, ?_⟩
    rotate_left
    · conv => whnf
      repeat' (first | (refine ⟨by first | omega | (simp only [Option.getD_none, Option.getD_some]; omega) | (simp; done) | (simp; omega), ?_⟩; conv => whnf) | (refine .inl ⟨_, hsp, ?_⟩; conv => whnf) | (refine .inl (.inl ⟨_, hsp, ?_⟩); conv => whnf) | (refine .inr (.inl ⟨_, hst, ?_⟩); conv => whnf) | (refine .inl (.inr (.inl ⟨_, hst, ?_⟩)); conv => whnf) | (refine And.intro ?_ ?_ <;> conv => whnf) | exact rfl)
    conv => whnf
    repeat (refine ⟨by first | omega | (simp only [Option.getD_none, Option.getD_some]; omega) | (simp; done) | (simp; omega), ?_⟩; conv => whnf)
    first | exact .inl rfl | exact .inr rfl
theorem s_refMake12 (s : Sy) (e : Int) (b : Bool) (h0 : 0 ≤ e) (h1 : e ≤ 15) (hf : Fits s.1) : Spec Tryz.prog 36 [vS s, vI e, vB b] (vSI (mkE s e b) 0) := by
  have hsp := s_refSpot12 e h0 h1
  have hst := s_refStore s.1 (80 + e) (selfI b) (by have := hf.2; omega) (by have := hf.1; have := hf.2; omega)
  unfold mkE
  cases b with
  | true =>
    have hst : Spec Tryz.prog 49 [vM s.1, vI (80 + e), vI 1] (vM (storeM s.1 (80 + e) 1)) := hst
    refine spec_introF true tab_ok 0 Tryz.func36 rfl (by kernel_rfl) rfl ?_
    conv => whnf
    refine dcase (fun h => absurd h (by omega)) (fun _ => ?_)
    conv => whnf
    repeat (refine ⟨by first | omega | (simp only [Option.getD_none, Option.getD_some]; omega) | (simp; done) | (simp; omega), ?_⟩; conv => whnf)
    refine dcase (fun h => absurd h (by omega)) (fun _ => ?_)
    conv => whnf
    repeat (refine ⟨by first | omega | (simp only [Option.getD_none, Option.getD_some]; omega) | (simp; done) | (simp; omega), ?_⟩; conv => whnf)
    refine ⟨p_hazelref12_Make_4, g_hazelref12_Make_4, by kernel_rfl, ?st10, ?_, ?_⟩
    rotate_left
    · conv => whnf
      repeat' (first | (refine ⟨by first | omega | (simp only [Option.getD_none, Option.getD_some]; omega) | (simp; done) | (simp; omega), ?_⟩; conv => whnf) | (refine .inl ⟨_, hsp, ?_⟩; conv => whnf) | (refine .inl (.inl ⟨_, hsp, ?_⟩); conv => whnf) | (refine .inr (.inl ⟨_, hst, ?_⟩); conv => whnf) | (refine .inl (.inr (.inl ⟨_, hst, ?_⟩)); conv => whnf) | (refine .inr (.inl ⟨_, s_refMem s _, ?_⟩); conv => whnf) | (refine .inl (.inr (.inl ⟨_, s_refMem s _, ?_⟩)); conv => whnf) | (refine And.intro ?_ ?_ <;> conv => whnf) | exact rfl)
    conv => whnf
    repeat (refine ⟨by first | omega | (simp only [Option.getD_none, Option.getD_some]; omega) | (simp; done) | (simp; omega), ?_⟩; conv => whnf)
    first | exact .inl rfl | exact .inr rfl
  | false =>
    have hst : Spec Tryz.prog 49 [vM s.1, vI (80 + e), vI 0] (vM (storeM s.1 (80 + e) 0)) := hst
    refine spec_introF true tab_ok 0 Tryz.func36 rfl (by kernel_rfl) rfl ?_
    conv => whnf
    refine dcase (fun h => absurd h (by omega)) (fun _ => ?_)
    conv => whnf
    repeat (refine ⟨by first | omega | (simp only [Option.getD_none, Option.getD_some]; omega) | (simp; done) | (simp; omega), ?_⟩; conv => whnf)
    refine dcase (fun h => absurd h (by omega)) (fun _ => ?_)
    conv => whnf
    repeat (refine ⟨by first | omega | (simp only [Option.getD_none, Option.getD_some]; omega) | (simp; done) | (simp; omega), ?_⟩; conv => whnf)
    refine ⟨p_hazelref12_Make_5, g_hazelref12_Make_5, by kernel_rfl, ?st11, ?_, ?_⟩
    rotate_left
    · conv => whnf
      repeat' (first | (refine ⟨by first | omega | (simp only [Option.getD_none, Option.getD_some]; omega) | (simp; done) | (simp; omega), ?_⟩; conv => whnf) | (refine .inl ⟨_, hsp, ?_⟩; conv => whnf) | (refine .inl (.inl ⟨_, hsp, ?_⟩); conv => whnf) | (refine .inr (.inl ⟨_, hst, ?_⟩); conv => whnf) | (refine .inl (.inr (.inl ⟨_, hst, ?_⟩)); conv => whnf) | (refine .inr (.inl ⟨_, s_refMem s _, ?_⟩); conv => whnf) | (refine .inl (.inr (.inl ⟨_, s_refMem s _, ?_⟩)); conv => whnf) | (refine And.intro ?_ ?_ <;> conv => whnf) | exact rfl)
    conv => whnf
    repeat (refine ⟨by first | omega | (simp only [Option.getD_none, Option.getD_some]; omega) | (simp; done) | (simp; omega), ?_⟩; conv => whnf)
    first | exact .inl rfl | exact .inr rfl
abbrev vBB (a b : Bool) : SV := .tup [(false, [.bool a]), (false, [.bool b])]
theorem s_evIs (s : Sy) (e : Int) (h0 : 0 ≤ e) (h1 : e ≤ 15) (hl : 96 ≤ s.1.1.length) : Spec Tryz.prog 37 [vS s, vI e] (vBB (decide (idxI (nI s.1.1 (80 + e)) ≠ 0)) (decide (nI s.1.1 (80 + e) % 2 = 1))) := by
  have hie := s_isEvent e
  rw [decide_eq_true h0, decide_eq_true (Int.lt_of_le_of_lt h1 (by decide))] at hie
  have hsp := s_Spot12 e h0 h1
  refine spec_introF true tab_ok 0 Tryz.func37 rfl (by kernel_rfl) rfl ?_
  conv => whnf
  first | refine .inl ⟨_, hie, ?_⟩ | refine .inl (.inl ⟨_, hie, ?_⟩)
  conv => whnf
  repeat (refine ⟨by first | omega | (simp only [Option.getD_none, Option.getD_some]; omega) | (simp; done) | (simp; omega), ?_⟩; conv => whnf)
  refine ⟨p_event_Is_3, g_event_Is_3, by kernel_rfl, ?st12, ?_, ?_⟩
  rotate_left
  · conv => whnf
    repeat' (first | (refine ⟨by first | omega | (simp only [Option.getD_none, Option.getD_some]; omega) | (simp; done) | (simp; omega), ?_⟩; conv => whnf) | (refine .inl ⟨_, hsp, ?_⟩; conv => whnf) | (refine .inl (.inl ⟨_, hsp, ?_⟩); conv => whnf) | (refine And.intro ?_ ?_ <;> conv => whnf) | exact rfl)
  conv => whnf
  repeat (refine ⟨by first | omega | (simp only [Option.getD_none, Option.getD_some]; omega) | (simp; done) | (simp; omega), ?_⟩; conv => whnf)
  first | refine .inl ⟨_, s_Index _, ?_⟩ | refine .inl (.inl ⟨_, s_Index _, ?_⟩)
  conv => whnf
  repeat (refine ⟨by first | omega | (simp only [Option.getD_none, Option.getD_some]; omega) | (simp; done) | (simp; omega), ?_⟩; conv => whnf)
  first | refine .inl ⟨_, s_Mark _, ?_⟩ | refine .inl (.inl ⟨_, s_Mark _, ?_⟩)
  conv => whnf
  repeat (refine ⟨by first | omega | (simp only [Option.getD_none, Option.getD_some]; omega) | (simp; done) | (simp; omega), ?_⟩; conv => whnf)
  first | exact .inl rfl | exact .inr rfl
theorem s_refIs12 (s : Sy) (e : Int) (h0 : 0 ≤ e) (h1 : e ≤ 15) (hl : 96 ≤ s.1.1.length) : Spec Tryz.prog 38 [vS s, vI e] (vBB (decide (idxI (nI s.1.1 (80 + e)) ≠ 0)) (decide (nI s.1.1 (80 + e) % 2 = 1))) := by
  have hsp := s_refSpot12 e h0 h1
  refine spec_introF true tab_ok 0 Tryz.func38 rfl (by kernel_rfl) rfl ?_
  conv => whnf
  refine dcase (fun h => absurd h (by omega)) (fun _ => ?_)
  conv => whnf
  repeat (refine ⟨by first | omega | (simp only [Option.getD_none, Option.getD_some]; omega) | (simp; done) | (simp; omega), ?_⟩; conv => whnf)
  refine dcase (fun h => absurd h (by omega)) (fun _ => ?_)
  conv => whnf
  repeat (refine ⟨by first | omega | (simp only [Option.getD_none, Option.getD_some]; omega) | (simp; done) | (simp; omega), ?_⟩; conv => whnf)
  refine ⟨p_hazelref12_Is_3, g_hazelref12_Is_3, by kernel_rfl, ?st13, ?_, ?_⟩
  rotate_left
  · conv => whnf
    repeat' (first | (refine ⟨by first | omega | (simp only [Option.getD_none, Option.getD_some]; omega) | (simp; done) | (simp; omega), ?_⟩; conv => whnf) | (refine .inl ⟨_, hsp, ?_⟩; conv => whnf) | (refine .inl (.inl ⟨_, hsp, ?_⟩); conv => whnf) | (refine And.intro ?_ ?_ <;> conv => whnf) | exact rfl)
  conv => whnf
  repeat (refine ⟨by first | omega | (simp only [Option.getD_none, Option.getD_some]; omega) | (simp; done) | (simp; omega), ?_⟩; conv => whnf)
  first | refine .inl ⟨_, s_refIndex _, ?_⟩ | refine .inl (.inl ⟨_, s_refIndex _, ?_⟩)
  conv => whnf
  repeat (refine ⟨by first | omega | (simp only [Option.getD_none, Option.getD_some]; omega) | (simp; done) | (simp; omega), ?_⟩; conv => whnf)
  first | refine .inl ⟨_, s_refMark _, ?_⟩ | refine .inl (.inl ⟨_, s_refMark _, ?_⟩)
  conv => whnf
  repeat (refine ⟨by first | omega | (simp only [Option.getD_none, Option.getD_some]; omega) | (simp; done) | (simp; omega), ?_⟩; conv => whnf)
  first | exact .inl rfl | exact .inr rfl
/-! ### A core without a frame stands still -/
theorem s_msqStepNo (s : Sy) (k : Int) (ht : topI s k = none) (hf : Fine s) : Spec Tryz.prog 25 [vS s, vI k] (vS s) := by
  refine spec_introF true tab_ok 0 Tryz.func25 rfl (by kernel_rfl) rfl ?_
  conv => whnf
  first | refine .inr (.inl ⟨_, s_topNo ht hf, ?_⟩) | refine .inl (.inr (.inl ⟨_, s_topNo ht hf, ?_⟩))
  conv => whnf
  repeat (refine ⟨by first | omega | (simp only [Option.getD_none, Option.getD_some]; omega) | (simp; done) | (simp; omega), ?_⟩; conv => whnf)
  first | refine .inr (.inl ⟨_, s_allocStepNo s k ht hf, ?_⟩) | refine .inl (.inr (.inl ⟨_, s_allocStepNo s k ht hf, ?_⟩))
  conv => whnf
  repeat (refine ⟨by first | omega | (simp only [Option.getD_none, Option.getD_some]; omega) | (simp; done) | (simp; omega), ?_⟩; conv => whnf)
  first | exact .inl rfl | exact .inr rfl
theorem s_listStepNo (s : Sy) (k : Int) (ht : topI s k = none) (hf : Fine s) : Spec Tryz.prog 32 [vS s, vI k] (vS s) := by
  refine spec_introF true tab_ok 0 Tryz.func32 rfl (by kernel_rfl) rfl ?_
  conv => whnf
  first | refine .inr (.inl ⟨_, s_topNo ht hf, ?_⟩) | refine .inl (.inr (.inl ⟨_, s_topNo ht hf, ?_⟩))
  conv => whnf
  repeat (refine ⟨by first | omega | (simp only [Option.getD_none, Option.getD_some]; omega) | (simp; done) | (simp; omega), ?_⟩; conv => whnf)
  first | refine .inr (.inl ⟨_, s_msqStepNo s k ht hf, ?_⟩) | refine .inl (.inr (.inl ⟨_, s_msqStepNo s k ht hf, ?_⟩))
  conv => whnf
  repeat (refine ⟨by first | omega | (simp only [Option.getD_none, Option.getD_some]; omega) | (simp; done) | (simp; omega), ?_⟩; conv => whnf)
  first | exact .inl rfl | exact .inr rfl
theorem s_tableStepNo (s : Sy) (k : Int) (ht : topI s k = none) (hf : Fine s) : Spec Tryz.prog 60 [vS s, vI k] (vS s) := by
  refine spec_introF true tab_ok 0 Tryz.func60 rfl (by kernel_rfl) rfl ?_
  conv => whnf
  first | refine .inr (.inl ⟨_, s_topNo ht hf, ?_⟩) | refine .inl (.inr (.inl ⟨_, s_topNo ht hf, ?_⟩))
  conv => whnf
  repeat (refine ⟨by first | omega | (simp only [Option.getD_none, Option.getD_some]; omega) | (simp; done) | (simp; omega), ?_⟩; conv => whnf)
  first | refine .inr (.inl ⟨_, s_listStepNo s k ht hf, ?_⟩) | refine .inl (.inr (.inl ⟨_, s_listStepNo s k ht hf, ?_⟩))
  conv => whnf
  repeat (refine ⟨by first | omega | (simp only [Option.getD_none, Option.getD_some]; omega) | (simp; done) | (simp; omega), ?_⟩; conv => whnf)
  first | exact .inl rfl | exact .inr rfl
theorem s_evStepNo (s : Sy) (k : Int) (ht : topI s k = none) (hf : Fine s) : Spec Tryz.prog 43 [vS s, vI k] (vS s) := by
  refine spec_introF true tab_ok 0 Tryz.func43 rfl (by kernel_rfl) rfl ?_
  conv => whnf
  first | refine .inr (.inl ⟨_, s_topNo ht hf, ?_⟩) | refine .inl (.inr (.inl ⟨_, s_topNo ht hf, ?_⟩))
  conv => whnf
  repeat (refine ⟨by first | omega | (simp only [Option.getD_none, Option.getD_some]; omega) | (simp; done) | (simp; omega), ?_⟩; conv => whnf)
  first | refine .inr (.inl ⟨_, s_tableStepNo s k ht hf, ?_⟩) | refine .inl (.inr (.inl ⟨_, s_tableStepNo s k ht hf, ?_⟩))
  conv => whnf
  repeat (refine ⟨by first | omega | (simp only [Option.getD_none, Option.getD_some]; omega) | (simp; done) | (simp; omega), ?_⟩; conv => whnf)
  first | exact .inl rfl | exact .inr rfl

/-- A step of a core that is at an event, or at nothing. -/
def evS (s : Sy) (k : Int) : Sy := match topI s k with
  | none => s
  | some f => evF s k f.1 f.2.1 f.2.2.1 f.2.2.2.1
/-- Such a frame. -/
def EvFr (f : Frm) : Prop := (19 ≤ f.1 ∧ f.1 ≤ 21) ∧ (0 ≤ f.2.2.1.1 ∧ f.2.2.1.1 ≤ 15) ∧ (f.2.1 = 0 ∨ f.2.1 = 1)
theorem s_evS (s : Sy) (k : Int) (hf : Fine s) (h : ∀ f, topI s k = some f → EvFr f) : Spec Tryz.prog 43 [vS s, vI k] (vS (evS s k)) := by
  cases ht : topI s k with
  | none =>
    unfold evS
    rw [ht]
    exact s_evStepNo s k ht hf
  | some f =>
    obtain ⟨⟨a1, a2⟩, ⟨b1, b2⟩, hp⟩ := h f ht
    obtain ⟨op, pc, r, l, u⟩ := f
    obtain rfl : u = () := rfl
    unfold evS
    rw [ht]
    show Spec Tryz.prog 43 [vS s, vI k] (vS (evF s k op pc r l))
    unfold evF
    rw [if_pos ⟨b1, b2⟩]
    rcases hp with hp | hp
    · have hp : pc = 0 := hp
      subst hp
      rw [if_pos rfl]
      exact s_evStep0 s k op r l ht a1 a2 b1 b2 hf
    · have hp : pc = 1 := hp
      subst hp
      rw [if_neg (by decide), if_pos rfl]
      exact s_evStep1 s k op r l ht a1 a2 b1 b2 hf
theorem endE_fin {N : Nat} {s : Sy} {k kind e v : Int} (h : Fin N s) : Fin (N + 1) (endE s k kind e v) := by
  unfold endE
  exact h.logS.backS
theorem evS_fin {N : Nat} {s : Sy} {k : Int} (h : Fin N s) : Fin (N + 1) (evS s k) := by
  unfold evS
  split
  · exact h.more (by omega)
  · rename_i f hf
    have hl := h.top hf
    unfold evF
    split
    · split
      · unfold ev0
        split
        · exact endE_fin (h.mem (loadM_fits h.fits))
        split
        · exact endE_fin (h.mem (loadM_fits h.fits))
        · exact (Fin.setS (h.mem (loadM_fits h.fits)) (by exact hl)).more (Nat.le_succ N)
      split
      · unfold ev1
        split
        · exact endE_fin (h.mem (casM_fits h.fits))
        · exact (Fin.setS (h.mem (casM_fits h.fits)) (by exact hl)).more (Nat.le_succ N)
      · exact h.more (by omega)
    · exact h.more (by omega)
/-- So many steps of core k. -/
def itE (k : Int) (s : Sy) : Nat → Sy
  | 0 => s
  | j + 1 => evS (itE k s j) k
theorem itE_fin {N : Nat} {k : Int} {s : Sy} (h : Fin N s) : ∀ j, Fin (N + j) (itE k s j)
  | 0 => h
  | j + 1 => evS_fin (itE_fin h j)
def okB (s : Sy) (k : Int) : Bool := match topI s k with
  | none => true
  | some (op, pc, (a, _), _, _) => decide ((19 : Int) ≤ op) && decide (op ≤ (21 : Int)) && (decide ((0 : Int) ≤ a) && decide (a ≤ (15 : Int))) && (decide (pc = (0 : Int)) || decide (pc = (1 : Int)))
theorem okB_is {s : Sy} {k : Int} (h : okB s k = true) : ∀ f, topI s k = some f → EvFr f := fun f hf => by
  unfold okB at h
  rw [hf] at h
  obtain ⟨op, pc, ⟨a, b⟩, l, u⟩ := f
  simp only [Bool.and_eq_true, Bool.or_eq_true, decide_eq_true_eq] at h
  exact ⟨h.1.1, h.1.2, h.2⟩
def shE : Nat → Sy
  | 0 => mkE (newF 1 2) 3 true
  | i + 1 => itE 0 (callS (shE i) 0 (if i = 0 then 19 else 21) 3 0 0) 3
theorem mkE_fin {N : Nat} {s : Sy} {e : Int} {b : Bool} (h : Fin N s) : Fin N (mkE s e b) := h.mem (storeM_fits h.fits)
theorem shE_fin : ∀ i, Fin (3 * i) (shE i)
  | 0 => mkE_fin (newF_fin (by decide) (by decide) (by decide))
  | i + 1 => itE_fin (shE_fin i).callS 3
theorem shE_ok : ∀ i j : Nat, i < 3 → j < 3 → okB (itE 0 (callS (shE i) 0 (if i = 0 then 19 else 21) 3 0 0) j) 0 = true := by
  have h : ∀ i : Nat, i < 3 → ∀ j : Nat, j < 3 → okB (itE 0 (callS (shE i) 0 (if i = 0 then 19 else 21) 3 0 0) j) 0 = true := by decide +kernel
  exact fun i j hi hj => h i hi j hj
theorem shE_is : ((shE 2).2.1.length = 1 ∧ (cAt (shE 2).2.1 0).1.length = 0 ∧ cV (shE 2) 0 = 1) ∧ ((shE 3).2.1.length = 1 ∧ (cAt (shE 3).2.1 0).1.length = 0 ∧ cV (shE 3) 0 = 0 ∧ (shE 3).2.2.1.length = 3) ∧ 96 ≤ (shE 1).1.1.length ∧ idxI (nI (shE 1).1.1 83) ≠ 0 ∧ nI (shE 1).1.1 83 % 2 = 1 := by decide +kernel
theorem s_alone12 (s : Sy) (op e : Int) (X : Nat → Sy) (h0 : callS s 0 op e 0 0 = X 0) (hl : s.2.1.length ≤ 1000000) (hX : ∀ k : Nat, k < 3 → Spec Tryz.prog 43 [vS (X k), vI 0] (vS (X (k + 1)))) : Spec Tryz.prog 101 [vS s, vI op, vI e] (vS (X 3)) := by
  have hc := s_refCall s 0 op e 0 0 hl
  rw [h0] at hc
  refine spec_introF true tab_ok 0 Tryz.func101 rfl (by kernel_rfl) rfl ?_
  conv => whnf
  first | refine .inr (.inl ⟨_, hc, ?_⟩) | refine .inl (.inr (.inl ⟨_, hc, ?_⟩))
  conv => whnf
  repeat (refine ⟨by first | omega | (simp only [Option.getD_none, Option.getD_some]; omega) | (simp; done) | (simp; omega), ?_⟩; conv => whnf)
  refine ⟨[], [3, 6, 7], [3, 6], ?_⟩
  apply Exists.intro
  conv => whnf
  refine loopK (fun k : Nat => 3 - k) (fun k => k ≤ 3) (fun k => ⟨lay 19 0 [(3, pB 3), (6, pB 6), (7, vI k)], [(3, .cells ySys (cS (X k))), (6, .cells ySys (zeroC tSys))], []⟩) ?_ 0 rfl rfl (by decide)
  intro k ih hk hih
  conv => whnf
  refine dcase (fun h3 => ?_) (fun h3 => ?_)
  · replace h3 : (k : Int) < 3 := h3
    conv => whnf
    repeat (refine ⟨by first | omega | (simp only [Option.getD_none, Option.getD_some]; omega) | (simp; done) | (simp; omega), ?_⟩; conv => whnf)
    first | refine .inr (.inl ⟨_, hX k (by omega), ?_⟩) | refine .inl (.inr (.inl ⟨_, hX k (by omega), ?_⟩))
    conv => whnf
    repeat (refine ⟨by first | omega | (simp only [Option.getD_none, Option.getD_some]; omega) | (simp; done) | (simp; omega), ?_⟩; conv => whnf)
    intro w hw
    replace hw : w = ((k + 1 : Nat) : Int) := by rw [IntWalk.wrap64_in _ (by omega)] at hw; omega
    subst hw
    conv => whnf
    exact hih (k + 1) (by omega) (by omega)
  · replace h3 : ¬ (k : Int) < 3 := h3
    obtain rfl : k = 3 := by omega
    conv => whnf
    repeat (refine ⟨by first | omega | (simp only [Option.getD_none, Option.getD_some]; omega) | (simp; done) | (simp; omega), ?_⟩; conv => whnf)
    first | exact .inl rfl | exact .inr rfl
/-! ### Which ops these are -/
theorem s_msqOwn (op : Int) : Spec Tryz.prog 21 [vI op] (vB (ownB 1 10 op)) := by
  have h := s_allocOwn op
  refine spec_introF true tab_ok 0 Tryz.func21 rfl (by kernel_rfl) rfl ?_
  conv => whnf
  refine dcase (fun h1 => ?_) (fun h1 => ?_)
  · rw [show ownB 1 10 op = true from decide_eq_true (by omega)]
    conv => whnf
    repeat (refine ⟨by first | omega | (simp only [Option.getD_none, Option.getD_some]; omega) | (simp; done) | (simp; omega), ?_⟩; conv => whnf)
    first | exact .inl rfl | exact .inr rfl
  conv => whnf
  repeat (refine ⟨by first | omega | (simp only [Option.getD_none, Option.getD_some]; omega) | (simp; done) | (simp; omega), ?_⟩; conv => whnf)
  refine dcase (fun h2 => ?_) (fun h2 => ?_)
  · rw [show ownB 1 10 op = true from decide_eq_true (by omega)]
    conv => whnf
    repeat (refine ⟨by first | omega | (simp only [Option.getD_none, Option.getD_some]; omega) | (simp; done) | (simp; omega), ?_⟩; conv => whnf)
    first | exact .inl rfl | exact .inr rfl
  conv => whnf
  repeat (refine ⟨by first | omega | (simp only [Option.getD_none, Option.getD_some]; omega) | (simp; done) | (simp; omega), ?_⟩; conv => whnf)
  first | refine .inl ⟨_, h, ?_⟩ | refine .inl (.inl ⟨_, h, ?_⟩)
  conv => whnf
  repeat (refine ⟨by first | omega | (simp only [Option.getD_none, Option.getD_some]; omega) | (simp; done) | (simp; omega), ?_⟩; conv => whnf)
  rw [show ownB 1 10 op = ownB 1 8 op from decide_eq_decide.2 (by omega)]
  first | exact .inl rfl | exact .inr rfl
theorem s_listOwn (op : Int) : Spec Tryz.prog 30 [vI op] (vB (ownB 1 14 op)) := by
  have h := s_msqOwn op
  refine spec_introF true tab_ok 0 Tryz.func30 rfl (by kernel_rfl) rfl ?_
  conv => whnf
  refine dcase (fun h1 => ?_) (fun h1 => ?_)
  · skip
    conv => whnf
    repeat (refine ⟨by first | omega | (simp only [Option.getD_none, Option.getD_some]; omega) | (simp; done) | (simp; omega), ?_⟩; conv => whnf)
    refine dcase (fun h2 => ?_) (fun h2 => ?_)
    · rw [show ownB 1 14 op = true from decide_eq_true (by omega)]
      conv => whnf
      repeat (refine ⟨by first | omega | (simp only [Option.getD_none, Option.getD_some]; omega) | (simp; done) | (simp; omega), ?_⟩; conv => whnf)
      first | exact .inl rfl | exact .inr rfl
    conv => whnf
    repeat (refine ⟨by first | omega | (simp only [Option.getD_none, Option.getD_some]; omega) | (simp; done) | (simp; omega), ?_⟩; conv => whnf)
    first | refine .inl ⟨_, h, ?_⟩ | refine .inl (.inl ⟨_, h, ?_⟩)
    conv => whnf
    repeat (refine ⟨by first | omega | (simp only [Option.getD_none, Option.getD_some]; omega) | (simp; done) | (simp; omega), ?_⟩; conv => whnf)
    rw [show ownB 1 14 op = ownB 1 10 op from decide_eq_decide.2 (by omega)]
    first | exact .inl rfl | exact .inr rfl
  conv => whnf
  repeat (refine ⟨by first | omega | (simp only [Option.getD_none, Option.getD_some]; omega) | (simp; done) | (simp; omega), ?_⟩; conv => whnf)
  first | refine .inl ⟨_, h, ?_⟩ | refine .inl (.inl ⟨_, h, ?_⟩)
  conv => whnf
  repeat (refine ⟨by first | omega | (simp only [Option.getD_none, Option.getD_some]; omega) | (simp; done) | (simp; omega), ?_⟩; conv => whnf)
  rw [show ownB 1 14 op = ownB 1 10 op from decide_eq_decide.2 (by omega)]
  first | exact .inl rfl | exact .inr rfl
theorem s_tableOwn (op : Int) : Spec Tryz.prog 58 [vI op] (vB (ownB 1 18 op)) := by
  have h := s_listOwn op
  refine spec_introF true tab_ok 0 Tryz.func58 rfl (by kernel_rfl) rfl ?_
  conv => whnf
  refine dcase (fun h1 => ?_) (fun h1 => ?_)
  · skip
    conv => whnf
    repeat (refine ⟨by first | omega | (simp only [Option.getD_none, Option.getD_some]; omega) | (simp; done) | (simp; omega), ?_⟩; conv => whnf)
    refine dcase (fun h2 => ?_) (fun h2 => ?_)
    · rw [show ownB 1 18 op = true from decide_eq_true (by omega)]
      conv => whnf
      repeat (refine ⟨by first | omega | (simp only [Option.getD_none, Option.getD_some]; omega) | (simp; done) | (simp; omega), ?_⟩; conv => whnf)
      first | exact .inl rfl | exact .inr rfl
    conv => whnf
    repeat (refine ⟨by first | omega | (simp only [Option.getD_none, Option.getD_some]; omega) | (simp; done) | (simp; omega), ?_⟩; conv => whnf)
    first | refine .inl ⟨_, h, ?_⟩ | refine .inl (.inl ⟨_, h, ?_⟩)
    conv => whnf
    repeat (refine ⟨by first | omega | (simp only [Option.getD_none, Option.getD_some]; omega) | (simp; done) | (simp; omega), ?_⟩; conv => whnf)
    rw [show ownB 1 18 op = ownB 1 14 op from decide_eq_decide.2 (by omega)]
    first | exact .inl rfl | exact .inr rfl
  conv => whnf
  repeat (refine ⟨by first | omega | (simp only [Option.getD_none, Option.getD_some]; omega) | (simp; done) | (simp; omega), ?_⟩; conv => whnf)
  first | refine .inl ⟨_, h, ?_⟩ | refine .inl (.inl ⟨_, h, ?_⟩)
  conv => whnf
  repeat (refine ⟨by first | omega | (simp only [Option.getD_none, Option.getD_some]; omega) | (simp; done) | (simp; omega), ?_⟩; conv => whnf)
  rw [show ownB 1 18 op = ownB 1 14 op from decide_eq_decide.2 (by omega)]
  first | exact .inl rfl | exact .inr rfl
theorem s_evOwn (op : Int) : Spec Tryz.prog 39 [vI op] (vB (ownB 1 21 op)) := by
  have h := s_tableOwn op
  refine spec_introF true tab_ok 0 Tryz.func39 rfl (by kernel_rfl) rfl ?_
  conv => whnf
  refine dcase (fun h1 => ?_) (fun h1 => ?_)
  · skip
    conv => whnf
    repeat (refine ⟨by first | omega | (simp only [Option.getD_none, Option.getD_some]; omega) | (simp; done) | (simp; omega), ?_⟩; conv => whnf)
    refine dcase (fun h2 => ?_) (fun h2 => ?_)
    · rw [show ownB 1 21 op = true from decide_eq_true (by omega)]
      conv => whnf
      repeat (refine ⟨by first | omega | (simp only [Option.getD_none, Option.getD_some]; omega) | (simp; done) | (simp; omega), ?_⟩; conv => whnf)
      first | exact .inl rfl | exact .inr rfl
    conv => whnf
    repeat (refine ⟨by first | omega | (simp only [Option.getD_none, Option.getD_some]; omega) | (simp; done) | (simp; omega), ?_⟩; conv => whnf)
    first | refine .inl ⟨_, h, ?_⟩ | refine .inl (.inl ⟨_, h, ?_⟩)
    conv => whnf
    repeat (refine ⟨by first | omega | (simp only [Option.getD_none, Option.getD_some]; omega) | (simp; done) | (simp; omega), ?_⟩; conv => whnf)
    rw [show ownB 1 21 op = ownB 1 18 op from decide_eq_decide.2 (by omega)]
    first | exact .inl rfl | exact .inr rfl
  conv => whnf
  repeat (refine ⟨by first | omega | (simp only [Option.getD_none, Option.getD_some]; omega) | (simp; done) | (simp; omega), ?_⟩; conv => whnf)
  first | refine .inl ⟨_, h, ?_⟩ | refine .inl (.inl ⟨_, h, ?_⟩)
  conv => whnf
  repeat (refine ⟨by first | omega | (simp only [Option.getD_none, Option.getD_some]; omega) | (simp; done) | (simp; omega), ?_⟩; conv => whnf)
  rw [show ownB 1 21 op = ownB 1 18 op from decide_eq_decide.2 (by omega)]
  first | exact .inl rfl | exact .inr rfl
theorem s_shown12 : Spec Tryz.prog 34 [] (vB true) := by
  have hal : ∀ i : Nat, i < 3 → Spec Tryz.prog 101 [vS (shE i), vI (if i = 0 then 19 else 21), vI 3] (vS (shE (i + 1))) := fun i hi =>
    s_alone12 (shE i) _ 3 (itE 0 (callS (shE i) 0 (if i = 0 then 19 else 21) 3 0 0)) rfl (Nat.le_trans (shE_fin i).cores (by decide)) fun k hk => s_evS _ 0 (Fin.fine ((itE_fin (shE_fin i).callS k).more (show 3 * i + k ≤ 100 by omega)) (by decide)) (okB_is (shE_ok i k hi hk))
  have hnew := s_refNewF 1 2 (by decide) (by decide) (by decide) (by decide)
  have hmk := s_evMake (newF 1 2) 3 true (by decide) (by decide) (newF_fin (c := 1) (n := 2) (by decide) (by decide) (by decide)).fits
  obtain ⟨⟨a1, a2, a3⟩, ⟨b1, b2, b3, b4⟩, d1, d2, d3⟩ := shE_is
  have hA := hal 0 (by decide)
  have hB := hal 1 (by decide)
  have hC := hal 2 (by decide)
  have hIs := s_evIs (shE 1) 3 (by decide) (by decide) d1
  rw [show (80 : Int) + 3 = 83 from rfl, decide_eq_true d2, decide_eq_true d3] at hIs
  have hsp := s_Spot12 3 (by decide) (by decide)
  have ho1 := s_evOwn 21
  have ho2 := s_evOwn 28
  have hmk : Spec Tryz.prog 35 [vS (newF 1 2), vI 3, vB true] (vSI (shE 0) 0) := hmk
  have hA : Spec Tryz.prog 101 [vS (shE 0), vI 19, vI 3] (vS (shE 1)) := hA
  have hB : Spec Tryz.prog 101 [vS (shE 1), vI 21, vI 3] (vS (shE 2)) := hB
  have hC : Spec Tryz.prog 101 [vS (shE 2), vI 21, vI 3] (vS (shE 3)) := hC
  rw [show ownB 1 21 21 = true from rfl] at ho1
  rw [show ownB 1 21 28 = false from rfl] at ho2
  clear hal
  generalize newF 1 2 = s0 at hnew hmk
  obtain ⟨S, hS⟩ : ∃ S : Nat → Sy, ∀ i, shE i = S i := ⟨_, fun _ => rfl⟩
  rw [hS] at hmk hA hB hC hIs
  rw [hS] at a1 a2 a3 b1 b2 b3 b4 hA hB hC
  have z2 : (0 : Int) ≤ 0 ∧ (0 : Int) < ((S 2).2.1.length : Int) := ⟨by decide, by rw [a1]; decide⟩
  have z3 : (0 : Int) ≤ 0 ∧ (0 : Int) < ((S 3).2.1.length : Int) := ⟨by decide, by rw [b1]; decide⟩
  refine spec_introF true tab_ok 0 Tryz.func34 rfl (by kernel_rfl) rfl ?_
  conv => whnf
  first | refine .inr (.inl ⟨_, hnew, ?_⟩) | refine .inl (.inr (.inl ⟨_, hnew, ?_⟩))
  conv => whnf
  repeat (refine ⟨by first | omega | (simp only [Option.getD_none, Option.getD_some]; omega) | (simp; done) | (simp; omega), ?_⟩; conv => whnf)
  first | refine .inr (.inl ⟨_, hmk, ?_⟩) | refine .inl (.inr (.inl ⟨_, hmk, ?_⟩))
  conv => whnf
  repeat (refine ⟨by first | omega | (simp only [Option.getD_none, Option.getD_some]; omega) | (simp; done) | (simp; omega), ?_⟩; conv => whnf)
  first | refine .inr (.inl ⟨_, hA, ?_⟩) | refine .inl (.inr (.inl ⟨_, hA, ?_⟩))
  conv => whnf
  repeat (refine ⟨by first | omega | (simp only [Option.getD_none, Option.getD_some]; omega) | (simp; done) | (simp; omega), ?_⟩; conv => whnf)
  first | refine .inr (.inl ⟨_, hB, ?_⟩) | refine .inl (.inr (.inl ⟨_, hB, ?_⟩))
  conv => whnf
  repeat (refine ⟨by first | omega | (simp only [Option.getD_none, Option.getD_some]; omega) | (simp; done) | (simp; omega), ?_⟩; conv => whnf)
  first | refine .inr (.inl ⟨_, hC, ?_⟩) | refine .inl (.inr (.inl ⟨_, hC, ?_⟩))
  conv => whnf
  repeat (refine ⟨by first | omega | (simp only [Option.getD_none, Option.getD_some]; omega) | (simp; done) | (simp; omega), ?_⟩; conv => whnf)
  first | refine .inl ⟨_, hIs, ?_⟩ | refine .inl (.inl ⟨_, hIs, ?_⟩)
  conv => whnf
  repeat (refine ⟨by first | omega | (simp only [Option.getD_none, Option.getD_some]; omega) | (simp; done) | (simp; omega), ?_⟩; conv => whnf)
  have c2 : ¬ ((S 2).2.1.length : Int) ≠ 1 := by rw [a1]; decide
  have c3 : ¬ ((S 3).2.1.length : Int) ≠ 1 := by rw [b1]; decide
  have f2 : (((List.getD (S 2).2.1 (0 : Int).toNat (dflt tCore)).1.length : Nat) : Int) = 0 := by show (((cAt (S 2).2.1 0).1.length : Nat) : Int) = 0; rw [a2]; rfl
  have f3 : (((List.getD (S 3).2.1 (0 : Int).toNat (dflt tCore)).1.length : Nat) : Int) = 0 := by show (((cAt (S 3).2.1 0).1.length : Nat) : Int) = 0; rw [b2]; rfl
  have v2 : (List.getD (S 2).2.1 (0 : Int).toNat (dflt tCore)).2.1 = 1 := a3
  have v3 : (List.getD (S 3).2.1 (0 : Int).toNat (dflt tCore)).2.1 = 0 := b3
  have l3 : ((S 3).2.2.1.length : Int) = 3 := by rw [b4]; rfl
  refine ⟨p_hazellaw12_shown_6, g_hazellaw12_shown_6, by kernel_rfl, ?st14, ?_, ?_⟩
  rotate_left
  · conv => whnf
    repeat' (first | ((refine dcase (fun h => absurd h c2) (fun _ => ?_); conv => whnf)) | ((refine dcase (fun h => absurd h c3) (fun _ => ?_); conv => whnf)) | (refine ⟨z2, ?_⟩; conv => whnf) | (refine ⟨z3, ?_⟩; conv => whnf) | ((intro w hw; rw [f2, f3] at hw; replace hw : w = 0 := hw.trans (IntWalk.wrap64_in _ (by decide)); subst hw; conv => whnf)) | (refine And.intro ?_ ?_ <;> conv => whnf) | exact rfl)
  conv => whnf
  repeat (refine ⟨by first | omega | (simp only [Option.getD_none, Option.getD_some]; omega) | (simp; done) | (simp; omega), ?_⟩; conv => whnf)
  refine dcase (fun _ => ?_) (fun h => absurd v2 h)
  conv => whnf
  repeat (refine ⟨by first | omega | (simp only [Option.getD_none, Option.getD_some]; omega) | (simp; done) | (simp; omega), ?_⟩; conv => whnf)
  refine dcase (fun _ => ?_) (fun h => absurd v3 h)
  conv => whnf
  refine dcase (fun _ => ?_) (fun h => absurd l3 h)
  conv => whnf
  first | refine .inl ⟨_, hsp, ?_⟩ | refine .inl (.inl ⟨_, hsp, ?_⟩)
  conv => whnf
  repeat (refine ⟨by first | omega | (simp only [Option.getD_none, Option.getD_some]; omega) | (simp; done) | (simp; omega), ?_⟩; conv => whnf)
  first | refine .inl ⟨_, ho1, ?_⟩ | refine .inl (.inl ⟨_, ho1, ?_⟩)
  conv => whnf
  repeat (refine ⟨by first | omega | (simp only [Option.getD_none, Option.getD_some]; omega) | (simp; done) | (simp; omega), ?_⟩; conv => whnf)
  first | refine .inl ⟨_, ho2, ?_⟩ | refine .inl (.inl ⟨_, ho2, ?_⟩)
  conv => whnf
  repeat (refine ⟨by first | omega | (simp only [Option.getD_none, Option.getD_some]; omega) | (simp; done) | (simp; omega), ?_⟩; conv => whnf)
  first | exact .inl rfl | exact .inr rfl
end Go.Proofs.YtlcjkogdbleboaaGreat.V
