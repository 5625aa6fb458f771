/- Layer 12: events, the document's and the program's. -/
import Derived.Test.YtlcjkogdbleboaaGreatR5
import Derived.Test.YtlcjkogdbleboaaGreatV23
set_option linter.unusedSimpArgs false
set_option linter.unusedVariables false
namespace Go.Proofs.YtlcjkogdbleboaaGreat.V
open Go Go.RowKit Go.Proofs.YtlcjkogdbleboaaGreat.Hz
set_option maxRecDepth 100000

theorem s_refMark (w : Int) : Spec Tryz.prog 92 [vI w] (vI (w % 2)) := by
  refine spec_introF false tab_ok 0 Tryz.func92 rfl (by kernel_rfl) rfl ?_
  conv => whnf
  first | refine .inl ⟨_, s_mod _ _ (by decide) (by decide), ?_⟩ | refine .inl (.inl ⟨_, s_mod _ _ (by decide) (by decide), ?_⟩)
  conv => whnf
  first | exact .inl rfl | exact .inr rfl
/-- An event ends an op. -/
def endE (s : Sy) (k kind e v : Int) : Sy := backS (logS s k kind e 0 v) k v 0
def ev0 (s : Sy) (k op : Int) (r : R8) (l : Li) : Sy :=
  if op = 21 ∧ idxI (loadI s.1 (80 + r.1)) = 0 then endE (loadM s.1 (80 + r.1), s.2) k 12 r.1 0
  else if op = 21 ∧ loadI s.1 (80 + r.1) % 2 = 0 then endE (loadM s.1 (80 + r.1), s.2) k 12 r.1 1
  else setS (loadM s.1 (80 + r.1), s.2) k (op, (1 : Int), (r.1, loadI s.1 (80 + r.1), r.2.2), l, ())
def evI (op : Int) : Int := if op = 19 then 1 else 0
def evMk (op w : Int) : Int := if op = 21 then 1 else w % 2
def evK (op : Int) : Int := if op = 19 then 10 else if op = 20 then 11 else 12
def evV (op : Int) : Int := if op = 21 then 1 else 0
def evN (op w : Int) : Int := nextI w (evI op) (evMk op w)
def ev1 (s : Sy) (k op : Int) (r : R8) (l : Li) : Sy :=
  if casB s.1 (80 + r.1) r.2.1 = true then endE (casM s.1 (80 + r.1) r.2.1 (evN op r.2.1), s.2) k (evK op) r.1 (evV op)
  else setS (casM s.1 (80 + r.1) r.2.1 (evN op r.2.1), s.2) k (op, (0 : Int), r, l, ())
/-- A step of an event's op. -/
def evF (s : Sy) (k op pc : Int) (r : R8) (l : Li) : Sy := if 0 ≤ r.1 ∧ r.1 ≤ 15 then (if pc = 0 then ev0 s k op r l else if pc = 1 then ev1 s k op r l else s) else s
theorem endE_fine {s : Sy} {k kind e v : Int} (hf : Fine s) (hl : s.2.2.1.length ≤ 800000) : True := trivial
theorem s_isEvent (e : Int) : Spec Tryz.prog 102 [vI e] (vB (decide (0 ≤ e) && decide (e < 16))) := by
  refine spec_introF false tab_ok 0 Tryz.func102 rfl (by kernel_rfl) rfl ?_
  conv => whnf
  refine dcase (fun h => ?_) (fun h => ?_)
  · rw [decide_eq_true h]
    conv => whnf
    first | exact .inl rfl | exact .inr rfl
  · rw [decide_eq_false h]
    conv => whnf
    first | exact .inl rfl | exact .inr rfl
theorem s_Spot12 (e : Int) (h0 : 0 ≤ e) (h1 : e ≤ 15) : Spec Tryz.prog 41 [vI e] (vI (80 + e)) := by
  refine spec_introF false tab_ok 0 Tryz.func41 rfl (by kernel_rfl) rfl ?_
  conv => whnf
  rw [IntWalk.wrap64_in _ (by omega)]
  first | exact .inl rfl | exact .inr rfl
theorem s_refSpot12 (e : Int) (h0 : 0 ≤ e) (h1 : e ≤ 15) : Spec Tryz.prog 42 [vI e] (vI (80 + e)) := by
  refine spec_introF false tab_ok 0 Tryz.func42 rfl (by kernel_rfl) rfl ?_
  conv => whnf
  rw [IntWalk.wrap64_in _ (by omega)]
  first | exact .inl rfl | exact .inr rfl
theorem s_evStep0 (s : Sy) (k op : Int) (r : R8) (l : Li) (ht : topI s k = some (op, (0 : Int), r, l, ())) (h19 : 19 ≤ op) (h21 : op ≤ 21) (h0 : 0 ≤ r.1) (h1 : r.1 ≤ 15) (hf : Fine s) : Spec Tryz.prog 43 [vS s, vI k] (vS (ev0 s k op r l)) := by
  have hsp := s_Spot12 r.1 h0 h1
  have hie := s_isEvent r.1
  rw [decide_eq_true h0, decide_eq_true (Int.lt_of_le_of_lt h1 (by decide))] at hie
  have hld := s_mLoad s.1 (80 + r.1) hf.fits
  obtain ⟨w, hw⟩ : ∃ w, loadI s.1 (80 + r.1) = w := ⟨_, rfl⟩
  obtain ⟨m, hm⟩ : ∃ m, loadM s.1 (80 + r.1) = m := ⟨_, rfl⟩
  have hlog : ∀ kind v : Int, Spec Tryz.prog 105 [vS (m, s.2), vI k, vI kind, vI r.1, vI 0, vI v] (vS (logS (m, s.2) k kind r.1 0 v)) := fun kind v => s_cLog (m, s.2) k kind r.1 0 v hf.log
  have hbk : ∀ kind v : Int, Spec Tryz.prog 104 [vS (logS (m, s.2) k kind r.1 0 v), vI k, vI v, vI 0] (vS (endE (m, s.2) k kind r.1 v)) := fun kind v => s_cBack _ k v 0 (by erw [(logS_cores _ _ _ _ _ _).1]; exact hf.cores) (by erw [(logS_cores _ _ _ _ _ _).1]; exact hf.frames)
  have hset := s_cSet (m, s.2) k (op, (1 : Int), (r.1, w, r.2.2), l, ()) hf.cores hf.frames
  unfold ev0
  rw [hw, hm] at hld ⊢
  refine spec_introF true tab_ok 1 Tryz.func43 rfl (by kernel_rfl) rfl ?_
  conv => whnf
  first | refine .inr (.inl ⟨_, s_topOf ht hf, ?_⟩) | refine .inl (.inr (.inl ⟨_, s_topOf ht hf, ?_⟩))
  conv => whnf
  repeat (refine ⟨by first | omega | (simp only [Option.getD_none, Option.getD_some]; omega) | (simp; done) | (simp; omega), ?_⟩; conv => whnf)
  conv => whnf
  repeat (refine ⟨by first | omega | (simp only [Option.getD_none, Option.getD_some]; omega) | (simp; done) | (simp; omega), ?_⟩; conv => whnf)
  refine dcase (fun h => absurd h (by show ¬ op < 19; omega)) (fun _ => ?_)
  conv => whnf
  repeat (refine ⟨by first | omega | (simp only [Option.getD_none, Option.getD_some]; omega) | (simp; done) | (simp; omega), ?_⟩; conv => whnf)
  refine dcase (fun h => absurd h (by show ¬ 21 < op; omega)) (fun _ => ?_)
  conv => whnf
  repeat (refine ⟨by first | omega | (simp only [Option.getD_none, Option.getD_some]; omega) | (simp; done) | (simp; omega), ?_⟩; conv => whnf)
  first | refine .inl ⟨_, hie, ?_⟩ | refine .inl (.inl ⟨_, hie, ?_⟩)
  conv => whnf
  repeat (refine ⟨by first | omega | (simp only [Option.getD_none, Option.getD_some]; omega) | (simp; done) | (simp; omega), ?_⟩; conv => whnf)
  conv => whnf
  repeat (refine ⟨by first | omega | (simp only [Option.getD_none, Option.getD_some]; omega) | (simp; done) | (simp; omega), ?_⟩; conv => whnf)
  refine ⟨p_event_Step_10, g_event_Step_10, by kernel_rfl, ?st1, ?_, ?_⟩
  rotate_left
  · conv => whnf
    repeat' (first | (refine ⟨by first | omega | (simp only [Option.getD_none, Option.getD_some]; omega) | (simp; done) | (simp; omega), ?_⟩; conv => whnf) | (refine .inl ⟨_, hsp, ?_⟩; conv => whnf) | (refine .inl (.inl ⟨_, hsp, ?_⟩); conv => whnf) | (refine .inr (.inl ⟨_, hld, ?_⟩); conv => whnf) | (refine .inl (.inr (.inl ⟨_, hld, ?_⟩)); conv => whnf) | (refine And.intro ?_ ?_ <;> conv => whnf) | exact rfl)
  conv => whnf
  repeat (refine ⟨by first | omega | (simp only [Option.getD_none, Option.getD_some]; omega) | (simp; done) | (simp; omega), ?_⟩; conv => whnf)
  refine dcase (fun hn => ?_) (fun he => ?_)
  · have hn : ¬ op = 21 := hn
    rw [if_neg (fun e => hn e.1), if_neg (fun e => hn e.1)]
    conv => whnf
    refine .inr ⟨_, _, 500, Tryz.func106, ⟨by kernel_rfl, rfl⟩, ?_⟩
    conv => whnf
    repeat (refine ⟨by first | omega | (simp only [Option.getD_none, Option.getD_some]; omega) | (simp; done) | (simp; omega), ?_⟩; conv => whnf)
    first | refine .inr (.inl ⟨_, hset, ?_⟩) | refine .inl (.inr (.inl ⟨_, hset, ?_⟩))
    conv => whnf
    repeat (refine ⟨by first | omega | (simp only [Option.getD_none, Option.getD_some]; omega) | (simp; done) | (simp; omega), ?_⟩; conv => whnf)
    first | exact .inl rfl | exact .inr rfl
  have he : op = 21 := Classical.not_not.1 he
  subst he
  conv => whnf
  repeat (refine ⟨by first | omega | (simp only [Option.getD_none, Option.getD_some]; omega) | (simp; done) | (simp; omega), ?_⟩; conv => whnf)
  first | refine .inl ⟨_, s_Index w, ?_⟩ | refine .inl (.inl ⟨_, s_Index w, ?_⟩)
  conv => whnf
  repeat (refine ⟨by first | omega | (simp only [Option.getD_none, Option.getD_some]; omega) | (simp; done) | (simp; omega), ?_⟩; conv => whnf)
  refine dcase (fun hi => ?_) (fun hi => ?_)
  · rw [if_pos ⟨rfl, hi⟩]
    conv => whnf
    refine .inr ⟨_, _, 500, Tryz.func103, ⟨by kernel_rfl, rfl⟩, ?_⟩
    conv => whnf
    repeat (refine ⟨by first | omega | (simp only [Option.getD_none, Option.getD_some]; omega) | (simp; done) | (simp; omega), ?_⟩; conv => whnf)
    refine ⟨p_event_Step_1_1, [2, 3, 7], by kernel_rfl, ?sn0, ?_, ?_⟩
    rotate_left
    · conv => whnf
      repeat' (first | (refine ⟨by first | omega | (simp only [Option.getD_none, Option.getD_some]; omega) | (simp; done) | (simp; omega), ?_⟩; conv => whnf) | (refine .inr (.inl ⟨_, hlog 12 0, ?_⟩); conv => whnf) | (refine .inl (.inr (.inl ⟨_, hlog 12 0, ?_⟩)); conv => whnf) | (refine .inr (.inl ⟨_, hbk 12 0, ?_⟩); conv => whnf) | (refine .inl (.inr (.inl ⟨_, hbk 12 0, ?_⟩)); conv => whnf) | (refine And.intro ?_ ?_ <;> conv => whnf) | exact rfl)
    conv => whnf
    repeat (refine ⟨by first | omega | (simp only [Option.getD_none, Option.getD_some]; omega) | (simp; done) | (simp; omega), ?_⟩; conv => whnf)
    first | exact .inl rfl | exact .inr rfl
  rw [if_neg (fun e => hi e.2)]
  conv => whnf
  repeat (refine ⟨by first | omega | (simp only [Option.getD_none, Option.getD_some]; omega) | (simp; done) | (simp; omega), ?_⟩; conv => whnf)
  first | refine .inl ⟨_, s_Mark w, ?_⟩ | refine .inl (.inl ⟨_, s_Mark w, ?_⟩)
  conv => whnf
  repeat (refine ⟨by first | omega | (simp only [Option.getD_none, Option.getD_some]; omega) | (simp; done) | (simp; omega), ?_⟩; conv => whnf)
  refine dcase (fun hi => ?_) (fun hi => ?_)
  · rw [if_pos ⟨rfl, hi⟩]
    conv => whnf
    refine .inr ⟨_, _, 500, Tryz.func103, ⟨by kernel_rfl, rfl⟩, ?_⟩
    conv => whnf
    repeat (refine ⟨by first | omega | (simp only [Option.getD_none, Option.getD_some]; omega) | (simp; done) | (simp; omega), ?_⟩; conv => whnf)
    refine ⟨p_event_Step_1_1, [2, 3, 7], by kernel_rfl, ?sn1, ?_, ?_⟩
    rotate_left
    · conv => whnf
      repeat' (first | (refine ⟨by first | omega | (simp only [Option.getD_none, Option.getD_some]; omega) | (simp; done) | (simp; omega), ?_⟩; conv => whnf) | (refine .inr (.inl ⟨_, hlog 12 1, ?_⟩); conv => whnf) | (refine .inl (.inr (.inl ⟨_, hlog 12 1, ?_⟩)); conv => whnf) | (refine .inr (.inl ⟨_, hbk 12 1, ?_⟩); conv => whnf) | (refine .inl (.inr (.inl ⟨_, hbk 12 1, ?_⟩)); conv => whnf) | (refine And.intro ?_ ?_ <;> conv => whnf) | exact rfl)
    conv => whnf
    repeat (refine ⟨by first | omega | (simp only [Option.getD_none, Option.getD_some]; omega) | (simp; done) | (simp; omega), ?_⟩; conv => whnf)
    first | exact .inl rfl | exact .inr rfl
  rw [if_neg (fun e => hi e.2)]
  conv => whnf
  refine .inr ⟨_, _, 500, Tryz.func106, ⟨by kernel_rfl, rfl⟩, ?_⟩
  conv => whnf
  repeat (refine ⟨by first | omega | (simp only [Option.getD_none, Option.getD_some]; omega) | (simp; done) | (simp; omega), ?_⟩; conv => whnf)
  first | refine .inr (.inl ⟨_, hset, ?_⟩) | refine .inl (.inr (.inl ⟨_, hset, ?_⟩))
  conv => whnf
  repeat (refine ⟨by first | omega | (simp only [Option.getD_none, Option.getD_some]; omega) | (simp; done) | (simp; omega), ?_⟩; conv => whnf)
  first | exact .inl rfl | exact .inr rfl
set_option maxHeartbeats 4000000 in
theorem s_evStep1 (s : Sy) (k op : Int) (r : R8) (l : Li) (ht : topI s k = some (op, (1 : Int), r, l, ())) (h19 : 19 ≤ op) (h21 : op ≤ 21) (h0 : 0 ≤ r.1) (h1 : r.1 ≤ 15) (hf : Fine s) : Spec Tryz.prog 43 [vS s, vI k] (vS (ev1 s k op r l)) := by
  have hsp := s_Spot12 r.1 h0 h1
  have hie := s_isEvent r.1
  rw [decide_eq_true h0, decide_eq_true (Int.lt_of_le_of_lt h1 (by decide))] at hie
  have hmk := s_Mark r.2.1
  have hcas := fun n => s_mCas s.1 (80 + r.1) r.2.1 n hf.fits
  have hnx := fun i mk => s_Next r.2.1 i mk
  have hfin : ∀ (m : Me) (kind v : Int), Spec Tryz.prog 105 [vS (m, s.2), vI k, vI kind, vI r.1, vI 0, vI v] (vS (logS (m, s.2) k kind r.1 0 v)) ∧ Spec Tryz.prog 104 [vS (logS (m, s.2) k kind r.1 0 v), vI k, vI v, vI 0] (vS (endE (m, s.2) k kind r.1 v)) := fun m kind v => ⟨s_cLog (m, s.2) k kind r.1 0 v hf.log, s_cBack _ k v 0 (by erw [(logS_cores _ _ _ _ _ _).1]; exact hf.cores) (by erw [(logS_cores _ _ _ _ _ _).1]; exact hf.frames)⟩
  have hset := fun m : Me => s_cSet (m, s.2) k (op, (0 : Int), r, l, ()) hf.cores hf.frames
  have hNx : Spec Tryz.prog 69 [vI r.2.1, vI (evI op), vI (evMk op r.2.1)] (vI (evN op r.2.1)) := s_Next r.2.1 (evI op) (evMk op r.2.1)
  have hCas := hcas (evN op r.2.1)
  have hLog := hfin (casM s.1 (80 + r.1) r.2.1 (evN op r.2.1)) (evK op) (evV op)
  have hSet := hset (casM s.1 (80 + r.1) r.2.1 (evN op r.2.1))
  unfold ev1
  clear hfin hset hcas hnx
  obtain ⟨N, hN⟩ : ∃ N, evN op r.2.1 = N := ⟨_, rfl⟩
  rw [hN] at hNx hCas hLog hSet ⊢
  obtain ⟨M, hM⟩ : ∃ M, casM s.1 (80 + r.1) r.2.1 N = M := ⟨_, rfl⟩
  obtain ⟨b, hb⟩ : ∃ b, casB s.1 (80 + r.1) r.2.1 = b := ⟨_, rfl⟩
  rw [hM] at hCas hLog hSet ⊢
  rw [hb] at hCas ⊢
  have h3 : op = 19 ∨ op = 20 ∨ op = 21 := by omega
  rcases h3 with e | e | e <;> subst e
  · have hNx : Spec Tryz.prog 69 [vI r.2.1, vI 1, vI (r.2.1 % 2)] (vI N) := hNx
    obtain ⟨hLog, hBk⟩ := hLog
    refine spec_introF true tab_ok 1 Tryz.func43 rfl (by kernel_rfl) rfl ?_
    conv => whnf
    first | refine .inr (.inl ⟨_, s_topOf ht hf, ?_⟩) | refine .inl (.inr (.inl ⟨_, s_topOf ht hf, ?_⟩))
    conv => whnf
    repeat (refine ⟨by first | omega | (simp only [Option.getD_none, Option.getD_some]; omega) | (simp; done) | (simp; omega), ?_⟩; conv => whnf)
    first | refine .inl ⟨_, hie, ?_⟩ | refine .inl (.inl ⟨_, hie, ?_⟩)
    conv => whnf
    repeat (refine ⟨by first | omega | (simp only [Option.getD_none, Option.getD_some]; omega) | (simp; done) | (simp; omega), ?_⟩; conv => whnf)
    refine ⟨p_event_Step_18, g_event_Step_18, by kernel_rfl, ?st2, ?_, ?_⟩
    rotate_left
    · conv => whnf
      repeat' (first | (refine ⟨(by decide), ?_⟩; conv => whnf) | (refine .inl ⟨_, hmk, ?_⟩; conv => whnf) | (refine .inl (.inl ⟨_, hmk, ?_⟩); conv => whnf) | ((refine .inr ⟨_, _, 500, Tryz.func108, ⟨by kernel_rfl, rfl⟩, ?_⟩; conv => whnf)) | ((refine ⟨fun _ => ?_, fun h => absurd rfl h⟩; conv => whnf)) | ((refine ⟨fun h => absurd (show (19 : Int) = 20 from h) (by decide), fun _ => ?_⟩; conv => whnf)) | (refine And.intro ?_ ?_ <;> conv => whnf) | exact rfl)
    conv => whnf
    repeat (refine ⟨by first | omega | (simp only [Option.getD_none, Option.getD_some]; omega) | (simp; done) | (simp; omega), ?_⟩; conv => whnf)
    refine ⟨p_event_Step_21, g_event_Step_21, by kernel_rfl, ?st3, ?_, ?_⟩
    rotate_left
    · conv => whnf
      repeat' (first | (refine ⟨by first | omega | (simp only [Option.getD_none, Option.getD_some]; omega) | (simp; done) | (simp; omega), ?_⟩; conv => whnf) | (refine .inl ⟨_, hsp, ?_⟩; conv => whnf) | (refine .inl (.inl ⟨_, hsp, ?_⟩); conv => whnf) | (refine .inl ⟨_, hNx, ?_⟩; conv => whnf) | (refine .inl (.inl ⟨_, hNx, ?_⟩); conv => whnf) | (refine .inr (.inl ⟨_, hCas, ?_⟩); conv => whnf) | (refine .inl (.inr (.inl ⟨_, hCas, ?_⟩)); conv => whnf) | (refine And.intro ?_ ?_ <;> conv => whnf) | exact rfl)
    conv => whnf
    repeat (refine ⟨by first | omega | (simp only [Option.getD_none, Option.getD_some]; omega) | (simp; done) | (simp; omega), ?_⟩; conv => whnf)
    refine ncaseb (fun hb0 => ?_) (fun hb1 => ?_)
    · rw [if_neg (by rw [hb0]; decide)]
      conv => whnf
      refine .inr ⟨_, _, 600, Tryz.func106, ⟨by kernel_rfl, rfl⟩, ?_⟩
      conv => whnf
      repeat (refine ⟨by first | omega | (simp only [Option.getD_none, Option.getD_some]; omega) | (simp; done) | (simp; omega), ?_⟩; conv => whnf)
      first | refine .inr (.inl ⟨_, hSet, ?_⟩) | refine .inl (.inr (.inl ⟨_, hSet, ?_⟩))
      conv => whnf
      repeat (refine ⟨by first | omega | (simp only [Option.getD_none, Option.getD_some]; omega) | (simp; done) | (simp; omega), ?_⟩; conv => whnf)
      first | exact .inl rfl | exact .inr rfl
    · rw [if_pos hb1]
      conv => whnf
      repeat (refine ⟨by first | omega | (simp only [Option.getD_none, Option.getD_some]; omega) | (simp; done) | (simp; omega), ?_⟩; conv => whnf)
      refine .inr ⟨_, _, 600, Tryz.func103, ⟨by kernel_rfl, rfl⟩, ?_⟩
      conv => whnf
      repeat (refine ⟨by first | omega | (simp only [Option.getD_none, Option.getD_some]; omega) | (simp; done) | (simp; omega), ?_⟩; conv => whnf)
      refine ⟨p_event_Step_1_1, [2, 3, 7], by kernel_rfl, ?sq19, ?_, ?_⟩
      rotate_left
      · conv => whnf
        repeat' (first | (refine ⟨by first | omega | (simp only [Option.getD_none, Option.getD_some]; omega) | (simp; done) | (simp; omega), ?_⟩; conv => whnf) | (refine .inr (.inl ⟨_, hLog, ?_⟩); conv => whnf) | (refine .inl (.inr (.inl ⟨_, hLog, ?_⟩)); conv => whnf) | (refine .inr (.inl ⟨_, hBk, ?_⟩); conv => whnf) | (refine .inl (.inr (.inl ⟨_, hBk, ?_⟩)); conv => whnf) | (refine And.intro ?_ ?_ <;> conv => whnf) | exact rfl)
      conv => whnf
      repeat (refine ⟨by first | omega | (simp only [Option.getD_none, Option.getD_some]; omega) | (simp; done) | (simp; omega), ?_⟩; conv => whnf)
      first | exact .inl rfl | exact .inr rfl
  · have hNx : Spec Tryz.prog 69 [vI r.2.1, vI 0, vI (r.2.1 % 2)] (vI N) := hNx
    obtain ⟨hLog, hBk⟩ := hLog
    refine spec_introF true tab_ok 1 Tryz.func43 rfl (by kernel_rfl) rfl ?_
    conv => whnf
    first | refine .inr (.inl ⟨_, s_topOf ht hf, ?_⟩) | refine .inl (.inr (.inl ⟨_, s_topOf ht hf, ?_⟩))
    conv => whnf
    repeat (refine ⟨by first | omega | (simp only [Option.getD_none, Option.getD_some]; omega) | (simp; done) | (simp; omega), ?_⟩; conv => whnf)
    first | refine .inl ⟨_, hie, ?_⟩ | refine .inl (.inl ⟨_, hie, ?_⟩)
    conv => whnf
    repeat (refine ⟨by first | omega | (simp only [Option.getD_none, Option.getD_some]; omega) | (simp; done) | (simp; omega), ?_⟩; conv => whnf)
    refine ⟨p_event_Step_18, g_event_Step_18, by kernel_rfl, ?st4, ?_, ?_⟩
    rotate_left
    · conv => whnf
      repeat' (first | (refine ⟨(by decide), ?_⟩; conv => whnf) | (refine .inl ⟨_, hmk, ?_⟩; conv => whnf) | (refine .inl (.inl ⟨_, hmk, ?_⟩); conv => whnf) | ((refine .inr ⟨_, _, 500, Tryz.func108, ⟨by kernel_rfl, rfl⟩, ?_⟩; conv => whnf)) | ((refine ⟨fun _ => ?_, fun h => absurd rfl h⟩; conv => whnf)) | ((refine ⟨fun h => absurd (show (20 : Int) = 19 from h) (by decide), fun _ => ?_⟩; conv => whnf)) | (refine And.intro ?_ ?_ <;> conv => whnf) | exact rfl)
    conv => whnf
    repeat (refine ⟨by first | omega | (simp only [Option.getD_none, Option.getD_some]; omega) | (simp; done) | (simp; omega), ?_⟩; conv => whnf)
    refine ⟨p_event_Step_21, g_event_Step_21, by kernel_rfl, ?st5, ?_, ?_⟩
    rotate_left
    · conv => whnf
      repeat' (first | (refine ⟨by first | omega | (simp only [Option.getD_none, Option.getD_some]; omega) | (simp; done) | (simp; omega), ?_⟩; conv => whnf) | (refine .inl ⟨_, hsp, ?_⟩; conv => whnf) | (refine .inl (.inl ⟨_, hsp, ?_⟩); conv => whnf) | (refine .inl ⟨_, hNx, ?_⟩; conv => whnf) | (refine .inl (.inl ⟨_, hNx, ?_⟩); conv => whnf) | (refine .inr (.inl ⟨_, hCas, ?_⟩); conv => whnf) | (refine .inl (.inr (.inl ⟨_, hCas, ?_⟩)); conv => whnf) | (refine And.intro ?_ ?_ <;> conv => whnf) | exact rfl)
    conv => whnf
    repeat (refine ⟨by first | omega | (simp only [Option.getD_none, Option.getD_some]; omega) | (simp; done) | (simp; omega), ?_⟩; conv => whnf)
    refine ncaseb (fun hb0 => ?_) (fun hb1 => ?_)
    · rw [if_neg (by rw [hb0]; decide)]
      conv => whnf
      refine .inr ⟨_, _, 600, Tryz.func106, ⟨by kernel_rfl, rfl⟩, ?_⟩
      conv => whnf
      repeat (refine ⟨by first | omega | (simp only [Option.getD_none, Option.getD_some]; omega) | (simp; done) | (simp; omega), ?_⟩; conv => whnf)
      first | refine .inr (.inl ⟨_, hSet, ?_⟩) | refine .inl (.inr (.inl ⟨_, hSet, ?_⟩))
      conv => whnf
      repeat (refine ⟨by first | omega | (simp only [Option.getD_none, Option.getD_some]; omega) | (simp; done) | (simp; omega), ?_⟩; conv => whnf)
      first | exact .inl rfl | exact .inr rfl
    · rw [if_pos hb1]
      conv => whnf
      repeat (refine ⟨by first | omega | (simp only [Option.getD_none, Option.getD_some]; omega) | (simp; done) | (simp; omega), ?_⟩; conv => whnf)
      refine .inr ⟨_, _, 600, Tryz.func103, ⟨by kernel_rfl, rfl⟩, ?_⟩
      conv => whnf
      repeat (refine ⟨by first | omega | (simp only [Option.getD_none, Option.getD_some]; omega) | (simp; done) | (simp; omega), ?_⟩; conv => whnf)
      refine ⟨p_event_Step_1_1, [2, 3, 7], by kernel_rfl, ?sq20, ?_, ?_⟩
      rotate_left
      · conv => whnf
        repeat' (first | (refine ⟨by first | omega | (simp only [Option.getD_none, Option.getD_some]; omega) | (simp; done) | (simp; omega), ?_⟩; conv => whnf) | (refine .inr (.inl ⟨_, hLog, ?_⟩); conv => whnf) | (refine .inl (.inr (.inl ⟨_, hLog, ?_⟩)); conv => whnf) | (refine .inr (.inl ⟨_, hBk, ?_⟩); conv => whnf) | (refine .inl (.inr (.inl ⟨_, hBk, ?_⟩)); conv => whnf) | (refine And.intro ?_ ?_ <;> conv => whnf) | exact rfl)
      conv => whnf
      repeat (refine ⟨by first | omega | (simp only [Option.getD_none, Option.getD_some]; omega) | (simp; done) | (simp; omega), ?_⟩; conv => whnf)
      first | exact .inl rfl | exact .inr rfl
  · have hNx : Spec Tryz.prog 69 [vI r.2.1, vI 0, vI (1)] (vI N) := hNx
    obtain ⟨hLog, hBk⟩ := hLog
    refine spec_introF true tab_ok 1 Tryz.func43 rfl (by kernel_rfl) rfl ?_
    conv => whnf
    first | refine .inr (.inl ⟨_, s_topOf ht hf, ?_⟩) | refine .inl (.inr (.inl ⟨_, s_topOf ht hf, ?_⟩))
    conv => whnf
    repeat (refine ⟨by first | omega | (simp only [Option.getD_none, Option.getD_some]; omega) | (simp; done) | (simp; omega), ?_⟩; conv => whnf)
    first | refine .inl ⟨_, hie, ?_⟩ | refine .inl (.inl ⟨_, hie, ?_⟩)
    conv => whnf
    repeat (refine ⟨by first | omega | (simp only [Option.getD_none, Option.getD_some]; omega) | (simp; done) | (simp; omega), ?_⟩; conv => whnf)
    refine ⟨p_event_Step_18, g_event_Step_18, by kernel_rfl, ?st6, ?_, ?_⟩
    rotate_left
    · conv => whnf
      repeat' (first | (refine ⟨(by decide), ?_⟩; conv => whnf) | (refine .inl ⟨_, hmk, ?_⟩; conv => whnf) | (refine .inl (.inl ⟨_, hmk, ?_⟩); conv => whnf) | ((refine .inr ⟨_, _, 500, Tryz.func108, ⟨by kernel_rfl, rfl⟩, ?_⟩; conv => whnf)) | ((refine ⟨fun _ => ?_, fun h => absurd rfl h⟩; conv => whnf)) | ((refine ⟨fun h => absurd (show (21 : Int) = 19 from h) (by decide), fun _ => ?_⟩; conv => whnf)) | ((refine ⟨fun h => absurd (show (21 : Int) = 20 from h) (by decide), fun _ => ?_⟩; conv => whnf)) | (refine And.intro ?_ ?_ <;> conv => whnf) | exact rfl)
    conv => whnf
    repeat (refine ⟨by first | omega | (simp only [Option.getD_none, Option.getD_some]; omega) | (simp; done) | (simp; omega), ?_⟩; conv => whnf)
    refine ⟨p_event_Step_21, g_event_Step_21, by kernel_rfl, ?st7, ?_, ?_⟩
    rotate_left
    · conv => whnf
      repeat' (first | (refine ⟨by first | omega | (simp only [Option.getD_none, Option.getD_some]; omega) | (simp; done) | (simp; omega), ?_⟩; conv => whnf) | (refine .inl ⟨_, hsp, ?_⟩; conv => whnf) | (refine .inl (.inl ⟨_, hsp, ?_⟩); conv => whnf) | (refine .inl ⟨_, hNx, ?_⟩; conv => whnf) | (refine .inl (.inl ⟨_, hNx, ?_⟩); conv => whnf) | (refine .inr (.inl ⟨_, hCas, ?_⟩); conv => whnf) | (refine .inl (.inr (.inl ⟨_, hCas, ?_⟩)); conv => whnf) | (refine And.intro ?_ ?_ <;> conv => whnf) | exact rfl)
    conv => whnf
    repeat (refine ⟨by first | omega | (simp only [Option.getD_none, Option.getD_some]; omega) | (simp; done) | (simp; omega), ?_⟩; conv => whnf)
    refine ncaseb (fun hb0 => ?_) (fun hb1 => ?_)
    · rw [if_neg (by rw [hb0]; decide)]
      conv => whnf
      refine .inr ⟨_, _, 600, Tryz.func106, ⟨by kernel_rfl, rfl⟩, ?_⟩
      conv => whnf
      repeat (refine ⟨by first | omega | (simp only [Option.getD_none, Option.getD_some]; omega) | (simp; done) | (simp; omega), ?_⟩; conv => whnf)
      first | refine .inr (.inl ⟨_, hSet, ?_⟩) | refine .inl (.inr (.inl ⟨_, hSet, ?_⟩))
      conv => whnf
      repeat (refine ⟨by first | omega | (simp only [Option.getD_none, Option.getD_some]; omega) | (simp; done) | (simp; omega), ?_⟩; conv => whnf)
      first | exact .inl rfl | exact .inr rfl
    · rw [if_pos hb1]
      conv => whnf
      repeat (refine ⟨by first | omega | (simp only [Option.getD_none, Option.getD_some]; omega) | (simp; done) | (simp; omega), ?_⟩; conv => whnf)
      refine .inr ⟨_, _, 600, Tryz.func103, ⟨by kernel_rfl, rfl⟩, ?_⟩
      conv => whnf
      repeat (refine ⟨by first | omega | (simp only [Option.getD_none, Option.getD_some]; omega) | (simp; done) | (simp; omega), ?_⟩; conv => whnf)
      refine ⟨p_event_Step_1_1, [2, 3, 7], by kernel_rfl, ?sq21, ?_, ?_⟩
      rotate_left
      · conv => whnf
        repeat' (first | (refine ⟨by first | omega | (simp only [Option.getD_none, Option.getD_some]; omega) | (simp; done) | (simp; omega), ?_⟩; conv => whnf) | (refine .inr (.inl ⟨_, hLog, ?_⟩); conv => whnf) | (refine .inl (.inr (.inl ⟨_, hLog, ?_⟩)); conv => whnf) | (refine .inr (.inl ⟨_, hBk, ?_⟩); conv => whnf) | (refine .inl (.inr (.inl ⟨_, hBk, ?_⟩)); conv => whnf) | (refine And.intro ?_ ?_ <;> conv => whnf) | exact rfl)
      conv => whnf
      repeat (refine ⟨by first | omega | (simp only [Option.getD_none, Option.getD_some]; omega) | (simp; done) | (simp; omega), ?_⟩; conv => whnf)
      first | exact .inl rfl | exact .inr rfl
end Go.Proofs.YtlcjkogdbleboaaGreat.V
