/- Queues: the list of free nodes walked by the program; a new queue. -/
import Derived.Test.YtpobngddiifdpaaGreatZdQ4
import Derived.Test.YtpobngddiifdpaaGreatZdN11
set_option linter.unusedSimpArgs false
set_option linter.unusedVariables false
namespace Go.Proofs.YtpobngddiifdpaaGreat.V
open Go Go.RowKit Go.Proofs.YtpobngddiifdpaaGreat.Hz
set_option maxRecDepth 100000

theorem s_sWalk (m : Me) (l : List Int) (h : FL m l) : Spec Tryz.prog 55 [vM m] (vLB l true) := by
  have hf := h.fits
  have hlen : l.length ≤ 1000 := nodup_len 1000 l h.nodup fun p hp => by
    have := (h.mem p).1 hp
    have := hf.2
    omega
  obtain ⟨P, hP0, hP1, hP2, hP3⟩ : ∃ P : Nat → Int, P 0 = idxI (nI m.1 0) ∧ (∀ i, i < l.length → l.take (i + 1) = l.take i ++ [P i] ∧ P i ∈ l ∧ ¬ P i ∈ l.take i) ∧ (∀ i, i < l.length → nI m.1 (lk (P i)) = P (i + 1)) ∧ (∀ i, l.length ≤ i → P i = 0) := by
    refine ⟨walkP l, ?_, fun i hi => ?_, fun i hi => h.head.next hi, fun i hi => ?_⟩
    · have h1 := h.head.drop 0 (Nat.zero_le _)
      have h2 := h.head
      rw [List.drop_zero] at h1
      cases l with
      | nil => exact h1.trans h2.symm
      | cons a r => exact h1.1.trans h2.1.symm
    · have e : walkP l i = l[i] := by unfold walkP; rw [List.getD_eq_getElem?_getD, List.getElem?_eq_getElem hi]; rfl
      rw [e]
      refine ⟨List.take_succ_eq_append_getElem hi, List.getElem_mem _, fun hm => ?_⟩
      obtain ⟨j, hj, hji, he⟩ := mem_take.1 hm
      exact List.pairwise_iff_getElem.1 h.nodup j i (by omega) hi hji he
    · unfold walkP
      rw [List.getD_eq_getElem?_getD, List.getElem?_eq_none hi]
      rfl
  obtain ⟨e1, e2⟩ := load_word (m := m) (p := 0) (by decide) (by decide) hf
  have hld := s_mLoad m 0 hf
  rw [e1, e2] at hld
  have hix := s_Index (nI m.1 0)
  rw [← hP0] at hix
  refine spec_introF true tab_ok 0 Tryz.func55 rfl (by kernel_rfl) rfl ?_
  conv => whnf
  repeat (refine ⟨by first | omega | (simp only [Option.getD_none, Option.getD_some]; omega) | (simp; done) | (simp; omega), ?_⟩; conv => whnf)
  first | refine .inr (.inl ⟨_, hld, ?_⟩) | refine .inl (.inr (.inl ⟨_, hld, ?_⟩))
  conv => whnf
  repeat (refine ⟨by first | omega | (simp only [Option.getD_none, Option.getD_some]; omega) | (simp; done) | (simp; omega), ?_⟩; conv => whnf)
  first | refine .inl ⟨_, hix, ?_⟩ | refine .inl (.inl ⟨_, hix, ?_⟩)
  conv => whnf
  repeat (refine ⟨by first | omega | (simp only [Option.getD_none, Option.getD_some]; omega) | (simp; done) | (simp; omega), ?_⟩; conv => whnf)
  refine ⟨[(4, 41, yInt, tI)], [1, 2, 3, 4, 5, 8], [1, 9, 41], ?_⟩
  apply Exists.intro
  conv => whnf
  refine loopK (fun i : Nat => l.length - i) (fun i => i ≤ l.length) (fun i => ⟨lay 49 0 [(1, pB 1), (2, .one (.emp tI)), (3, vB false), (4, .one (.row 41)), (5, .one (.map 9)), (8, vI (P i))], [(1, .cells yMem (cM m)), (9, .bmap (l.take i)), (41, .row yInt tI (l.take i))], []⟩) ?_ 0 rfl rfl (Nat.zero_le _)
  intro i ih hi hih
  conv => whnf
  refine dcase (fun hp => ?_) (fun hp => ?_)
  · replace hp : P i = 0 := hp
    have hi2 : i = l.length := by
      rcases Nat.lt_or_ge i l.length with c | c
      · have := (h.mem _).1 (hP1 i c).2.1
        omega
      · omega
    subst hi2
    rw [List.take_length]
    conv => whnf
    first | exact .inl rfl | exact .inr rfl
  · have hi2 : i < l.length := Nat.lt_of_not_le fun e => hp (hP3 i e)
    obtain ⟨q1, q2, q3⟩ := hP1 i hi2
    obtain ⟨g1, g2, _⟩ := (h.mem _).1 q2
    obtain ⟨p, hpp⟩ : ∃ p, P i = p := ⟨_, rfl⟩
    have hnx := hP2 i hi2
    rw [hpp] at q1 q2 q3 g1 g2 hnx ⊢
    obtain ⟨e3, e4⟩ := load_link g1 g2 hf
    have hl2 := s_mLoad m (lk p) hf
    rw [e3, e4, hnx] at hl2
    have hAt : Spec Tryz.prog 57 [vI p, vI 0] (vI (lk p)) := by
      have := hf.2
      rw [← atI_link g1 (by omega)]
      exact s_mAt _ _
    have hti : (l.take i).length = i := by rw [List.length_take]; omega
    have hnx2 := hih (i + 1) (by omega) (by omega)
    obtain ⟨X, hX⟩ : ∃ X, l.take i = X := ⟨_, rfl⟩
    rw [hX] at q1 q3 hti ⊢
    rw [q1] at hnx2
    conv => whnf
    refine dcase (fun hc => absurd hc (by omega)) (fun _ => ?_)
    conv => whnf
    refine dcase (fun hc => absurd g2 (Int.not_lt.2 hc)) (fun _ => ?_)
    conv => whnf
    refine dcase (fun hc => absurd hc q3) (fun _ => ?_)
    conv => whnf
    refine ⟨Nat.le_trans (Nat.succ_le_succ (Nat.le_of_eq hti)) (le_most (by omega)), ?_⟩
    conv => whnf
    refine ⟨q3, ?_⟩
    conv => whnf
    refine ⟨p_stack_Walk_10, g_stack_Walk_10, by kernel_rfl, ?st1, ?_, ?_⟩
    rotate_left
    · conv => whnf
      repeat' (first | (refine .inl ⟨_, hAt, ?_⟩; conv => whnf) | (refine .inl (.inl ⟨_, hAt, ?_⟩); conv => whnf) | (refine .inr (.inl ⟨_, hl2, ?_⟩); conv => whnf) | (refine .inl (.inr (.inl ⟨_, hl2, ?_⟩)); conv => whnf) | (refine And.intro ?_ ?_ <;> conv => whnf) | exact rfl)
    conv => whnf
    exact hnx2
theorem s_OfP (p : Int) (h0 : 0 ≤ p) (h1 : p ≤ 1000) : Spec Tryz.prog 61 [vI 0, vI p, vI 0] (.tup [(false, [.int .i64 (2 * p)]), (false, [.int .i64 0])]) := by
  have ha : accI 0 p 0 3 = 2 * p := by
    show (0 : Int) % 2 + p % 1048576 * 2 + 0 % 1099511627776 * 2097152 = 2 * p
    omega
  have hj := s_joined 0 p 0
  rw [ha] at hj
  obtain ⟨w, hw⟩ : ∃ w, 2 * p = w := ⟨_, rfl⟩
  have e1 : w % 2 = 0 := by omega
  have e2 : idxI w = p := by unfold idxI; omega
  have e3 : tagI w = 0 := by unfold tagI; omega
  rw [hw] at hj ⊢
  have hm := s_Mark w
  have hi := s_Index w
  have ht := s_Tag w
  rw [e1] at hm
  rw [e2] at hi
  rw [e3] at ht
  refine spec_introF false tab_ok 0 Tryz.func61 rfl (by kernel_rfl) rfl ?_
  conv => whnf
  first | refine .inr (.inl ⟨_, hj, ?_⟩) | refine .inl (.inr (.inl ⟨_, hj, ?_⟩))
  conv => whnf
  first | refine .inl ⟨_, hm, ?_⟩ | refine .inl (.inl ⟨_, hm, ?_⟩)
  conv => whnf
  first | refine .inl ⟨_, hi, ?_⟩ | refine .inl (.inl ⟨_, hi, ?_⟩)
  conv => whnf
  refine dcase (fun h => absurd rfl h) (fun _ => ?_)
  conv => whnf
  first | refine .inl ⟨_, ht, ?_⟩ | refine .inl (.inl ⟨_, ht, ?_⟩)
  conv => whnf
  first | exact .inl rfl | exact .inr rfl
/-- A new queue. -/
theorem s_mMakeFL (s : Sy) (q p : Int) (l : List Int) (h : FL s.1 (p :: l)) (h0 : 0 ≤ q) (h1 : q ≤ 7) : Spec Tryz.prog 17 [vS s, vI q] (.tup [(true, cS (mkM s.1 q p, s.2)), (false, [.int .i64 0])]) := by
  have hq := s_isQueue q
  rw [decide_eq_true h0, decide_eq_true (Int.lt_of_le_of_lt h1 (by decide))] at hq
  have hpm := (h.mem p).1 (List.mem_cons_self ..)
  have hin : InN s.1 p := ⟨hpm.1, hpm.2.1⟩
  have hf := h.fits
  have hlen := hf.2
  have hpop := h.popped
  have hpf := hpop.fits
  have hpg : nI (popM s.1 p).2.1 p = 1 := by
    show nI (List.set (α := Int) s.1.2.1 p.toNat 1) p = 1
    rw [nI_set (by omega) (by omega), if_pos ⟨rfl, hin.2⟩]
  have hinp : InN (popM s.1 p) p := by
    refine ⟨hin.1, ?_⟩
    show p < ((List.set (α := Int) s.1.2.1 p.toNat 1).length : Int)
    rw [List.length_set]; exact hin.2
  have hlive : nI (popM s.1 p).2.1 p ≠ 0 := by rw [hpg]; decide
  have hlk := lk_is p
  obtain ⟨a1, a2⟩ := load_link hin.1 hin.2 hf
  obtain ⟨b1, b2⟩ := load_word (m := s.1) (p := 0) (by decide) (by decide) hf
  obtain ⟨w0, hw0⟩ : ∃ w0, nI s.1.1 0 = w0 := ⟨_, rfl⟩
  obtain ⟨k0, hk0⟩ : ∃ k0, nI s.1.1 (lk p) = k0 := ⟨_, rfl⟩
  have hL1 := s_mLoad s.1 (lk p) hf
  rw [a1, a2, hk0] at hL1
  have hL0 := s_mLoad s.1 0 hf
  rw [b1, b2, hw0] at hL0
  have hA0 : Spec Tryz.prog 57 [vI p, vI 0] (vI (lk p)) := by
    rw [← atI_link hin.1 (by omega)]
    exact s_mAt _ _
  obtain ⟨m1, hm1⟩ : ∃ m1, storeM s.1 0 (nextI w0 k0 0) = m1 := ⟨_, rfl⟩
  have hS1 := s_mStore s.1 0 (nextI w0 k0 0) hf
  rw [hm1] at hS1
  have hm1f : Fits m1 := by rw [← hm1]; exact storeM_fits hf
  have hT := s_mTurn m1 p 1 (Nat.le_trans hm1f.2 (by decide))
  have hT2 : turnM m1 p 1 = popM s.1 p := by
    rw [← hm1, store_word (by decide) (by decide) hf, turnM_ok (m := (List.set (α := Int) s.1.1 (0 : Int).toNat (nextI w0 k0 0), s.1.2)) (show InN s.1 p from hin) (by show turnB (nI s.1.2.1 p) 1 = true; rw [hpm.2.2]; decide), ← hw0, ← hk0]
    rfl
  rw [hT2] at hT
  obtain ⟨n1, hn1⟩ : ∃ n1, nI s.1.1 (lk p + 1) = n1 := ⟨_, rfl⟩
  obtain ⟨c1, c2⟩ := load_cell (j := 1) (by decide) hinp hlive hpf hpop.good
  rw [popM_at (by omega), hn1] at c2
  have hL2 := s_mLoad (popM s.1 p) (atI p 1) hpf
  rw [c1, c2] at hL2
  have hA1 := s_mAt p 1
  have hS2 := s_mStore (popM s.1 p) (atI p 1) (nextI n1 0 0) hpf
  rw [store_cell (by decide) hinp hlive hpf hpop.good] at hS2
  have hf3 : Fits (setW (popM s.1 p) (lk p + 1) (nextI n1 0 0)) := setW_fits hpf
  have hS3 := s_mStore (setW (popM s.1 p) (lk p + 1) (nextI n1 0 0)) (32 + 2 * q) (2 * p) hf3
  rw [store_word (by omega) (by omega) hf3] at hS3
  have hf4 : Fits (setW (setW (popM s.1 p) (lk p + 1) (nextI n1 0 0)) (32 + 2 * q) (2 * p)) := setW_fits hf3
  have hS4 := s_mStore (setW (setW (popM s.1 p) (lk p + 1) (nextI n1 0 0)) (32 + 2 * q) (2 * p)) (33 + 2 * q) (2 * p) hf4
  rw [store_word (by omega) (by omega) hf4] at hS4
  have hmk : mkM s.1 q p = setW (setW (setW (popM s.1 p) (lk p + 1) (nextI n1 0 0)) (32 + 2 * q) (2 * p)) (33 + 2 * q) (2 * p) := by rw [← hn1]; rfl
  rw [hmk]
  obtain ⟨m3, hm3⟩ : ∃ m3, setW (popM s.1 p) (lk p + 1) (nextI n1 0 0) = m3 := ⟨_, rfl⟩
  have hS2 : Spec Tryz.prog 58 [vM (popM s.1 p), vI (atI p 1), vI (nextI n1 0 0)] (vM m3) := by rw [← hm3]; exact hS2
  rw [hm3] at hS3 hS4 ⊢
  obtain ⟨m4, hm4⟩ : ∃ m4, setW m3 (32 + 2 * q) (2 * p) = m4 := ⟨_, rfl⟩
  have hS3 : Spec Tryz.prog 58 [vM m3, vI (32 + 2 * q), vI (2 * p)] (vM m4) := by rw [← hm4]; exact hS3
  rw [hm4] at hS4 ⊢
  obtain ⟨m5, hm5⟩ : ∃ m5, setW m4 (33 + 2 * q) (2 * p) = m5 := ⟨_, rfl⟩
  have hS4 : Spec Tryz.prog 58 [vM m4, vI (33 + 2 * q), vI (2 * p)] (vM m5) := by rw [← hm5]; exact hS4
  rw [hm5]
  obtain ⟨m2, hm2⟩ : ∃ m2, popM s.1 p = m2 := ⟨_, rfl⟩
  rw [hm2] at hT hL2 hS2
  have hlp : ((p :: l).length : Int) ≠ 0 := by rw [List.length_cons]; omega
  have hlp2 : (0 : Int) ≤ 0 ∧ (0 : Int) < ((p :: l).length : Int) := ⟨by decide, by rw [List.length_cons]; omega⟩
  have hp0 : List.getD (p :: l) (0 : Int).toNat (dflt tI) = p := rfl
  have hWk := s_sWalk s.1 (p :: l) h
  obtain ⟨fl, hfl⟩ : ∃ fl, p :: l = fl := ⟨_, rfl⟩
  rw [hfl] at hlp hlp2 hp0 hWk
  have hNx : Spec Tryz.prog 59 [vI w0, vI k0, vI 0] (vI (nextI w0 k0 0)) := s_Next w0 k0 0
  have hNy : Spec Tryz.prog 59 [vI n1, vI 0, vI 0] (vI (nextI n1 0 0)) := s_Next n1 0 0
  have hSp := s_mSpot8 q h0 h1
  refine spec_introF true tab_ok 0 Tryz.func17 rfl (by kernel_rfl) rfl ?_
  conv => whnf
  repeat (refine ⟨by first | omega | (simp only [Option.getD_none, Option.getD_some]; omega) | (simp; done) | (simp; omega), ?_⟩; conv => whnf)
  first | refine .inl ⟨_, hq, ?_⟩ | refine .inl (.inl ⟨_, hq, ?_⟩)
  conv => whnf
  repeat (refine ⟨by first | omega | (simp only [Option.getD_none, Option.getD_some]; omega) | (simp; done) | (simp; omega), ?_⟩; conv => whnf)
  first | refine .inr (.inl ⟨_, hWk, ?_⟩) | refine .inl (.inr (.inl ⟨_, hWk, ?_⟩))
  conv => whnf
  repeat (refine ⟨by first | omega | (simp only [Option.getD_none, Option.getD_some]; omega) | (simp; done) | (simp; omega), ?_⟩; conv => whnf)
  refine dcase (fun h => absurd h hlp) (fun _ => ?_)
  conv => whnf
  refine ⟨p_msq_Make_6, g_msq_Make_6, by kernel_rfl, ?st2, ?_, ?_⟩
  rotate_left
  · conv => whnf
    repeat' (first | (refine ⟨hlp2, ?_⟩; conv => whnf) | (refine And.intro ?_ ?_ <;> conv => whnf) | exact rfl)
  rw [hp0]
  conv => whnf
  refine ⟨p_msq_Make_7, g_msq_Make_7, by kernel_rfl, ?st3, ?_, ?_⟩
  rotate_left
  · conv => whnf
    repeat' (first | (refine .inl ⟨_, hA0, ?_⟩; conv => whnf) | (refine .inl (.inl ⟨_, hA0, ?_⟩); conv => whnf) | (refine .inr (.inl ⟨_, hL1, ?_⟩); conv => whnf) | (refine .inl (.inr (.inl ⟨_, hL1, ?_⟩)); conv => whnf) | (refine And.intro ?_ ?_ <;> conv => whnf) | exact rfl)
  conv => whnf
  first | refine .inr (.inl ⟨_, hL0, ?_⟩) | refine .inl (.inr (.inl ⟨_, hL0, ?_⟩))
  conv => whnf
  repeat (refine ⟨by first | omega | (simp only [Option.getD_none, Option.getD_some]; omega) | (simp; done) | (simp; omega), ?_⟩; conv => whnf)
  refine ⟨p_msq_Make_9, g_msq_Make_9, by kernel_rfl, ?st4, ?_, ?_⟩
  rotate_left
  · conv => whnf
    repeat' (first | (refine .inl ⟨_, hNx, ?_⟩; conv => whnf) | (refine .inl (.inl ⟨_, hNx, ?_⟩); conv => whnf) | (refine .inr (.inl ⟨_, hS1, ?_⟩); conv => whnf) | (refine .inl (.inr (.inl ⟨_, hS1, ?_⟩)); conv => whnf) | (refine And.intro ?_ ?_ <;> conv => whnf) | exact rfl)
  conv => whnf
  first | refine .inr (.inl ⟨_, hT, ?_⟩) | refine .inl (.inr (.inl ⟨_, hT, ?_⟩))
  conv => whnf
  repeat (refine ⟨by first | omega | (simp only [Option.getD_none, Option.getD_some]; omega) | (simp; done) | (simp; omega), ?_⟩; conv => whnf)
  refine ⟨p_msq_Make_11, g_msq_Make_11, by kernel_rfl, ?st5, ?_, ?_⟩
  rotate_left
  · conv => whnf
    repeat' (first | (refine .inl ⟨_, hA1, ?_⟩; conv => whnf) | (refine .inl (.inl ⟨_, hA1, ?_⟩); conv => whnf) | (refine .inr (.inl ⟨_, hL2, ?_⟩); conv => whnf) | (refine .inl (.inr (.inl ⟨_, hL2, ?_⟩)); conv => whnf) | (refine And.intro ?_ ?_ <;> conv => whnf) | exact rfl)
  conv => whnf
  refine ⟨p_msq_Make_12, g_msq_Make_12, by kernel_rfl, ?st6, ?_, ?_⟩
  rotate_left
  · conv => whnf
    repeat' (first | (refine .inl ⟨_, hA1, ?_⟩; conv => whnf) | (refine .inl (.inl ⟨_, hA1, ?_⟩); conv => whnf) | (refine .inl ⟨_, hNy, ?_⟩; conv => whnf) | (refine .inl (.inl ⟨_, hNy, ?_⟩); conv => whnf) | (refine .inr (.inl ⟨_, hS2, ?_⟩); conv => whnf) | (refine .inl (.inr (.inl ⟨_, hS2, ?_⟩)); conv => whnf) | (refine And.intro ?_ ?_ <;> conv => whnf) | exact rfl)
  conv => whnf
  first | refine .inl ⟨_, s_OfP p (by omega) (by omega), ?_⟩ | refine .inl (.inl ⟨_, s_OfP p (by omega) (by omega), ?_⟩)
  conv => whnf
  repeat (refine ⟨by first | omega | (simp only [Option.getD_none, Option.getD_some]; omega) | (simp; done) | (simp; omega), ?_⟩; conv => whnf)
  refine ⟨p_msq_Make_14, g_msq_Make_14, by kernel_rfl, ?st7, ?_, ?_⟩
  rotate_left
  · conv => whnf
    repeat' (first | (refine .inl ⟨_, hSp, ?_⟩; conv => whnf) | (refine .inl (.inl ⟨_, hSp, ?_⟩); conv => whnf) | (refine .inr (.inl ⟨_, hS3, ?_⟩); conv => whnf) | (refine .inl (.inr (.inl ⟨_, hS3, ?_⟩)); conv => whnf) | (refine And.intro ?_ ?_ <;> conv => whnf) | exact rfl)
  conv => whnf
  refine ⟨p_msq_Make_15, g_msq_Make_15, by kernel_rfl, ?st8, ?_, ?_⟩
  rotate_left
  · conv => whnf
    repeat' (first | (refine .inl ⟨_, hSp, ?_⟩; conv => whnf) | (refine .inl (.inl ⟨_, hSp, ?_⟩); conv => whnf) | ((intro z hz; (replace hz : z = 33 + 2 * q := by rw [IntWalk.wrap64_in _ (by omega)] at hz; omega); subst hz; conv => whnf)) | (refine .inr (.inl ⟨_, hS4, ?_⟩); conv => whnf) | (refine .inl (.inr (.inl ⟨_, hS4, ?_⟩)); conv => whnf) | (refine And.intro ?_ ?_ <;> conv => whnf) | exact rfl)
  conv => whnf
  first | exact .inl rfl | exact .inr rfl
end Go.Proofs.YtpobngddiifdpaaGreat.V
