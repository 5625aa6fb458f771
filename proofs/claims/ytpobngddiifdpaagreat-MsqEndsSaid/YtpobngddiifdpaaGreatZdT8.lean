/- MsqEnds: the law. -/
import Derived.Test.YtpobngddiifdpaaGreatZdP0
import Derived.Test.YtpobngddiifdpaaGreatZdT7
import Derived.Test.YtpobngddiifdpaaGreatZdN11
set_option linter.unusedSimpArgs false
set_option linter.unusedVariables false
namespace Go.Proofs.YtpobngddiifdpaaGreat.V
open Go Go.RowKit Go.Proofs.YtpobngddiifdpaaGreat.Hz
set_option maxRecDepth 100000

/-- The items counted by now. -/
def itN (a b q : Nat) : Int := match q with
  | 0 => 2
  | 1 => 2 + (a : Int)
  | _ => 2 + (a : Int) + (b : Int)
theorem nRet_mono {cs : List Cor} {i : Nat} : ∀ j : Nat, i + j ≤ cs.length → nRet cs i ≤ nRet cs (i + j)
  | 0, _ => Nat.le_refl _
  | j + 1, h => by
    have h1 := nRet_mono (cs := cs) (i := i) j (by omega)
    have hlt : i + j < cs.length := by omega
    rw [show i + (j + 1) = i + j + 1 by omega, nRet_succ hlt]
    exact Nat.le_trans h1 (Nat.le_add_right _ _)
theorem pl1_le (g : Li) (x : Int) : ∀ k : Nat, (places1 g x k).length ≤ k
  | 0 => Nat.le_refl _
  | i + 1 => by
    have h := pl1_le g x i
    unfold places1
    split
    · rw [List.length_append]
      show _ + 1 ≤ _
      omega
    · omega
/-- The queue's last node leads nowhere; where its next word lies. -/
theorem MqI.end_of {T : Int} {o : OM} {s : Sy} {N : NQ} (h : MqI T o s N) (g : LgI o s N) (hq : Quiet s) {q : Int} (hQ : IsQ q) (hf : Fits s.1) : (0 ≤ atI (idxI (tlW s.1 q)) 1 ∧ atI (idxI (tlW s.1 q)) 1 < s.1.1.length) ∧ idxI (nI s.1.1 (atI (idxI (tlW s.1 q)) 1)) = 0 := by
  have hin : InN s.1 (idxI (tlW s.1 q)) := by
    refine (h.qs.inn q _ hQ ?_).1
    obtain ⟨A, hA | ⟨y, hA⟩⟩ := (h.qs.q q hQ).tail
    · rw [hA]; exact List.mem_append_right _ (List.mem_singleton.2 rfl)
    · rw [hA]; exact List.mem_append_right _ (List.mem_cons_self ..)
  have hl := g.last hq hQ
  have hx := hin.1
  have hy := hin.2
  have h1 := hf.1
  rw [atI_cell (by decide) hin hf]
  refine ⟨?_, hl⟩
  unfold lk
  omega
theorem itemsQ_one {m : Me} {L : List Int} (h : L ≠ []) : (itemsQ m L).length + 1 = L.length := by
  cases L with
  | nil => exact absurd rfl h
  | cons x l => unfold itemsQ; rw [List.length_map]; rfl
set_option maxHeartbeats 8000000 in
theorem s_MsqEnds (a : Int) (ha0 : 0 ≤ a) (ha1 : a ≤ 255) (b : Int) (hb0 : 0 ≤ b) (hb1 : b ≤ 255) (l : Lp) (hw : ∀ x ∈ l, WFd (.int .u16) x) : Spec Tryz.prog 7 [.one (.int .u8 a), .one (.int .u8 b), vP l] (vB true) := by
  obtain ⟨c, c1, c8, hc⟩ := cores_of ha0 ha1
  obtain ⟨n, n1, n40, hn⟩ := nodes2_of hb0 hb1 (show (0 : Int) < 40 by decide) (by decide)
  have hst := s_start8 c n n1 (by omega) c1 c8
  have hFn := newQ_fin (c := c) (n := n) n1 (by omega) c8
  have hIn := MqI.start (c := c) (n := n) n1 (by omega) c1 c8
  have hLn := LgI.start (c := c) (n := n) n1 (by omega) c1 c8
  obtain ⟨hCn, hGn, hWn⟩ := newQ_lens (c := c) (n := n) n1 (by omega)
  generalize newQ (c : Int) (n : Int) = t0 at *
  refine spec_introF true tab_ok 0 Tryz.func7 rfl (by kernel_rfl) rfl ?_
  conv => whnf
  first | refine .inl ⟨_, s_shown08, ?_⟩ | refine .inl (.inl ⟨_, s_shown08, ?_⟩)
  conv => whnf
  repeat (refine ⟨by first | omega | (simp only [Option.getD_none, Option.getD_some]; omega) | (simp; done) | (simp; omega), ?_⟩; conv => whnf)
  refine dcase (fun h => ?_) (fun hl => ?_)
  · skip
    conv => whnf
    repeat (refine ⟨by first | omega | (simp only [Option.getD_none, Option.getD_some]; omega) | (simp; done) | (simp; omega), ?_⟩; conv => whnf)
    first | exact .inl rfl | exact .inr rfl
  replace hl : l.length ≤ 200 := Int.ofNat_le.1 (Int.not_lt.1 hl)
  conv => whnf
  repeat (refine ⟨by first | omega | (simp only [Option.getD_none, Option.getD_some]; omega) | (simp; done) | (simp; omega), ?_⟩; conv => whnf)
  intro z hz
  replace hz : z = a := hz.trans (IntWalk.wrap64_in _ (by omega))
  subst hz
  conv => whnf
  repeat (refine ⟨by first | omega | (simp only [Option.getD_none, Option.getD_some]; omega) | (simp; done) | (simp; omega), ?_⟩; conv => whnf)
  intro n' hn'
  replace hn' : n' = (c : Int) := hn'.trans hc
  subst hn'
  conv => whnf
  repeat (refine ⟨by first | omega | (simp only [Option.getD_none, Option.getD_some]; omega) | (simp; done) | (simp; omega), ?_⟩; conv => whnf)
  intro z2 hz2
  replace hz2 : z2 = b := hz2.trans (IntWalk.wrap64_in _ (by omega))
  subst hz2
  conv => whnf
  repeat (refine ⟨by first | omega | (simp only [Option.getD_none, Option.getD_some]; omega) | (simp; done) | (simp; omega), ?_⟩; conv => whnf)
  intro n2 hn2
  replace hn2 : n2 = (n : Int) := hn2.trans hn
  subst hn2
  conv => whnf
  repeat (refine ⟨by first | omega | (simp only [Option.getD_none, Option.getD_some]; omega) | (simp; done) | (simp; omega), ?_⟩; conv => whnf)
  first | refine .inr (.inl ⟨_, hst, ?_⟩) | refine .inl (.inr (.inl ⟨_, hst, ?_⟩))
  conv => whnf
  repeat (refine ⟨by first | omega | (simp only [Option.getD_none, Option.getD_some]; omega) | (simp; done) | (simp; omega), ?_⟩; conv => whnf)
  refine ⟨[], [2, 6, 7, 8, 9, 10, 11], [9], ?_⟩
  apply Exists.intro
  conv => whnf
  refine loopK (fun y : Nat × Sy => l.length - y.1) (fun y => y.1 ≤ l.length ∧ Fin y.1 y.2 ∧ y.2.2.1.length = c ∧ ∃ o N, MqI ((y.1 + 2 : Nat) : Int) o y.2 N ∧ LgI o y.2 N) (fun y => ⟨lay 225 0 [(2, vP l), (6, vB false), (7, vB true), (8, vI (c : Int)), (9, pB 9), (10, vB true), (11, vI (y.1 : Int))], [(9, .cells ySys (cS y.2))], []⟩) ?_ (0, t0) rfl rfl ⟨Nat.zero_le _, hFn, hCn, _, _, hIn, hLn⟩
  clear hFn hIn hCn hGn hWn hst hc hn hLn
  intro ⟨i, s⟩ ih ⟨hi, hF, hC, o, N, hI, hL⟩ hih
  simp only at hi hF hC hI hih hL
  conv => whnf
  refine dcase (fun h3 => ?_) (fun h3 => ?_)
  · replace h3 : (i : Int) < l.length := h3
    obtain ⟨x, hx⟩ : ∃ x, pick l i = x := ⟨_, rfl⟩
    obtain ⟨x0, x1⟩ := pick_in hw (show i < l.length by omega)
    rw [hx] at x0 x1
    have hx2 : List.getD l ((i : Int)).toNat (dflt (.int .u16)) = x := hx
    obtain ⟨k, hk, hkx⟩ := core_of x0 c1
    have hks : k < s.2.1.length := by omega
    obtain ⟨hI1, hb1, hC1, hm1, hl1⟩ := hI.go hks x
    have hL1 := hL.go hI hks x
    obtain ⟨_, _, _, hdid⟩ := hI1.turn (by omega) (by omega) hb1
    obtain ⟨o2, N2, hI2, hL2⟩ := hI1.turnL hL1 (by omega) (by omega) hb1
    have hF1 : Fin i (goS s (k : Int) x) := goS_fin hF
    have hF2 := msqS_fin (k := (k : Int)) hF1
    have hstep := s_mStep8 (goS s (k : Int) x) (k : Int) hF1 (by omega)
    have hin : (0 : Int) ≤ (i : Int) ∧ (i : Int) < (l.length : Int) := ⟨by omega, h3⟩
    have hbeg := s_begin8 s (k : Int) x x0 x1 hF.cores
    obtain ⟨s1, hs1⟩ : ∃ s1, goS s (k : Int) x = s1 := ⟨_, rfl⟩
    rw [hs1] at hI1 hb1 hC1 hm1 hl1 hI2 hdid hF1 hF2 hstep hL2
    obtain ⟨t, ht⟩ : ∃ t, msqS s1 (k : Int) = t := ⟨_, rfl⟩
    rw [ht] at hI2 hdid hF2 hstep hL2
    have hCt : t.2.1.length = c := by have := hdid.cores; omega
    have hnx := hih (i + 1, t) ⟨by show i + 1 ≤ _; omega, hF2, hCt, o2, N2, by
      show MqI ((i + 1 + 2 : Nat) : Int) o2 t N2
      rw [show ((i + 1 + 2 : Nat) : Int) = ((i + 2 : Nat) : Int) + 1 by omega]
      exact hI2, hL2⟩ (by show l.length - (i + 1) < _; omega)
    clear hI1 hI2 hdid hF2 hI hL hL1 hL2
    conv => whnf
    refine ⟨hin, ?_⟩
    conv => whnf
    rw [hx2]
    intro w hw1
    replace hw1 : w = x := hw1.trans (IntWalk.wrap64_in _ (by omega))
    subst hw1
    conv => whnf
    refine ⟨by omega, ?_⟩
    conv => whnf
    rw [hkx]
    conv => whnf
    cases ht : topI s (k : Int) with
    | none =>
      have hs2 : begS s (k : Int) w = s1 := by rw [← hs1]; unfold goS; rw [if_pos ht]
      rw [hs2] at hbeg
      first | refine .inr (.inl ⟨_, s_refTopNo ht (hF.fine (by omega)), ?_⟩) | refine .inl (.inr (.inl ⟨_, s_refTopNo ht (hF.fine (by omega)), ?_⟩))
      conv => whnf
      repeat (refine ⟨by first | omega | (simp only [Option.getD_none, Option.getD_some]; omega) | (simp; done) | (simp; omega), ?_⟩; conv => whnf)
      refine ⟨p_hazellaw08_MsqEnds_12, g_hazellaw08_MsqEnds_12, by kernel_rfl, ?st1, ?_, ?_⟩
      rotate_left
      · conv => whnf
        repeat' (first | (refine ⟨hin, ?_⟩; conv => whnf) | ((rw [hx2]; conv => whnf)) | (refine .inr (.inl ⟨_, hbeg, ?_⟩); conv => whnf) | (refine .inl (.inr (.inl ⟨_, hbeg, ?_⟩)); conv => whnf) | (refine And.intro ?_ ?_ <;> conv => whnf) | exact rfl)
      conv => whnf
      first | refine .inr (.inl ⟨_, hstep, ?_⟩) | refine .inl (.inr (.inl ⟨_, hstep, ?_⟩))
      conv => whnf
      repeat (refine ⟨by first | omega | (simp only [Option.getD_none, Option.getD_some]; omega) | (simp; done) | (simp; omega), ?_⟩; conv => whnf)
      intro q' hq'
      replace hq' : q' = ((i + 1 : Nat) : Int) := by rw [hq', IntWalk.wrap64_in _ (by omega)]; omega
      subst hq'
      conv => whnf
      exact hnx
    | some f =>
      have hs2 : s = s1 := by rw [← hs1]; unfold goS; rw [if_neg (by rw [ht]; exact fun e => nomatch e)]
      first | refine .inr (.inl ⟨_, s_refTopOf ht (hF.fine (by omega)), ?_⟩) | refine .inl (.inr (.inl ⟨_, s_refTopOf ht (hF.fine (by omega)), ?_⟩))
      conv => whnf
      repeat (refine ⟨by first | omega | (simp only [Option.getD_none, Option.getD_some]; omega) | (simp; done) | (simp; omega), ?_⟩; conv => whnf)
      rw [hs2]
      conv => whnf
      first | refine .inr (.inl ⟨_, hstep, ?_⟩) | refine .inl (.inr (.inl ⟨_, hstep, ?_⟩))
      conv => whnf
      repeat (refine ⟨by first | omega | (simp only [Option.getD_none, Option.getD_some]; omega) | (simp; done) | (simp; omega), ?_⟩; conv => whnf)
      intro q' hq'
      replace hq' : q' = ((i + 1 : Nat) : Int) := by rw [hq', IntWalk.wrap64_in _ (by omega)]; omega
      subst hq'
      conv => whnf
      exact hnx
  clear hih
  have hi2 : i = l.length := by
    replace h3 : ¬ (i : Int) < l.length := h3
    omega
  subst hi2
  conv => whnf
  refine ⟨[], [6, 7, 8, 9, 10, 15], [9], ?_⟩
  apply Exists.intro
  conv => whnf
  refine loopK (fun y : Nat × Sy => c - y.1) (fun y => y.1 ≤ c ∧ Fin (200 + 1000 * y.1) y.2 ∧ y.2.2.1.length = c ∧ ∃ (T : Int) (o : OM) (N : NQ), T ≤ 202 + 1000 * (y.1 : Int) ∧ MqI T o y.2 N ∧ LgI o y.2 N ∧ ∀ d : Nat, d < y.1 → (cAt y.2.2.1 d).1 = []) (fun y => ⟨lay 225 0 [(6, vB false), (7, vB true), (8, vI (c : Int)), (9, pB 9), (10, vB true), (15, vI (y.1 : Int))], [(9, .cells ySys (cS y.2))], []⟩) ?_ (0, s) rfl rfl ⟨Nat.zero_le _, hF.more (by omega), hC, _, o, N, by omega, hI, hL, fun d hd => absurd hd (Nat.not_lt_zero _)⟩
  clear hF hI hL hC
  intro ⟨id, s⟩ ih ⟨hid, hF, hC, T, o, N, hT, hI, hL, hdone⟩ hih
  simp only at hid hF hC hI hih hL hT hdone
  have hCi : (s.2.1.length : Int) = (c : Int) := by rw [hC]
  conv => whnf
  refine dcase (fun h3 => ?_) (fun h3 => ?_)
  · replace h3 : (id : Int) < (c : Int) := h3
    have hks : id < s.2.1.length := by omega
    obtain ⟨j, o', N', j1, j2, jg, j3, j4, j5, j6⟩ := MqI.ends_inL 500 hI hL (by omega) hks (hI.bound hks)
    have hnx := hih (id + 1, it8 (id : Int) s j) ⟨by show id + 1 ≤ c; omega, (it8_fin hF j).more (by omega), by show (it8 (id : Int) s j).2.1.length = c; omega, T + j, o', N', by show T + (j : Int) ≤ 202 + 1000 * ((id + 1 : Nat) : Int); omega, j2, jg, fun d hd => by
      show (cAt (it8 (id : Int) s j).2.1 d).1 = []
      by_cases e : d = id
      · rw [e]; exact j3
      · rw [j5 d e]; exact hdone d (by have hd : d < id + 1 := hd; omega)⟩ (by show c - (id + 1) < _; omega)
    obtain ⟨X, hX⟩ : ∃ X : Nat → Sy, ∀ i, X i = it8 (id : Int) s i := ⟨_, fun _ => rfl⟩
    have hX0 : X 0 = s := hX 0
    have hXs : ∀ i, X (i + 1) = msqS (X i) (id : Int) := fun i => by rw [hX, hX]; rfl
    have hXf : ∀ i, i ≤ j → Fin 20000 (X i) := fun i hi => by rw [hX]; exact (it8_fin hF i).more (by omega)
    have hXn : ∀ i, i ≤ j → ((X i).2.1.length : Int) = (c : Int) := fun i hi => by rw [hX, (j6 i).2 hi, hC]
    have hXb : ∀ i, i < j → (cAt (X i).2.1 (id : Int)).1 ≠ [] := fun i hi => by rw [hX]; exact (j6 i).1 hi
    rw [← hX j] at hnx j3
    rw [show s = X 0 from hX0.symm] at hCi
    conv => whnf
    rw [show s = X 0 from hX0.symm]
    refine dcase (fun _ => ?_) (fun h => absurd hCi h)
    conv => whnf
    refine ⟨[], [6, 7, 8, 9, 10, 15, 16], [9], ?_⟩
    apply Exists.intro
    conv => whnf
    refine loopK (fun i : Nat => j - i) (fun i => i ≤ j) (fun i => ⟨lay 225 0 [(6, vB false), (7, vB true), (8, vI (c : Int)), (9, pB 9), (10, vB true), (15, vI (id : Int)), (16, vI (i : Int))], [(9, .cells ySys (cS (X i)))], []⟩) ?_ 0 rfl rfl (Nat.zero_le _)
    intro i ih2 hi hih2
    have hin : (0 : Int) ≤ (id : Int) ∧ (id : Int) < ((X i).2.1.length : Int) := ⟨by omega, by rw [hXn i hi]; exact h3⟩
    conv => whnf
    refine dcase (fun _ => ?_) (fun h => absurd (show (i : Int) < 1000 by omega) h)
    conv => whnf
    refine dcase (fun _ => ?_) (fun h => absurd (hXn i hi) h)
    conv => whnf
    refine ⟨hin, ?_⟩
    conv => whnf
    refine dcase (fun h4 => ?_) (fun h4 => ?_)
    · replace h4 : (0 : Int) < (((cAt (X i).2.1 (id : Int)).1.length : Nat) : Int) := h4
      have hij : i < j := by
        rcases Nat.lt_or_ge i j with e | e
        · exact e
        · have : i = j := by omega
          rw [this, j3] at h4
          exact absurd h4 (by decide)
      have hnx2 := hih2 (i + 1) (by omega) (by omega)
      rw [hXs i] at hnx2
      conv => whnf
      first | refine .inr (.inl ⟨_, s_mStep8 (X i) (id : Int) (hXf i hi) (by decide), ?_⟩) | refine .inl (.inr (.inl ⟨_, s_mStep8 (X i) (id : Int) (hXf i hi) (by decide), ?_⟩))
      conv => whnf
      repeat (refine ⟨by first | omega | (simp only [Option.getD_none, Option.getD_some]; omega) | (simp; done) | (simp; omega), ?_⟩; conv => whnf)
      intro q' hq'
      replace hq' : q' = ((i + 1 : Nat) : Int) := by rw [hq', IntWalk.wrap64_in _ (by omega)]; omega
      subst hq'
      conv => whnf
      exact hnx2
    · replace h4 : ¬ (0 : Int) < (((cAt (X i).2.1 (id : Int)).1.length : Nat) : Int) := h4
      have hij : i = j := by
        rcases Nat.lt_or_ge i j with e | e
        · exact absurd (List.length_eq_zero_iff.1 (by omega)) (hXb i e)
        · omega
      subst hij
      conv => whnf
      intro q' hq'
      replace hq' : q' = ((id + 1 : Nat) : Int) := by rw [hq', IntWalk.wrap64_in _ (by omega)]; omega
      subst hq'
      conv => whnf
      exact hnx
  clear hih
  have hid2 : id = c := by
    replace h3 : ¬ (id : Int) < (c : Int) := h3
    omega
  subst hid2
  have hQ : Quiet s := fun d hd => hdone d (by omega)
  obtain ⟨fl, hfl⟩ := hI.mm.list
  obtain ⟨hr1, hr2⟩ := hI.rest hL hQ
  have hr3 : (places1 s.1.2.1 0 s.1.2.1.length).length = fl.length := pl1_is hfl.nodup fun p => by
    rw [hfl.mem]; unfold InN
    exact ⟨fun ⟨a, b, c⟩ => ⟨⟨a, b⟩, c⟩, fun ⟨⟨a, b⟩, c⟩ => ⟨a, b, c⟩⟩
  have hgood : s.1.2.2.1 = false := hI.toMsI.good
  have hfit := hfl.fits
  have hgl : 1 ≤ s.1.2.1.length := by have := hI.mm.more; omega
  have hle := pl1_le s.1.2.1 2 s.1.2.1.length
  have hle1 := pl1_le s.1.2.1 1 s.1.2.1.length
  have hg1000 := hfit.2
  have hp := s_refParts s (by omega) hgl
  have hwk := s_refWalk s.1 fl hfl
  have hn0 := (hI.qs.q 0 (.inl rfl)).ne
  have hn1 := (hI.qs.q 1 (.inr rfl)).ne
  have hi0 := itemsQ_one (m := s.1) hn0
  have hi1 := itemsQ_one (m := s.1) hn1
  have hits : ∀ q : Int, IsQ q → Spec Tryz.prog 19 [vS s, vI q] (vItems (some (itemsQ s.1 (N q)))) := fun q hq => by
    have hm := s_mItems s q (by rcases hq with e | e <;> omega) (by rcases hq with e | e <;> omega) hgl hfit.2 (by have := hfit.1; omega)
    rw [hI.toMsI.items hq] at hm
    exact hm
  have hend : ∀ q : Int, IsQ q → _ := fun q hq => hI.end_of hL hQ hq hfit
  have hcs : s.2.1.length = id := hC
  obtain ⟨Y, hY⟩ : ∃ Y : Int → Li, ∀ q, Y q = itemsQ s.1 (N q) := ⟨_, fun _ => rfl⟩
  rw [← hY] at hi0 hi1
  have hits' : ∀ q : Int, IsQ q → Spec Tryz.prog 19 [vS s, vI q] (vItems (some (Y q))) := fun q hq => by rw [hY]; exact hits q hq
  clear hits hL hI hF
  obtain ⟨X0, hX0⟩ : ∃ X0, places1 s.1.2.1 0 s.1.2.1.length = X0 := ⟨_, rfl⟩
  obtain ⟨X1, hX1⟩ : ∃ X1, places1 s.1.2.1 1 s.1.2.1.length = X1 := ⟨_, rfl⟩
  obtain ⟨X2, hX2⟩ : ∃ X2, places1 s.1.2.1 2 s.1.2.1.length = X2 := ⟨_, rfl⟩
  rw [hX0, hX1, hX2] at hp
  rw [hX0] at hr3
  rw [hX1] at hr2 hle1
  rw [hX2] at hr1 hle
  conv => whnf
  refine dcase (fun h => absurd hCi h) (fun _ => ?_)
  conv => whnf
  first | refine .inr (.inl ⟨_, hp, ?_⟩) | refine .inl (.inr (.inl ⟨_, hp, ?_⟩))
  conv => whnf
  repeat (refine ⟨by first | omega | (simp only [Option.getD_none, Option.getD_some]; omega) | (simp; done) | (simp; omega), ?_⟩; conv => whnf)
  refine ⟨[], [6, 7, 8, 9, 17, 18, 19, 20, 21], [9], ?_⟩
  apply Exists.intro
  conv => whnf
  refine loopK (fun j : Nat => id - j) (fun j => j ≤ id) (fun j => ⟨lay 225 0 [(6, vB false), (7, vB true), (8, vI (id : Int)), (9, pB 9), (17, vL X0), (18, vL X1), (19, vL X2), (20, vI (nRet s.2.1 j : Int)), (21, vI (j : Int))], [(9, .cells ySys (cS s))], []⟩) ?_ 0 rfl rfl (Nat.zero_le _)
  intro j ih3 hj hih3
  conv => whnf
  refine dcase (fun h4 => ?_) (fun h4 => ?_)
  · replace h4 : (j : Int) < (id : Int) := h4
    have hin : (0 : Int) ≤ (j : Int) ∧ (j : Int) < (s.2.1.length : Int) := ⟨by omega, by omega⟩
    have hm := nRet_mono (cs := s.2.1) (i := j + 1) (id - (j + 1)) (by omega)
    rw [show j + 1 + (id - (j + 1)) = s.2.1.length by omega] at hm
    have hsc := nRet_succ (cs := s.2.1) (i := j) (by omega)
    have hnx := hih3 (j + 1) (by omega) (by omega)
    have hz : (cAt s.2.1 (j : Int)).1 = [] := hdone j (by omega)
    conv => whnf
    refine ⟨hin, ?_⟩
    conv => whnf
    intro z hz2
    obtain ⟨R, hR⟩ : ∃ R, (rtL (cAt s.2.1 (j : Int)).2).length = R := ⟨_, rfl⟩
    replace hz2 : z = ((nRet s.2.1 (j + 1) : Nat) : Int) := by
      rw [hR] at hsc
      rw [hz2, hsc]
      refine (IntWalk.wrap64_in _ ?_).trans ?_
      · rw [show ((rtL (cAt s.2.1 (j : Int)).2).length : Int) = (R : Int) by rw [hR]]; omega
      · rw [show ((rtL (cAt s.2.1 (j : Int)).2).length : Int) = (R : Int) by rw [hR]]; omega
    subst hz2
    conv => whnf
    refine ⟨hin, ?_⟩
    conv => whnf
    refine dcase (fun h5 => ?_) (fun _ => ?_)
    · replace h5 : (0 : Int) < (((cAt s.2.1 (j : Int)).1.length : Nat) : Int) := h5
      rw [hz] at h5
      exact absurd h5 (by decide)
    conv => whnf
    intro q' hq'
    replace hq' : q' = ((j + 1 : Nat) : Int) := by rw [hq', IntWalk.wrap64_in _ (by omega)]; omega
    subst hq'
    conv => whnf
    exact hnx
  clear hih3
  have hj2 : j = id := by
    replace h4 : ¬ (j : Int) < (id : Int) := h4
    omega
  subst hj2
  conv => whnf
  refine ⟨[], [6, 7, 8, 9, 17, 18, 19, 20, 22, 23], [9], ?_⟩
  apply Exists.intro
  conv => whnf
  refine loopK (fun q : Nat => 2 - q) (fun q => q ≤ 2) (fun q => ⟨lay 225 0 [(6, vB false), (7, vB true), (8, vI (j : Int)), (9, pB 9), (17, vL X0), (18, vL X1), (19, vL X2), (20, vI (nRet s.2.1 j : Int)), (22, vI (itN (Y 0).length (Y 1).length q)), (23, vI (q : Int))], [(9, .cells ySys (cS s))], []⟩) ?_ 0 rfl rfl (by decide)
  intro q ih4 hq hih4
  conv => whnf
  refine dcase (fun h5 => ?_) (fun h5 => ?_)
  · have hq2 : q < 2 := by
      replace h5 : (q : Int) < 2 := h5
      omega
    have hIsQ : IsQ (q : Int) := by unfold IsQ; omega
    have hit := hits' (q : Int) hIsQ
    obtain ⟨⟨e1, e2⟩, e3⟩ := hend (q : Int) hIsQ
    have hnx := hih4 (q + 1) (by omega) (by omega)
    conv => whnf
    first | refine .inr (.inl ⟨_, hit, ?_⟩) | refine .inl (.inr (.inl ⟨_, hit, ?_⟩))
    conv => whnf
    repeat (refine ⟨by first | omega | (simp only [Option.getD_none, Option.getD_some]; omega) | (simp; done) | (simp; omega), ?_⟩; conv => whnf)
    intro z1 hz1
    replace hz1 : z1 = 2 * (q : Int) := hz1.trans (IntWalk.wrap64_in _ (by omega))
    subst hz1
    conv => whnf
    intro z2 hz2
    replace hz2 : z2 = 33 + 2 * (q : Int) := hz2.trans (IntWalk.wrap64_in _ (by omega))
    subst hz2
    have hinW : (0 : Int) ≤ 33 + 2 * (q : Int) ∧ 33 + 2 * (q : Int) < (s.1.1.length : Int) := by have := hfit.1; omega
    conv => whnf
    refine ⟨hinW, ?_⟩
    conv => whnf
    have hx1 := s_refIndex (tlW s.1 (q : Int))
    obtain ⟨tl, htl⟩ : ∃ tl, idxI (tlW s.1 (q : Int)) = tl := ⟨_, rfl⟩
    rw [htl] at hx1 e1 e2 e3
    first | refine .inl ⟨_, hx1, ?_⟩ | refine .inl (.inl ⟨_, hx1, ?_⟩)
    conv => whnf
    repeat (refine ⟨by first | omega | (simp only [Option.getD_none, Option.getD_some]; omega) | (simp; done) | (simp; omega), ?_⟩; conv => whnf)
    have hat := s_refAt tl 1
    have hx2 := s_refIndex (nI s.1.1 (atI tl 1))
    rw [e3] at hx2
    refine ⟨p_hazellaw08_MsqEnds_37, g_hazellaw08_MsqEnds_37, by kernel_rfl, ?st2, ?_, ?_⟩
    rotate_left
    · conv => whnf
      repeat' (first | (refine .inl ⟨_, hat, ?_⟩; conv => whnf) | (refine .inl (.inl ⟨_, hat, ?_⟩); conv => whnf) | (refine ⟨⟨e1, e2⟩, ?_⟩; conv => whnf) | (refine .inl ⟨_, hx2, ?_⟩; conv => whnf) | (refine .inl (.inl ⟨_, hx2, ?_⟩); conv => whnf) | (refine And.intro ?_ ?_ <;> conv => whnf) | exact rfl)
    conv => whnf
    intro z3 hz3
    replace hz3 : z3 = itN (Y 0).length (Y 1).length (q + 1) := by
      rcases (show q = 0 ∨ q = 1 by omega) with e | e <;> subst e
      · refine hz3.trans ((IntWalk.wrap64_in _ ?_).trans rfl)
        show (_ : Int) ≤ (2 : Int) + ((Y 0).length : Int) ∧ (2 : Int) + ((Y 0).length : Int) ≤ _
        omega
      · refine hz3.trans ((IntWalk.wrap64_in _ ?_).trans rfl)
        show (_ : Int) ≤ (2 : Int) + ((Y 0).length : Int) + ((Y 1).length : Int) ∧ (2 : Int) + ((Y 0).length : Int) + ((Y 1).length : Int) ≤ _
        omega
    subst hz3
    conv => whnf
    intro q' hq'
    replace hq' : q' = ((q + 1 : Nat) : Int) := by rw [hq', IntWalk.wrap64_in _ (by omega)]; omega
    subst hq'
    conv => whnf
    exact hnx
  have hq2 : q = 2 := by
    replace h5 : ¬ (q : Int) < 2 := h5
    omega
  subst hq2
  conv => whnf
  first | refine .inr (.inl ⟨_, hwk, ?_⟩) | refine .inl (.inr (.inl ⟨_, hwk, ?_⟩))
  conv => whnf
  repeat (refine ⟨by first | omega | (simp only [Option.getD_none, Option.getD_some]; omega) | (simp; done) | (simp; omega), ?_⟩; conv => whnf)
  refine dcase (fun _ => ?_) (fun h => absurd (show (fl.length : Int) = (X0.length : Int) by omega) h)
  conv => whnf
  refine dcase (fun _ => ?_) (fun h => absurd (show itN (Y 0).length (Y 1).length 2 = (X1.length : Int) by show (2 : Int) + _ + _ = _; omega) h)
  conv => whnf
  refine dcase (fun _ => ?_) (fun h => absurd (show (nRet s.2.1 j : Int) = (X2.length : Int) by rw [hr1, hcs]) h)
  conv => whnf
  rw [hgood]
  conv => whnf
  first | exact .inl rfl | exact .inr rfl
end Go.Proofs.YtpobngddiifdpaaGreat.V
