/- MsqLegal: the law. -/
import Derived.Test.YtpobngddiifdpaaGreatZcP0
import Derived.Test.YtpobngddiifdpaaGreatZcT3
import Derived.Test.YtpobngddiifdpaaGreatZcW5
import Derived.Test.YtpobngddiifdpaaGreatZcV27
set_option linter.unusedSimpArgs false
set_option linter.unusedVariables false
namespace Go.Proofs.YtpobngddiifdpaaGreat.V
open Go Go.RowKit Go.Proofs.YtpobngddiifdpaaGreat.Hz
set_option maxRecDepth 100000

theorem tail_snoc {n : Int} {f : Int → Int} : ∀ {P : List Int}, (P ++ [n]).tail.map f = (if P = [] then P.tail.map f else P.tail.map f ++ [f n])
  | [] => rfl
  | x :: P => by
    rw [if_neg (by simp)]
    show (P ++ [n]).map f = P.map f ++ [f n]
    rw [List.map_append]; rfl
theorem items_from {m : Me} (hf : Fits m) : ∀ (L : List Int) {P : List Int} {p : Int} {f : Nat}, L ≠ [] → Chn m p L → (P ++ L).Nodup → (∀ x ∈ L, InN m x) → L.length ≤ f → itemsF m f p P (P.tail.map (vl m)) = some ((P ++ L).tail.map (vl m))
  | [], _, _, _, h, _, _, _, _ => absurd rfl h
  | n :: L, P, p, f, _, hc, hnd, hin, hl => by
    obtain ⟨f, rfl⟩ : ∃ g, f = g + 1 := ⟨f - 1, by rw [List.length_cons] at hl; omega⟩
    have hn := hin n (List.mem_cons_self ..)
    have e : p = n := hc.1
    subst e
    have ha1 : nI m.1 (atI p 1) = nx m p := by rw [atI_cell (by decide) hn hf]; rfl
    have ha3 : nI m.1 (atI p 3) = vl m p := by rw [atI_cell (by decide) hn hf]; rfl
    have hnot : p ∉ P := fun h => (List.nodup_append.1 hnd).2.2 p h p (List.mem_cons_self ..) rfl
    unfold itemsF
    rw [if_pos ⟨hn.1, hn.2, hnot⟩, ha1, ha3]
    cases L with
    | nil =>
      rw [if_pos (show idxI (nx m p) = 0 from hc.2), tail_snoc]
    | cons y L =>
      have hy := hin y (List.mem_cons_of_mem _ (List.mem_cons_self ..))
      have hy2 : idxI (nx m p) = y := hc.2.1
      rw [if_neg (by rw [hy2]; have := hy.1; omega), ← tail_snoc]
      have := items_from hf (y :: L) (P := P ++ [p]) (p := idxI (nx m p)) (f := f) (by simp) hc.2 (by rw [List.append_assoc]; exact hnd) (fun x hx => hin x (List.mem_cons_of_mem _ hx)) (by rw [List.length_cons] at hl; omega)
      rw [this, List.append_assoc]; rfl
/-- Items tell what the queue's nodes hold. -/
theorem MsI.items {T : Int} {o : OM} {s : Sy} {N : NQ} (h : MsI T o s N) {q : Int} (hq : IsQ q) : itemsI s.1 q = some (itemsQ s.1 (N q)) := by
  obtain ⟨l, hl⟩ := h.mm.list
  have hQ := h.qs.q q hq
  have hin : ∀ x ∈ N q, InN s.1 x := fun x hx => (h.qs.inn q x hq hx).1
  have hlen : (N q).length ≤ s.1.2.1.length := nodup_len _ _ hQ.nodup fun x hx => by
    have := (hin x hx).1
    have := (hin x hx).2
    omega
  exact items_from hl.fits (N q) (P := []) hQ.ne hQ.head hQ.nodup hin (by omega)
theorem itemsQ_len {T : Int} {o : OM} {s : Sy} {N : NQ} (h : MsI T o s N) {q : Int} (hq : IsQ q) : (itemsQ s.1 (N q)).length ≤ 1000000 := by
  obtain ⟨l, hl⟩ := h.mm.list
  have hQ := h.qs.q q hq
  have hlen : (N q).length ≤ s.1.2.1.length := nodup_len _ _ hQ.nodup fun x hx => by
    have := (h.qs.inn q x hq hx).1.1
    have := (h.qs.inn q x hq hx).1.2
    omega
  have := hl.fits.2
  unfold itemsQ
  rw [List.length_map, List.length_tail]
  omega
set_option maxHeartbeats 8000000 in
theorem s_MsqLegal (a : Int) (ha0 : 0 ≤ a) (ha1 : a ≤ 255) (b : Int) (hb0 : 0 ≤ b) (hb1 : b ≤ 255) (l : Lp) (hw : ∀ x ∈ l, WFd (.int .u16) x) : Spec Tryz.prog 4 [.one (.int .u8 a), .one (.int .u8 b), vP l] (vB true) := by
  obtain ⟨c, c1, c8, hc⟩ := cores_of ha0 ha1
  obtain ⟨n, n1, n40, hn⟩ := nodes2_of hb0 hb1 (show (0 : Int) < 40 by decide) (by decide)
  have hst := s_start8 c n n1 (by omega) c1 c8
  have hFn := newQ_fin (c := c) (n := n) n1 (by omega) c8
  have hIn := MqI.start (c := c) (n := n) n1 (by omega) c1 c8
  obtain ⟨hCn, hGn, hWn⟩ := newQ_lens (c := c) (n := n) n1 (by omega)
  generalize newQ (c : Int) (n : Int) = t0 at *
  refine spec_introF true tab_ok 0 Tryz.func4 rfl (by kernel_rfl) rfl ?_
  conv => whnf
  first | refine .inl ⟨_, s_shown08, ?_⟩ | refine .inl (.inl ⟨_, s_shown08, ?_⟩)
  conv => whnf
  repeat (refine ⟨by first | omega | (simp only [Option.getD_none, Option.getD_some]; omega) | (simp; done) | (simp; omega), ?_⟩; conv => whnf)
  refine dcase (fun h => ?_) (fun hl => ?_)
  · skip
    conv => whnf
    repeat (refine ⟨by first | omega | (simp only [Option.getD_none, Option.getD_some]; omega) | (simp; done) | (simp; omega), ?_⟩; conv => whnf)
    first | exact .inl rfl | exact .inr rfl
  replace hl : l.length ≤ 300 := Int.ofNat_le.1 (Int.not_lt.1 hl)
  conv => whnf
  repeat (refine ⟨by first | omega | (simp only [Option.getD_none, Option.getD_some]; omega) | (simp; done) | (simp; omega), ?_⟩; conv => whnf)
  intro z hz
  replace hz : z = a := hz.trans (IntWalk.wrap64_in _ (by omega))
  subst hz
  conv => whnf
  repeat (refine ⟨by first | omega | (simp only [Option.getD_none, Option.getD_some]; omega) | (simp; done) | (simp; omega), ?_⟩; conv => whnf)
  intro n' hn'
  replace hn' : n' = (c : Int) := hn'.trans hc
  subst hn'
  conv => whnf
  repeat (refine ⟨by first | omega | (simp only [Option.getD_none, Option.getD_some]; omega) | (simp; done) | (simp; omega), ?_⟩; conv => whnf)
  intro z2 hz2
  replace hz2 : z2 = b := hz2.trans (IntWalk.wrap64_in _ (by omega))
  subst hz2
  conv => whnf
  repeat (refine ⟨by first | omega | (simp only [Option.getD_none, Option.getD_some]; omega) | (simp; done) | (simp; omega), ?_⟩; conv => whnf)
  intro n2 hn2
  replace hn2 : n2 = (n : Int) := hn2.trans hn
  subst hn2
  conv => whnf
  repeat (refine ⟨by first | omega | (simp only [Option.getD_none, Option.getD_some]; omega) | (simp; done) | (simp; omega), ?_⟩; conv => whnf)
  first | refine .inr (.inl ⟨_, hst, ?_⟩) | refine .inl (.inr (.inl ⟨_, hst, ?_⟩))
  conv => whnf
  repeat (refine ⟨by first | omega | (simp only [Option.getD_none, Option.getD_some]; omega) | (simp; done) | (simp; omega), ?_⟩; conv => whnf)
  refine ⟨[], [2, 6, 7, 8, 9, 11], [9], ?_⟩
  apply Exists.intro
  conv => whnf
  refine loopK (fun y : Nat × Sy => l.length - y.1) (fun y => y.1 ≤ l.length ∧ Fin y.1 y.2 ∧ y.2.2.1.length = c ∧ ∃ o N, MqI ((y.1 + 2 : Nat) : Int) o y.2 N) (fun y => ⟨lay 142 0 [(2, vP l), (6, vB false), (7, vB true), (8, vI (c : Int)), (9, pB 9), (11, vI (y.1 : Int))], [(9, .cells ySys (cS y.2))], []⟩) ?_ (0, t0) rfl rfl ⟨Nat.zero_le _, hFn, hCn, _, _, hIn⟩
  clear hFn hIn hCn hGn hWn hst hc hn
  intro ⟨i, s⟩ ih ⟨hi, hF, hC, o, N, hI⟩ hih
  simp only at hi hF hC hI hih
  conv => whnf
  refine dcase (fun h3 => ?_) (fun h3 => ?_)
  · replace h3 : (i : Int) < l.length := h3
    obtain ⟨x, hx⟩ : ∃ x, pick l i = x := ⟨_, rfl⟩
    obtain ⟨x0, x1⟩ := pick_in hw (show i < l.length by omega)
    rw [hx] at x0 x1
    have hx2 : List.getD l ((i : Int)).toNat (dflt (.int .u16)) = x := hx
    obtain ⟨k, hk, hkx⟩ := core_of x0 c1
    have hks : k < s.2.1.length := by omega
    obtain ⟨hI1, hb1, hC1, hm1, hl1⟩ := hI.go hks x
    obtain ⟨o2, N2, hI2, hdid⟩ := hI1.turn (by omega) (by omega) hb1
    have hF1 : Fin i (goS s (k : Int) x) := goS_fin hF
    have hF2 := msqS_fin (k := (k : Int)) hF1
    have hstep := s_mStep8 (goS s (k : Int) x) (k : Int) hF1 (by omega)
    have hin : (0 : Int) ≤ (i : Int) ∧ (i : Int) < (l.length : Int) := ⟨by omega, h3⟩
    have hbeg := s_begin8 s (k : Int) x x0 x1 hF.cores
    obtain ⟨s1, hs1⟩ : ∃ s1, goS s (k : Int) x = s1 := ⟨_, rfl⟩
    rw [hs1] at hI1 hb1 hC1 hm1 hl1 hI2 hdid hF1 hF2 hstep
    obtain ⟨t, ht⟩ : ∃ t, msqS s1 (k : Int) = t := ⟨_, rfl⟩
    rw [ht] at hI2 hdid hF2 hstep
    have hCt : t.2.1.length = c := by have := hdid.cores; omega
    have hnx := hih (i + 1, t) ⟨by show i + 1 ≤ _; omega, hF2, hCt, o2, N2, by
      show MqI ((i + 1 + 2 : Nat) : Int) o2 t N2
      rw [show ((i + 1 + 2 : Nat) : Int) = ((i + 2 : Nat) : Int) + 1 by omega]
      exact hI2⟩ (by show l.length - (i + 1) < _; omega)
    have hgood : t.1.2.2.1 = false := hI2.toMsI.good
    obtain ⟨n0, hn0⟩ : ∃ n0, s1.2.2.1.length = n0 := ⟨_, rfl⟩
    have hn0' : (s1.2.2.1.length : Int) = (n0 : Int) := by rw [hn0]
    obtain ⟨hln1, hln2⟩ : n0 ≤ t.2.2.1.length ∧ t.2.2.1.length ≤ n0 + 1 := by
      obtain ⟨ev, h1, h2⟩ := hdid.log
      have := congrArg List.length h1
      rw [List.length_append] at this
      omega
    have hlog : t.2.2.1.length ≤ 1000000 := by have := hF2.log; omega
    have hits : ∀ q : Int, IsQ q → Spec Tryz.prog 19 [vS t, vI q] (vItems (some (itemsQ t.1 (N2 q)))) ∧ Spec Tryz.prog 32 [.one (.sl tEv t.2.2.1 false), vI q] (vItems (some (itemsQ t.1 (N2 q)))) ∧ Spec Tryz.prog 26 [vL (itemsQ t.1 (N2 q)), vL (itemsQ t.1 (N2 q))] (vB true) := fun q hq => by
      have hm := s_mItems t q (by rcases hq with e | e <;> omega) (by rcases hq with e | e <;> omega) (by have := hI2.mm.more; omega) hF2.fits.2 (by have := hF2.fits.1; have := hI2.mm.more; omega)
      rw [hI2.toMsI.items hq] at hm
      have hp := s_refPlay t.2.2.1 q hlog
      rw [hI2.log q hq] at hp
      exact ⟨hm, hp, s_refIntsSame _ (itemsQ_len hI2.toMsI hq)⟩
    clear hI1 hI2 hdid hF2 hI
    conv => whnf
    refine ⟨hin, ?_⟩
    conv => whnf
    rw [hx2]
    intro w hw1
    replace hw1 : w = x := hw1.trans (IntWalk.wrap64_in _ (by omega))
    subst hw1
    conv => whnf
    refine ⟨by omega, ?_⟩
    conv => whnf
    rw [hkx]
    conv => whnf
    cases ht : topI s (k : Int) with
    | none =>
      have hs2 : begS s (k : Int) w = s1 := by rw [← hs1]; unfold goS; rw [if_pos ht]
      rw [hs2] at hbeg
      first | refine .inr (.inl ⟨_, s_refTopNo ht (hF.fine (by omega)), ?_⟩) | refine .inl (.inr (.inl ⟨_, s_refTopNo ht (hF.fine (by omega)), ?_⟩))
      conv => whnf
      repeat (refine ⟨by first | omega | (simp only [Option.getD_none, Option.getD_some]; omega) | (simp; done) | (simp; omega), ?_⟩; conv => whnf)
      refine ⟨p_hazellaw08_MsqLegal_14, g_hazellaw08_MsqLegal_14, by kernel_rfl, ?st1, ?_, ?_⟩
      rotate_left
      · conv => whnf
        repeat' (first | (refine ⟨hin, ?_⟩; conv => whnf) | ((rw [hx2]; conv => whnf)) | (refine .inr (.inl ⟨_, hbeg, ?_⟩); conv => whnf) | (refine .inl (.inr (.inl ⟨_, hbeg, ?_⟩)); conv => whnf) | (refine And.intro ?_ ?_ <;> conv => whnf) | exact rfl)
      conv => whnf
      rw [hn0']
      conv => whnf
      first | refine .inr (.inl ⟨_, hstep, ?_⟩) | refine .inl (.inr (.inl ⟨_, hstep, ?_⟩))
      conv => whnf
      repeat (refine ⟨by first | omega | (simp only [Option.getD_none, Option.getD_some]; omega) | (simp; done) | (simp; omega), ?_⟩; conv => whnf)
      refine dcase (fun h => absurd (show (t.2.1.length : Int) = (c : Int) by omega) h) (fun _ => ?_)
      conv => whnf
      refine bcase (fun h => Bool.noConfusion (h.symm.trans hgood)) (fun _ => ?_)
      conv => whnf
      refine dcase (fun h => absurd (show (t.2.2.1.length : Int) < (n0 : Int) from h) (by omega)) (fun _ => ?_)
      conv => whnf
      intro w1 hw1
      replace hw1 : w1 = ((n0 + 1 : Nat) : Int) := by rw [hw1, IntWalk.wrap64_in _ (by omega)]; omega
      subst hw1
      conv => whnf
      refine dcase (fun h => absurd (show ((n0 + 1 : Nat) : Int) < (t.2.2.1.length : Int) from h) (by omega)) (fun _ => ?_)
      conv => whnf
      refine dcase (fun h4 => ?_) (fun h4 => ?_)
      · conv => whnf
        intro z' hz'
        replace hz' : z' = (l.length : Int) - 1 := by rw [hz', IntWalk.wrap64_in _ (by omega)]
        conv => whnf
        refine dcase (fun h5 => ?_) (fun h5 => ?_)
        · skip
          conv => whnf
          intro q' hq'
          replace hq' : q' = ((i + 1 : Nat) : Int) := by rw [hq', IntWalk.wrap64_in _ (by omega)]; omega
          subst hq'
          conv => whnf
          exact hnx
        conv => whnf
        refine ⟨[], [2, 6, 7, 8, 9, 11, 16], [9], ?_⟩
        apply Exists.intro
        conv => whnf
        refine loopK (fun q : Nat => 2 - q) (fun q => q ≤ 2) (fun q => ⟨lay 142 0 [(2, vP l), (6, vB false), (7, vB true), (8, vI (c : Int)), (9, pB 9), (11, vI (i : Int)), (16, vI (q : Int))], [(9, .cells ySys (cS t))], []⟩) ?_ 0 rfl rfl (by decide)
        intro q ih2 hq hih2
        conv => whnf
        refine dcase (fun h5 => ?_) (fun h5 => ?_)
        · have hq2 : q < 2 := by
            replace h5 : (q : Int) < 2 := h5
            omega
          obtain ⟨hi1, hi2, hi3⟩ := hits (q : Int) (by unfold IsQ; omega)
          have hnx2 := hih2 (q + 1) (by omega) (by omega)
          obtain ⟨Y, hY⟩ : ∃ Y, itemsQ t.1 (N2 (q : Int)) = Y := ⟨_, rfl⟩
          rw [hY] at hi1 hi2 hi3
          conv => whnf
          first | refine .inr (.inl ⟨_, hi1, ?_⟩) | refine .inl (.inr (.inl ⟨_, hi1, ?_⟩))
          conv => whnf
          repeat (refine ⟨by first | omega | (simp only [Option.getD_none, Option.getD_some]; omega) | (simp; done) | (simp; omega), ?_⟩; conv => whnf)
          first | refine .inr (.inl ⟨_, hi2, ?_⟩) | refine .inl (.inr (.inl ⟨_, hi2, ?_⟩))
          conv => whnf
          repeat (refine ⟨by first | omega | (simp only [Option.getD_none, Option.getD_some]; omega) | (simp; done) | (simp; omega), ?_⟩; conv => whnf)
          first | refine .inl ⟨_, hi3, ?_⟩ | refine .inl (.inl ⟨_, hi3, ?_⟩)
          conv => whnf
          repeat (refine ⟨by first | omega | (simp only [Option.getD_none, Option.getD_some]; omega) | (simp; done) | (simp; omega), ?_⟩; conv => whnf)
          intro q' hq'
          replace hq' : q' = ((q + 1 : Nat) : Int) := by rw [hq', IntWalk.wrap64_in _ (by omega)]; omega
          subst hq'
          conv => whnf
          exact hnx2
        conv => whnf
        intro q' hq'
        replace hq' : q' = ((i + 1 : Nat) : Int) := by rw [hq', IntWalk.wrap64_in _ (by omega)]; omega
        subst hq'
        conv => whnf
        exact hnx
      conv => whnf
      refine ⟨[], [2, 6, 7, 8, 9, 11, 16], [9], ?_⟩
      apply Exists.intro
      conv => whnf
      refine loopK (fun q : Nat => 2 - q) (fun q => q ≤ 2) (fun q => ⟨lay 142 0 [(2, vP l), (6, vB false), (7, vB true), (8, vI (c : Int)), (9, pB 9), (11, vI (i : Int)), (16, vI (q : Int))], [(9, .cells ySys (cS t))], []⟩) ?_ 0 rfl rfl (by decide)
      intro q ih2 hq hih2
      conv => whnf
      refine dcase (fun h5 => ?_) (fun h5 => ?_)
      · have hq2 : q < 2 := by
          replace h5 : (q : Int) < 2 := h5
          omega
        obtain ⟨hi1, hi2, hi3⟩ := hits (q : Int) (by unfold IsQ; omega)
        have hnx2 := hih2 (q + 1) (by omega) (by omega)
        obtain ⟨Y, hY⟩ : ∃ Y, itemsQ t.1 (N2 (q : Int)) = Y := ⟨_, rfl⟩
        rw [hY] at hi1 hi2 hi3
        conv => whnf
        first | refine .inr (.inl ⟨_, hi1, ?_⟩) | refine .inl (.inr (.inl ⟨_, hi1, ?_⟩))
        conv => whnf
        repeat (refine ⟨by first | omega | (simp only [Option.getD_none, Option.getD_some]; omega) | (simp; done) | (simp; omega), ?_⟩; conv => whnf)
        first | refine .inr (.inl ⟨_, hi2, ?_⟩) | refine .inl (.inr (.inl ⟨_, hi2, ?_⟩))
        conv => whnf
        repeat (refine ⟨by first | omega | (simp only [Option.getD_none, Option.getD_some]; omega) | (simp; done) | (simp; omega), ?_⟩; conv => whnf)
        first | refine .inl ⟨_, hi3, ?_⟩ | refine .inl (.inl ⟨_, hi3, ?_⟩)
        conv => whnf
        repeat (refine ⟨by first | omega | (simp only [Option.getD_none, Option.getD_some]; omega) | (simp; done) | (simp; omega), ?_⟩; conv => whnf)
        intro q' hq'
        replace hq' : q' = ((q + 1 : Nat) : Int) := by rw [hq', IntWalk.wrap64_in _ (by omega)]; omega
        subst hq'
        conv => whnf
        exact hnx2
      conv => whnf
      intro q' hq'
      replace hq' : q' = ((i + 1 : Nat) : Int) := by rw [hq', IntWalk.wrap64_in _ (by omega)]; omega
      subst hq'
      conv => whnf
      exact hnx
    | some f =>
      have hs2 : s = s1 := by rw [← hs1]; unfold goS; rw [if_neg (by rw [ht]; exact fun e => nomatch e)]
      first | refine .inr (.inl ⟨_, s_refTopOf ht (hF.fine (by omega)), ?_⟩) | refine .inl (.inr (.inl ⟨_, s_refTopOf ht (hF.fine (by omega)), ?_⟩))
      conv => whnf
      repeat (refine ⟨by first | omega | (simp only [Option.getD_none, Option.getD_some]; omega) | (simp; done) | (simp; omega), ?_⟩; conv => whnf)
      rw [hs2]
      conv => whnf
      rw [hn0']
      conv => whnf
      first | refine .inr (.inl ⟨_, hstep, ?_⟩) | refine .inl (.inr (.inl ⟨_, hstep, ?_⟩))
      conv => whnf
      repeat (refine ⟨by first | omega | (simp only [Option.getD_none, Option.getD_some]; omega) | (simp; done) | (simp; omega), ?_⟩; conv => whnf)
      refine dcase (fun h => absurd (show (t.2.1.length : Int) = (c : Int) by omega) h) (fun _ => ?_)
      conv => whnf
      refine bcase (fun h => Bool.noConfusion (h.symm.trans hgood)) (fun _ => ?_)
      conv => whnf
      refine dcase (fun h => absurd (show (t.2.2.1.length : Int) < (n0 : Int) from h) (by omega)) (fun _ => ?_)
      conv => whnf
      intro w1 hw1
      replace hw1 : w1 = ((n0 + 1 : Nat) : Int) := by rw [hw1, IntWalk.wrap64_in _ (by omega)]; omega
      subst hw1
      conv => whnf
      refine dcase (fun h => absurd (show ((n0 + 1 : Nat) : Int) < (t.2.2.1.length : Int) from h) (by omega)) (fun _ => ?_)
      conv => whnf
      refine dcase (fun h4 => ?_) (fun h4 => ?_)
      · conv => whnf
        intro z' hz'
        replace hz' : z' = (l.length : Int) - 1 := by rw [hz', IntWalk.wrap64_in _ (by omega)]
        conv => whnf
        refine dcase (fun h5 => ?_) (fun h5 => ?_)
        · skip
          conv => whnf
          intro q' hq'
          replace hq' : q' = ((i + 1 : Nat) : Int) := by rw [hq', IntWalk.wrap64_in _ (by omega)]; omega
          subst hq'
          conv => whnf
          exact hnx
        conv => whnf
        refine ⟨[], [2, 6, 7, 8, 9, 11, 16], [9], ?_⟩
        apply Exists.intro
        conv => whnf
        refine loopK (fun q : Nat => 2 - q) (fun q => q ≤ 2) (fun q => ⟨lay 142 0 [(2, vP l), (6, vB false), (7, vB true), (8, vI (c : Int)), (9, pB 9), (11, vI (i : Int)), (16, vI (q : Int))], [(9, .cells ySys (cS t))], []⟩) ?_ 0 rfl rfl (by decide)
        intro q ih2 hq hih2
        conv => whnf
        refine dcase (fun h5 => ?_) (fun h5 => ?_)
        · have hq2 : q < 2 := by
            replace h5 : (q : Int) < 2 := h5
            omega
          obtain ⟨hi1, hi2, hi3⟩ := hits (q : Int) (by unfold IsQ; omega)
          have hnx2 := hih2 (q + 1) (by omega) (by omega)
          obtain ⟨Y, hY⟩ : ∃ Y, itemsQ t.1 (N2 (q : Int)) = Y := ⟨_, rfl⟩
          rw [hY] at hi1 hi2 hi3
          conv => whnf
          first | refine .inr (.inl ⟨_, hi1, ?_⟩) | refine .inl (.inr (.inl ⟨_, hi1, ?_⟩))
          conv => whnf
          repeat (refine ⟨by first | omega | (simp only [Option.getD_none, Option.getD_some]; omega) | (simp; done) | (simp; omega), ?_⟩; conv => whnf)
          first | refine .inr (.inl ⟨_, hi2, ?_⟩) | refine .inl (.inr (.inl ⟨_, hi2, ?_⟩))
          conv => whnf
          repeat (refine ⟨by first | omega | (simp only [Option.getD_none, Option.getD_some]; omega) | (simp; done) | (simp; omega), ?_⟩; conv => whnf)
          first | refine .inl ⟨_, hi3, ?_⟩ | refine .inl (.inl ⟨_, hi3, ?_⟩)
          conv => whnf
          repeat (refine ⟨by first | omega | (simp only [Option.getD_none, Option.getD_some]; omega) | (simp; done) | (simp; omega), ?_⟩; conv => whnf)
          intro q' hq'
          replace hq' : q' = ((q + 1 : Nat) : Int) := by rw [hq', IntWalk.wrap64_in _ (by omega)]; omega
          subst hq'
          conv => whnf
          exact hnx2
        conv => whnf
        intro q' hq'
        replace hq' : q' = ((i + 1 : Nat) : Int) := by rw [hq', IntWalk.wrap64_in _ (by omega)]; omega
        subst hq'
        conv => whnf
        exact hnx
      conv => whnf
      refine ⟨[], [2, 6, 7, 8, 9, 11, 16], [9], ?_⟩
      apply Exists.intro
      conv => whnf
      refine loopK (fun q : Nat => 2 - q) (fun q => q ≤ 2) (fun q => ⟨lay 142 0 [(2, vP l), (6, vB false), (7, vB true), (8, vI (c : Int)), (9, pB 9), (11, vI (i : Int)), (16, vI (q : Int))], [(9, .cells ySys (cS t))], []⟩) ?_ 0 rfl rfl (by decide)
      intro q ih2 hq hih2
      conv => whnf
      refine dcase (fun h5 => ?_) (fun h5 => ?_)
      · have hq2 : q < 2 := by
          replace h5 : (q : Int) < 2 := h5
          omega
        obtain ⟨hi1, hi2, hi3⟩ := hits (q : Int) (by unfold IsQ; omega)
        have hnx2 := hih2 (q + 1) (by omega) (by omega)
        obtain ⟨Y, hY⟩ : ∃ Y, itemsQ t.1 (N2 (q : Int)) = Y := ⟨_, rfl⟩
        rw [hY] at hi1 hi2 hi3
        conv => whnf
        first | refine .inr (.inl ⟨_, hi1, ?_⟩) | refine .inl (.inr (.inl ⟨_, hi1, ?_⟩))
        conv => whnf
        repeat (refine ⟨by first | omega | (simp only [Option.getD_none, Option.getD_some]; omega) | (simp; done) | (simp; omega), ?_⟩; conv => whnf)
        first | refine .inr (.inl ⟨_, hi2, ?_⟩) | refine .inl (.inr (.inl ⟨_, hi2, ?_⟩))
        conv => whnf
        repeat (refine ⟨by first | omega | (simp only [Option.getD_none, Option.getD_some]; omega) | (simp; done) | (simp; omega), ?_⟩; conv => whnf)
        first | refine .inl ⟨_, hi3, ?_⟩ | refine .inl (.inl ⟨_, hi3, ?_⟩)
        conv => whnf
        repeat (refine ⟨by first | omega | (simp only [Option.getD_none, Option.getD_some]; omega) | (simp; done) | (simp; omega), ?_⟩; conv => whnf)
        intro q' hq'
        replace hq' : q' = ((q + 1 : Nat) : Int) := by rw [hq', IntWalk.wrap64_in _ (by omega)]; omega
        subst hq'
        conv => whnf
        exact hnx2
      conv => whnf
      intro q' hq'
      replace hq' : q' = ((i + 1 : Nat) : Int) := by rw [hq', IntWalk.wrap64_in _ (by omega)]; omega
      subst hq'
      conv => whnf
      exact hnx
  conv => whnf
  first | exact .inl rfl | exact .inr rfl
end Go.Proofs.YtpobngddiifdpaaGreat.V
