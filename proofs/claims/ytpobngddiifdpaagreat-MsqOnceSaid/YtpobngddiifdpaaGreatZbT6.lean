/- MsqOnce: the law. -/
import Derived.Test.YtpobngddiifdpaaGreatZbP0
import Derived.Test.YtpobngddiifdpaaGreatZbT4
set_option linter.unusedSimpArgs false
set_option linter.unusedVariables false
namespace Go.Proofs.YtpobngddiifdpaaGreat.V
open Go Go.RowKit Go.Proofs.YtpobngddiifdpaaGreat.Hz
set_option maxRecDepth 100000

theorem nI_setN {L : Li} {k j : Nat} {v : Int} (hk : k < L.length) : nI (List.set (α := Int) L ((k : Int)).toNat v) (j : Int) = if j = k then v else nI L (j : Int) := by
  show List.getD (List.set (α := Int) L ((k : Int)).toNat v) ((j : Int)).toNat 0 = if j = k then v else List.getD L ((j : Int)).toNat 0
  rw [Int.toNat_natCast, Int.toNat_natCast, List.getD_eq_getElem?_getD, List.getD_eq_getElem?_getD]
  by_cases e : j = k
  · subst e; rw [if_pos rfl, List.getElem?_set_self hk]; rfl
  · rw [if_neg e, List.getElem?_set_ne (Ne.symm e)]
/-- What the core has told since it began: from where in the log that was. -/
structure OnI (s : Sy) (L : Li) : Prop where
  len : L.length = s.2.1.length
  frm : ∀ k : Nat, k < s.2.1.length → 0 ≤ nI L k ∧ nI L k ≤ (s.2.2.1.length : Int)
  on : ∀ k : Nat, k < s.2.1.length → OnC k (ownE k (s.2.2.1.drop (nI L k).toNat)) (cAt s.2.1 k)
theorem drop_log {lg ev : List Evt} {n : Int} (h0 : 0 ≤ n) (h1 : n ≤ (lg.length : Int)) : (lg ++ ev).drop n.toNat = lg.drop n.toNat ++ ev := List.drop_append_of_le_length (by omega)
section
variable {T : Int} {o : OM} {s : Sy} {N : NQ} {k : Nat} {L : Li}
theorem OnI.go (h : OnI s L) (hI : MqI T o s N) (hk : k < s.2.1.length) (x : Int) : OnI (goS s k x) (if topI s k = none then List.set (α := Int) L ((k : Int)).toNat (s.2.2.1.length : Int) else L) := by
  have hC := hI.mm.cores
  have htI := topI_is (s := s) (k := (k : Int)) (by omega) (by omega)
  unfold goS
  by_cases ht : topI s k = none
  · rw [if_pos ht, if_pos ht]
    have hidle : (cAt s.2.1 k).1 = [] := by
      rw [ht] at htI
      exact List.getLast?_eq_none_iff.1 htI.symm
    have key : ∀ op v : Int, op = 9 ∨ op = 10 → OnI (callS s k op (x / 8 % 2) v 0) (List.set (α := Int) L ((k : Int)).toNat (s.2.2.1.length : Int)) := by
      intro op v hop
      obtain ⟨_, e1, e2, e3, e4⟩ := hI.begin (op := op) (q := x / 8 % 2) (v := v) hk hidle hop (by unfold IsQ; omega)
      have e : callS s k op (x / 8 % 2) v 0 = stS s k s.1 ((cAt s.2.1 k).1 ++ [frm0 op (x / 8 % 2) v 0], (cAt s.2.1 k).2) := callS_self (s := s) (k := (k : Int)) (op := op) (a := x / 8 % 2) (b := v) (d := 0) (by omega) (by omega) (by rw [hidle]; show 0 < 40; decide)
      have hl : (callS s k op (x / 8 % 2) v 0).2.2.1 = s.2.2.1 := by rw [e4]
      refine ⟨?_, fun j hj => ?_, fun j hj => ?_⟩
      · rw [e2]; exact List.length_set.trans h.len
      · rw [e2] at hj
        rw [hl, nI_setN (by rw [h.len]; exact hk)]
        split
        · exact ⟨by omega, Int.le_refl _⟩
        · exact h.frm j hj
      · rw [e2] at hj
        rw [hl, nI_setN (by rw [h.len]; exact hk)]
        by_cases c : j = k
        · subst c
          rw [if_pos rfl, show List.drop ((s.2.2.1.length : Int)).toNat s.2.2.1 = [] from by rw [Int.toNat_natCast]; exact List.drop_length, show ownE j [] = [] from rfl]
          rcases hop with e5 | e5 <;> subst e5
          · exact .enq e1 (.inl ⟨by decide, rfl⟩)
          · exact .deq e1 (.inl ⟨by decide, rfl⟩)
        · rw [if_neg c, show cAt (callS s k op (x / 8 % 2) v 0).2.1 j = cAt s.2.1 j from by rw [e]; exact cAt_neN c]
          exact h.on j hj
    unfold begS
    split
    · exact key 9 _ (.inl rfl)
    · exact key 10 _ (.inr rfl)
  · rw [if_neg ht, if_neg ht]; exact h
theorem OnI.turn (h : OnI s L) (hI : MqI T o s N) (hT : T < 1000000000) (hk : k < s.2.1.length) (hb : (cAt s.2.1 k).1 ≠ []) (hn : (msqS s k).2.1.length = s.2.1.length) :
    OnI (msqS s k) L ∧ ∃ f U, (cAt s.2.1 k).1 = f :: U ∧ ((cAt (msqS s k).2.1 k).1 = [] → Ended k f (ownE k ((msqS s k).2.2.1.drop (nI L k).toNat)) (cAt (msqS s k).2.1 k).2) := by
  obtain ⟨ev, e1, e2, e3⟩ := hI.on hT hk hb
  have hf := h.frm k hk
  obtain ⟨h1, f, U, h2, h3⟩ := e3 _ (h.on k hk)
  have hd : ∀ j : Nat, j < s.2.1.length → (msqS s k).2.2.1.drop (nI L j).toNat = s.2.2.1.drop (nI L j).toNat ++ ev := fun j hj => by
    have := h.frm j hj
    rw [e1, drop_log this.1 this.2]
  refine ⟨⟨by rw [hn]; exact h.len, fun j hj => ?_, fun j hj => ?_⟩, f, U, h2, ?_⟩
  · rw [hn] at hj
    have := h.frm j hj
    rw [e1, List.length_append]
    omega
  · rw [hn] at hj
    rw [hd j hj, ownE_add]
    by_cases c : j = k
    · subst c; exact h1
    · rw [(e2 j c).1, (e2 j c).2, List.append_nil]; exact h.on j hj
  · rw [hd k hk, ownE_add]; exact h3
end
theorem evSame {a b c d e : Prop} [Decidable a] [Decidable b] [Decidable c] [Decidable d] [Decidable e] (h1 : a) (h2 : b) (h3 : c) (h4 : d) (h5 : e) : (!(decide a && (decide b && (decide c && (decide d && (decide e && true)))))) = false := by
  rw [decide_eq_true h1, decide_eq_true h2, decide_eq_true h3, decide_eq_true h4, decide_eq_true h5]; rfl
/-- The core's own events of a part of the log. -/
def ownR (k : Nat) (lg : List Evt) (a j : Nat) : List Evt := ownE k ((lg.take j).drop a)
theorem ownR_zero {k : Nat} {lg : List Evt} {a : Nat} : ownR k lg a a = [] := by
  unfold ownR
  rw [List.drop_eq_nil_of_le (by rw [List.length_take]; omega)]; rfl
theorem ownR_all {k : Nat} {lg : List Evt} {a : Nat} : ownR k lg a lg.length = ownE k (lg.drop a) := by
  unfold ownR
  rw [List.take_length]
theorem ownR_succ {k : Nat} {lg : List Evt} {a j : Nat} (h : j < lg.length) (ha : a ≤ j) : ownR k lg a (j + 1) = if isOwn k lg[j] then ownR k lg a j ++ [lg[j]] else ownR k lg a j := by
  unfold ownR ownE
  rw [List.take_succ_eq_append_getElem h, List.drop_append_of_le_length (by rw [List.length_take]; omega), List.filter_append]
  by_cases c : isOwn k lg[j] = true
  · rw [if_pos c, List.filter_cons_of_pos c, List.filter_nil]
  · rw [if_neg c, List.filter_cons_of_neg c, List.filter_nil, List.append_nil]
theorem ownR_len {k : Nat} {lg : List Evt} {a j : Nat} : (ownR k lg a j).length ≤ lg.length := by
  unfold ownR ownE
  refine Nat.le_trans (List.length_filter_le ..) ?_
  rw [List.length_drop, List.length_take]
  omega
set_option maxHeartbeats 8000000 in
theorem s_MsqOnce (a : Int) (ha0 : 0 ≤ a) (ha1 : a ≤ 255) (b : Int) (hb0 : 0 ≤ b) (hb1 : b ≤ 255) (l : Lp) (hw : ∀ x ∈ l, WFd (.int .u16) x) : Spec Tryz.prog 5 [.one (.int .u8 a), .one (.int .u8 b), vP l] (vB true) := by
  obtain ⟨c, c1, c8, hc⟩ := cores_of ha0 ha1
  obtain ⟨n, n1, n40, hn⟩ := nodes2_of hb0 hb1 (show (0 : Int) < 40 by decide) (by decide)
  have hst := s_start8 c n n1 (by omega) c1 c8
  have hFn := newQ_fin (c := c) (n := n) n1 (by omega) c8
  have hIn := MqI.start (c := c) (n := n) n1 (by omega) c1 c8
  obtain ⟨hCn, hGn, hWn⟩ := newQ_lens (c := c) (n := n) n1 (by omega)
  have hOn : OnI (newQ (c : Int) (n : Int)) (List.replicate c 0) := by
    have z : ∀ j : Nat, nI (List.replicate c 0) (j : Int) = 0 := fun j => by
      show List.getD (List.replicate c 0) ((j : Int)).toNat 0 = 0
      rw [List.getD_eq_getElem?_getD]
      by_cases h : ((j : Int)).toNat < c
      · rw [List.getElem?_replicate_of_lt h]; rfl
      · rw [List.getElem?_eq_none (by rw [List.length_replicate]; omega)]; rfl
    refine ⟨by rw [List.length_replicate, hCn], fun k _ => ?_, fun k _ => ?_⟩
    · rw [z]; exact ⟨Int.le_refl _, by omega⟩
    · exact .idle (by rw [show cAt (newQ (c : Int) (n : Int)).2.1 k = dflt tCore from newF_cor (c := (c : Int)) (n := (n : Int))]; rfl)
  generalize newQ (c : Int) (n : Int) = t0 at *
  refine spec_introF true tab_ok 0 Tryz.func5 rfl (by kernel_rfl) rfl ?_
  conv => whnf
  first | refine .inl ⟨_, s_shown08, ?_⟩ | refine .inl (.inl ⟨_, s_shown08, ?_⟩)
  conv => whnf
  repeat (refine ⟨by first | omega | (simp only [Option.getD_none, Option.getD_some]; omega) | (simp; done) | (simp; omega), ?_⟩; conv => whnf)
  refine dcase (fun h => ?_) (fun hl => ?_)
  · skip
    conv => whnf
    repeat (refine ⟨by first | omega | (simp only [Option.getD_none, Option.getD_some]; omega) | (simp; done) | (simp; omega), ?_⟩; conv => whnf)
    first | exact .inl rfl | exact .inr rfl
  replace hl : l.length ≤ 300 := Int.ofNat_le.1 (Int.not_lt.1 hl)
  conv => whnf
  repeat (refine ⟨by first | omega | (simp only [Option.getD_none, Option.getD_some]; omega) | (simp; done) | (simp; omega), ?_⟩; conv => whnf)
  intro z hz
  replace hz : z = a := hz.trans (IntWalk.wrap64_in _ (by omega))
  subst hz
  conv => whnf
  repeat (refine ⟨by first | omega | (simp only [Option.getD_none, Option.getD_some]; omega) | (simp; done) | (simp; omega), ?_⟩; conv => whnf)
  intro n' hn'
  replace hn' : n' = (c : Int) := hn'.trans hc
  subst hn'
  conv => whnf
  repeat (refine ⟨by first | omega | (simp only [Option.getD_none, Option.getD_some]; omega) | (simp; done) | (simp; omega), ?_⟩; conv => whnf)
  intro z2 hz2
  replace hz2 : z2 = b := hz2.trans (IntWalk.wrap64_in _ (by omega))
  subst hz2
  conv => whnf
  repeat (refine ⟨by first | omega | (simp only [Option.getD_none, Option.getD_some]; omega) | (simp; done) | (simp; omega), ?_⟩; conv => whnf)
  intro n2 hn2
  replace hn2 : n2 = (n : Int) := hn2.trans hn
  subst hn2
  conv => whnf
  repeat (refine ⟨by first | omega | (simp only [Option.getD_none, Option.getD_some]; omega) | (simp; done) | (simp; omega), ?_⟩; conv => whnf)
  first | refine .inr (.inl ⟨_, hst, ?_⟩) | refine .inl (.inr (.inl ⟨_, hst, ?_⟩))
  conv => whnf
  repeat (refine ⟨by first | omega | (simp only [Option.getD_none, Option.getD_some]; omega) | (simp; done) | (simp; omega), ?_⟩; conv => whnf)
  refine ⟨[(11, 43, 3, tI)], [2, 6, 7, 8, 9, 11, 12], [9, 43], ?_⟩
  apply Exists.intro
  conv => whnf
  refine loopK (fun y : Nat × Sy × Li => l.length - y.1) (fun y => y.1 ≤ l.length ∧ Fin y.1 y.2.1 ∧ y.2.1.2.1.length = c ∧ OnI y.2.1 y.2.2 ∧ ∃ o N, MqI ((y.1 + 2 : Nat) : Int) o y.2.1 N) (fun y => ⟨lay 224 0 [(2, vP l), (6, vB false), (7, vB true), (8, vI (c : Int)), (9, pB 9), (11, .one (.row 43)), (12, vI (y.1 : Int))], [(9, .cells ySys (cS y.2.1)), (43, .row 3 tI y.2.2)], []⟩) ?_ (0, t0, List.replicate c 0) rfl rfl ⟨Nat.zero_le _, hFn, hCn, hOn, _, _, hIn⟩
  clear hFn hIn hCn hGn hWn hst hc hn hOn
  intro ⟨i, s, L⟩ ih ⟨hi, hF, hC, hO, o, N, hI⟩ hih
  simp only at hi hF hC hI hih hO
  conv => whnf
  refine dcase (fun h3 => ?_) (fun h3 => ?_)
  · replace h3 : (i : Int) < l.length := h3
    obtain ⟨x, hx⟩ : ∃ x, pick l i = x := ⟨_, rfl⟩
    obtain ⟨x0, x1⟩ := pick_in hw (show i < l.length by omega)
    rw [hx] at x0 x1
    have hx2 : List.getD l ((i : Int)).toNat (dflt (.int .u16)) = x := hx
    obtain ⟨k, hk, hkx⟩ := core_of x0 c1
    have hks : k < s.2.1.length := by omega
    obtain ⟨hI1, hb1, hC1, hm1, hl1⟩ := hI.go hks x
    have hO1 := hO.go hI hks x
    obtain ⟨o2, N2, hI2, hdid⟩ := hI1.turn (by omega) (by omega) hb1
    obtain ⟨hO2, f, U, hfU, hend⟩ := hO1.turn hI1 (by omega) (by omega) hb1 hdid.cores
    have hF1 : Fin i (goS s (k : Int) x) := goS_fin hF
    have hF2 := msqS_fin (k := (k : Int)) hF1
    have hstep := s_mStep8 (goS s (k : Int) x) (k : Int) hF1 (by omega)
    have hin : (0 : Int) ≤ (i : Int) ∧ (i : Int) < (l.length : Int) := ⟨by omega, h3⟩
    have hbeg := s_begin8 s (k : Int) x x0 x1 hF.cores
    obtain ⟨s1, hs1⟩ : ∃ s1, goS s (k : Int) x = s1 := ⟨_, rfl⟩
    obtain ⟨L1, hL1⟩ : ∃ L1, (if topI s k = none then List.set (α := Int) L ((k : Int)).toNat (s.2.2.1.length : Int) else L) = L1 := ⟨_, rfl⟩
    rw [hs1] at hI1 hb1 hC1 hm1 hl1 hI2 hdid hF1 hF2 hstep hO1 hO2 hfU hend
    rw [hL1] at hO1 hO2 hend
    obtain ⟨t, ht⟩ : ∃ t, msqS s1 (k : Int) = t := ⟨_, rfl⟩
    rw [ht] at hI2 hdid hF2 hstep hO2 hend
    have hCt : t.2.1.length = c := by have := hdid.cores; omega
    have hnx := hih (i + 1, t, L1) ⟨by show i + 1 ≤ _; omega, hF2, hCt, hO2, o2, N2, by
      show MqI ((i + 1 + 2 : Nat) : Int) o2 t N2
      rw [show ((i + 1 + 2 : Nat) : Int) = ((i + 2 : Nat) : Int) + 1 by omega]
      exact hI2⟩ (by show l.length - (i + 1) < _; omega)
    obtain ⟨fr0, fr1⟩ := hO2.frm k (by omega)
    obtain ⟨fr, hfr⟩ : ∃ fr : Nat, nI L1 (k : Int) = (fr : Int) := ⟨(nI L1 (k : Int)).toNat, by omega⟩
    rw [hfr] at fr0 fr1 hend
    rw [Int.toNat_natCast] at hend
    have hL1l : L1.length = c := by have := hO2.len; omega
    have hk0 : (0 : Int) ≤ (k : Int) ∧ (k : Int) < (L.length : Int) := ⟨by omega, by have := hO.len; omega⟩
    have hkL1 : (0 : Int) ≤ (k : Int) ∧ (k : Int) < (L1.length : Int) := ⟨by omega, by omega⟩
    have hkC1 : (0 : Int) ≤ (k : Int) ∧ (k : Int) < (s1.2.1.length : Int) := ⟨by omega, by omega⟩
    have hkCt : (0 : Int) ≤ (k : Int) ∧ (k : Int) < (t.2.1.length : Int) := ⟨by omega, by omega⟩
    have hf0 : List.getD (List.getD s1.2.1 ((k : Int)).toNat (dflt tCore)).1 (0 : Int).toNat (dflt tFrame) = f := by
      show List.getD (cAt s1.2.1 (k : Int)).1 0 (dflt tFrame) = f
      rw [hfU]; rfl
    have hfl : (0 : Int) ≤ 0 ∧ (0 : Int) < (((List.getD s1.2.1 ((k : Int)).toNat (dflt tCore)).1.length : Nat) : Int) := by
      refine ⟨Int.le_refl _, ?_⟩
      show (0 : Int) < (((cAt s1.2.1 (k : Int)).1.length : Nat) : Int)
      rw [hfU, List.length_cons]; omega
    have hfr2 : List.getD L1 ((k : Int)).toNat (dflt tI) = (fr : Int) := hfr
    have hkN1 : ((k : Int)).toNat < L1.length := by omega
    have hnlt : ¬ ((t.2.2.1.length : Int) < List.getD L1 ((k : Int)).toNat (dflt tI)) := by rw [hfr2]; omega
    have hlog : t.2.2.1.length ≤ 1000 := by have := hF2.log; omega
    obtain ⟨lg, hlg⟩ : ∃ lg : List Evt, t.2.2.1 = lg := ⟨_, rfl⟩
    have hlgl : (t.2.2.1.length : Int) = (lg.length : Int) := by rw [hlg]
    have hOL := hO.len
    clear hI1 hI2 hdid hI hO hO1
    conv => whnf
    refine ⟨hin, ?_⟩
    conv => whnf
    rw [hx2]
    intro w hw1
    replace hw1 : w = x := hw1.trans (IntWalk.wrap64_in _ (by omega))
    subst hw1
    conv => whnf
    refine ⟨by omega, ?_⟩
    conv => whnf
    rw [hkx]
    conv => whnf
    cases ht : topI s (k : Int) with
    | none =>
      have hs2 : begS s (k : Int) w = s1 := by rw [← hs1]; unfold goS; rw [if_pos ht]
      have hL2 : List.set (α := Int) L ((k : Int)).toNat (s1.2.2.1.length : Int) = L1 := by rw [← hL1, if_pos ht, hl1]
      rw [hs2] at hbeg
      first | refine .inr (.inl ⟨_, s_refTopNo ht (hF.fine (by omega)), ?_⟩) | refine .inl (.inr (.inl ⟨_, s_refTopNo ht (hF.fine (by omega)), ?_⟩))
      conv => whnf
      repeat (refine ⟨by first | omega | (simp only [Option.getD_none, Option.getD_some]; omega) | (simp; done) | (simp; omega), ?_⟩; conv => whnf)
      refine ⟨p_hazellaw08_MsqOnce_15, g_hazellaw08_MsqOnce_15, by kernel_rfl, ?st1, ?_, ?_⟩
      rotate_left
      · conv => whnf
        repeat' (first | (refine ⟨hin, ?_⟩; conv => whnf) | ((rw [hx2]; conv => whnf)) | (refine .inr (.inl ⟨_, hbeg, ?_⟩); conv => whnf) | (refine .inl (.inr (.inl ⟨_, hbeg, ?_⟩)); conv => whnf) | (refine And.intro ?_ ?_ <;> conv => whnf) | exact rfl)
      conv => whnf
      refine ⟨hk0, ?_⟩
      conv => whnf
      refine ⟨by show ((k : Int)).toNat < L.length; omega, ?_⟩
      conv => whnf
      rw [hL2]
      conv => whnf
      refine ⟨hkC1, ?_⟩
      conv => whnf
      refine ⟨hfl, ?_⟩
      conv => whnf
      rw [hf0]
      conv => whnf
      first | refine .inr (.inl ⟨_, hstep, ?_⟩) | refine .inl (.inr (.inl ⟨_, hstep, ?_⟩))
      conv => whnf
      repeat (refine ⟨by first | omega | (simp only [Option.getD_none, Option.getD_some]; omega) | (simp; done) | (simp; omega), ?_⟩; conv => whnf)
      refine ⟨p_hazellaw08_MsqOnce_19, g_hazellaw08_MsqOnce_19, by kernel_rfl, ?st2, ?_, ?_⟩
      rotate_left
      · conv => whnf
        repeat' (first | ((refine dcase (fun h => absurd (show (t.2.1.length : Int) = (c : Int) by omega) h) (fun _ => ?_); conv => whnf)) | (refine ⟨hkL1, ?_⟩; conv => whnf) | (refine ⟨hkN1, ?_⟩; conv => whnf) | (refine And.intro ?_ ?_ <;> conv => whnf) | exact rfl)
      conv => whnf
      refine dcase (fun h => absurd h hnlt) (fun _ => ?_)
      conv => whnf
      refine ⟨hkCt, ?_⟩
      conv => whnf
      refine dcase (fun h4 => ?_) (fun h4 => ?_)
      · conv => whnf
        intro q' hq'
        replace hq' : q' = ((i + 1 : Nat) : Int) := by rw [hq', IntWalk.wrap64_in _ (by omega)]; omega
        subst hq'
        conv => whnf
        exact hnx
      have hidle : (cAt t.2.1 (k : Int)).1 = [] := by
        replace h4 : ¬ (0 : Int) < (((cAt t.2.1 (k : Int)).1.length : Nat) : Int) := h4
        exact List.length_eq_zero_iff.1 (by omega)
      replace hend := hend hidle
      rw [hlg] at hend
      conv => whnf
      refine ⟨hkL1, ?_⟩
      conv => whnf
      refine ⟨hkN1, ?_⟩
      conv => whnf
      rw [hfr2]
      conv => whnf
      have hz0 : ownR k lg fr fr = [] := ownR_zero
      refine ⟨[(17, 148, 63, tEv)], [2, 6, 7, 8, 9, 11, 12, 13, 16, 17, 18], [9, 16, 43, 148], ?_⟩
      apply Exists.intro
      conv => whnf
      refine loopK (fun y : Nat × List Evt => lg.length - y.1) (fun y => fr ≤ y.1 ∧ y.1 ≤ lg.length ∧ y.2 = ownR k lg fr y.1) (fun y => ⟨lay 224 0 [(2, vP l), (6, vB false), (7, vB true), (8, vI (c : Int)), (9, pB 9), (11, .one (.row 43)), (12, vI (i : Int)), (13, vI (k : Int)), (16, pB 16), (17, .one (.row 148)), (18, vI (y.1 : Int))], [(9, .cells ySys (cS t)), (16, .cells yFrame (cF f)), (43, .row 3 tI L1), (148, .row 63 tEv y.2)], []⟩) ?_ (fr, []) rfl rfl ⟨Nat.le_refl _, by show fr ≤ lg.length; omega, hz0.symm⟩
      intro ⟨j, O⟩ ih2 ⟨hj0, hj1, hjO⟩ hih2
      simp only at hj0 hj1 hjO hih2
      conv => whnf
      refine dcase (fun h5 => ?_) (fun h5 => ?_)
      · replace h5 : (j : Int) < (t.2.2.1.length : Int) := h5
        have hjl : j < lg.length := by omega
        have hsucc := ownR_succ (k := k) hjl hj0
        obtain ⟨e, he⟩ : ∃ e, lg[j] = e := ⟨_, rfl⟩
        rw [he, ← hjO] at hsucc
        have hge : List.getD t.2.2.1 ((j : Int)).toNat (dflt tEv) = e := by
          rw [hlg, Int.toNat_natCast, List.getD_eq_getElem?_getD, List.getElem?_eq_getElem hjl, he]; rfl
        have b1 : (0 : Int) ≤ (j : Int) ∧ (j : Int) < (t.2.2.1.length : Int) := ⟨by omega, h5⟩
        have hnx2 := hih2 (j + 1, ownR k lg fr (j + 1)) ⟨by show fr ≤ j + 1; omega, by show j + 1 ≤ _; omega, rfl⟩ (by show _ - (j + 1) < _; omega)
        have hskip : isOwn k e = false → ownR k lg fr (j + 1) = O := fun h => by rw [hsucc, if_neg (by rw [h]; decide)]
        conv => whnf
        refine ⟨b1, ?_⟩
        conv => whnf
        rw [hge]
        refine dcase (fun d1 => ?_) (fun d1 => ?_)
        · conv => whnf
          refine ⟨b1, ?_⟩
          conv => whnf
          rw [hge]
          refine dcase (fun d2 => ?_) (fun d2 => ?_)
          · have hyes : isOwn k e = true := by
              unfold isOwn
              rw [decide_eq_true (show e.1 = (k : Int) from d1), decide_eq_true (show e.2.1 ≠ 9 from d2)]; rfl
            rw [hsucc, if_pos hyes] at hnx2
            have hOl : O.length ≤ 1000 := by rw [hjO]; exact Nat.le_trans ownR_len (by omega)
            conv => whnf
            refine ⟨b1, ?_⟩
            conv => whnf
            rw [hge]
            conv => whnf
            refine ⟨by show O.length + 1 ≤ mostElems; unfold mostElems; omega, ?_⟩
            conv => whnf
            intro q' hq'
            replace hq' : q' = ((j + 1 : Nat) : Int) := by rw [hq', IntWalk.wrap64_in _ (by omega)]; omega
            subst hq'
            conv => whnf
            exact hnx2
          · rw [hskip (by unfold isOwn; rw [decide_eq_false (show ¬ e.2.1 ≠ 9 from d2), Bool.and_false])] at hnx2
            conv => whnf
            intro q' hq'
            replace hq' : q' = ((j + 1 : Nat) : Int) := by rw [hq', IntWalk.wrap64_in _ (by omega)]; omega
            subst hq'
            conv => whnf
            exact hnx2
        · rw [hskip (by unfold isOwn; rw [decide_eq_false (show ¬ e.1 = (k : Int) from d1), Bool.false_and])] at hnx2
          conv => whnf
          intro q' hq'
          replace hq' : q' = ((j + 1 : Nat) : Int) := by rw [hq', IntWalk.wrap64_in _ (by omega)]; omega
          subst hq'
          conv => whnf
          exact hnx2
      have hjl : j = lg.length := by
        replace h5 : ¬ (j : Int) < (t.2.2.1.length : Int) := h5
        omega
      rw [hjl, ownR_all] at hjO
      rw [← hjO] at hend
      clear hih2 hih
      rcases hend with ⟨f9, ⟨hO, hE⟩ | ⟨hO, hE⟩⟩ | ⟨f10, ⟨hO, hE⟩ | ⟨hO, hV, hE⟩⟩
      · subst hO
        conv => whnf
        refine ⟨hkCt, ?_⟩
        conv => whnf
        repeat (refine ⟨by first | omega | (simp only [Option.getD_none, Option.getD_some]; omega) | (simp; done) | (simp; omega), ?_⟩; conv => whnf)
        refine dcase (fun h => nope ((show f.1 = 10 from h).symm.trans f9) rfl) (fun _ => ?_)
        conv => whnf
        repeat (refine ⟨by first | omega | (simp only [Option.getD_none, Option.getD_some]; omega) | (simp; done) | (simp; omega), ?_⟩; conv => whnf)
        refine dcase (fun h => nope ((show (cAt t.2.1 (k : Int)).2.2.1 = 3 from h).symm.trans hE) rfl) (fun _ => ?_)
        conv => whnf
        repeat (refine ⟨by first | omega | (simp only [Option.getD_none, Option.getD_some]; omega) | (simp; done) | (simp; omega), ?_⟩; conv => whnf)
        refine dcase (fun _ => ?_) (fun h => absurd f9 h)
        conv => whnf
        repeat (refine ⟨by first | omega | (simp only [Option.getD_none, Option.getD_some]; omega) | (simp; done) | (simp; omega), ?_⟩; conv => whnf)
        refine dcase (fun _ => ?_) (fun h => absurd hE h)
        conv => whnf
        repeat (refine ⟨by first | omega | (simp only [Option.getD_none, Option.getD_some]; omega) | (simp; done) | (simp; omega), ?_⟩; conv => whnf)
        refine ⟨p_hazellaw08_MsqOnce_35, g_hazellaw08_MsqOnce_35, by kernel_rfl, ?st3, ?_, ?_⟩
        rotate_left
        · conv => whnf
        conv => whnf
        intro q' hq'
        replace hq' : q' = ((i + 1 : Nat) : Int) := by rw [hq', IntWalk.wrap64_in _ (by omega)]; omega
        subst hq'
        conv => whnf
        exact hnx
      · subst hO
        conv => whnf
        refine ⟨hkCt, ?_⟩
        conv => whnf
        repeat (refine ⟨by first | omega | (simp only [Option.getD_none, Option.getD_some]; omega) | (simp; done) | (simp; omega), ?_⟩; conv => whnf)
        refine dcase (fun h => nope ((show f.1 = 10 from h).symm.trans f9) rfl) (fun _ => ?_)
        conv => whnf
        repeat (refine ⟨by first | omega | (simp only [Option.getD_none, Option.getD_some]; omega) | (simp; done) | (simp; omega), ?_⟩; conv => whnf)
        refine dcase (fun h => nope ((show (cAt t.2.1 (k : Int)).2.2.1 = 3 from h).symm.trans hE) rfl) (fun _ => ?_)
        conv => whnf
        repeat (refine ⟨by first | omega | (simp only [Option.getD_none, Option.getD_some]; omega) | (simp; done) | (simp; omega), ?_⟩; conv => whnf)
        refine dcase (fun _ => ?_) (fun h => absurd f9 h)
        conv => whnf
        repeat (refine ⟨by first | omega | (simp only [Option.getD_none, Option.getD_some]; omega) | (simp; done) | (simp; omega), ?_⟩; conv => whnf)
        refine dcase (fun h => nope ((show (cAt t.2.1 (k : Int)).2.2.1 = 2 from h).symm.trans hE) rfl) (fun _ => ?_)
        conv => whnf
        repeat (refine ⟨by first | omega | (simp only [Option.getD_none, Option.getD_some]; omega) | (simp; done) | (simp; omega), ?_⟩; conv => whnf)
        refine ⟨p_hazellaw08_MsqOnce_35, g_hazellaw08_MsqOnce_35, by kernel_rfl, ?st4, ?_, ?_⟩
        rotate_left
        · conv => whnf
          repeat' (first | (refine ⟨⟨Int.le_refl _, Int.zero_lt_one⟩, ?_⟩; conv => whnf) | (refine ⟨Nat.zero_lt_one, ?_⟩; conv => whnf) | ((refine bcase (fun h => Bool.noConfusion (h.symm.trans (evSame rfl rfl rfl rfl rfl))) (fun _ => ?_); conv => whnf)) | ((refine dcase (fun h => absurd hE h) (fun _ => ?_); conv => whnf)) | ((refine dcase (fun h => nope ((show (cAt t.2.1 (k : Int)).2.2.1 = 3 from h).symm.trans hE) rfl) (fun _ => ?_); conv => whnf)) | ((refine dcase (fun _ => ?_) (fun h => absurd hE h); conv => whnf)) | ((refine dcase (fun h => absurd f10 h) (fun _ => ?_); conv => whnf)) | (refine And.intro ?_ ?_ <;> conv => whnf) | exact rfl)
        conv => whnf
        intro q' hq'
        replace hq' : q' = ((i + 1 : Nat) : Int) := by rw [hq', IntWalk.wrap64_in _ (by omega)]; omega
        subst hq'
        conv => whnf
        exact hnx
      · subst hO
        conv => whnf
        refine ⟨hkCt, ?_⟩
        conv => whnf
        repeat (refine ⟨by first | omega | (simp only [Option.getD_none, Option.getD_some]; omega) | (simp; done) | (simp; omega), ?_⟩; conv => whnf)
        refine dcase (fun _ => ?_) (fun h => absurd f10 h)
        conv => whnf
        repeat (refine ⟨by first | omega | (simp only [Option.getD_none, Option.getD_some]; omega) | (simp; done) | (simp; omega), ?_⟩; conv => whnf)
        refine ⟨p_hazellaw08_MsqOnce_31, g_hazellaw08_MsqOnce_31, by kernel_rfl, ?st5, ?_, ?_⟩
        rotate_left
        · conv => whnf
          repeat' (first | (refine ⟨hkCt, ?_⟩; conv => whnf) | (refine ⟨(by decide), ?_⟩; conv => whnf) | (refine And.intro ?_ ?_ <;> conv => whnf) | exact rfl)
        conv => whnf
        repeat (refine ⟨by first | omega | (simp only [Option.getD_none, Option.getD_some]; omega) | (simp; done) | (simp; omega), ?_⟩; conv => whnf)
        refine dcase (fun h => nope ((show (cAt t.2.1 (k : Int)).2.2.1 = 3 from h).symm.trans hE) rfl) (fun _ => ?_)
        conv => whnf
        repeat (refine ⟨by first | omega | (simp only [Option.getD_none, Option.getD_some]; omega) | (simp; done) | (simp; omega), ?_⟩; conv => whnf)
        refine dcase (fun h => nope ((show f.1 = 9 from h).symm.trans f10) rfl) (fun _ => ?_)
        conv => whnf
        repeat (refine ⟨by first | omega | (simp only [Option.getD_none, Option.getD_some]; omega) | (simp; done) | (simp; omega), ?_⟩; conv => whnf)
        refine ⟨p_hazellaw08_MsqOnce_35, g_hazellaw08_MsqOnce_35, by kernel_rfl, ?st6, ?_, ?_⟩
        rotate_left
        · conv => whnf
          repeat' (first | (refine ⟨⟨Int.le_refl _, Int.zero_lt_one⟩, ?_⟩; conv => whnf) | (refine ⟨Nat.zero_lt_one, ?_⟩; conv => whnf) | ((refine bcase (fun h => Bool.noConfusion (h.symm.trans (evSame rfl rfl rfl rfl rfl))) (fun _ => ?_); conv => whnf)) | ((refine dcase (fun h => absurd hE h) (fun _ => ?_); conv => whnf)) | ((refine dcase (fun h => nope ((show (cAt t.2.1 (k : Int)).2.2.1 = 3 from h).symm.trans hE) rfl) (fun _ => ?_); conv => whnf)) | ((refine dcase (fun _ => ?_) (fun h => absurd hE h); conv => whnf)) | ((refine dcase (fun h => absurd f10 h) (fun _ => ?_); conv => whnf)) | (refine And.intro ?_ ?_ <;> conv => whnf) | exact rfl)
        conv => whnf
        intro q' hq'
        replace hq' : q' = ((i + 1 : Nat) : Int) := by rw [hq', IntWalk.wrap64_in _ (by omega)]; omega
        subst hq'
        conv => whnf
        exact hnx
      · subst hO
        have hE0 : (cAt t.2.1 (k : Int)).2.2.1 ≠ 0 := fun e => nope (e.symm.trans hE) rfl
        conv => whnf
        refine ⟨hkCt, ?_⟩
        conv => whnf
        repeat (refine ⟨by first | omega | (simp only [Option.getD_none, Option.getD_some]; omega) | (simp; done) | (simp; omega), ?_⟩; conv => whnf)
        refine dcase (fun _ => ?_) (fun h => absurd f10 h)
        conv => whnf
        repeat (refine ⟨by first | omega | (simp only [Option.getD_none, Option.getD_some]; omega) | (simp; done) | (simp; omega), ?_⟩; conv => whnf)
        refine ⟨p_hazellaw08_MsqOnce_31, g_hazellaw08_MsqOnce_31, by kernel_rfl, ?st7, ?_, ?_⟩
        rotate_left
        · conv => whnf
          repeat' (first | (refine ⟨hkCt, ?_⟩; conv => whnf) | (refine ⟨(by decide), ?_⟩; conv => whnf) | (refine And.intro ?_ ?_ <;> conv => whnf) | exact rfl)
        conv => whnf
        repeat (refine ⟨by first | omega | (simp only [Option.getD_none, Option.getD_some]; omega) | (simp; done) | (simp; omega), ?_⟩; conv => whnf)
        refine dcase (fun _ => ?_) (fun h => absurd hE h)
        conv => whnf
        repeat (refine ⟨by first | omega | (simp only [Option.getD_none, Option.getD_some]; omega) | (simp; done) | (simp; omega), ?_⟩; conv => whnf)
        refine dcase (fun h => nope ((show f.1 = 9 from h).symm.trans f10) rfl) (fun _ => ?_)
        conv => whnf
        repeat (refine ⟨by first | omega | (simp only [Option.getD_none, Option.getD_some]; omega) | (simp; done) | (simp; omega), ?_⟩; conv => whnf)
        refine ⟨p_hazellaw08_MsqOnce_35, g_hazellaw08_MsqOnce_35, by kernel_rfl, ?st8, ?_, ?_⟩
        rotate_left
        · conv => whnf
          repeat' (first | (refine ⟨⟨Int.le_refl _, Int.zero_lt_one⟩, ?_⟩; conv => whnf) | (refine ⟨Nat.zero_lt_one, ?_⟩; conv => whnf) | ((refine bcase (fun h => Bool.noConfusion (h.symm.trans (evSame rfl rfl rfl rfl hV.symm))) (fun _ => ?_); conv => whnf)) | ((refine dcase (fun _ => ?_) (fun h => absurd hE0 h); conv => whnf)) | ((refine dcase (fun h => absurd hE h) (fun _ => ?_); conv => whnf)) | ((refine dcase (fun _ => ?_) (fun h => absurd hE h); conv => whnf)) | ((refine dcase (fun h => absurd f10 h) (fun _ => ?_); conv => whnf)) | (refine And.intro ?_ ?_ <;> conv => whnf) | exact rfl)
        conv => whnf
        refine dcase (fun h => absurd f10 h) (fun _ => ?_)
        conv => whnf
        intro q' hq'
        replace hq' : q' = ((i + 1 : Nat) : Int) := by rw [hq', IntWalk.wrap64_in _ (by omega)]; omega
        subst hq'
        conv => whnf
        exact hnx
    | some f' =>
      have hs2 : s = s1 := by rw [← hs1]; unfold goS; rw [if_neg (by rw [ht]; exact fun e => nomatch e)]
      have hL2 : L = L1 := by rw [← hL1, if_neg (by rw [ht]; exact fun e => nomatch e)]
      first | refine .inr (.inl ⟨_, s_refTopOf ht (hF.fine (by omega)), ?_⟩) | refine .inl (.inr (.inl ⟨_, s_refTopOf ht (hF.fine (by omega)), ?_⟩))
      conv => whnf
      repeat (refine ⟨by first | omega | (simp only [Option.getD_none, Option.getD_some]; omega) | (simp; done) | (simp; omega), ?_⟩; conv => whnf)
      rw [hs2, hL2]
      refine ⟨hfl, ?_⟩
      conv => whnf
      rw [hf0]
      conv => whnf
      first | refine .inr (.inl ⟨_, hstep, ?_⟩) | refine .inl (.inr (.inl ⟨_, hstep, ?_⟩))
      conv => whnf
      repeat (refine ⟨by first | omega | (simp only [Option.getD_none, Option.getD_some]; omega) | (simp; done) | (simp; omega), ?_⟩; conv => whnf)
      refine ⟨p_hazellaw08_MsqOnce_19, g_hazellaw08_MsqOnce_19, by kernel_rfl, ?st9, ?_, ?_⟩
      rotate_left
      · conv => whnf
        repeat' (first | ((refine dcase (fun h => absurd (show (t.2.1.length : Int) = (c : Int) by omega) h) (fun _ => ?_); conv => whnf)) | (refine ⟨hkL1, ?_⟩; conv => whnf) | (refine ⟨hkN1, ?_⟩; conv => whnf) | (refine And.intro ?_ ?_ <;> conv => whnf) | exact rfl)
      conv => whnf
      refine dcase (fun h => absurd h hnlt) (fun _ => ?_)
      conv => whnf
      refine ⟨hkCt, ?_⟩
      conv => whnf
      refine dcase (fun h4 => ?_) (fun h4 => ?_)
      · conv => whnf
        intro q' hq'
        replace hq' : q' = ((i + 1 : Nat) : Int) := by rw [hq', IntWalk.wrap64_in _ (by omega)]; omega
        subst hq'
        conv => whnf
        exact hnx
      have hidle : (cAt t.2.1 (k : Int)).1 = [] := by
        replace h4 : ¬ (0 : Int) < (((cAt t.2.1 (k : Int)).1.length : Nat) : Int) := h4
        exact List.length_eq_zero_iff.1 (by omega)
      replace hend := hend hidle
      rw [hlg] at hend
      conv => whnf
      refine ⟨hkL1, ?_⟩
      conv => whnf
      refine ⟨hkN1, ?_⟩
      conv => whnf
      rw [hfr2]
      conv => whnf
      have hz0 : ownR k lg fr fr = [] := ownR_zero
      refine ⟨[(17, 148, 63, tEv)], [2, 6, 7, 8, 9, 11, 12, 13, 16, 17, 18], [9, 16, 43, 148], ?_⟩
      apply Exists.intro
      conv => whnf
      refine loopK (fun y : Nat × List Evt => lg.length - y.1) (fun y => fr ≤ y.1 ∧ y.1 ≤ lg.length ∧ y.2 = ownR k lg fr y.1) (fun y => ⟨lay 224 0 [(2, vP l), (6, vB false), (7, vB true), (8, vI (c : Int)), (9, pB 9), (11, .one (.row 43)), (12, vI (i : Int)), (13, vI (k : Int)), (16, pB 16), (17, .one (.row 148)), (18, vI (y.1 : Int))], [(9, .cells ySys (cS t)), (16, .cells yFrame (cF f)), (43, .row 3 tI L1), (148, .row 63 tEv y.2)], []⟩) ?_ (fr, []) rfl rfl ⟨Nat.le_refl _, by show fr ≤ lg.length; omega, hz0.symm⟩
      intro ⟨j, O⟩ ih2 ⟨hj0, hj1, hjO⟩ hih2
      simp only at hj0 hj1 hjO hih2
      conv => whnf
      refine dcase (fun h5 => ?_) (fun h5 => ?_)
      · replace h5 : (j : Int) < (t.2.2.1.length : Int) := h5
        have hjl : j < lg.length := by omega
        have hsucc := ownR_succ (k := k) hjl hj0
        obtain ⟨e, he⟩ : ∃ e, lg[j] = e := ⟨_, rfl⟩
        rw [he, ← hjO] at hsucc
        have hge : List.getD t.2.2.1 ((j : Int)).toNat (dflt tEv) = e := by
          rw [hlg, Int.toNat_natCast, List.getD_eq_getElem?_getD, List.getElem?_eq_getElem hjl, he]; rfl
        have b1 : (0 : Int) ≤ (j : Int) ∧ (j : Int) < (t.2.2.1.length : Int) := ⟨by omega, h5⟩
        have hnx2 := hih2 (j + 1, ownR k lg fr (j + 1)) ⟨by show fr ≤ j + 1; omega, by show j + 1 ≤ _; omega, rfl⟩ (by show _ - (j + 1) < _; omega)
        have hskip : isOwn k e = false → ownR k lg fr (j + 1) = O := fun h => by rw [hsucc, if_neg (by rw [h]; decide)]
        conv => whnf
        refine ⟨b1, ?_⟩
        conv => whnf
        rw [hge]
        refine dcase (fun d1 => ?_) (fun d1 => ?_)
        · conv => whnf
          refine ⟨b1, ?_⟩
          conv => whnf
          rw [hge]
          refine dcase (fun d2 => ?_) (fun d2 => ?_)
          · have hyes : isOwn k e = true := by
              unfold isOwn
              rw [decide_eq_true (show e.1 = (k : Int) from d1), decide_eq_true (show e.2.1 ≠ 9 from d2)]; rfl
            rw [hsucc, if_pos hyes] at hnx2
            have hOl : O.length ≤ 1000 := by rw [hjO]; exact Nat.le_trans ownR_len (by omega)
            conv => whnf
            refine ⟨b1, ?_⟩
            conv => whnf
            rw [hge]
            conv => whnf
            refine ⟨by show O.length + 1 ≤ mostElems; unfold mostElems; omega, ?_⟩
            conv => whnf
            intro q' hq'
            replace hq' : q' = ((j + 1 : Nat) : Int) := by rw [hq', IntWalk.wrap64_in _ (by omega)]; omega
            subst hq'
            conv => whnf
            exact hnx2
          · rw [hskip (by unfold isOwn; rw [decide_eq_false (show ¬ e.2.1 ≠ 9 from d2), Bool.and_false])] at hnx2
            conv => whnf
            intro q' hq'
            replace hq' : q' = ((j + 1 : Nat) : Int) := by rw [hq', IntWalk.wrap64_in _ (by omega)]; omega
            subst hq'
            conv => whnf
            exact hnx2
        · rw [hskip (by unfold isOwn; rw [decide_eq_false (show ¬ e.1 = (k : Int) from d1), Bool.false_and])] at hnx2
          conv => whnf
          intro q' hq'
          replace hq' : q' = ((j + 1 : Nat) : Int) := by rw [hq', IntWalk.wrap64_in _ (by omega)]; omega
          subst hq'
          conv => whnf
          exact hnx2
      have hjl : j = lg.length := by
        replace h5 : ¬ (j : Int) < (t.2.2.1.length : Int) := h5
        omega
      rw [hjl, ownR_all] at hjO
      rw [← hjO] at hend
      clear hih2 hih
      rcases hend with ⟨f9, ⟨hO, hE⟩ | ⟨hO, hE⟩⟩ | ⟨f10, ⟨hO, hE⟩ | ⟨hO, hV, hE⟩⟩
      · subst hO
        conv => whnf
        refine ⟨hkCt, ?_⟩
        conv => whnf
        repeat (refine ⟨by first | omega | (simp only [Option.getD_none, Option.getD_some]; omega) | (simp; done) | (simp; omega), ?_⟩; conv => whnf)
        refine dcase (fun h => nope ((show f.1 = 10 from h).symm.trans f9) rfl) (fun _ => ?_)
        conv => whnf
        repeat (refine ⟨by first | omega | (simp only [Option.getD_none, Option.getD_some]; omega) | (simp; done) | (simp; omega), ?_⟩; conv => whnf)
        refine dcase (fun h => nope ((show (cAt t.2.1 (k : Int)).2.2.1 = 3 from h).symm.trans hE) rfl) (fun _ => ?_)
        conv => whnf
        repeat (refine ⟨by first | omega | (simp only [Option.getD_none, Option.getD_some]; omega) | (simp; done) | (simp; omega), ?_⟩; conv => whnf)
        refine dcase (fun _ => ?_) (fun h => absurd f9 h)
        conv => whnf
        repeat (refine ⟨by first | omega | (simp only [Option.getD_none, Option.getD_some]; omega) | (simp; done) | (simp; omega), ?_⟩; conv => whnf)
        refine dcase (fun _ => ?_) (fun h => absurd hE h)
        conv => whnf
        repeat (refine ⟨by first | omega | (simp only [Option.getD_none, Option.getD_some]; omega) | (simp; done) | (simp; omega), ?_⟩; conv => whnf)
        refine ⟨p_hazellaw08_MsqOnce_35, g_hazellaw08_MsqOnce_35, by kernel_rfl, ?st10, ?_, ?_⟩
        rotate_left
        · conv => whnf
        conv => whnf
        intro q' hq'
        replace hq' : q' = ((i + 1 : Nat) : Int) := by rw [hq', IntWalk.wrap64_in _ (by omega)]; omega
        subst hq'
        conv => whnf
        exact hnx
      · subst hO
        conv => whnf
        refine ⟨hkCt, ?_⟩
        conv => whnf
        repeat (refine ⟨by first | omega | (simp only [Option.getD_none, Option.getD_some]; omega) | (simp; done) | (simp; omega), ?_⟩; conv => whnf)
        refine dcase (fun h => nope ((show f.1 = 10 from h).symm.trans f9) rfl) (fun _ => ?_)
        conv => whnf
        repeat (refine ⟨by first | omega | (simp only [Option.getD_none, Option.getD_some]; omega) | (simp; done) | (simp; omega), ?_⟩; conv => whnf)
        refine dcase (fun h => nope ((show (cAt t.2.1 (k : Int)).2.2.1 = 3 from h).symm.trans hE) rfl) (fun _ => ?_)
        conv => whnf
        repeat (refine ⟨by first | omega | (simp only [Option.getD_none, Option.getD_some]; omega) | (simp; done) | (simp; omega), ?_⟩; conv => whnf)
        refine dcase (fun _ => ?_) (fun h => absurd f9 h)
        conv => whnf
        repeat (refine ⟨by first | omega | (simp only [Option.getD_none, Option.getD_some]; omega) | (simp; done) | (simp; omega), ?_⟩; conv => whnf)
        refine dcase (fun h => nope ((show (cAt t.2.1 (k : Int)).2.2.1 = 2 from h).symm.trans hE) rfl) (fun _ => ?_)
        conv => whnf
        repeat (refine ⟨by first | omega | (simp only [Option.getD_none, Option.getD_some]; omega) | (simp; done) | (simp; omega), ?_⟩; conv => whnf)
        refine ⟨p_hazellaw08_MsqOnce_35, g_hazellaw08_MsqOnce_35, by kernel_rfl, ?st11, ?_, ?_⟩
        rotate_left
        · conv => whnf
          repeat' (first | (refine ⟨⟨Int.le_refl _, Int.zero_lt_one⟩, ?_⟩; conv => whnf) | (refine ⟨Nat.zero_lt_one, ?_⟩; conv => whnf) | ((refine bcase (fun h => Bool.noConfusion (h.symm.trans (evSame rfl rfl rfl rfl rfl))) (fun _ => ?_); conv => whnf)) | ((refine dcase (fun h => absurd hE h) (fun _ => ?_); conv => whnf)) | ((refine dcase (fun h => nope ((show (cAt t.2.1 (k : Int)).2.2.1 = 3 from h).symm.trans hE) rfl) (fun _ => ?_); conv => whnf)) | ((refine dcase (fun _ => ?_) (fun h => absurd hE h); conv => whnf)) | ((refine dcase (fun h => absurd f10 h) (fun _ => ?_); conv => whnf)) | (refine And.intro ?_ ?_ <;> conv => whnf) | exact rfl)
        conv => whnf
        intro q' hq'
        replace hq' : q' = ((i + 1 : Nat) : Int) := by rw [hq', IntWalk.wrap64_in _ (by omega)]; omega
        subst hq'
        conv => whnf
        exact hnx
      · subst hO
        conv => whnf
        refine ⟨hkCt, ?_⟩
        conv => whnf
        repeat (refine ⟨by first | omega | (simp only [Option.getD_none, Option.getD_some]; omega) | (simp; done) | (simp; omega), ?_⟩; conv => whnf)
        refine dcase (fun _ => ?_) (fun h => absurd f10 h)
        conv => whnf
        repeat (refine ⟨by first | omega | (simp only [Option.getD_none, Option.getD_some]; omega) | (simp; done) | (simp; omega), ?_⟩; conv => whnf)
        refine ⟨p_hazellaw08_MsqOnce_31, g_hazellaw08_MsqOnce_31, by kernel_rfl, ?st12, ?_, ?_⟩
        rotate_left
        · conv => whnf
          repeat' (first | (refine ⟨hkCt, ?_⟩; conv => whnf) | (refine ⟨(by decide), ?_⟩; conv => whnf) | (refine And.intro ?_ ?_ <;> conv => whnf) | exact rfl)
        conv => whnf
        repeat (refine ⟨by first | omega | (simp only [Option.getD_none, Option.getD_some]; omega) | (simp; done) | (simp; omega), ?_⟩; conv => whnf)
        refine dcase (fun h => nope ((show (cAt t.2.1 (k : Int)).2.2.1 = 3 from h).symm.trans hE) rfl) (fun _ => ?_)
        conv => whnf
        repeat (refine ⟨by first | omega | (simp only [Option.getD_none, Option.getD_some]; omega) | (simp; done) | (simp; omega), ?_⟩; conv => whnf)
        refine dcase (fun h => nope ((show f.1 = 9 from h).symm.trans f10) rfl) (fun _ => ?_)
        conv => whnf
        repeat (refine ⟨by first | omega | (simp only [Option.getD_none, Option.getD_some]; omega) | (simp; done) | (simp; omega), ?_⟩; conv => whnf)
        refine ⟨p_hazellaw08_MsqOnce_35, g_hazellaw08_MsqOnce_35, by kernel_rfl, ?st13, ?_, ?_⟩
        rotate_left
        · conv => whnf
          repeat' (first | (refine ⟨⟨Int.le_refl _, Int.zero_lt_one⟩, ?_⟩; conv => whnf) | (refine ⟨Nat.zero_lt_one, ?_⟩; conv => whnf) | ((refine bcase (fun h => Bool.noConfusion (h.symm.trans (evSame rfl rfl rfl rfl rfl))) (fun _ => ?_); conv => whnf)) | ((refine dcase (fun h => absurd hE h) (fun _ => ?_); conv => whnf)) | ((refine dcase (fun h => nope ((show (cAt t.2.1 (k : Int)).2.2.1 = 3 from h).symm.trans hE) rfl) (fun _ => ?_); conv => whnf)) | ((refine dcase (fun _ => ?_) (fun h => absurd hE h); conv => whnf)) | ((refine dcase (fun h => absurd f10 h) (fun _ => ?_); conv => whnf)) | (refine And.intro ?_ ?_ <;> conv => whnf) | exact rfl)
        conv => whnf
        intro q' hq'
        replace hq' : q' = ((i + 1 : Nat) : Int) := by rw [hq', IntWalk.wrap64_in _ (by omega)]; omega
        subst hq'
        conv => whnf
        exact hnx
      · subst hO
        have hE0 : (cAt t.2.1 (k : Int)).2.2.1 ≠ 0 := fun e => nope (e.symm.trans hE) rfl
        conv => whnf
        refine ⟨hkCt, ?_⟩
        conv => whnf
        repeat (refine ⟨by first | omega | (simp only [Option.getD_none, Option.getD_some]; omega) | (simp; done) | (simp; omega), ?_⟩; conv => whnf)
        refine dcase (fun _ => ?_) (fun h => absurd f10 h)
        conv => whnf
        repeat (refine ⟨by first | omega | (simp only [Option.getD_none, Option.getD_some]; omega) | (simp; done) | (simp; omega), ?_⟩; conv => whnf)
        refine ⟨p_hazellaw08_MsqOnce_31, g_hazellaw08_MsqOnce_31, by kernel_rfl, ?st14, ?_, ?_⟩
        rotate_left
        · conv => whnf
          repeat' (first | (refine ⟨hkCt, ?_⟩; conv => whnf) | (refine ⟨(by decide), ?_⟩; conv => whnf) | (refine And.intro ?_ ?_ <;> conv => whnf) | exact rfl)
        conv => whnf
        repeat (refine ⟨by first | omega | (simp only [Option.getD_none, Option.getD_some]; omega) | (simp; done) | (simp; omega), ?_⟩; conv => whnf)
        refine dcase (fun _ => ?_) (fun h => absurd hE h)
        conv => whnf
        repeat (refine ⟨by first | omega | (simp only [Option.getD_none, Option.getD_some]; omega) | (simp; done) | (simp; omega), ?_⟩; conv => whnf)
        refine dcase (fun h => nope ((show f.1 = 9 from h).symm.trans f10) rfl) (fun _ => ?_)
        conv => whnf
        repeat (refine ⟨by first | omega | (simp only [Option.getD_none, Option.getD_some]; omega) | (simp; done) | (simp; omega), ?_⟩; conv => whnf)
        refine ⟨p_hazellaw08_MsqOnce_35, g_hazellaw08_MsqOnce_35, by kernel_rfl, ?st15, ?_, ?_⟩
        rotate_left
        · conv => whnf
          repeat' (first | (refine ⟨⟨Int.le_refl _, Int.zero_lt_one⟩, ?_⟩; conv => whnf) | (refine ⟨Nat.zero_lt_one, ?_⟩; conv => whnf) | ((refine bcase (fun h => Bool.noConfusion (h.symm.trans (evSame rfl rfl rfl rfl hV.symm))) (fun _ => ?_); conv => whnf)) | ((refine dcase (fun _ => ?_) (fun h => absurd hE0 h); conv => whnf)) | ((refine dcase (fun h => absurd hE h) (fun _ => ?_); conv => whnf)) | ((refine dcase (fun _ => ?_) (fun h => absurd hE h); conv => whnf)) | ((refine dcase (fun h => absurd f10 h) (fun _ => ?_); conv => whnf)) | (refine And.intro ?_ ?_ <;> conv => whnf) | exact rfl)
        conv => whnf
        refine dcase (fun h => absurd f10 h) (fun _ => ?_)
        conv => whnf
        intro q' hq'
        replace hq' : q' = ((i + 1 : Nat) : Int) := by rw [hq', IntWalk.wrap64_in _ (by omega)]; omega
        subst hq'
        conv => whnf
        exact hnx
  conv => whnf
  first | exact .inl rfl | exact .inr rfl
end Go.Proofs.YtpobngddiifdpaaGreat.V
