/- Layer 3 of the program: cores. -/
import Derived.Test.YtpobngddiifdpaaGreatZdV4
set_option linter.unusedSimpArgs false
set_option linter.unusedVariables false
namespace Go.Proofs.YtpobngddiifdpaaGreat.V
open Go Go.RowKit Go.Proofs.YtpobngddiifdpaaGreat.Hz
set_option maxRecDepth 100000

def isCoreB (s : Sy) (k : Int) : Bool := decide (0 ≤ k) && decide (k < s.2.1.length)
theorem s_isCore (s : Sy) (k : Int) : Spec Tryz.prog 110 [vS s, vI k] (vB (isCoreB s k)) := by
  unfold isCoreB
  refine spec_introF false tab_ok 0 Tryz.func110 rfl (by kernel_rfl) rfl ?_
  conv => whnf
  refine dcase (fun h => ?_) (fun h => ?_)
  · rw [decide_eq_true h]
    conv => whnf
    first | exact .inl rfl | exact .inr rfl
  · rw [decide_eq_false h]
    conv => whnf
    first | exact .inl rfl | exact .inr rfl
theorem isCore_no {s : Sy} {k : Int} (h : isCoreB s k = false) : ¬ (0 ≤ k ∧ k < s.2.1.length) := fun h2 => by
  unfold isCoreB at h
  rw [decide_eq_true h2.1, decide_eq_true h2.2] at h
  cases h
theorem isCore_yes {s : Sy} {k : Int} (h : isCoreB s k = true) : 0 ≤ k ∧ k < s.2.1.length := by
  unfold isCoreB at h
  rw [Bool.and_eq_true, decide_eq_true_iff, decide_eq_true_iff] at h
  exact h
theorem s_cTop (s : Sy) (k : Int) (hl2 : ∀ c ∈ s.2.1, c.1.length ≤ 1000000000000) : Spec Tryz.prog 72 [vS s, vI k] (vFB ((topI s k).getD (dflt tFrame)) (topI s k).isSome) := by
  refine spec_introF false tab_ok 0 Tryz.func72 rfl (by kernel_rfl) rfl ?_
  conv => whnf
  first | refine .inl ⟨_, s_isCore _ _, ?_⟩ | refine .inl (.inl ⟨_, s_isCore _ _, ?_⟩)
  conv => whnf
  refine ncaseb (fun h => ?_) (fun h => ?_)
  · have hn := isCore_no h
    have e : topI s k = none := by
      unfold topI
      split
      · rw [List.getElem?_eq_none (by omega)]; rfl
      · rfl
    rw [e]
    conv => whnf
    exact .inr rfl
  obtain ⟨h0, h1⟩ := isCore_yes h
  have hk : k.toNat < s.2.1.length := by omega
  have hget : s.2.1.getD k.toNat (dflt tCore) = s.2.1[k.toNat] := by simp [List.getD, hk]
  have ht : topI s k = s.2.1[k.toNat].1.getLast? := by
    unfold topI
    rw [if_pos (by omega), List.getElem?_eq_getElem hk]; rfl
  conv => whnf
  repeat (refine ⟨by first | omega | (simp only [Option.getD_none, Option.getD_some]; omega) | (simp; done) | (simp; omega), ?_⟩; conv => whnf)
  rw [hget]
  refine dcase (fun h2 => ?_) (fun h2 => ?_)
  · have e : topI s k = none := by rw [ht, List.getLast?_eq_none_iff]; exact List.eq_nil_of_length_eq_zero (by omega)
    rw [e]
    conv => whnf
    exact .inr rfl
  have hlen := hl2 _ (List.getElem_mem hk)
  conv => whnf
  refine ⟨p_core_Top_3, g_core_Top_3, by kernel_rfl, ?st1, ?_, ?_⟩
  rotate_left
  · conv => whnf
    repeat (refine ⟨by first | omega | (simp only [Option.getD_none, Option.getD_some]; omega) | (simp; done) | (simp; omega), ?_⟩; conv => whnf)
    rw [hget, IntWalk.wrap64_in _ (by omega)]
    repeat (refine ⟨by first | omega | (simp only [Option.getD_none, Option.getD_some]; omega) | (simp; done) | (simp; omega), ?_⟩; conv => whnf)
  have e : topI s k = some (s.2.1[k.toNat].1.getD (((s.2.1[k.toNat].1.length : Nat) : Int) - 1).toNat (dflt tFrame)) := by
    rw [ht, List.getLast?_eq_getElem?, show (((s.2.1[k.toNat].1.length : Nat) : Int) - 1).toNat = s.2.1[k.toNat].1.length - 1 by omega]
    rw [List.getD, List.getElem?_eq_getElem (by omega)]; rfl
  rw [e]
  conv => whnf
  exact .inl rfl
/-- Is there a frame? Then it is the last one of that core. -/
theorem topI_some {s : Sy} {k : Int} {f : Frm} (h : topI s k = some f) : 0 ≤ k ∧ k < s.2.1.length ∧ 0 < (cAt s.2.1 k).1.length ∧ fAt (cAt s.2.1 k).1 ((cAt s.2.1 k).1.length - 1) = f := by
  unfold topI at h
  split at h
  · rename_i h0
    obtain ⟨c, hc, hf⟩ := Option.bind_eq_some_iff.1 h
    have hk := (List.getElem?_eq_some_iff.1 hc).1
    have hget : cAt s.2.1 k = c := by unfold cAt; rw [List.getD_eq_getElem?_getD, hc]; rfl
    rw [hget]
    have hne : c.1 ≠ [] := by intro e; rw [e] at hf; cases hf
    have hpos : 0 < c.1.length := List.length_pos_iff.2 hne
    refine ⟨h0, by omega, hpos, ?_⟩
    rw [List.getLast?_eq_getElem?] at hf
    unfold fAt
    rw [show ((c.1.length : Int) - 1).toNat = c.1.length - 1 by omega, List.getD_eq_getElem?_getD, hf]; rfl
  · cases h
theorem s_Limit (n : Int) (h0 : 0 ≤ n) (h1 : n ≤ 1000000) : Spec Tryz.prog 213 [vI n] (vI (3 * n + 1)) := by
  refine spec_introF false tab_ok 0 Tryz.func213 rfl (by kernel_rfl) rfl ?_
  conv => whnf
  rw [IntWalk.wrap64_in (3 * n) (by omega), IntWalk.wrap64_in _ (by omega)]
  first | exact .inl rfl | exact .inr rfl
/-- The last frame is another one. -/
def setS (s : Sy) (k : Int) (f : Frm) : Sy := if (topI s k).isSome then withS s k ((cAt s.2.1 k).1.set (((cAt s.2.1 k).1.length : Int) - 1).toNat f, (cAt s.2.1 k).2) else s
theorem s_cSet (s : Sy) (k : Int) (f : Frm) (hl : s.2.1.length ≤ 1000) (hl2 : ∀ c ∈ s.2.1, c.1.length ≤ 1000) : Spec Tryz.prog 173 [vS s, vI k, vF f] (vS (setS s k f)) := by
  refine spec_introF false tab_ok 3 Tryz.func173 rfl (by kernel_rfl) rfl ?_
  conv => whnf
  refine .inl (.inr (.inl ⟨_, s_cTop s k (fun c hc => Nat.le_trans (hl2 c hc) (by decide)), ?_⟩))
  conv => whnf
  refine ncaseb (fun h => ?_) (fun h => ?_)
  · rw [show setS s k f = s from if_neg (by rw [h]; decide)]
    conv => whnf
    first | exact .inl rfl | exact .inr rfl
  rw [show setS s k f = _ from if_pos h]
  obtain ⟨g, hg⟩ := Option.isSome_iff_exists.1 h
  obtain ⟨h0, h1, h2, h3⟩ := topI_some hg
  have hk : k.toNat < s.2.1.length := by omega
  have hlen : (cAt s.2.1 k).1.length ≤ 1000 := hl2 _ (by unfold cAt; rw [List.getD_eq_getElem?_getD, List.getElem?_eq_getElem hk]; exact List.getElem_mem hk)
  unfold cAt at h2 h3 hlen
  conv => whnf
  refine .inr ⟨_, _, 1000, Tryz.func174, ⟨by kernel_rfl, rfl⟩, ?_⟩
  conv => whnf
  repeat (refine ⟨by first | omega | (simp only [Option.getD_none, Option.getD_some]; omega) | (simp; done) | (simp; omega), ?_⟩; conv => whnf)
  erw [copy_all]
  repeat (refine ⟨by first | omega | (simp only [Option.getD_none, Option.getD_some]; omega) | (simp; done) | (simp; omega), ?_⟩; conv => whnf)
  refine .inr ⟨_, _, 2000, Tryz.func203, ⟨by kernel_rfl, rfl⟩, ?_⟩
  conv => whnf
  repeat (refine ⟨by first | omega | (simp only [Option.getD_none, Option.getD_some]; omega) | (simp; done) | (simp; omega), ?_⟩; conv => whnf)
  refine .inr ⟨_, _, 3000, Tryz.func204, ⟨by kernel_rfl, rfl⟩, ?_⟩
  conv => whnf
  intro b hb
  cases b with
  | true =>
    have := hb rfl
    rw [this] at h2
    cases h2
  | false =>
    conv => whnf
    refine ⟨le_most (by omega), ?_⟩
    conv => whnf
    repeat (refine ⟨by first | omega | (simp only [Option.getD_none, Option.getD_some]; omega) | (simp; done) | (simp; omega), ?_⟩; conv => whnf)
    refine ⟨.take 0 (.take 1 (.take 2 (.take 3 (.take 4 (.take 5 (.take 6 (.take 7 (.reck 8 (.reck 9 (.take 10 (.reck 11 (.one 12 .done)))))))))))), [5, 1011], by kernel_rfl, ?st1, ?_, ?_⟩
    rotate_left
    · conv => whnf
      repeat (refine ⟨by first | omega | (simp only [Option.getD_none, Option.getD_some]; omega) | (simp; done) | (simp; omega), ?_⟩; conv => whnf)
      rw [IntWalk.wrap64_in (_ - 1) (by omega)]
      repeat (refine ⟨by first | omega | (simp only [Option.getD_none, Option.getD_some]; omega) | (simp; done) | (simp; omega), ?_⟩; conv => whnf)
    conv => whnf
    first | exact .inl rfl | exact .inr rfl

theorem getD_set {α : Type} {l : List α} {i : Nat} {x d : α} (h : i < l.length) : (l.set i x).getD i d = x := by
  rw [List.getD_eq_getElem?_getD, List.getElem?_set_self h]; rfl
/-- The last frame goes. -/
def backS (s : Sy) (k v e : Int) : Sy := if (topI s k).isSome then withS s k ((cAt s.2.1 k).1.take (((cAt s.2.1 k).1.length : Int) - 1).toNat, v, e, (cAt s.2.1 k).2.2.2) else s
theorem s_cBack (s : Sy) (k v e : Int) (hl : s.2.1.length ≤ 1000) (hl2 : ∀ c ∈ s.2.1, c.1.length ≤ 1000) : Spec Tryz.prog 113 [vS s, vI k, vI v, vI e] (vS (backS s k v e)) := by
  refine spec_introF false tab_ok 3 Tryz.func113 rfl (by kernel_rfl) rfl ?_
  conv => whnf
  refine .inl (.inr (.inl ⟨_, s_cTop s k (fun c hc => Nat.le_trans (hl2 c hc) (by decide)), ?_⟩))
  conv => whnf
  refine ncaseb (fun h => ?_) (fun h => ?_)
  · rw [show backS s k v e = s from if_neg (by rw [h]; decide)]
    conv => whnf
    first | exact .inl rfl | exact .inr rfl
  rw [show backS s k v e = _ from if_pos h]
  obtain ⟨g, hg⟩ := Option.isSome_iff_exists.1 h
  obtain ⟨h0, h1, h2, h3⟩ := topI_some hg
  have hk : k.toNat < s.2.1.length := by omega
  have hlen : (cAt s.2.1 k).1.length ≤ 1000 := hl2 _ (by unfold cAt; rw [List.getD_eq_getElem?_getD, List.getElem?_eq_getElem hk]; exact List.getElem_mem hk)
  unfold cAt at h2 h3 hlen
  conv => whnf
  refine .inr ⟨_, _, 1000, Tryz.func174, ⟨by kernel_rfl, rfl⟩, ?_⟩
  conv => whnf
  repeat (refine ⟨by first | omega | (simp only [Option.getD_none, Option.getD_some]; omega) | (simp; done) | (simp; omega), ?_⟩; conv => whnf)
  erw [copy_all]
  repeat (refine ⟨by first | omega | (simp only [Option.getD_none, Option.getD_some]; omega) | (simp; done) | (simp; omega), ?_⟩; conv => whnf)
  refine .inr ⟨_, _, 2000, Tryz.func175, ⟨by kernel_rfl, rfl⟩, ?_⟩
  conv => whnf
  refine ⟨p_core_Back_1_0, [6, 7], by kernel_rfl, ?st1, ?_, ?_⟩
  rotate_left
  · conv => whnf
    refine ⟨?_, ?_⟩
    · conv => whnf
      repeat (refine ⟨by first | omega | (simp only [Option.getD_none, Option.getD_some]; omega) | (simp; done) | (simp; omega), ?_⟩; conv => whnf)
      rw [IntWalk.wrap64_in (_ - 1) (by omega)]
      repeat (refine ⟨by first | omega | (simp only [Option.getD_none, Option.getD_some]; omega) | (simp; done) | (simp; omega), ?_⟩; conv => whnf)
    · conv => whnf
      repeat (refine ⟨by first | omega | (simp only [Option.getD_none, Option.getD_some]; omega) | (simp; done) | (simp; omega), ?_⟩; conv => whnf)
      rw [IntWalk.wrap64_in (_ - 1) (by omega)]
      repeat (refine ⟨by first | omega | (simp only [Option.getD_none, Option.getD_some]; omega) | (simp; done) | (simp; omega), ?_⟩; conv => whnf)
  conv => whnf
  repeat erw [getD_set hk]
  repeat erw [List.set_set]
  repeat erw [getD_set hk]
  first | exact .inl rfl | exact .inr rfl
theorem cut_all {α : Type} (l : List α) : List.drop ((none : Option Int).getD 0).toNat (List.take ((l.length : Int)).toNat l) = l := by simp
theorem s_clipF (l : List (Den tFrame)) : Spec Tryz.prog 202 [.one (.sl tFrame l false)] (.one (.sl tFrame l true)) := by
  refine spec_introF false tab_ok 0 Tryz.func202 rfl (by kernel_rfl) rfl ?_
  conv => whnf
  repeat (refine ⟨by first | omega | (simp only [Option.getD_none, Option.getD_some]; omega) | (simp; done) | (simp; omega), ?_⟩; conv => whnf)
  conv => whnf
  exact .inl (congrArg (fun l => SV.one (.sl _ l true)) (cut_all l))
theorem s_clipI (l : List (Den tI)) : Spec Tryz.prog 212 [.one (.sl tI l false)] (.one (.sl tI l true)) := by
  refine spec_introF false tab_ok 0 Tryz.func212 rfl (by kernel_rfl) rfl ?_
  conv => whnf
  repeat (refine ⟨by first | omega | (simp only [Option.getD_none, Option.getD_some]; omega) | (simp; done) | (simp; omega), ?_⟩; conv => whnf)
  conv => whnf
  exact .inl (congrArg (fun l => SV.one (.sl _ l true)) (cut_all l))
theorem s_clipE (l : List (Den tEv)) : Spec Tryz.prog 205 [.one (.sl tEv l false)] (.one (.sl tEv l true)) := by
  refine spec_introF false tab_ok 0 Tryz.func205 rfl (by kernel_rfl) rfl ?_
  conv => whnf
  repeat (refine ⟨by first | omega | (simp only [Option.getD_none, Option.getD_some]; omega) | (simp; done) | (simp; omega), ?_⟩; conv => whnf)
  conv => whnf
  exact .inl (congrArg (fun l => SV.one (.sl _ l true)) (cut_all l))

/-- A new frame of so many arguments. -/
def callP (s : Sy) (k op a : Int) : Sy := if isCoreB s k = true ∧ (cAt s.2.1 k).1.length < 40 then pushS s k (frm0 op a 0 0) else s
theorem s_cCall0 (s : Sy) (k op : Int) (hl : s.2.1.length ≤ 1000) : Spec Tryz.prog 172 [vS s, vI k, vI op, .one .nilsl] (vS (callP s k op 0)) := by
  refine spec_introF false tab_ok 3 Tryz.func172 rfl (by kernel_rfl) rfl ?_
  conv => whnf
  refine .inl (.inl ⟨_, s_isCore s k, ?_⟩)
  conv => whnf
  refine ncaseb (fun h => ?_) (fun h => ?_)
  · rw [show callP s k op 0 = s from if_neg (by rw [h]; exact fun h => nomatch h.1)]
    conv => whnf
    first | exact .inl rfl | exact .inr rfl
  obtain ⟨h0, h1⟩ := isCore_yes h
  conv => whnf
  repeat (refine ⟨by first | omega | (simp only [Option.getD_none, Option.getD_some]; omega) | (simp; done) | (simp; omega), ?_⟩; conv => whnf)
  refine dcase (fun h3 => ?_) (fun h3 => ?_)
  · rw [show callP s k op 0 = s from if_neg (fun h => by have := h.2; exact absurd h3 (Int.not_le.2 (Int.ofNat_lt.2 this)))]
    conv => whnf
    first | exact .inl rfl | exact .inr rfl
  have h4 : (cAt s.2.1 k).1.length < 40 := Int.ofNat_lt.1 (Int.not_le.1 h3)
  rw [show callP s k op 0 = _ from if_pos ⟨h, h4⟩]
  unfold cAt at h4
  have hk : k.toNat < s.2.1.length := by omega
  conv => whnf
  repeat (refine ⟨by first | omega | (simp only [Option.getD_none, Option.getD_some]; omega) | (simp; done) | (simp; omega), ?_⟩; conv => whnf)
  refine .inr ⟨_, _, 1000, Tryz.func174, ⟨by kernel_rfl, rfl⟩, ?_⟩
  conv => whnf
  repeat (refine ⟨by first | omega | (simp only [Option.getD_none, Option.getD_some]; omega) | (simp; done) | (simp; omega), ?_⟩; conv => whnf)
  erw [copy_all]
  repeat (refine ⟨by first | omega | (simp only [Option.getD_none, Option.getD_some]; omega) | (simp; done) | (simp; omega), ?_⟩; conv => whnf)
  refine .inr ⟨_, _, 2000, Tryz.func201, ⟨by kernel_rfl, rfl⟩, ?_⟩
  conv => whnf
  refine ⟨p_core_Call_1_0, [9], by kernel_rfl, ?st1, ?_, ?_⟩
  rotate_left
  · conv => whnf
    refine ⟨?_, ?_⟩
    · conv => whnf
      repeat (refine ⟨by first | omega | (simp only [Option.getD_none, Option.getD_some]; omega) | (simp; done) | (simp; omega), ?_⟩; conv => whnf)
      refine ⟨?_, ?_⟩
      · conv => whnf
        first | refine .inr (.inl ⟨_, s_clipF _, ?_⟩) | refine .inl (.inr (.inl ⟨_, s_clipF _, ?_⟩))
        conv => whnf
        refine ⟨⟨Nat.le_trans (Nat.succ_le_succ (Nat.le_of_lt h4)) (le_most (by decide)), List.cons_ne_nil _ _⟩, ?_⟩
        conv => whnf
        repeat (refine ⟨by first | omega | (simp only [Option.getD_none, Option.getD_some]; omega) | (simp; done) | (simp; omega), ?_⟩; conv => whnf)
      · conv => whnf
        first | refine .inr (.inl ⟨_, s_clipF _, ?_⟩) | refine .inl (.inr (.inl ⟨_, s_clipF _, ?_⟩))
        conv => whnf
        refine ⟨⟨Nat.le_trans (Nat.succ_le_succ (Nat.le_of_lt h4)) (le_most (by decide)), List.cons_ne_nil _ _⟩, ?_⟩
        conv => whnf
        repeat (refine ⟨by first | omega | (simp only [Option.getD_none, Option.getD_some]; omega) | (simp; done) | (simp; omega), ?_⟩; conv => whnf)
    · conv => whnf
      repeat (refine ⟨by first | omega | (simp only [Option.getD_none, Option.getD_some]; omega) | (simp; done) | (simp; omega), ?_⟩; conv => whnf)
      first | refine .inr (.inl ⟨_, s_clipF _, ?_⟩) | refine .inl (.inr (.inl ⟨_, s_clipF _, ?_⟩))
      conv => whnf
      refine ⟨⟨Nat.le_trans (Nat.succ_le_succ (Nat.le_of_lt h4)) (le_most (by decide)), List.cons_ne_nil _ _⟩, ?_⟩
      conv => whnf
      repeat (refine ⟨by first | omega | (simp only [Option.getD_none, Option.getD_some]; omega) | (simp; done) | (simp; omega), ?_⟩; conv => whnf)
  conv => whnf
  first | exact .inl rfl | exact .inr rfl
theorem s_cCall1 (s : Sy) (k op a : Int) (hl : s.2.1.length ≤ 1000) : Spec Tryz.prog 172 [vS s, vI k, vI op, vL [a]] (vS (callP s k op a)) := by
  refine spec_introF false tab_ok 3 Tryz.func172 rfl (by kernel_rfl) rfl ?_
  conv => whnf
  refine .inl (.inl ⟨_, s_isCore s k, ?_⟩)
  conv => whnf
  refine ncaseb (fun h => ?_) (fun h => ?_)
  · rw [show callP s k op a = s from if_neg (by rw [h]; exact fun h => nomatch h.1)]
    conv => whnf
    first | exact .inl rfl | exact .inr rfl
  obtain ⟨h0, h1⟩ := isCore_yes h
  conv => whnf
  repeat (refine ⟨by first | omega | (simp only [Option.getD_none, Option.getD_some]; omega) | (simp; done) | (simp; omega), ?_⟩; conv => whnf)
  refine dcase (fun h3 => ?_) (fun h3 => ?_)
  · rw [show callP s k op a = s from if_neg (fun h => by have := h.2; exact absurd h3 (Int.not_le.2 (Int.ofNat_lt.2 this)))]
    conv => whnf
    first | exact .inl rfl | exact .inr rfl
  have h4 : (cAt s.2.1 k).1.length < 40 := Int.ofNat_lt.1 (Int.not_le.1 h3)
  rw [show callP s k op a = _ from if_pos ⟨h, h4⟩]
  unfold cAt at h4
  have hk : k.toNat < s.2.1.length := by omega
  conv => whnf
  refine ⟨Nat.le_of_ble_eq_true rfl, ?_⟩
  conv => whnf
  refine .inr ⟨_, _, 1000, Tryz.func174, ⟨by kernel_rfl, rfl⟩, ?_⟩
  conv => whnf
  repeat (refine ⟨by first | omega | (simp only [Option.getD_none, Option.getD_some]; omega) | (simp; done) | (simp; omega), ?_⟩; conv => whnf)
  erw [copy_all]
  repeat (refine ⟨by first | omega | (simp only [Option.getD_none, Option.getD_some]; omega) | (simp; done) | (simp; omega), ?_⟩; conv => whnf)
  refine .inr ⟨_, _, 2000, Tryz.func201, ⟨by kernel_rfl, rfl⟩, ?_⟩
  conv => whnf
  refine ⟨p_core_Call_1_0, [9], by kernel_rfl, ?st1, ?_, ?_⟩
  rotate_left
  · conv => whnf
    refine ⟨?_, ?_⟩
    · conv => whnf
      repeat (refine ⟨by first | omega | (simp only [Option.getD_none, Option.getD_some]; omega) | (simp; done) | (simp; omega), ?_⟩; conv => whnf)
      refine ⟨?_, ?_⟩
      · conv => whnf
        first | refine .inr (.inl ⟨_, s_clipF _, ?_⟩) | refine .inl (.inr (.inl ⟨_, s_clipF _, ?_⟩))
        conv => whnf
        refine ⟨⟨Nat.le_trans (Nat.succ_le_succ (Nat.le_of_lt h4)) (le_most (by decide)), List.cons_ne_nil _ _⟩, ?_⟩
        conv => whnf
        repeat (refine ⟨by first | omega | (simp only [Option.getD_none, Option.getD_some]; omega) | (simp; done) | (simp; omega), ?_⟩; conv => whnf)
      · conv => whnf
        first | refine .inr (.inl ⟨_, s_clipF _, ?_⟩) | refine .inl (.inr (.inl ⟨_, s_clipF _, ?_⟩))
        conv => whnf
        refine ⟨⟨Nat.le_trans (Nat.succ_le_succ (Nat.le_of_lt h4)) (le_most (by decide)), List.cons_ne_nil _ _⟩, ?_⟩
        conv => whnf
        repeat (refine ⟨by first | omega | (simp only [Option.getD_none, Option.getD_some]; omega) | (simp; done) | (simp; omega), ?_⟩; conv => whnf)
    · conv => whnf
      repeat (refine ⟨by first | omega | (simp only [Option.getD_none, Option.getD_some]; omega) | (simp; done) | (simp; omega), ?_⟩; conv => whnf)
      first | refine .inr (.inl ⟨_, s_clipF _, ?_⟩) | refine .inl (.inr (.inl ⟨_, s_clipF _, ?_⟩))
      conv => whnf
      refine ⟨⟨Nat.le_trans (Nat.succ_le_succ (Nat.le_of_lt h4)) (le_most (by decide)), List.cons_ne_nil _ _⟩, ?_⟩
      conv => whnf
      repeat (refine ⟨by first | omega | (simp only [Option.getD_none, Option.getD_some]; omega) | (simp; done) | (simp; omega), ?_⟩; conv => whnf)
  conv => whnf
  first | exact .inl rfl | exact .inr rfl
end Go.Proofs.YtpobngddiifdpaaGreat.V
