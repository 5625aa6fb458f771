/- Layer 1: words. -/
import Derived.Test.YtpobngddiifdpaaGreatZdV3
set_option linter.unusedSimpArgs false
set_option linter.unusedVariables false
namespace Go.Proofs.YtpobngddiifdpaaGreat.V
open Go Go.RowKit Go.Proofs.YtpobngddiifdpaaGreat.Hz
set_option maxRecDepth 100000

def idxI (w : Int) : Int := w % 2097152 / 2
def tagI (w : Int) : Int := w % 2305843009213693952 / 2097152
def nextI (w i m : Int) : Int := (tagI w + 1) % 1099511627776 * 2097152 + i % 1048576 * 2 + m % 2

theorem tmod_up (a b : Int) (hb : 0 < b) : (if a.tmod b < 0 then a.tmod b + b else a.tmod b) = a % b := by
  rcases Int.lt_or_le a 0 with h | h
  · have h1 : a.tmod b = -((-a) % b) := by
      rw [← Int.neg_neg a, Int.neg_tmod, Int.neg_neg, Int.tmod_eq_emod_of_nonneg (by omega)]
    rw [h1]
    have h2 := Int.emod_nonneg (-a) (by omega : b ≠ 0)
    have h3 := Int.emod_lt_of_pos (-a) hb
    by_cases hz : (-a) % b = 0
    · rw [if_neg (by omega), hz]
      have := Int.emod_eq_zero_of_dvd (Int.dvd_neg.1 (Int.dvd_of_emod_eq_zero hz))
      omega
    · rw [if_pos (by omega)]
      have := Int.emod_add_mul_ediv (-a) b
      have h6 : b * (-((-a) / b) - 1) = -(b * ((-a) / b)) - b := by rw [Int.mul_sub, Int.mul_neg, Int.mul_one]
      have h5 : a = b * (-((-a) / b) - 1) + (b - (-a) % b) := by omega
      generalize (-a) % b = r at *
      rw [h5, Int.mul_add_emod_self_left, Int.emod_eq_of_lt (by omega) (by omega)]
      omega
  · rw [Int.tmod_eq_emod_of_nonneg h, if_neg (by have := Int.emod_nonneg a (by omega : b ≠ 0); omega)]

theorem s_mod (a b : Int) (hb : 0 < b) (hb2 : b ≤ 4611686018427387904) : Spec Tryz.prog 79 [vI a, vI b] (vI (a % b)) := by
  have e := tmod_up a b hb
  have h1 := Int.emod_lt_of_pos a hb
  have h0 := Int.emod_nonneg a (by omega : b ≠ 0)
  refine spec_introF false tab_ok 0 Tryz.func79 rfl (by kernel_rfl) rfl ?_
  conv => whnf
  refine ⟨by omega, ?_⟩
  conv => whnf
  refine dcase (fun h => ?_) (fun h => ?_)
  · conv => whnf
    rw [if_pos h] at e
    rw [e, IntWalk.wrap64_in _ (by omega)]
    first | exact .inl rfl | exact .inr rfl
  · conv => whnf
    rw [if_neg h] at e
    rw [e]
    first | exact .inl rfl | exact .inr rfl
theorem s_refIndex (w : Int) : Spec Tryz.prog 33 [vI w] (vI (idxI w)) := by
  refine spec_introF false tab_ok 0 Tryz.func33 rfl (by kernel_rfl) rfl ?_
  conv => whnf
  first | refine .inl ⟨_, s_mod _ _ (by decide) (by decide), ?_⟩ | refine .inl (.inl ⟨_, s_mod _ _ (by decide) (by decide), ?_⟩)
  conv => whnf
  refine ⟨by omega, ?_⟩
  conv => whnf
  rw [Int.tdiv_eq_ediv_of_nonneg (by omega), IntWalk.wrap64_in _ (by omega)]
  first | exact .inl rfl | exact .inr rfl
theorem s_refTag (w : Int) : Spec Tryz.prog 106 [vI w] (vI (tagI w)) := by
  refine spec_introF false tab_ok 0 Tryz.func106 rfl (by kernel_rfl) rfl ?_
  conv => whnf
  first | refine .inl ⟨_, s_mod _ _ (by decide) (by decide), ?_⟩ | refine .inl (.inl ⟨_, s_mod _ _ (by decide) (by decide), ?_⟩)
  conv => whnf
  refine ⟨by omega, ?_⟩
  conv => whnf
  rw [Int.tdiv_eq_ediv_of_nonneg (by omega), IntWalk.wrap64_in _ (by omega)]
  first | exact .inl rfl | exact .inr rfl
theorem s_refNext (w i m : Int) : Spec Tryz.prog 63 [vI w, vI i, vI m] (vI (nextI w i m)) := by
  have ht : 0 ≤ tagI w ∧ tagI w < 1099511627776 := by unfold tagI; omega
  refine spec_introF false tab_ok 0 Tryz.func63 rfl (by kernel_rfl) rfl ?_
  conv => whnf
  first | refine .inl ⟨_, s_refTag _, ?_⟩ | refine .inl (.inl ⟨_, s_refTag _, ?_⟩)
  conv => whnf
  rw [IntWalk.wrap64_in (tagI w + 1) (by omega)]
  first | refine .inl ⟨_, s_mod _ _ (by decide) (by decide), ?_⟩ | refine .inl (.inl ⟨_, s_mod _ _ (by decide) (by decide), ?_⟩)
  conv => whnf
  have h1 : 0 ≤ (tagI w + 1) % 1099511627776 ∧ (tagI w + 1) % 1099511627776 < 1099511627776 := by omega
  first | refine .inl ⟨_, s_mod _ _ (by decide) (by decide), ?_⟩ | refine .inl (.inl ⟨_, s_mod _ _ (by decide) (by decide), ?_⟩)
  conv => whnf
  have h2 : 0 ≤ i % 1048576 ∧ i % 1048576 < 1048576 := by omega
  have h3 : 0 ≤ m % 2 ∧ m % 2 < 2 := by omega
  first | refine .inl ⟨_, s_mod _ _ (by decide) (by decide), ?_⟩ | refine .inl (.inl ⟨_, s_mod _ _ (by decide) (by decide), ?_⟩)
  conv => whnf
  generalize hA : (tagI w + 1) % 1099511627776 = A at *
  generalize hB : i % 1048576 = B at *
  generalize hC : m % 2 = D at *
  have e : nextI w i m = A * 2097152 + B * 2 + D := by unfold nextI; rw [hA, hB, hC]
  rw [e, IntWalk.wrap64_in (A * 2097152) (by omega), IntWalk.wrap64_in (B * 2) (by omega), IntWalk.wrap64_in (A * 2097152 + B * 2) (by omega), IntWalk.wrap64_in _ (by omega)]
  first | exact .inl rfl | exact .inr rfl

/-! ### The program's -/
theorem and_low (a : Int) (k : Nat) (hk : k ≤ 63) : (((BitVec.ofInt 64 a &&& BitVec.ofInt 64 (2 ^ k - 1)).toNat : Nat) : Int) = a % 2 ^ k := by
  have hlt : (2 : Nat) ^ k ≤ 2 ^ 63 := Nat.pow_le_pow_right (by decide) hk
  have hpos : (0 : Nat) < 2 ^ k := Nat.pow_pos (by decide)
  have e1 : BitVec.ofInt 64 (2 ^ k - 1) = BitVec.ofNat 64 (2 ^ k - 1) := by
    have : ((2 : Int) ^ k - 1) = ((2 ^ k - 1 : Nat) : Int) := by
      rw [Int.ofNat_sub hpos]; simp
    rw [this, BitVec.ofInt_natCast]
  rw [e1, BitVec.toNat_and, BitVec.toNat_ofNat, Nat.mod_eq_of_lt (by omega), Nat.and_two_pow_sub_one_eq_mod, BitVec.toNat_ofInt]
  have hd : (2 : Int) ^ k ∣ ((2 ^ 64 : Nat) : Int) := by
    have := Nat.pow_dvd_pow 2 (show k ≤ 64 by omega)
    have h2 := Int.natCast_dvd_natCast.2 this
    simpa using h2
  have hnn : 0 ≤ a % ((2 ^ 64 : Nat) : Int) := Int.emod_nonneg _ (by decide)
  rw [Int.natCast_emod, Int.toNat_of_nonneg hnn]
  rw [show (((2 ^ k : Nat) : Int)) = (2 : Int) ^ k by simp]
  exact Int.emod_emod_of_dvd a hd
theorem s_wide : Spec Tryz.prog 168 [] (.agg [.int .i64 1, .int .i64 20, .int .i64 40]) := by
  refine spec_introF false tab_ok 0 Tryz.func168 rfl (by kernel_rfl) rfl ?_
  conv => whnf
  first | exact .inl rfl | exact .inr rfl
def fromI : Nat → Int
  | 0 => 0
  | 1 => 1
  | 2 => 21
  | _ => 61
theorem s_from0 : Spec Tryz.prog 169 [vI 0] (vI 0) := by
  refine spec_introF false tab_ok 0 Tryz.func169 rfl (by kernel_rfl) rfl ?_
  conv => whnf
  first | refine .inl ⟨_, s_wide, ?_⟩ | refine .inl (.inl ⟨_, s_wide, ?_⟩)
  conv => whnf
  repeat (refine ⟨by first | omega | (simp only [Option.getD_none, Option.getD_some]; omega) | (simp; done) | (simp; omega), ?_⟩; conv => whnf)
  refine ⟨[], [3, 9, 10, 11], [4], ?_⟩
  apply Exists.intro
  conv => whnf
  refine loopK (fun j : Nat => 0 - j) (fun j => j ≤ 0) (fun j => ⟨lay 20 0 [(3, vI (fromI j)), (9, .one (.arr 4 0 0 3 tI)), (10, vI 0), (11, vI j)], [(4, .cells yArr3 [.int .i64 1, .int .i64 20, .int .i64 40])], []⟩) ?_ 0 rfl rfl (by decide)
  intro j ih hj hih
  have h : j = 0 := by omega
  subst h
  conv => whnf
  first | exact .inl rfl | exact .inr rfl
theorem s_from1 : Spec Tryz.prog 169 [vI 1] (vI 1) := by
  refine spec_introF false tab_ok 0 Tryz.func169 rfl (by kernel_rfl) rfl ?_
  conv => whnf
  first | refine .inl ⟨_, s_wide, ?_⟩ | refine .inl (.inl ⟨_, s_wide, ?_⟩)
  conv => whnf
  repeat (refine ⟨by first | omega | (simp only [Option.getD_none, Option.getD_some]; omega) | (simp; done) | (simp; omega), ?_⟩; conv => whnf)
  refine ⟨[], [3, 9, 10, 11], [4], ?_⟩
  apply Exists.intro
  conv => whnf
  refine loopK (fun j : Nat => 1 - j) (fun j => j ≤ 1) (fun j => ⟨lay 20 0 [(3, vI (fromI j)), (9, .one (.arr 4 0 1 3 tI)), (10, vI 1), (11, vI j)], [(4, .cells yArr3 [.int .i64 1, .int .i64 20, .int .i64 40])], []⟩) ?_ 0 rfl rfl (by decide)
  intro j ih hj hih
  have h : j = 0 ∨ j = 1 := by omega
  rcases h with rfl | rfl
  · have e1 : wrap64 (((0 : Nat) : Int) + 1) = ((1 : Nat) : Int) := by rw [IntWalk.wrap64_in _ (by omega)]; rfl
    have e2 : wrap64 (fromI 0 + 1) = fromI 1 := by rw [show fromI 0 + 1 = (1 : Int) from rfl, IntWalk.wrap64_in _ (by omega)]; rfl
    conv => whnf
    repeat (refine ⟨by first | omega | (simp only [Option.getD_none, Option.getD_some]; omega) | (simp; done) | (simp; omega), ?_⟩; conv => whnf)
    first | erw [e1, e2] | erw [e1]
    exact hih 1 (by decide) (by decide)
  · conv => whnf
    first | exact .inl rfl | exact .inr rfl
theorem s_from2 : Spec Tryz.prog 169 [vI 2] (vI 21) := by
  refine spec_introF false tab_ok 0 Tryz.func169 rfl (by kernel_rfl) rfl ?_
  conv => whnf
  first | refine .inl ⟨_, s_wide, ?_⟩ | refine .inl (.inl ⟨_, s_wide, ?_⟩)
  conv => whnf
  repeat (refine ⟨by first | omega | (simp only [Option.getD_none, Option.getD_some]; omega) | (simp; done) | (simp; omega), ?_⟩; conv => whnf)
  refine ⟨[], [3, 9, 10, 11], [4], ?_⟩
  apply Exists.intro
  conv => whnf
  refine loopK (fun j : Nat => 2 - j) (fun j => j ≤ 2) (fun j => ⟨lay 20 0 [(3, vI (fromI j)), (9, .one (.arr 4 0 2 3 tI)), (10, vI 2), (11, vI j)], [(4, .cells yArr3 [.int .i64 1, .int .i64 20, .int .i64 40])], []⟩) ?_ 0 rfl rfl (by decide)
  intro j ih hj hih
  have h : j = 0 ∨ j = 1 ∨ j = 2 := by omega
  rcases h with rfl | rfl | rfl
  · have e1 : wrap64 (((0 : Nat) : Int) + 1) = ((1 : Nat) : Int) := by rw [IntWalk.wrap64_in _ (by omega)]; rfl
    have e2 : wrap64 (fromI 0 + 1) = fromI 1 := by rw [show fromI 0 + 1 = (1 : Int) from rfl, IntWalk.wrap64_in _ (by omega)]; rfl
    conv => whnf
    repeat (refine ⟨by first | omega | (simp only [Option.getD_none, Option.getD_some]; omega) | (simp; done) | (simp; omega), ?_⟩; conv => whnf)
    first | erw [e1, e2] | erw [e1]
    exact hih 1 (by decide) (by decide)
  · have e1 : wrap64 (((1 : Nat) : Int) + 1) = ((2 : Nat) : Int) := by rw [IntWalk.wrap64_in _ (by omega)]; rfl
    have e2 : wrap64 (fromI 1 + 20) = fromI 2 := by rw [show fromI 1 + 20 = (21 : Int) from rfl, IntWalk.wrap64_in _ (by omega)]; rfl
    conv => whnf
    repeat (refine ⟨by first | omega | (simp only [Option.getD_none, Option.getD_some]; omega) | (simp; done) | (simp; omega), ?_⟩; conv => whnf)
    first | erw [e1, e2] | erw [e1]
    exact hih 2 (by decide) (by decide)
  · conv => whnf
    first | exact .inl rfl | exact .inr rfl

theorem fdiv_pow (w : Int) (n : Nat) : w.fdiv (2 ^ n) = w / 2 ^ n := Int.fdiv_eq_ediv_of_nonneg _ (Int.le_of_lt (Int.pow_pos (by decide)))
theorem s_cut1 (w : Int) : Spec Tryz.prog 107 [vI w, vI 1] (vI (idxI w)) := by
  have e : wrap64 (((BitVec.ofInt 64 (w.fdiv (2 ^ 1)) &&& BitVec.ofInt 64 (wrap64 (wrap64 (1 * 2 ^ 20) - 1))).toNat : Nat) : Int) = idxI w := by
    rw [show wrap64 (wrap64 (1 * 2 ^ 20) - 1) = 2 ^ 20 - 1 by rw [IntWalk.wrap64_in (1 * 2 ^ 20) (by omega), IntWalk.wrap64_in _ (by omega)]; rfl, and_low _ 20 (by omega), fdiv_pow]
    have h : (w / 2 ^ 1) % 2 ^ 20 = idxI w := by unfold idxI; omega
    rw [h, IntWalk.wrap64_in _ (by unfold idxI; omega)]
  refine spec_introF false tab_ok 0 Tryz.func107 rfl (by kernel_rfl) rfl ?_
  conv => whnf
  refine ⟨p_pack_cut_1, g_pack_cut_1, by kernel_rfl, ?st1, ?_, ?_⟩
  rotate_left
  · conv => whnf
    first | refine .inl ⟨_, s_from1, ?_⟩ | refine .inl (.inl ⟨_, s_from1, ?_⟩)
    conv => whnf
    repeat (refine ⟨by first | omega | (simp only [Option.getD_none, Option.getD_some]; omega) | (simp; done) | (simp; omega), ?_⟩; conv => whnf)
    first | refine .inl ⟨_, s_wide, ?_⟩ | refine .inl (.inl ⟨_, s_wide, ?_⟩)
    conv => whnf
    repeat (refine ⟨by first | omega | (simp only [Option.getD_none, Option.getD_some]; omega) | (simp; done) | (simp; omega), ?_⟩; conv => whnf)
  conv => whnf
  exact .inl (congrArg vI e)
theorem s_cut2 (w : Int) : Spec Tryz.prog 107 [vI w, vI 2] (vI (tagI w)) := by
  have e : wrap64 (((BitVec.ofInt 64 (w.fdiv (2 ^ 21)) &&& BitVec.ofInt 64 (wrap64 (wrap64 (1 * 2 ^ 40) - 1))).toNat : Nat) : Int) = tagI w := by
    rw [show wrap64 (wrap64 (1 * 2 ^ 40) - 1) = 2 ^ 40 - 1 by rw [IntWalk.wrap64_in (1 * 2 ^ 40) (by omega), IntWalk.wrap64_in _ (by omega)]; rfl, and_low _ 40 (by omega), fdiv_pow]
    have h : (w / 2 ^ 21) % 2 ^ 40 = tagI w := by unfold tagI; omega
    rw [h, IntWalk.wrap64_in _ (by unfold tagI; omega)]
  refine spec_introF false tab_ok 0 Tryz.func107 rfl (by kernel_rfl) rfl ?_
  conv => whnf
  refine ⟨p_pack_cut_1, g_pack_cut_1, by kernel_rfl, ?st2, ?_, ?_⟩
  rotate_left
  · conv => whnf
    first | refine .inl ⟨_, s_from2, ?_⟩ | refine .inl (.inl ⟨_, s_from2, ?_⟩)
    conv => whnf
    repeat (refine ⟨by first | omega | (simp only [Option.getD_none, Option.getD_some]; omega) | (simp; done) | (simp; omega), ?_⟩; conv => whnf)
    first | refine .inl ⟨_, s_wide, ?_⟩ | refine .inl (.inl ⟨_, s_wide, ?_⟩)
    conv => whnf
    repeat (refine ⟨by first | omega | (simp only [Option.getD_none, Option.getD_some]; omega) | (simp; done) | (simp; omega), ?_⟩; conv => whnf)
  conv => whnf
  exact .inl (congrArg vI e)
theorem s_Index (w : Int) : Spec Tryz.prog 66 [vI w] (vI (idxI w)) := by
  refine spec_introF false tab_ok 0 Tryz.func66 rfl (by kernel_rfl) rfl ?_
  conv => whnf
  first | refine .inl ⟨_, s_cut1 w, ?_⟩ | refine .inl (.inl ⟨_, s_cut1 w, ?_⟩)
  conv => whnf
  first | exact .inl rfl | exact .inr rfl
theorem s_Tag (w : Int) : Spec Tryz.prog 102 [vI w] (vI (tagI w)) := by
  refine spec_introF false tab_ok 0 Tryz.func102 rfl (by kernel_rfl) rfl ?_
  conv => whnf
  first | refine .inl ⟨_, s_cut2 w, ?_⟩ | refine .inl (.inl ⟨_, s_cut2 w, ?_⟩)
  conv => whnf
  first | exact .inl rfl | exact .inr rfl

theorem or_add (a y : Int) (fr wd : Nat) (h1 : 0 ≤ a) (h2 : a < 2 ^ fr) (h3 : 0 ≤ y) (h4 : y < 2 ^ wd) (h5 : fr + wd ≤ 62) : (((BitVec.ofInt 64 a ||| BitVec.ofInt 64 (y * 2 ^ fr)).toNat : Nat) : Int) = a + y * 2 ^ fr := by
  obtain ⟨a, rfl⟩ := Int.eq_ofNat_of_zero_le h1
  obtain ⟨y, rfl⟩ := Int.eq_ofNat_of_zero_le h3
  have h2 : a < 2 ^ fr := by exact_mod_cast h2
  have h4 : y < 2 ^ wd := by exact_mod_cast h4
  have e1 : ((y : Int) * 2 ^ fr) = ((y * 2 ^ fr : Nat) : Int) := by push_cast; rfl
  have hp : 2 ^ (fr + wd) ≤ 2 ^ 62 := Nat.pow_le_pow_right (by decide) h5
  have hp1 : y * 2 ^ fr < 2 ^ (fr + wd) := by rw [Nat.pow_add, Nat.mul_comm]; exact Nat.mul_lt_mul_of_pos_left h4 (Nat.pow_pos (by decide))
  have hp2 : a < 2 ^ (fr + wd) := Nat.lt_of_lt_of_le h2 (Nat.pow_le_pow_right (by decide) (by omega))
  rw [e1, BitVec.ofInt_natCast, BitVec.ofInt_natCast, BitVec.toNat_or, BitVec.toNat_ofNat, BitVec.toNat_ofNat, Nat.mod_eq_of_lt (by omega), Nat.mod_eq_of_lt (by omega), Nat.or_comm, ← Nat.shiftLeft_eq, ← Nat.shiftLeft_add_eq_or_of_lt h2, Nat.shiftLeft_eq]
  push_cast
  omega
def accI (x0 x1 x2 : Int) : Nat → Int
  | 0 => 0
  | 1 => x0 % 2
  | 2 => x0 % 2 + x1 % 1048576 * 2
  | _ => x0 % 2 + x1 % 1048576 * 2 + x2 % 1099511627776 * 2097152
theorem join_step (a x b : Int) (fr wd : Nat) (h1 : 0 ≤ a) (h2 : a < 2 ^ fr) (h5 : fr + wd ≤ 62) (hb : b = a + x % 2 ^ wd * 2 ^ fr) : wrap64 (((BitVec.ofInt 64 a ||| BitVec.ofInt 64 (wrap64 (wrap64 (((BitVec.ofInt 64 x &&& BitVec.ofInt 64 (wrap64 (wrap64 (1 * 2 ^ wd) - 1))).toNat : Nat) : Int) * 2 ^ fr))).toNat : Nat) : Int) = b := by
  have p1 : (0 : Int) < 2 ^ wd := Int.pow_pos (by decide)
  have p2 : (0 : Int) < 2 ^ fr := Int.pow_pos (by decide)
  have p3 : (2 : Int) ^ wd ≤ 2 ^ 62 := by exact_mod_cast Nat.pow_le_pow_right (show 0 < 2 by decide) (show wd ≤ 62 by omega)
  have p4 : (2 : Int) ^ (fr + wd) ≤ 2 ^ 62 := by exact_mod_cast Nat.pow_le_pow_right (show 0 < 2 by decide) h5
  have hy0 := Int.emod_nonneg x (Int.ne_of_gt p1)
  have hy1 := Int.emod_lt_of_pos x p1
  have hm : x % 2 ^ wd * 2 ^ fr + 2 ^ fr ≤ 2 ^ (fr + wd) := by
    have := Int.mul_le_mul_of_nonneg_right (show x % 2 ^ wd + 1 ≤ 2 ^ wd by omega) (Int.le_of_lt p2)
    rw [Int.add_mul, Int.one_mul] at this
    rw [Int.pow_add, Int.mul_comm (2 ^ fr)]
    exact this
  have hn : 0 ≤ x % 2 ^ wd * 2 ^ fr := Int.mul_nonneg hy0 (Int.le_of_lt p2)
  rw [IntWalk.wrap64_in (1 * 2 ^ wd) (by omega), Int.one_mul, IntWalk.wrap64_in (2 ^ wd - 1) (by omega), and_low _ wd (by omega), IntWalk.wrap64_in (x % 2 ^ wd) (by omega), IntWalk.wrap64_in (_ * _) (by omega), or_add a (x % 2 ^ wd) fr wd h1 h2 hy0 hy1 h5, hb, IntWalk.wrap64_in _ (by omega)]
theorem s_joined (x0 x1 x2 : Int) : Spec Tryz.prog 101 [vL [x0, x1, x2]] (vI (accI x0 x1 x2 3)) := by
  refine spec_introF false tab_ok 0 Tryz.func101 rfl (by kernel_rfl) rfl ?_
  conv => whnf
  refine ⟨[], [3, 6, 7, 8], [], ?_⟩
  apply Exists.intro
  conv => whnf
  refine loopK (fun j : Nat => 3 - j) (fun j => j ≤ 3) (fun j => ⟨lay 27 0 [(3, vI (accI x0 x1 x2 j)), (6, vL [x0, x1, x2]), (7, vI 3), (8, vI j)], [], []⟩) ?_ 0 rfl rfl (by decide)
  intro j ih hj hih
  have h : j = 0 ∨ j = 1 ∨ j = 2 ∨ j = 3 := by omega
  rcases h with rfl | rfl | rfl | rfl
  · have e1 : wrap64 (((0 : Nat) : Int) + 1) = ((1 : Nat) : Int) := by rw [IntWalk.wrap64_in _ (by omega)]; rfl
    have e2 := join_step (accI x0 x1 x2 0) x0 (accI x0 x1 x2 1) 0 1 (by simp only [accI]; omega) (by simp only [accI]; omega) (by decide) (by simp only [accI]; omega)
    conv => whnf
    refine ⟨⟨by omega, show ((0 : Nat) : Int) < ((3 : Nat) : Int) by omega⟩, ?_⟩
    conv => whnf
    refine ⟨p_pack_joined_5, g_pack_joined_5, by kernel_rfl, ?st3, ?_, ?_⟩
    rotate_left
    · conv => whnf
      first | refine .inl ⟨_, s_wide, ?_⟩ | refine .inl (.inl ⟨_, s_wide, ?_⟩)
      conv => whnf
      repeat (refine ⟨by first | omega | (simp only [Option.getD_none, Option.getD_some]; omega) | (simp; done) | (simp; omega), ?_⟩; conv => whnf)
      first | refine .inl ⟨_, s_from0, ?_⟩ | refine .inl (.inl ⟨_, s_from0, ?_⟩)
      conv => whnf
      repeat (refine ⟨by first | omega | (simp only [Option.getD_none, Option.getD_some]; omega) | (simp; done) | (simp; omega), ?_⟩; conv => whnf)
    conv => whnf
    erw [e1]
    erw [e2]
    exact hih 1 (by decide) (by decide)
  · have e1 : wrap64 (((1 : Nat) : Int) + 1) = ((2 : Nat) : Int) := by rw [IntWalk.wrap64_in _ (by omega)]; rfl
    have e2 := join_step (accI x0 x1 x2 1) x1 (accI x0 x1 x2 2) 1 20 (by simp only [accI]; omega) (by simp only [accI]; omega) (by decide) (by simp only [accI]; omega)
    conv => whnf
    refine ⟨⟨by omega, show ((1 : Nat) : Int) < ((3 : Nat) : Int) by omega⟩, ?_⟩
    conv => whnf
    refine ⟨p_pack_joined_5, g_pack_joined_5, by kernel_rfl, ?st4, ?_, ?_⟩
    rotate_left
    · conv => whnf
      first | refine .inl ⟨_, s_wide, ?_⟩ | refine .inl (.inl ⟨_, s_wide, ?_⟩)
      conv => whnf
      repeat (refine ⟨by first | omega | (simp only [Option.getD_none, Option.getD_some]; omega) | (simp; done) | (simp; omega), ?_⟩; conv => whnf)
      first | refine .inl ⟨_, s_from1, ?_⟩ | refine .inl (.inl ⟨_, s_from1, ?_⟩)
      conv => whnf
      repeat (refine ⟨by first | omega | (simp only [Option.getD_none, Option.getD_some]; omega) | (simp; done) | (simp; omega), ?_⟩; conv => whnf)
    conv => whnf
    erw [e1]
    erw [e2]
    exact hih 2 (by decide) (by decide)
  · have e1 : wrap64 (((2 : Nat) : Int) + 1) = ((3 : Nat) : Int) := by rw [IntWalk.wrap64_in _ (by omega)]; rfl
    have e2 := join_step (accI x0 x1 x2 2) x2 (accI x0 x1 x2 3) 21 40 (by simp only [accI]; omega) (by simp only [accI]; omega) (by decide) (by simp only [accI]; omega)
    conv => whnf
    refine ⟨⟨by omega, show ((2 : Nat) : Int) < ((3 : Nat) : Int) by omega⟩, ?_⟩
    conv => whnf
    refine ⟨p_pack_joined_5, g_pack_joined_5, by kernel_rfl, ?st5, ?_, ?_⟩
    rotate_left
    · conv => whnf
      first | refine .inl ⟨_, s_wide, ?_⟩ | refine .inl (.inl ⟨_, s_wide, ?_⟩)
      conv => whnf
      repeat (refine ⟨by first | omega | (simp only [Option.getD_none, Option.getD_some]; omega) | (simp; done) | (simp; omega), ?_⟩; conv => whnf)
      first | refine .inl ⟨_, s_from2, ?_⟩ | refine .inl (.inl ⟨_, s_from2, ?_⟩)
      conv => whnf
      repeat (refine ⟨by first | omega | (simp only [Option.getD_none, Option.getD_some]; omega) | (simp; done) | (simp; omega), ?_⟩; conv => whnf)
    conv => whnf
    erw [e1]
    erw [e2]
    exact hih 3 (by decide) (by decide)
  · conv => whnf
    first | exact .inl rfl | exact .inr rfl
theorem s_Next (w i m : Int) : Spec Tryz.prog 59 [vI w, vI i, vI m] (vI (nextI w i m)) := by
  have ht : 0 ≤ tagI w ∧ tagI w < 1099511627776 := by unfold tagI; omega
  have e : accI m i (tagI w + 1) 3 = nextI w i m := by simp only [accI, nextI]; omega
  refine spec_introF false tab_ok 0 Tryz.func59 rfl (by kernel_rfl) rfl ?_
  conv => whnf
  first | refine .inl ⟨_, s_Tag w, ?_⟩ | refine .inl (.inl ⟨_, s_Tag w, ?_⟩)
  conv => whnf
  rw [IntWalk.wrap64_in (tagI w + 1) (by omega)]
  repeat (refine ⟨by first | omega | (simp only [Option.getD_none, Option.getD_some]; omega) | (simp; done) | (simp; omega), ?_⟩; conv => whnf)
  first | refine .inl ⟨_, s_joined m i (tagI w + 1), ?_⟩ | refine .inl (.inl ⟨_, s_joined m i (tagI w + 1), ?_⟩)
  conv => whnf
  rw [e]
  first | exact .inl rfl | exact .inr rfl
end Go.Proofs.YtpobngddiifdpaaGreat.V
