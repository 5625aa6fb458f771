/- The walks over package rev and over the layer's examples: what each function answers, in closed form. -/
import Derived.Test.YtpmhaigheadeeaaRvMath
import Derived.Test.YtpmhaigheadeeaaShelf
import Derived.WalkKit
import Derived.WalkSpells
import Derived.WalkLawsBesides
import Derived.IntWalk
import Derived.Lib.Hide
namespace Go.Proofs.Ytpmhaigheadeeaa.RvWalks
open Go Go.RowKit Go.Proofs.Ytpmhaigheadeeaa.RvMath

/-- The loop's number behind so many rounds. -/
def out (x : Int) (i : Nat) : Int := ((rvG i (lo x) * 2 ^ (16 - i) : Nat) : Int)

theorem i64_wr (n : Int) : IntKind.i64.wrap n = wrap64 n := by unfold wrap64; exact IntKind.wrap_i64 n

theorem round' (x : Int) (i : Nat) (hi : i < 16) :
    Go.bits .or .i64 (out x i) (wrap64 (Go.bits .and .i64 (x / 2 ^ i) 1 * 2 ^ (15 - i))) = out x (i + 1) := by
  have h := round x i hi
  have e1 : shr .i64 x (i : Int) = x / 2 ^ i := by
    unfold shr; rw [Int.toNat_natCast, Nat.min_eq_left (by simp [IntKind.bits]; omega)]
  have e2 : wrap64 (15 - (i : Int)) = ((15 - i : Nat) : Int) := by unfold wrap64; omega
  rw [e1, e2] at h
  unfold shl at h
  rw [Int.toNat_natCast, Nat.min_eq_left (by simp [IntKind.bits]; omega)] at h
  rw [← i64_wr]
  exact h

set_option maxHeartbeats 1000000 in
theorem rev_any (x : Int) (w : World) :
    Calls Try.prog 14 #[.int .i64 x] w fun e w' => e = .returned (.int .i64 (rv x)) ∧ w = w' := by
  go_enter Try.func14, Try.ntmps14
  go_wp2
  go_loop [3, 5] (fun o i => ∃ k : Nat, k ≤ 16 ∧ i = .int .i64 k ∧ o = .int .i64 (out x k)) (fun _ i => 16 - (intOf i).toNat)
  case atStart => exact ⟨0, by omega, rfl, by simp [out, rvG]⟩
  case round =>
    obtain ⟨k, hk, rfl, rfl⟩ := hrel
    by_cases hlt : k < 16
    · have HR := Lib.hid (round' x k hlt)
      go_wp2
      go_round
      case rel => exact ⟨k + 1, by omega, by go_num, by rw [HR.out]⟩
      case measure => simp [intOf]; omega
    · obtain rfl : k = 16 := by omega
      go_wp2
      go_ret
      exact ⟨by simp [out, rv], rfl⟩

theorem ret_int {k : IntKind} {a b : Int} (h : a = b) : Ending.returned (.int k a) = .returned (.int k b) := by rw [h]

theorem or_one (x : Int) : Go.bits .or .i64 (rv x * 2) 1 = 2 * rv x + 1 := by
  have h := rv_bd x
  rw [or_join 1 _ _ (by omega) (by omega) (by omega) (by decide) (by decide) (by decide)]; omega

set_option maxHeartbeats 1000000 in
theorem ord_any (x : Int) (w : World) :
    Calls Try.prog 16 #[.int .i64 x] w fun e w' => e = .returned (.int .i64 (2 * rv x + 1)) ∧ w = w' := by
  have HO := Lib.hid (or_one x)
  obtain ⟨h0, h1⟩ := rv_bd x
  go_enter Try.func16, Try.ntmps16
  go_wp2_with (go_at_call 14; refine (rev_any _ _).mono ?_; rintro e w' ⟨rfl, rfl⟩)
  go_ret
  exact ⟨ret_int (by first | exact HO.out | (rw [← HO.out])), rfl⟩

set_option maxHeartbeats 1000000 in
theorem sent_any (x : Int) (w : World) :
    Calls Try.prog 18 #[.int .i64 x] w fun e w' => e = .returned (.int .i64 (2 * rv x)) ∧ w = w' := by
  obtain ⟨h0, h1⟩ := rv_bd x
  go_enter Try.func18, Try.ntmps18
  go_wp2_with (go_at_call 14; refine (rev_any _ _).mono ?_; rintro e w' ⟨rfl, rfl⟩)
  go_ret
  exact ⟨ret_int (by omega), rfl⟩

set_option maxHeartbeats 1000000 in
theorem name_no (key : Int) (w : World) (h : ¬ (0 ≤ key ∧ key ≤ 131071 ∧ key % 2 = 1)) :
    Calls Try.prog 12 #[.int .i64 key] w fun e w' => e = .returned (.tuple #[.int .i64 0, .bool false]) ∧ w = w' := by
  have HA := Lib.hid (and_one key)
  by_cases h1 : key < 0
  · clear h
    go_enter Try.func12, Try.ntmps12
    go_wp2
    go_ret2
    exact ⟨rfl, rfl⟩
  · by_cases h2 : 65535 < key / 2
    · clear h
      go_enter Try.func12, Try.ntmps12
      go_wp2
      go_ret2
      exact ⟨rfl, rfl⟩
    · have h3 : Go.bits .and .i64 key 1 = 0 := by rw [HA.out]; omega
      clear h
      go_enter Try.func12, Try.ntmps12
      go_wp2
      go_ret2
      exact ⟨rfl, rfl⟩

set_option maxHeartbeats 1000000 in
theorem name_yes (key : Int) (w : World) (h1 : 0 ≤ key) (h2 : key ≤ 131071) (h3 : key % 2 = 1) :
    Calls Try.prog 12 #[.int .i64 key] w fun e w' => e = .returned (.tuple #[.int .i64 (rv (key / 2)), .bool true]) ∧ w = w' := by
  have ha := and_one key
  rw [h3] at ha
  have h4 : ¬ 65535 < key / 2 := by omega
  clear h2 h3
  go_enter Try.func12, Try.ntmps12
  go_wp2_with (go_at_call 14; refine (rev_any _ _).mono ?_; rintro e w' ⟨rfl, rfl⟩)
  go_ret2
  exact ⟨rfl, rfl⟩

set_option maxHeartbeats 1000000 in
theorem bucket_no (x s : Int) (w : World) (h : ¬ (1 ≤ s ∧ s ≤ 16)) :
    Calls Try.prog 22 #[.int .i64 x, .int .i64 s] w fun e w' => e = .returned (.int .i64 0) ∧ w = w' := by
  by_cases h1 : s < 1
  · clear h
    go_enter Try.func22, Try.ntmps22
    go_wp2
    go_ret
    exact ⟨rfl, rfl⟩
  · have h2 : 16 < s := by omega
    clear h
    go_enter Try.func22, Try.ntmps22
    go_wp2
    go_ret
    exact ⟨rfl, rfl⟩

set_option maxHeartbeats 1000000 in
theorem bucket_yes (x s : Int) (w : World) (h1 : 1 ≤ s) (h2 : s ≤ 16) :
    Calls Try.prog 22 #[.int .i64 x, .int .i64 s] w fun e w' => e = .returned (.int .i64 ((x % 65536) % s)) ∧ w = w' := by
  have ha := and_all x
  have hb : 0 ≤ x % 65536 := by omega
  have hs : (s == 0) = false := by simp; omega
  go_enter Try.func22, Try.ntmps22
  go_wp2
  go_ret
  exact ⟨rfl, rfl⟩

theorem len16_any (n j : Nat) (w : World) (h : Lib.bitLen n = j + 1) (hn : n < 65536) :
    Calls Try.prog 25 #[.int .u16 (n : Int)] w fun e w' => e = .returned (.int .i64 ((j : Int) + 1)) ∧ w = w' := by
  refine (Try.bits_Len16 (n : Int) w (by omega) (by omega)).mono ?_
  rintro e w' ⟨rfl, rfl⟩
  exact ⟨by rw [Int.toNat_natCast, h]; rfl, rfl⟩

set_option maxHeartbeats 1000000 in
theorem parent_any (x : Int) (w : World) :
    Calls Try.prog 20 #[.int .i64 x] w fun e w' => e = .returned (.int .i64 (par (lo x))) ∧ w = w' := by
  have hw : IntKind.u16.wrap x = (lo x : Int) := by rw [IntKind.wrap_u16, lo_cast]
  have hl := lo_lt x
  by_cases h0 : lo x = 0
  · have hp : par (lo x) = 0 := by rw [h0]; rfl
    rw [hp]
    rw [h0] at hw
    go_enter Try.func20, Try.ntmps20
    go_wp2
    go_ret
    exact ⟨rfl, rfl⟩
  · obtain ⟨j, hj, h16, h1, h2, h3⟩ := top_bit (lo x) (by omega) hl
    have hpar := andNot_top (lo x) j h16 h1 h2
    rw [h3]
    clear h1 h2 h3
    have HL := Lib.hid hj
    have HP := Lib.hid hpar
    obtain ⟨n, hn⟩ : ∃ n : Nat, n = lo x := ⟨_, rfl⟩
    have HN := Lib.hid hn
    rw [← hn] at hw h0 hl
    clear hj hpar hn
    have hz : (((n : Nat) : Int) == 0) = false := by simp; omega
    clear h0
    go_enter Try.func20, Try.ntmps20
    go_wp2_with (go_at_call 25; refine (len16_any n j _ (by rw [HN.out]; exact HL.out) hl).mono ?_; rintro e w' ⟨rfl, rfl⟩)
    go_ret
    refine ⟨ret_int ?_, rfl⟩
    have hp : 2 ^ j < 65536 := Nat.pow_lt_pow_right (by decide) h16
    have e : IntKind.u16.wrap (2 ^ j) = ((2 ^ j : Nat) : Int) := by
      rw [IntKind.wrap_u16, two_pow]
      generalize 2 ^ j = p at hp ⊢
      omega
    have hl2 := hl
    rw [e, HN.out, HP.out, ← i64_wr]
    rw [HN.out] at hl2
    have hq : lo x - 2 ^ j ≤ lo x := Nat.sub_le _ _
    generalize lo x - 2 ^ j = q at hq ⊢
    exact wrap_id _ (by omega) (by omega)

theorem tmod_low (x : Int) : x.tmod 65536 = if 0 ≤ x then x % 65536 else -((-x) % 65536) := by
  split
  · rename_i h; exact Int.tmod_eq_emod_of_nonneg h
  · rename_i h
    obtain ⟨y, rfl⟩ : ∃ y, x = -y := ⟨-x, by omega⟩
    rw [Int.neg_tmod, Int.neg_neg, Int.tmod_eq_emod_of_nonneg (by omega)]

set_option maxHeartbeats 1000000 in
theorem low_any (x : Int) (w : World) :
    Calls Try.prog 24 #[.int .i64 x] w fun e w' => e = .returned (.int .i64 ((lo x : Nat) : Int)) ∧ w = w' := by
  have hl := lo_cast x
  have ht := tmod_low x
  obtain ⟨m, hm⟩ : ∃ m : Int, x.tmod 65536 = m := ⟨_, rfl⟩
  have hb : -65536 < m ∧ m < 65536 := by rw [← hm, ht]; split <;> omega
  have hv : (if m < 0 then m + 65536 else m) = ((lo x : Nat) : Int) := by rw [← hm, ht]; split <;> split <;> omega
  obtain ⟨hb1, hb2⟩ := hb
  clear ht hl
  by_cases h0 : m < 0
  · rw [if_pos h0] at hv
    have HV := Lib.hid hv
    clear hv
    go_enter Try.func24, Try.ntmps24
    go_wp2
    go_ret
    exact ⟨ret_int HV.out, rfl⟩
  · rw [if_neg h0] at hv
    have HV := Lib.hid hv
    clear hv
    go_enter Try.func24, Try.ntmps24
    go_wp2
    go_ret
    exact ⟨ret_int HV.out, rfl⟩

set_option maxHeartbeats 1000000 in
theorem refRev_any (x : Int) (w : World) :
    Calls Try.prog 15 #[.int .i64 x] w fun e w' => e = .returned (.int .i64 (rv x)) ∧ w = w' := by
  have hl := lo_lt x
  go_enter Try.func15, Try.ntmps15
  go_wp2_with (go_at_call 24; refine (low_any _ _).mono ?_; rintro e w' ⟨rfl, rfl⟩)
  go_loop [3, 4, 5] (fun m o i => ∃ k : Nat, k ≤ 16 ∧ i = .int .i64 k ∧ m = .int .i64 ((lo x / 2 ^ k : Nat) : Int) ∧ o = .int .i64 ((rvG k (lo x) : Nat) : Int)) (fun _ _ i => 16 - (intOf i).toNat)
  case atStart => exact ⟨0, by omega, rfl, by simp, rfl⟩
  case round =>
    obtain ⟨k, hk, rfl, rfl, rfl⟩ := hrel
    by_cases hlt : k < 16
    · obtain ⟨m, hm⟩ : ∃ m : Nat, lo x / 2 ^ k = m := ⟨_, rfl⟩
      obtain ⟨o, ho⟩ : ∃ o : Nat, rvG k (lo x) = o := ⟨_, rfl⟩
      have hm2 : lo x / 2 ^ (k + 1) = m / 2 := by rw [← hm, Nat.div_div_eq_div_mul, Nat.pow_succ]
      have ho2 : rvG (k + 1) (lo x) = 2 * o + m % 2 := by rw [rvG_top, hm, ho]
      have hmb : m < 65536 := by have := Nat.div_le_self (lo x) (2 ^ k); omega
      have hob : o < 65536 := by
        have h1 := rvG_lt k (lo x)
        have h2 : 2 ^ k ≤ 2 ^ 16 := Nat.pow_le_pow_right (by decide) hk
        omega
      rw [hm, ho]
      have HM := Lib.hid hm2
      have HO := Lib.hid ho2
      clear hm ho hm2 ho2
      go_wp2
      go_round
      case rel => exact ⟨k + 1, by omega, by go_num, by rw [HM.out]; go_num, by rw [HO.out]; go_num⟩
      case measure => simp [intOf]; omega
    · obtain rfl : k = 16 := by omega
      go_wp2
      go_ret
      exact ⟨rfl, rfl⟩

set_option maxHeartbeats 1000000 in
theorem refOrd_any (x : Int) (w : World) :
    Calls Try.prog 17 #[.int .i64 x] w fun e w' => e = .returned (.int .i64 (2 * rv x + 1)) ∧ w = w' := by
  obtain ⟨h0, h1⟩ := rv_bd x
  go_enter Try.func17, Try.ntmps17
  go_wp2_with (go_at_call 15; refine (refRev_any _ _).mono ?_; rintro e w' ⟨rfl, rfl⟩)
  go_ret
  exact ⟨rfl, rfl⟩

set_option maxHeartbeats 1000000 in
theorem refSent_any (x : Int) (w : World) :
    Calls Try.prog 19 #[.int .i64 x] w fun e w' => e = .returned (.int .i64 (2 * rv x)) ∧ w = w' := by
  obtain ⟨h0, h1⟩ := rv_bd x
  go_enter Try.func19, Try.ntmps19
  go_wp2_with (go_at_call 15; refine (refRev_any _ _).mono ?_; rintro e w' ⟨rfl, rfl⟩)
  go_ret
  exact ⟨rfl, rfl⟩

set_option maxHeartbeats 1000000 in
theorem refName_no (key : Int) (w : World) (h : ¬ (0 ≤ key ∧ key ≤ 131071 ∧ key % 2 = 1)) :
    Calls Try.prog 13 #[.int .i64 key] w fun e w' => e = .returned (.tuple #[.int .i64 0, .bool false]) ∧ w = w' := by
  by_cases h1 : key < 0
  · clear h
    go_enter Try.func13, Try.ntmps13
    go_wp2
    go_ret2
    exact ⟨rfl, rfl⟩
  · by_cases h2 : 131071 < key
    · clear h
      go_enter Try.func13, Try.ntmps13
      go_wp2
      go_ret2
      exact ⟨rfl, rfl⟩
    · have h3 : key % 2 = 0 := by omega
      clear h
      go_enter Try.func13, Try.ntmps13
      go_wp2
      go_ret2
      exact ⟨rfl, rfl⟩

set_option maxHeartbeats 1000000 in
theorem refName_yes (key : Int) (w : World) (h1 : 0 ≤ key) (h2 : key ≤ 131071) (h3 : key % 2 = 1) :
    Calls Try.prog 13 #[.int .i64 key] w fun e w' => e = .returned (.tuple #[.int .i64 (rv (key / 2)), .bool true]) ∧ w = w' := by
  go_enter Try.func13, Try.ntmps13
  go_wp2_with (go_at_call 15; refine (refRev_any _ _).mono ?_; rintro e w' ⟨rfl, rfl⟩)
  go_ret2
  exact ⟨rfl, rfl⟩

set_option maxHeartbeats 1000000 in
theorem refBucket_no (x s : Int) (w : World) (h : ¬ (1 ≤ s ∧ s ≤ 16)) :
    Calls Try.prog 23 #[.int .i64 x, .int .i64 s] w fun e w' => e = .returned (.int .i64 0) ∧ w = w' := by
  by_cases h1 : s < 1
  · clear h
    go_enter Try.func23, Try.ntmps23
    go_wp2
    go_ret
    exact ⟨rfl, rfl⟩
  · have h2 : 16 < s := by omega
    clear h
    go_enter Try.func23, Try.ntmps23
    go_wp2
    go_ret
    exact ⟨rfl, rfl⟩

set_option maxHeartbeats 1000000 in
theorem refBucket_yes (x s : Int) (w : World) (h1 : 1 ≤ s) (h2 : s ≤ 16) :
    Calls Try.prog 23 #[.int .i64 x, .int .i64 s] w fun e w' => e = .returned (.int .i64 ((x % 65536) % s)) ∧ w = w' := by
  have hc := Lib.hid (lo_cast x)
  have hs : (s == 0) = false := by simp; omega
  go_enter Try.func23, Try.ntmps23
  go_wp2_with (go_at_call 24; refine (low_any _ _).mono ?_; rintro e w' ⟨rfl, rfl⟩)
  go_ret
  exact ⟨ret_int (by rw [← hc.out]), rfl⟩

/-- The loop's number: a power of 2, none above n but for 1. -/
def Pw (t n : Nat) : Prop := ∃ j, j < 16 ∧ t = 2 ^ j ∧ (t ≤ n ∨ t = 1)
theorem pw_one (n : Nat) : Pw 1 n := ⟨0, by decide, rfl, Or.inr rfl⟩
theorem pw_bd {t n : Nat} (h : Pw t n) : 1 ≤ t ∧ t < 65536 := by
  obtain ⟨j, hj, rfl, _⟩ := h
  exact ⟨Nat.two_pow_pos j, Nat.pow_lt_pow_right (by decide) hj⟩
theorem pw_two {t n : Nat} (h : Pw t n) (h2 : 2 * t ≤ n) (hn : n < 65536) : Pw (2 * t) n := by
  obtain ⟨j, hj, rfl, _⟩ := h
  refine ⟨j + 1, ?_, by rw [Nat.pow_succ, Nat.mul_comm], Or.inl h2⟩
  by_cases c : j < 15
  · omega
  · obtain rfl : j = 15 := by omega
    omega
theorem pw_end {t n : Nat} (h : Pw t n) (h2 : n < 2 * t) (h0 : 0 < n) (hn : n < 65536) : par n = n - t ∧ t ≤ n := by
  obtain ⟨j, hj, rfl, h3⟩ := h
  obtain ⟨i, _, _, h4, h5, h6⟩ := top_bit n h0 hn
  have h7 : 2 ^ j ≤ n := by omega
  have e : i = j := by
    rcases Nat.lt_trichotomy i j with c | c | c
    · have : 2 ^ (i + 1) ≤ 2 ^ j := Nat.pow_le_pow_right (by decide) c
      omega
    · exact c
    · have h8 : 2 ^ (j + 1) ≤ 2 ^ i := Nat.pow_le_pow_right (by decide) c
      rw [Nat.pow_succ] at h8
      omega
  subst e
  exact ⟨h6, h7⟩

set_option maxHeartbeats 1000000 in
theorem refParent_any (x : Int) (w : World) :
    Calls Try.prog 21 #[.int .i64 x] w fun e w' => e = .returned (.int .i64 (par (lo x))) ∧ w = w' := by
  have hl := lo_lt x
  go_enter Try.func21, Try.ntmps21
  go_wp2_with (go_at_call 24; refine (low_any _ _).mono ?_; rintro e w' ⟨rfl, rfl⟩)
  go_loop [4] (fun v => ∃ t : Nat, Pw t (lo x) ∧ v = .int .i64 t) (fun v => 65536 - (intOf v).toNat)
  case atStart => exact ⟨1, pw_one _, rfl⟩
  case round =>
    obtain ⟨t, hp, rfl⟩ := hrel
    obtain ⟨hb1, hb2⟩ := pw_bd hp
    by_cases hlt : 2 * t ≤ lo x
    · have hp2 := pw_two hp hlt hl
      clear hp
      go_wp2
      go_round
      case rel => exact ⟨2 * t, hp2, by go_num⟩
      case measure => simp [intOf]; omega
    · by_cases h0 : lo x = 0
      · have hpar : par (lo x) = 0 := by rw [h0]; rfl
        have HP := Lib.hid hpar
        clear hpar hp
        go_wp2
        go_ret
        exact ⟨ret_int (by first | rfl | (rw [HP.out]; rfl)), rfl⟩
      · obtain ⟨hpar, hle⟩ := pw_end hp (by omega) (by omega) hl
        have HP := Lib.hid hpar
        have hz : (((lo x : Nat) : Int) == 0) = false := by simp; omega
        clear hpar hp h0
        go_wp2
        go_ret
        exact ⟨ret_int (by rw [HP.out]; omega), rfl⟩

set_option maxHeartbeats 1000000 in
theorem shown_any (w : World) : Calls Try.prog 11 #[] w fun e w' => e = .returned (.bool true) ∧ w = w' := by
  have e1 : rv (32769 / 2) = 2 := by decide +kernel
  have e2 : rv 1 = 32768 := by decide +kernel
  have e3 : 2 * rv 2 + 1 = 32769 := by decide +kernel
  have e4 : 2 * rv 1 = 65536 := by decide +kernel
  have e5 : ((par (lo 5) : Nat) : Int) = 1 := by decide +kernel
  have c1 : ∀ w, Calls Try.prog 12 #[.int .i64 32769] w fun e w' => e = .returned (.tuple #[.int .i64 2, .bool true]) ∧ w = w' := fun w => by
    have h := name_yes 32769 w (by decide) (by decide) (by decide); rw [e1] at h; exact h
  have c2 : ∀ w, Calls Try.prog 14 #[.int .i64 1] w fun e w' => e = .returned (.int .i64 32768) ∧ w = w' := fun w => by
    have h := rev_any 1 w; rw [e2] at h; exact h
  have c3 : ∀ w, Calls Try.prog 16 #[.int .i64 2] w fun e w' => e = .returned (.int .i64 32769) ∧ w = w' := fun w => by
    have h := ord_any 2 w; rw [e3] at h; exact h
  have c4 : ∀ w, Calls Try.prog 18 #[.int .i64 1] w fun e w' => e = .returned (.int .i64 65536) ∧ w = w' := fun w => by
    have h := sent_any 1 w; rw [e4] at h; exact h
  have c5 : ∀ w, Calls Try.prog 20 #[.int .i64 5] w fun e w' => e = .returned (.int .i64 1) ∧ w = w' := fun w => by
    have h := parent_any 5 w; rw [e5] at h; exact h
  clear e1 e2 e3 e4 e5
  go_enter Try.func11, Try.ntmps11
  go_wp2_with (first
    | (go_at_call 12; ((with_reducible refine (c1 _).mono ?_); rintro e w' ⟨rfl, rfl⟩))
    | (go_at_call 12; ((with_reducible refine (name_no 32768 _ (by decide)).mono ?_); rintro e w' ⟨rfl, rfl⟩))
    | (go_at_call 14; ((with_reducible refine (c2 _).mono ?_); rintro e w' ⟨rfl, rfl⟩))
    | (go_at_call 16; ((with_reducible refine (c3 _).mono ?_); rintro e w' ⟨rfl, rfl⟩))
    | (go_at_call 18; ((with_reducible refine (c4 _).mono ?_); rintro e w' ⟨rfl, rfl⟩))
    | (go_at_call 20; ((with_reducible refine (c5 _).mono ?_); rintro e w' ⟨rfl, rfl⟩))
    | (go_at_call 22; ((with_reducible refine (bucket_yes 7 4 _ (by decide) (by decide)).mono ?_); rintro e w' ⟨rfl, rfl⟩)))
  go_ret
  exact ⟨rfl, rfl⟩

end Go.Proofs.Ytpmhaigheadeeaa.RvWalks
