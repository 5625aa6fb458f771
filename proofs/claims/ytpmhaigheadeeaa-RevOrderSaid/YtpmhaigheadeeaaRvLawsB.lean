/- The walks over the statements of layer 10 that loop: each answers true. -/
import Derived.Test.YtpmhaigheadeeaaRvLaws
import Derived.Below
namespace Go.Proofs.Ytpmhaigheadeeaa.RvLawsB
open Go Go.RowKit Go.Proofs.Ytpmhaigheadeeaa.RvMath Go.Proofs.Ytpmhaigheadeeaa.RvWalks Go.Proofs.Ytpmhaigheadeeaa.RvLaws

theorem ret_bool {b : Bool} (h : b = true) : Ending.returned (.bool b) = .returned (.bool true) := by rw [h]
theorem pow_up (i m : Nat) (h : i ≤ m) : 2 ^ i ≤ 2 ^ m := Nat.pow_le_pow_right (by decide) h

theorem lo_mod (x : Int) (s : Nat) (h0 : 0 ≤ x) (h1 : x ≤ 65535) (_ : 0 < s) : lo (x % s) = lo x % s := by
  obtain ⟨n, rfl⟩ := Int.eq_ofNat_of_zero_le h0
  have h2 : n % s ≤ n := Nat.mod_le _ _
  rw [← Int.natCast_emod, lo_nat _ (by omega), lo_nat _ (by omega)]

theorem lo_mod_any (o : Int) (s : Nat) (h0 : 0 ≤ o) (hs : 0 < s) (hs2 : s ≤ 65536) : lo (o % s) = o.toNat % s ∧ o.toNat % s < s := by
  obtain ⟨n, rfl⟩ := Int.eq_ofNat_of_zero_le h0
  have h2 : n % s < s := Nat.mod_lt _ hs
  rw [← Int.natCast_emod, lo_nat _ (by omega), Int.toNat_natCast]
  exact ⟨rfl, h2⟩

theorem splits_int (x o : Int) (j s : Nat) (hj : j ≤ 4) (hs : s = 2 ^ j) (h0 : 0 ≤ x) (h1 : x ≤ 65535) (ho : 0 ≤ o) :
    rv (x % s) ≤ rv x ∧ (rv (x % s) < rv (o % s) → rv x < rv (o % s)) := by
  have hp : 0 < s := by rw [hs]; exact Nat.two_pow_pos j
  have hle : s ≤ 65536 := by rw [hs]; exact pow_up j 16 (by omega)
  obtain ⟨e2, e3⟩ := lo_mod_any o s ho hp hle
  have e1 := lo_mod x s h0 h1 hp
  unfold rv
  rw [e1, e2]
  have h := splits j (lo x) (o.toNat % s) (by omega) (by rw [← hs]; exact e3)
  rw [← hs] at h
  omega

theorem split_up_int (x : Int) (j s : Nat) (hj : j ≤ 3) (hs : s = 2 ^ j) (h0 : 0 ≤ x) (h1 : x ≤ 65535) :
    rv (x % s) ≤ rv (x % (2 * s : Nat)) ∧ rv (x % (2 * s : Nat)) ≤ rv x ∧ (x % (2 * s : Nat) = x % s ∨ (x % (2 * s : Nat) = x % s + s ∧ ((par (lo (x % (2 * s : Nat))) : Nat) : Int) = x % s)) := by
  have hp : 0 < s := by rw [hs]; exact Nat.two_pow_pos j
  have hle : s ≤ 8 := by rw [hs]; exact pow_up j 3 (by omega)
  have e1 := lo_mod x s h0 h1 hp
  have e2 := lo_mod x (2 * s) h0 h1 (by omega)
  have hs2 : 2 * s = 2 ^ (j + 1) := by rw [Nat.pow_succ, hs, Nat.mul_comm]
  have h2 := split_up j (lo x) (by omega)
  have h3 := (splits (j + 1) (lo x) 0 (by omega) (Nat.two_pow_pos _)).1
  rw [← hs, ← hs2] at h2
  rw [← hs2] at h3
  refine ⟨by unfold rv; rw [e1, e2]; omega, by unfold rv; rw [e2]; omega, ?_⟩
  obtain ⟨n, rfl⟩ := Int.eq_ofNat_of_zero_le h0
  have hlt : n % s < s := Nat.mod_lt _ hp
  rcases mod_double n s hp with h | h
  · left; rw [← Int.natCast_emod, ← Int.natCast_emod, h]
  · right
    rw [← Int.natCast_emod, ← Int.natCast_emod, h]
    refine ⟨by omega, ?_⟩
    rw [lo_nat _ (by omega), hs, par_add _ j (by omega) (by rw [← hs]; exact hlt)]

theorem mod_lt_int (x : Int) (s : Nat) (hs : 0 < s) : 0 ≤ x % s ∧ x % s < s := ⟨Int.emod_nonneg _ (by omega), Int.emod_lt_of_pos _ (by omega)⟩

theorem pow_small (i : Nat) (h : i ≤ 4) : 1 ≤ 2 ^ i ∧ 2 ^ i ≤ 16 := ⟨Nat.two_pow_pos i, pow_up i 4 h⟩

set_option maxHeartbeats 4000000 in
theorem revSplits_any (x k o : Int) (w : World) (hx0 : 0 ≤ x) (hx1 : x ≤ 65535) (hk0 : 0 ≤ k) (hk1 : k ≤ 255) (ho0 : 0 ≤ o) (ho1 : o ≤ 255) :
    Calls Try.prog 5 #[.int .u16 x, .int .u8 k, .int .u8 o] w fun e w' => e = .returned (.bool true) ∧ w = w' := by
  obtain ⟨j, hj⟩ : ∃ j : Nat, k % 4 = j := ⟨(k % 4).toNat, by omega⟩
  have hj4 : j < 4 := by omega
  go_enter Try.func5, Try.ntmps5
  go_wp2_with (go_at_call 11; ((with_reducible refine (shown_any _).mono ?_); rintro e w' ⟨rfl, rfl⟩))
  go_loop [8, 9] (fun s i => ∃ n : Nat, n ≤ j ∧ i = .int .i64 n ∧ s = .int .i64 ((2 ^ n : Nat) : Int)) (fun _ i => 4 - (intOf i).toNat)
  case atStart => exact ⟨0, by omega, rfl, rfl⟩
  case round =>
    obtain ⟨i, hi, rfl, rfl⟩ := hrel
    obtain ⟨hs1, hs2⟩ := pow_small i (by omega)
    obtain ⟨s, hs⟩ : ∃ s : Nat, s = 2 ^ i := ⟨_, rfl⟩
    rw [← hs] at hs1 hs2 ⊢
    by_cases hlt : i < j
    · have hs3 := pow_small (i + 1) (by omega)
      have hs4 : 2 * s = 2 ^ (i + 1) := by rw [hs, Nat.pow_succ, Nat.mul_comm]
      have HS := Lib.hid hs4
      clear hs hs4
      go_wp2
      go_round
      case rel => exact ⟨i + 1, by omega, by go_num, by rw [← HS.out]; go_num⟩
      case measure => simp [intOf]; omega
    · obtain rfl : i = j := by omega
      obtain ⟨f1, f2⟩ := splits_int x o i s (by omega) hs hx0 hx1 ho0
      obtain ⟨f3, f4, f5⟩ := split_up_int x i s (by omega) hs hx0 hx1
      obtain ⟨g1, g2⟩ := mod_lt_int x s (by omega)
      obtain ⟨g3, g4⟩ := mod_lt_int o s (by omega)
      have hs8 : s ≤ 8 := by rw [hs]; exact pow_up i 3 (by omega)
      obtain ⟨b, hb⟩ : ∃ b : Int, x % s = b := ⟨_, rfl⟩
      obtain ⟨q, hq⟩ : ∃ q : Int, o % s = q := ⟨_, rfl⟩
      obtain ⟨c, hc⟩ : ∃ c : Int, x % (2 * s : Nat) = c := ⟨_, rfl⟩
      rw [hb] at f1 f2 f3 f5 g1 g2
      rw [hq] at f2 g3 g4
      rw [hc] at f3 f4 f5
      obtain ⟨P, hP⟩ : ∃ P : Int, rv x = P := ⟨_, rfl⟩
      obtain ⟨B, hB⟩ : ∃ P : Int, rv b = P := ⟨_, rfl⟩
      obtain ⟨O, hO⟩ : ∃ P : Int, rv q = P := ⟨_, rfl⟩
      obtain ⟨C, hC⟩ : ∃ P : Int, rv c = P := ⟨_, rfl⟩
      obtain ⟨p0, p1⟩ := rv_bd x
      obtain ⟨b0, b1⟩ := rv_bd b
      obtain ⟨o0, o1⟩ := rv_bd q
      obtain ⟨c0, c1⟩ := rv_bd c
      rw [hP] at f1 f2 f4 p0 p1
      rw [hB] at f1 f2 f3 b0 b1
      rw [hO] at f2 o0 o1
      rw [hC] at f3 f4 c0 c1
      have cB := fun w => bucket_at x s b w (by omega) (by omega) (by rw [show x % 65536 = x by omega]; exact hb)
      have cC := fun w => bucket_at x (2 * s) c w (by omega) (by omega) (by rw [show x % 65536 = x by omega]; exact hc)
      have cP := fun w => ord_at x (2 * P + 1) w (by rw [hP])
      have cSb := fun w => sent_at b (2 * B) w (by rw [hB])
      have cSo := fun w => sent_at q (2 * O) w (by rw [hO])
      have cSc := fun w => sent_at c (2 * C) w (by rw [hC])
      have hz : (((s : Nat) : Int) == 0) = false := by simp; omega
      clear hs hP hB hO hC hb hc hlt
      rcases f5 with f5 | ⟨f5, f6⟩
      · obtain rfl := f5
        by_cases hgt : B < O
        · have f2' := f2 hgt
          clear f2
          go_wp2_with (first
    | (go_at_call 22; ((with_reducible refine (cB _).mono ?_); rintro e w' ⟨rfl, rfl⟩))
    | (go_at_call 22; ((with_reducible refine (cC _).mono ?_); rintro e w' ⟨rfl, rfl⟩))
    | (go_at_call 16; ((with_reducible refine (cP _).mono ?_); rintro e w' ⟨rfl, rfl⟩))
    | (go_at_call 18; ((with_reducible refine (cSb _).mono ?_); rintro e w' ⟨rfl, rfl⟩))
    | (go_at_call 18; ((with_reducible refine (cSo _).mono ?_); rintro e w' ⟨rfl, rfl⟩))
    | (go_at_call 18; ((with_reducible refine (cSc _).mono ?_); rintro e w' ⟨rfl, rfl⟩)))
          go_ret
          exact ⟨ret_bool (by first | rfl | (simp; done) | (simp; omega)), rfl⟩
        · clear f2
          go_wp2_with (first
    | (go_at_call 22; ((with_reducible refine (cB _).mono ?_); rintro e w' ⟨rfl, rfl⟩))
    | (go_at_call 22; ((with_reducible refine (cC _).mono ?_); rintro e w' ⟨rfl, rfl⟩))
    | (go_at_call 16; ((with_reducible refine (cP _).mono ?_); rintro e w' ⟨rfl, rfl⟩))
    | (go_at_call 18; ((with_reducible refine (cSb _).mono ?_); rintro e w' ⟨rfl, rfl⟩))
    | (go_at_call 18; ((with_reducible refine (cSo _).mono ?_); rintro e w' ⟨rfl, rfl⟩))
    | (go_at_call 18; ((with_reducible refine (cSc _).mono ?_); rintro e w' ⟨rfl, rfl⟩)))
          go_ret
          exact ⟨ret_bool (by first | rfl | (simp; done) | (simp; omega)), rfl⟩
      · have cPar := fun w => parent_at c b w f6
        have hne : (c == b) = false := by simp; omega
        obtain rfl := f5
        clear f6
        by_cases hgt : B < O
        · have f2' := f2 hgt
          clear f2
          go_wp2_with (first
    | (go_at_call 22; ((with_reducible refine (cB _).mono ?_); rintro e w' ⟨rfl, rfl⟩))
    | (go_at_call 22; ((with_reducible refine (cC _).mono ?_); rintro e w' ⟨rfl, rfl⟩))
    | (go_at_call 16; ((with_reducible refine (cP _).mono ?_); rintro e w' ⟨rfl, rfl⟩))
    | (go_at_call 18; ((with_reducible refine (cSb _).mono ?_); rintro e w' ⟨rfl, rfl⟩))
    | (go_at_call 18; ((with_reducible refine (cSo _).mono ?_); rintro e w' ⟨rfl, rfl⟩))
    | (go_at_call 18; ((with_reducible refine (cSc _).mono ?_); rintro e w' ⟨rfl, rfl⟩))
    | (go_at_call 20; ((with_reducible refine (cPar _).mono ?_); rintro e w' ⟨rfl, rfl⟩)))
          go_ret
          exact ⟨ret_bool (by first | rfl | (simp; done) | (simp; omega)), rfl⟩
        · clear f2
          go_wp2_with (first
    | (go_at_call 22; ((with_reducible refine (cB _).mono ?_); rintro e w' ⟨rfl, rfl⟩))
    | (go_at_call 22; ((with_reducible refine (cC _).mono ?_); rintro e w' ⟨rfl, rfl⟩))
    | (go_at_call 16; ((with_reducible refine (cP _).mono ?_); rintro e w' ⟨rfl, rfl⟩))
    | (go_at_call 18; ((with_reducible refine (cSb _).mono ?_); rintro e w' ⟨rfl, rfl⟩))
    | (go_at_call 18; ((with_reducible refine (cSo _).mono ?_); rintro e w' ⟨rfl, rfl⟩))
    | (go_at_call 18; ((with_reducible refine (cSc _).mono ?_); rintro e w' ⟨rfl, rfl⟩))
    | (go_at_call 20; ((with_reducible refine (cPar _).mono ?_); rintro e w' ⟨rfl, rfl⟩)))
          go_ret
          exact ⟨ret_bool (by first | rfl | (simp; done) | (simp; omega)), rfl⟩

theorem parent_int (n : Nat) (h0 : 0 < n) (i : Nat) (hi : i ≤ 16) (h1 : n < 2 ^ (16 - i)) :
    ∃ p j : Nat, par n = p ∧ i < 16 ∧ n = p + 2 ^ j ∧ p < 2 ^ j ∧ j < 16 ∧ rv p < rv n ∧ p < 2 ^ (16 - (i + 1)) ∧ n < 65536 := by
  have hn : n < 65536 := Nat.lt_of_lt_of_le h1 (by have := pow_up (16 - i) 16 (by omega); omega)
  obtain ⟨j, hj, e1, e2, e3⟩ := parent_of n h0 hn
  have hi2 : i < 16 := by
    by_cases c : i < 16
    · exact c
    · obtain rfl : i = 16 := by omega
      simp at h1; omega
  refine ⟨par n, j, rfl, hi2, e1, e2, hj, ?_, ?_, hn⟩
  · unfold rv; rw [lo_nat _ hn, lo_nat _ (by omega)]; omega
  · rw [show 16 - i = 16 - (i + 1) + 1 by omega, Nat.pow_succ] at h1
    by_cases c : j ≤ 16 - (i + 1)
    · have := pow_up j _ c; omega
    · have := pow_up (16 - (i + 1)) j (by omega); omega

/-- A power of 2 on its way down. -/
def Two (t : Nat) : Prop := ∃ m, m < 16 ∧ t = 2 ^ m
theorem two_of (j : Nat) (h : j < 16) : Two (2 ^ j) := ⟨j, h, rfl⟩
theorem two_step {t : Nat} (h : Two t) : 1 ≤ t ∧ t < 65536 ∧ (t % 2 = 0 → Two (t / 2)) ∧ (t % 2 = 1 → t = 1) := by
  obtain ⟨m, hm, rfl⟩ := h
  refine ⟨Nat.two_pow_pos m, Nat.pow_lt_pow_right (by decide) hm, ?_, ?_⟩
  · intro h
    cases m with
    | zero => simp at h
    | succ m => exact ⟨m, by omega, by rw [Nat.pow_succ]; omega⟩
  · intro h
    cases m with
    | zero => rfl
    | succ m => rw [Nat.pow_succ] at h; omega

set_option maxHeartbeats 4000000 in
theorem revParents_any (x : Int) (w : World) (hx0 : 0 ≤ x) (hx1 : x ≤ 65535) :
    Calls Try.prog 6 #[.int .u16 x] w fun e w' => e = .returned (.bool true) ∧ w = w' := by
  obtain ⟨n0, rfl⟩ := Int.eq_ofNat_of_zero_le hx0
  go_enter Try.func6, Try.ntmps6
  go_wp2_with (go_at_call 11; ((with_reducible refine (shown_any _).mono ?_); rintro e w' ⟨rfl, rfl⟩))
  go_loop [4, 5, 6, 7] (fun v i _ _ => ∃ n k : Nat, k ≤ 16 ∧ n < 2 ^ (16 - k) ∧ i = .int .i64 k ∧ v = .int .i64 n) (fun _ i _ _ => 17 - (intOf i).toNat)
  case atStart => exact ⟨n0, 0, by omega, by simp; omega, rfl, rfl⟩
  case round =>
    obtain ⟨n, k, hk, hn, rfl, rfl⟩ := hrel
    by_cases h0 : n = 0
    · obtain rfl := h0
      have cPar := fun w => parent_at 0 0 w (by decide +kernel)
      clear hn
      go_wp2_with (go_at_call 20; ((with_reducible refine (cPar _).mono ?_); rintro e w' ⟨rfl, rfl⟩))
      go_ret
      exact ⟨rfl, rfl⟩
    · obtain ⟨p, j, hp, hk2, he, hpj, hj, hrv, hpn, hn2⟩ := parent_int n (by omega) k hk hn
      obtain ⟨T, hT⟩ : ∃ T : Nat, 2 ^ j = T := ⟨_, rfl⟩
      have hTwo := two_of j hj
      rw [hT] at he hpj hTwo
      obtain ⟨t1, t2, _, _⟩ := two_step hTwo
      obtain ⟨R, hR⟩ : ∃ R : Int, rv p = R := ⟨_, rfl⟩
      obtain ⟨U, hU⟩ : ∃ U : Int, rv n = U := ⟨_, rfl⟩
      obtain ⟨r0, r1⟩ := rv_bd p
      obtain ⟨u0, u1⟩ := rv_bd n
      rw [hR, hU] at hrv
      rw [hR] at r0 r1
      rw [hU] at u0 u1
      have cPar := fun w => parent_at n p w (by rw [lo_nat _ hn2, hp])
      have cSp := fun w => sent_at p (2 * R) w (by rw [hR])
      have cSn := fun w => sent_at n (2 * U) w (by rw [hU])
      have hnz : 0 < n := by omega
      have hle : p < n := by omega
      have hgt : p < n - p := by omega
      have HE := Lib.hid he
      clear hR hU hT hp h0 hn he
      go_wp2_with (first
    | (go_at_call 20; ((with_reducible refine (cPar _).mono ?_); rintro e w' ⟨rfl, rfl⟩))
    | (go_at_call 18; ((with_reducible refine (cSp _).mono ?_); rintro e w' ⟨rfl, rfl⟩))
    | (go_at_call 18; ((with_reducible refine (cSn _).mono ?_); rintro e w' ⟨rfl, rfl⟩)))
      go_loop [7] (fun v => ∃ t : Nat, Two t ∧ v = .int .i64 t) (fun v => (intOf v).toNat)
      case atStart => exact ⟨T, hTwo, by have := HE.out; go_num⟩
      case round =>
        obtain ⟨t, ht, rfl⟩ := hrel
        obtain ⟨s1, s2, s3, s4⟩ := two_step ht
        by_cases hodd : t % 2 = 0
        · have s3' := s3 hodd
          clear s3 s4
          go_wp2
          go_round
          case rel => exact ⟨t / 2, s3', by go_num⟩
          case measure => simp [intOf]; omega
        · have s4' := s4 (by omega)
          obtain rfl := s4'
          clear s3 s4 ht hodd s1 s2
          go_wp2
          go_round
          case rel => exact ⟨p, k + 1, by omega, hpn, by go_num, rfl⟩
          case measure => simp [intOf]; omega

end Go.Proofs.Ytpmhaigheadeeaa.RvLawsB
