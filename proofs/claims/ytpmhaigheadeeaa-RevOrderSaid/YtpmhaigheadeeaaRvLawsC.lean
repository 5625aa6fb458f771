/- The walks over two more statements of layer 10 that loop: RevBits and RevOrder: each answers true. -/
import Derived.Test.YtpmhaigheadeeaaRvLawsB
import Derived.Deep.QuietTactic
import Derived.BigQuiet
import Derived.WalkSmall
namespace Go.Proofs.Ytpmhaigheadeeaa.RvLawsC
open Go Go.RowKit Go.Proofs.Ytpmhaigheadeeaa.RvMath Go.Proofs.Ytpmhaigheadeeaa.RvWalks Go.Proofs.Ytpmhaigheadeeaa.RvLaws Go.Proofs.Ytpmhaigheadeeaa.RvLawsB

set_option maxRecDepth 100000 in
set_option maxHeartbeats 4000000 in
theorem revBits_0 (x k m : Int) (l P : Nat) (w : World) (hk0 : 0 ≤ k) (hk1 : k ≤ 255) (hm : x.tmod 65536 = m) (hs : 0 ≤ m) (_ : -65536 < m) (hm1 : m < 65536) (hl : m = (l : Int)) (hlo : lo x = l) (hl2 : l < 65536) (hP : rvG 16 l = P) :
    Calls Try.prog 7 #[.int .i64 x, .int .u8 k] w fun e w' => e = .returned (.bool true) ∧ w = w' := by
  obtain ⟨j, hj⟩ : ∃ j : Nat, k % 16 = j := ⟨(k % 16).toNat, by omega⟩
  have hj4 : j < 16 := by omega
  have hP2 : P < 65536 := by rw [← hP]; exact rvG_lt 16 l
  have hrx : rv x = (P : Int) := by unfold rv; rw [hlo, hP]
  have hrl : rv (m) = (P : Int) := by rw [hl]; unfold rv; rw [lo_nat l hl2, hP]
  obtain ⟨y, hy⟩ : ∃ y : Int, (P : Int) = y := ⟨_, rfl⟩
  have hy0 : 0 ≤ y := by omega
  have hy1 : y < 65536 := by omega
  rw [hy] at hrx hrl
  have hbit : P / 2 ^ (15 - j) % 2 = l / 2 ^ j % 2 := by rw [← hP]; exact bit_at l j hj4
  have cX := fun w => rev_at x y w hrx
  have cL := fun w => rev_at (m) y w hrl
  have cS := fun w => sent_at x (2 * y) w (by rw [hrx])
  have HL := Lib.hid hl
  have HB := Lib.hid hbit
  have HY := Lib.hid hy
  have hPb : (P : Int) ≤ 9223372036854775807 := by omega
  clear hlo hP hrx hrl hbit hl hy hP2
  go_enter Try.func7, Try.ntmps7
  go_wp2_with (first
    | (go_at_call 11; ((with_reducible refine (shown_any _).mono ?_); rintro e w' ⟨rfl, rfl⟩))
    | (go_at_call 14; ((with_reducible refine (cX _).mono ?_); rintro e w' ⟨rfl, rfl⟩)))
  go_loop [9, 10] (fun v i => ∃ n : Nat, n ≤ j ∧ i = .int .i64 n ∧ v = .int .i64 ((l / 2 ^ n : Nat) : Int)) (fun _ i => 16 - (intOf i).toNat)
  case atStart => exact ⟨0, by omega, rfl, by have := HL.out; simp; omega⟩
  case round =>
    obtain ⟨n, hn, rfl, rfl⟩ := hrel
    by_cases hlt : n < j
    · have h1 : l / 2 ^ (n + 1) = l / 2 ^ n / 2 := by rw [Nat.div_div_eq_div_mul, Nat.pow_succ]
      have H1 := Lib.hid h1
      have hle := Nat.div_le_self l (2 ^ n)
      clear h1
      obtain ⟨q, hq⟩ : ∃ q : Nat, q = l / 2 ^ n := ⟨_, rfl⟩
      rw [← hq] at hle ⊢
      have HQ := Lib.hid hq
      clear hq
      go_wp2
      go_round
      case rel => exact ⟨n + 1, by omega, by go_num, by rw [H1.out, ← HQ.out]; go_num⟩
      case measure => simp [intOf]; omega
    · obtain rfl : n = j := by omega
      have hle := Nat.div_le_self l (2 ^ n)
      obtain ⟨q, hq⟩ : ∃ q : Nat, q = l / 2 ^ n := ⟨_, rfl⟩
      rw [← hq] at hle ⊢
      have HQ := Lib.hid hq
      clear hq hlt
      go_wp2
      go_loop [11, 12] (fun v i => ∃ c : Nat, c ≤ 15 - n ∧ i = .int .i64 c ∧ v = .int .i64 ((P / 2 ^ c : Nat) : Int)) (fun _ i => 16 - (intOf i).toNat)
      case atStart => exact ⟨0, by omega, rfl, by have := HY.out; simp; omega⟩
      case round =>
        obtain ⟨c, hc, rfl, rfl⟩ := hrel
        by_cases hlt : c < 15 - n
        · have h1 : P / 2 ^ (c + 1) = P / 2 ^ c / 2 := by rw [Nat.div_div_eq_div_mul, Nat.pow_succ]
          have H1 := Lib.hid h1
          have hle2 := Nat.div_le_self P (2 ^ c)
          clear h1
          obtain ⟨u, hu⟩ : ∃ u : Nat, u = P / 2 ^ c := ⟨_, rfl⟩
          rw [← hu] at hle2 ⊢
          have HU := Lib.hid hu
          clear hu
          have hlt2 : (c : Int) < 15 - (n : Int) := by omega
          go_wp2
          go_round
          case rel => exact ⟨c + 1, by omega, by go_num, by rw [H1.out, ← HU.out]; go_num⟩
          case measure => simp [intOf]; omega
        · have hce : c = 15 - n := by omega
          have hle2 := Nat.div_le_self P (2 ^ c)
          obtain ⟨u, hu⟩ : ∃ u : Nat, u = P / 2 ^ c := ⟨_, rfl⟩
          have hb := HB.out
          have hq2 := HQ.out
          rw [← hce] at hb
          rw [← hu] at hle2 hb ⊢
          rw [← hq2] at hb
          have hpar : (q : Int) % 2 = (u : Int) % 2 := by omega
          have hcase : ((q : Int) % 2 = 0 ∧ (u : Int) % 2 = 0) ∨ ((q : Int) % 2 = 1 ∧ (u : Int) % 2 = 1) := by omega
          have hge : (15 : Int) - (n : Int) ≤ (c : Int) := by omega
          clear hu hb hq2 hpar hce hlt
          rcases hcase with ⟨z1, z2⟩ | ⟨z1, z2⟩
          all_goals
            go_wp2_with (first
    | (go_at_call 14; ((with_reducible refine (cL _).mono ?_); rintro e w' ⟨rfl, rfl⟩))
    | (go_at_call 18; ((with_reducible refine (cS _).mono ?_); rintro e w' ⟨rfl, rfl⟩)))
            go_ret
            exact ⟨ret_bool (by first | rfl | (simp; done) | (simp; omega)), rfl⟩

set_option maxRecDepth 100000 in
set_option maxHeartbeats 4000000 in
theorem revBits_1 (x k m : Int) (l P : Nat) (w : World) (hk0 : 0 ≤ k) (hk1 : k ≤ 255) (hm : x.tmod 65536 = m) (hs : m < 0) (hm0 : -65536 < m) (_ : m < 65536) (hl : m + 65536 = (l : Int)) (hlo : lo x = l) (hl2 : l < 65536) (hP : rvG 16 l = P) :
    Calls Try.prog 7 #[.int .i64 x, .int .u8 k] w fun e w' => e = .returned (.bool true) ∧ w = w' := by
  obtain ⟨j, hj⟩ : ∃ j : Nat, k % 16 = j := ⟨(k % 16).toNat, by omega⟩
  have hj4 : j < 16 := by omega
  have hP2 : P < 65536 := by rw [← hP]; exact rvG_lt 16 l
  have hrx : rv x = (P : Int) := by unfold rv; rw [hlo, hP]
  have hrl : rv (m + 65536) = (P : Int) := by rw [hl]; unfold rv; rw [lo_nat l hl2, hP]
  obtain ⟨y, hy⟩ : ∃ y : Int, (P : Int) = y := ⟨_, rfl⟩
  have hy0 : 0 ≤ y := by omega
  have hy1 : y < 65536 := by omega
  rw [hy] at hrx hrl
  have hbit : P / 2 ^ (15 - j) % 2 = l / 2 ^ j % 2 := by rw [← hP]; exact bit_at l j hj4
  have cX := fun w => rev_at x y w hrx
  have cL := fun w => rev_at (m + 65536) y w hrl
  have cS := fun w => sent_at x (2 * y) w (by rw [hrx])
  have HL := Lib.hid hl
  have HB := Lib.hid hbit
  have HY := Lib.hid hy
  have hPb : (P : Int) ≤ 9223372036854775807 := by omega
  clear hlo hP hrx hrl hbit hl hy hP2
  go_enter Try.func7, Try.ntmps7
  go_wp2_with (first
    | (go_at_call 11; ((with_reducible refine (shown_any _).mono ?_); rintro e w' ⟨rfl, rfl⟩))
    | (go_at_call 14; ((with_reducible refine (cX _).mono ?_); rintro e w' ⟨rfl, rfl⟩)))
  go_loop [9, 10] (fun v i => ∃ n : Nat, n ≤ j ∧ i = .int .i64 n ∧ v = .int .i64 ((l / 2 ^ n : Nat) : Int)) (fun _ i => 16 - (intOf i).toNat)
  case atStart => exact ⟨0, by omega, rfl, by have := HL.out; simp; omega⟩
  case round =>
    obtain ⟨n, hn, rfl, rfl⟩ := hrel
    by_cases hlt : n < j
    · have h1 : l / 2 ^ (n + 1) = l / 2 ^ n / 2 := by rw [Nat.div_div_eq_div_mul, Nat.pow_succ]
      have H1 := Lib.hid h1
      have hle := Nat.div_le_self l (2 ^ n)
      clear h1
      obtain ⟨q, hq⟩ : ∃ q : Nat, q = l / 2 ^ n := ⟨_, rfl⟩
      rw [← hq] at hle ⊢
      have HQ := Lib.hid hq
      clear hq
      go_wp2
      go_round
      case rel => exact ⟨n + 1, by omega, by go_num, by rw [H1.out, ← HQ.out]; go_num⟩
      case measure => simp [intOf]; omega
    · obtain rfl : n = j := by omega
      have hle := Nat.div_le_self l (2 ^ n)
      obtain ⟨q, hq⟩ : ∃ q : Nat, q = l / 2 ^ n := ⟨_, rfl⟩
      rw [← hq] at hle ⊢
      have HQ := Lib.hid hq
      clear hq hlt
      go_wp2
      go_loop [11, 12] (fun v i => ∃ c : Nat, c ≤ 15 - n ∧ i = .int .i64 c ∧ v = .int .i64 ((P / 2 ^ c : Nat) : Int)) (fun _ i => 16 - (intOf i).toNat)
      case atStart => exact ⟨0, by omega, rfl, by have := HY.out; simp; omega⟩
      case round =>
        obtain ⟨c, hc, rfl, rfl⟩ := hrel
        by_cases hlt : c < 15 - n
        · have h1 : P / 2 ^ (c + 1) = P / 2 ^ c / 2 := by rw [Nat.div_div_eq_div_mul, Nat.pow_succ]
          have H1 := Lib.hid h1
          have hle2 := Nat.div_le_self P (2 ^ c)
          clear h1
          obtain ⟨u, hu⟩ : ∃ u : Nat, u = P / 2 ^ c := ⟨_, rfl⟩
          rw [← hu] at hle2 ⊢
          have HU := Lib.hid hu
          clear hu
          have hlt2 : (c : Int) < 15 - (n : Int) := by omega
          go_wp2
          go_round
          case rel => exact ⟨c + 1, by omega, by go_num, by rw [H1.out, ← HU.out]; go_num⟩
          case measure => simp [intOf]; omega
        · have hce : c = 15 - n := by omega
          have hle2 := Nat.div_le_self P (2 ^ c)
          obtain ⟨u, hu⟩ : ∃ u : Nat, u = P / 2 ^ c := ⟨_, rfl⟩
          have hb := HB.out
          have hq2 := HQ.out
          rw [← hce] at hb
          rw [← hu] at hle2 hb ⊢
          rw [← hq2] at hb
          have hpar : (q : Int) % 2 = (u : Int) % 2 := by omega
          have hcase : ((q : Int) % 2 = 0 ∧ (u : Int) % 2 = 0) ∨ ((q : Int) % 2 = 1 ∧ (u : Int) % 2 = 1) := by omega
          have hge : (15 : Int) - (n : Int) ≤ (c : Int) := by omega
          clear hu hb hq2 hpar hce hlt
          rcases hcase with ⟨z1, z2⟩ | ⟨z1, z2⟩
          all_goals
            go_wp2_with (first
    | (go_at_call 14; ((with_reducible refine (cL _).mono ?_); rintro e w' ⟨rfl, rfl⟩))
    | (go_at_call 18; ((with_reducible refine (cS _).mono ?_); rintro e w' ⟨rfl, rfl⟩)))
            go_ret
            exact ⟨ret_bool (by first | rfl | (simp; done) | (simp; omega)), rfl⟩

theorem revBits_any (x k : Int) (w : World) (hk0 : 0 ≤ k) (hk1 : k ≤ 255) :
    Calls Try.prog 7 #[.int .i64 x, .int .u8 k] w fun e w' => e = .returned (.bool true) ∧ w = w' := by
  have hl := lo_cast x
  have ht := tmod_low x
  obtain ⟨m, hm⟩ : ∃ m : Int, x.tmod 65536 = m := ⟨_, rfl⟩
  have hb : -65536 < m ∧ m < 65536 := by rw [← hm, ht]; split <;> omega
  have hv : (if m < 0 then m + 65536 else m) = ((lo x : Nat) : Int) := by rw [← hm, ht]; split <;> split <;> omega
  by_cases h0 : m < 0
  · rw [if_pos h0] at hv
    exact revBits_1 x k m (lo x) _ w hk0 hk1 hm h0 hb.1 hb.2 hv rfl (lo_lt x) rfl
  · rw [if_neg h0] at hv
    exact revBits_0 x k m (lo x) _ w hk0 hk1 hm (by omega) hb.1 hb.2 hv rfl (lo_lt x) rfl

/-- Of two names of one bucket none of another bucket's key lies between. -/
theorem order_int (x y o : Int) (j s : Nat) (hj : j ≤ 4) (hs : s = 2 ^ j) (hx0 : 0 ≤ x) (hx1 : x ≤ 65535) (hy0 : 0 ≤ y) (hy1 : y ≤ 65535) (ho : 0 ≤ o) (e : y % s = x % s) :
    (rv (o % s) ≤ rv x ∧ rv (o % s) ≤ rv y) ∨ (rv x < rv (o % s) ∧ rv y < rv (o % s)) := by
  obtain ⟨f1, f2⟩ := splits_int x o j s hj hs hx0 hx1 ho
  obtain ⟨g1, g2⟩ := splits_int y o j s hj hs hy0 hy1 ho
  rw [e] at g1 g2
  by_cases c : rv (x % s) < rv (o % s)
  · exact Or.inr ⟨f2 c, g2 c⟩
  · exact Or.inl ⟨by omega, by omega⟩

theorem same_bucket (x y : Int) (s : Nat) (hs : 0 < s) (_ : 0 ≤ x) (hy0 : 0 ≤ y) : (y / s * s + x % s) % s = x % s ∧ 0 ≤ y / s * s + x % s ∧ y / s * s ≤ y ∧ 0 ≤ y / s ∧ y / s ≤ y ∧ 0 ≤ y / s * s := by
  have h2 : 0 ≤ x % s := Int.emod_nonneg _ (by omega)
  have h3 : x % s < s := Int.emod_lt_of_pos _ (by omega)
  have h4 : 0 ≤ y / s := Int.ediv_nonneg hy0 (by omega)
  have h5 : y / s * s ≤ y := Int.ediv_mul_le _ (by omega)
  have h6 : 0 ≤ y / s * s := Int.mul_nonneg h4 (by omega)
  refine ⟨?_, by omega, h5, h4, ?_, h6⟩
  · rw [Int.add_comm, Int.add_mul_emod_self_right, Int.emod_eq_of_lt h2 h3]
  · have h7 : y / s * 1 ≤ y / s * s := Int.mul_le_mul_of_nonneg_left (by omega) h4
    omega

set_option maxRecDepth 100000 in
set_option maxHeartbeats 8000000 in
theorem revOrder_any (x y k o : Int) (w : World) (hx0 : 0 ≤ x) (hx1 : x ≤ 65535) (hy0 : 0 ≤ y) (hy1 : y ≤ 65535) (hk0 : 0 ≤ k) (hk1 : k ≤ 255) (ho0 : 0 ≤ o) (ho1 : o ≤ 255) :
    Calls Try.prog 10 #[.agg #[.int .u16 x, .int .u16 y, .int .u8 k, .int .u8 o]] w fun e w' => e = .returned (.bool true) ∧ Below w.heap.size w w' := by
  obtain ⟨j, hj⟩ : ∃ j : Nat, k % 5 = j := ⟨(k % 5).toNat, by omega⟩
  have hj4 : j < 5 := by omega
  go_enter Try.func10, Try.ntmps10
  go_wp2_with (go_at_call 11; ((with_reducible refine (shown_any _).mono ?_); rintro e w' ⟨rfl, rfl⟩))
  go_loop [8, 9] (fun s i => ∃ n : Nat, n ≤ j ∧ i = .int .i64 n ∧ s = .int .i64 ((2 ^ n : Nat) : Int)) (fun _ i => 5 - (intOf i).toNat)
  case atStart => exact ⟨0, by omega, rfl, rfl⟩
  case round =>
    obtain ⟨i, hi, rfl, rfl⟩ := hrel
    obtain ⟨hs1, hs2⟩ := pow_small i (by omega)
    obtain ⟨s, hs⟩ : ∃ s : Nat, s = 2 ^ i := ⟨_, rfl⟩
    rw [← hs] at hs1 hs2 ⊢
    by_cases hlt : i < j
    · have hs4 : 2 * s = 2 ^ (i + 1) := by rw [hs, Nat.pow_succ, Nat.mul_comm]
      have HS := Lib.hid hs4
      clear hs hs4
      go_wp2
      go_round
      case rel => exact ⟨i + 1, by omega, by go_num, by rw [← HS.out]; go_num⟩
      case measure => simp [intOf]; omega
    · obtain rfl : i = j := by omega
      obtain ⟨f1, f2, f3, f4, f5, f6⟩ := same_bucket x y s (by omega) hx0 hy0
      obtain ⟨g1, g2⟩ := mod_lt_int x s (by omega)
      obtain ⟨g3, g4⟩ := mod_lt_int o s (by omega)
      have hord := fun h => order_int x (y / s * s + x % s) o i s (by omega) hs hx0 hx1 f2 h ho0 f1
      obtain ⟨b, hb⟩ : ∃ b : Int, x % s = b := ⟨_, rfl⟩
      obtain ⟨q, hq⟩ : ∃ q : Int, o % s = q := ⟨_, rfl⟩
      obtain ⟨d, hd⟩ : ∃ d : Int, y / s = d := ⟨_, rfl⟩
      rw [hb] at f1 f2 g1 g2 hord
      rw [hq] at g3 g4 hord
      rw [hd] at f1 f2 f3 f4 f5 f6 hord
      obtain ⟨u, hu⟩ : ∃ u : Int, d * s = u := ⟨_, rfl⟩
      rw [hu] at f1 f2 f3 f6 hord
      have cB := fun w => bucket_at x s b w (by omega) (by omega) (by rw [show x % 65536 = x by omega]; exact hb)
      have cB' : ∀ w, Calls Try.prog 22 #[.int .i64 x, .int .i64 s] w fun e w' => e = .returned (.int .i64 b) ∧ w' = w := fun w => (cB w).mono fun _ _ h => ⟨h.1, h.2.symm⟩
      have hz : (((s : Nat) : Int) == 0) = false := by simp; omega
      have w1 : IntKind.i64.wrap (y.tdiv s) = d := by rw [Int.tdiv_eq_ediv_of_nonneg hy0, hd]; exact wrap_id _ (by omega) (by omega)
      have w1' : y.tdiv s = d := by rw [Int.tdiv_eq_ediv_of_nonneg hy0, hd]
      have w2 : IntKind.i64.wrap (d * s) = u := by rw [hu]; exact wrap_id _ (by omega) (by omega)
      have w3 : IntKind.i64.wrap (u + b) = u + b := wrap_id _ (by omega) (by omega)
      have hsN : ¬ ((s : Nat) : Int) = 0 := by omega
      clear hlt
      by_cases hbig : 65535 < u + b
      · clear hb hord f1 hs
        go_wp2
        go_quiet ((go_at_call 22; exact Calls.quiet_of_same (cB' _)))
        clear w1 w1' w2 w3 hd hu hq
        go_wp2_with (first
    | (go_at_call 22; ((with_reducible refine (cB _).mono ?_); rintro e w' ⟨rfl, rfl⟩)))
        go_ret
        exact ⟨ret_bool (by first | rfl | (simp; done) | (simp; omega)), below_drewN ((Below.refl _ _).alloc (Nat.le_refl _) _) _⟩
      · have hord2 := hord (by omega)
        obtain ⟨P, hP⟩ : ∃ P : Int, rv x = P := ⟨_, rfl⟩
        obtain ⟨Q, hQ⟩ : ∃ P : Int, rv (u + b) = P := ⟨_, rfl⟩
        obtain ⟨O, hO⟩ : ∃ P : Int, rv q = P := ⟨_, rfl⟩
        obtain ⟨p0, p1⟩ := rv_bd x
        obtain ⟨b0, b1⟩ := rv_bd (u + b)
        obtain ⟨o0, o1⟩ := rv_bd q
        rw [hP] at hord2 p0 p1
        rw [hQ] at hord2 b0 b1
        rw [hO] at hord2 o0 o1
        have cY := fun w => bucket_at (u + b) s b w (by omega) (by omega) (by rw [show (u + b) % 65536 = u + b by omega]; exact f1)
        have cPx := fun w => ord_at x (2 * P + 1) w (by rw [hP])
        have cPy := fun w => ord_at (u + b) (2 * Q + 1) w (by rw [hQ])
        have cSo := fun w => sent_at q (2 * O) w (by rw [hO])
        clear hb hord f1 hs hP hQ hO
        go_wp2
        go_quiet ((go_at_call 22; exact Calls.quiet_of_same (cB' _)))
        clear w1 w1' w2 w3 hd hu
        go_wp2_with (first
    | (go_at_call 22; ((with_reducible refine (cB _).mono ?_); rintro e w' ⟨rfl, rfl⟩))
    | (go_at_call 22; ((with_reducible refine (cY _).mono ?_); rintro e w' ⟨rfl, rfl⟩))
    | (go_at_call 18; ((with_reducible refine (cSo _).mono ?_); rintro e w' ⟨rfl, rfl⟩))
    | (go_at_call 16; ((with_reducible refine (cPx _).mono ?_); rintro e w' ⟨rfl, rfl⟩))
    | (go_at_call 16; ((with_reducible refine (cPy _).mono ?_); rintro e w' ⟨rfl, rfl⟩)))
        all_goals
          go_ret
          exact ⟨ret_bool (by first | rfl | (simp; done) | (simp; omega)), below_drewN ((Below.refl _ _).alloc (Nat.le_refl _) _) _⟩

end Go.Proofs.Ytpmhaigheadeeaa.RvLawsC
