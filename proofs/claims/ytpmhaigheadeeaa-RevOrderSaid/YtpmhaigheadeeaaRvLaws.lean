/- The walks over the statements of layer 10: each answers true, and leaves the world as it was. -/
import Derived.Test.YtpmhaigheadeeaaRvWalks
namespace Go.Proofs.Ytpmhaigheadeeaa.RvLaws
open Go Go.RowKit Go.Proofs.Ytpmhaigheadeeaa.RvMath Go.Proofs.Ytpmhaigheadeeaa.RvWalks

/-- What is needed of Rev at a number of 16 bits. -/
theorem rv_small (x : Int) (h0 : 0 ≤ x) (h1 : x ≤ 65535) : rv (rv x) = x := by rw [rv_rv]; omega
theorem rv_ne (x y : Int) (hx0 : 0 ≤ x) (hx1 : x ≤ 65535) (hy0 : 0 ≤ y) (hy1 : y ≤ 65535) (h : x ≠ y) : rv x ≠ rv y := by
  intro e; apply h; rw [← rv_small x hx0 hx1, ← rv_small y hy0 hy1, e]

/-- Contracts at a known answer. -/
theorem rev_at (x r : Int) (w : World) (h : rv x = r) : Calls Try.prog 14 #[.int .i64 x] w fun e w' => e = .returned (.int .i64 r) ∧ w = w' := by
  rw [← h]; exact rev_any x w
theorem ord_at (x r : Int) (w : World) (h : 2 * rv x + 1 = r) : Calls Try.prog 16 #[.int .i64 x] w fun e w' => e = .returned (.int .i64 r) ∧ w = w' := by
  rw [← h]; exact ord_any x w
theorem sent_at (x r : Int) (w : World) (h : 2 * rv x = r) : Calls Try.prog 18 #[.int .i64 x] w fun e w' => e = .returned (.int .i64 r) ∧ w = w' := by
  rw [← h]; exact sent_any x w
theorem name_at (key r : Int) (w : World) (h1 : 0 ≤ key) (h2 : key ≤ 131071) (h3 : key % 2 = 1) (h : rv (key / 2) = r) : Calls Try.prog 12 #[.int .i64 key] w fun e w' => e = .returned (.tuple #[.int .i64 r, .bool true]) ∧ w = w' := by
  rw [← h]; exact name_yes key w h1 h2 h3

theorem refRev_at (x r : Int) (w : World) (h : rv x = r) : Calls Try.prog 15 #[.int .i64 x] w fun e w' => e = .returned (.int .i64 r) ∧ w = w' := by
  rw [← h]; exact refRev_any x w
theorem refOrd_at (x r : Int) (w : World) (h : 2 * rv x + 1 = r) : Calls Try.prog 17 #[.int .i64 x] w fun e w' => e = .returned (.int .i64 r) ∧ w = w' := by
  rw [← h]; exact refOrd_any x w
theorem refSent_at (x r : Int) (w : World) (h : 2 * rv x = r) : Calls Try.prog 19 #[.int .i64 x] w fun e w' => e = .returned (.int .i64 r) ∧ w = w' := by
  rw [← h]; exact refSent_any x w
theorem bucket_at (x s r : Int) (w : World) (h1 : 1 ≤ s) (h2 : s ≤ 16) (h : (x % 65536) % s = r) : Calls Try.prog 22 #[.int .i64 x, .int .i64 s] w fun e w' => e = .returned (.int .i64 r) ∧ w = w' := by
  rw [← h]; exact bucket_yes x s w h1 h2
theorem parent_at (x r : Int) (w : World) (h : ((par (lo x) : Nat) : Int) = r) : Calls Try.prog 20 #[.int .i64 x] w fun e w' => e = .returned (.int .i64 r) ∧ w = w' := by
  rw [← h]; exact parent_any x w

set_option maxHeartbeats 2000000 in
theorem revBack_any (x y : Int) (w : World) (hx0 : 0 ≤ x) (hx1 : x ≤ 65535) (hy0 : 0 ≤ y) (hy1 : y ≤ 65535) :
    Calls Try.prog 4 #[.int .u16 x, .int .u16 y] w fun e w' => e = .returned (.bool true) ∧ w = w' := by
  obtain ⟨p, hp⟩ : ∃ p, rv x = p := ⟨_, rfl⟩
  obtain ⟨q, hq⟩ : ∃ q, rv y = q := ⟨_, rfl⟩
  obtain ⟨hp0, hp1⟩ := rv_bd x
  obtain ⟨hq0, hq1⟩ := rv_bd y
  have hpx : rv p = x := by rw [← hp]; exact rv_small x hx0 hx1
  have hn := rv_ne x y hx0 hx1 hy0 hy1
  rw [hp] at hp0 hp1 hn
  rw [hq] at hq0 hq1 hn
  have cRev := fun w => rev_at x p w hp
  have cBack := fun w => rev_at p x w hpx
  have cOrd := fun w => ord_at x (2 * p + 1) w (by rw [hp])
  have cOrdy := fun w => ord_at y (2 * q + 1) w (by rw [hq])
  have cSent := fun w => sent_at x (2 * p) w (by rw [hp])
  have cSenty := fun w => sent_at y (2 * q) w (by rw [hq])
  have cName := fun w => name_at (2 * p + 1) x w (by omega) (by omega) (by omega) (by rw [show (2 * p + 1) / 2 = p by omega]; exact hpx)
  have cNo := fun w => name_no (2 * p) w (by omega)
  by_cases e : x = y
  · obtain rfl := e
    clear hp hq hpx hn
    go_enter Try.func4, Try.ntmps4
    go_wp2_with (first
        | (go_at_call 11; ((with_reducible refine (shown_any _).mono ?_); rintro e w' ⟨rfl, rfl⟩))
        | (go_at_call 14; ((with_reducible refine (cRev _).mono ?_); rintro e w' ⟨rfl, rfl⟩))
        | (go_at_call 14; ((with_reducible refine (cBack _).mono ?_); rintro e w' ⟨rfl, rfl⟩))
        | (go_at_call 16; ((with_reducible refine (cOrd _).mono ?_); rintro e w' ⟨rfl, rfl⟩))
        | (go_at_call 18; ((with_reducible refine (cSent _).mono ?_); rintro e w' ⟨rfl, rfl⟩))
        | (go_at_call 12; ((with_reducible refine (cName _).mono ?_); rintro e w' ⟨rfl, rfl⟩))
        | (go_at_call 12; ((with_reducible refine (cNo _).mono ?_); rintro e w' ⟨rfl, rfl⟩)))
    go_ret
    exact ⟨rfl, rfl⟩
  · have e1 : (x == y) = false := by simp; exact e
    have hn2 := hn e
    have e2 : (2 * p + 1 == 2 * q + 1) = false := by simp; omega
    have e3 : (2 * p == 2 * q) = false := by simp; omega
    clear hp hq hpx hn e hn2
    go_enter Try.func4, Try.ntmps4
    go_wp2_with (first
        | (go_at_call 11; ((with_reducible refine (shown_any _).mono ?_); rintro e w' ⟨rfl, rfl⟩))
        | (go_at_call 14; ((with_reducible refine (cRev _).mono ?_); rintro e w' ⟨rfl, rfl⟩))
        | (go_at_call 14; ((with_reducible refine (cBack _).mono ?_); rintro e w' ⟨rfl, rfl⟩))
        | (go_at_call 16; ((with_reducible refine (cOrd _).mono ?_); rintro e w' ⟨rfl, rfl⟩))
        | (go_at_call 18; ((with_reducible refine (cSent _).mono ?_); rintro e w' ⟨rfl, rfl⟩))
        | (go_at_call 12; ((with_reducible refine (cName _).mono ?_); rintro e w' ⟨rfl, rfl⟩))
        | (go_at_call 12; ((with_reducible refine (cNo _).mono ?_); rintro e w' ⟨rfl, rfl⟩))
        | (go_at_call 16; ((with_reducible refine (cOrdy _).mono ?_); rintro e w' ⟨rfl, rfl⟩))
        | (go_at_call 18; ((with_reducible refine (cSenty _).mono ?_); rintro e w' ⟨rfl, rfl⟩)))
    go_ret
    exact ⟨rfl, rfl⟩

set_option maxHeartbeats 2000000 in
theorem revTells_00 (n key size : Int) (w : World) (hk : ¬ (0 ≤ key ∧ key ≤ 131071 ∧ key % 2 = 1)) (hs : ¬ (1 ≤ size ∧ size ≤ 16)) :
    Calls Try.prog 3 #[.int .i64 n, .int .i64 key, .int .i64 size] w fun e w' => e = .returned (.bool true) ∧ w = w' := by
  have cN := fun w => name_no key w hk
  have cR := fun w => refName_no key w hk
  have cB := fun w => bucket_no n size w hs
  have cC := fun w => refBucket_no n size w hs
  clear hk hs
  obtain ⟨p, hp⟩ : ∃ p, rv n = p := ⟨_, rfl⟩
  obtain ⟨hp0, hp1⟩ := rv_bd n
  rw [hp] at hp0 hp1
  have cRev := fun w => rev_at n p w hp
  have cOrd := fun w => ord_at n (2 * p + 1) w (by rw [hp])
  have cSent := fun w => sent_at n (2 * p) w (by rw [hp])
  have dRev := fun w => refRev_at n p w hp
  have dOrd := fun w => refOrd_at n (2 * p + 1) w (by rw [hp])
  have dSent := fun w => refSent_at n (2 * p) w (by rw [hp])
  clear hp
  go_enter Try.func3, Try.ntmps3
  go_wp2_with (first
      | (go_at_call 11; ((with_reducible refine (shown_any _).mono ?_); rintro e w' ⟨rfl, rfl⟩))
      | (go_at_call 12; ((with_reducible refine (cN _).mono ?_); rintro e w' ⟨rfl, rfl⟩))
      | (go_at_call 13; ((with_reducible refine (cR _).mono ?_); rintro e w' ⟨rfl, rfl⟩))
      | (go_at_call 14; ((with_reducible refine (cRev _).mono ?_); rintro e w' ⟨rfl, rfl⟩))
      | (go_at_call 15; ((with_reducible refine (dRev _).mono ?_); rintro e w' ⟨rfl, rfl⟩))
      | (go_at_call 16; ((with_reducible refine (cOrd _).mono ?_); rintro e w' ⟨rfl, rfl⟩))
      | (go_at_call 17; ((with_reducible refine (dOrd _).mono ?_); rintro e w' ⟨rfl, rfl⟩))
      | (go_at_call 18; ((with_reducible refine (cSent _).mono ?_); rintro e w' ⟨rfl, rfl⟩))
      | (go_at_call 19; ((with_reducible refine (dSent _).mono ?_); rintro e w' ⟨rfl, rfl⟩))
      | (go_at_call 20; ((with_reducible refine (parent_any _ _).mono ?_); rintro e w' ⟨rfl, rfl⟩))
      | (go_at_call 21; ((with_reducible refine (refParent_any _ _).mono ?_); rintro e w' ⟨rfl, rfl⟩))
      | (go_at_call 22; ((with_reducible refine (cB _).mono ?_); rintro e w' ⟨rfl, rfl⟩))
      | (go_at_call 23; ((with_reducible refine (cC _).mono ?_); rintro e w' ⟨rfl, rfl⟩)))
  go_ret
  exact ⟨rfl, rfl⟩

set_option maxHeartbeats 2000000 in
theorem revTells_01 (n key size : Int) (w : World) (hk : ¬ (0 ≤ key ∧ key ≤ 131071 ∧ key % 2 = 1)) (hs1 : 1 ≤ size) (hs2 : size ≤ 16) :
    Calls Try.prog 3 #[.int .i64 n, .int .i64 key, .int .i64 size] w fun e w' => e = .returned (.bool true) ∧ w = w' := by
  have cN := fun w => name_no key w hk
  have cR := fun w => refName_no key w hk
  have cB := fun w => bucket_yes n size w hs1 hs2
  have cC := fun w => refBucket_yes n size w hs1 hs2
  clear hk hs1 hs2
  obtain ⟨p, hp⟩ : ∃ p, rv n = p := ⟨_, rfl⟩
  obtain ⟨hp0, hp1⟩ := rv_bd n
  rw [hp] at hp0 hp1
  have cRev := fun w => rev_at n p w hp
  have cOrd := fun w => ord_at n (2 * p + 1) w (by rw [hp])
  have cSent := fun w => sent_at n (2 * p) w (by rw [hp])
  have dRev := fun w => refRev_at n p w hp
  have dOrd := fun w => refOrd_at n (2 * p + 1) w (by rw [hp])
  have dSent := fun w => refSent_at n (2 * p) w (by rw [hp])
  clear hp
  go_enter Try.func3, Try.ntmps3
  go_wp2_with (first
      | (go_at_call 11; ((with_reducible refine (shown_any _).mono ?_); rintro e w' ⟨rfl, rfl⟩))
      | (go_at_call 12; ((with_reducible refine (cN _).mono ?_); rintro e w' ⟨rfl, rfl⟩))
      | (go_at_call 13; ((with_reducible refine (cR _).mono ?_); rintro e w' ⟨rfl, rfl⟩))
      | (go_at_call 14; ((with_reducible refine (cRev _).mono ?_); rintro e w' ⟨rfl, rfl⟩))
      | (go_at_call 15; ((with_reducible refine (dRev _).mono ?_); rintro e w' ⟨rfl, rfl⟩))
      | (go_at_call 16; ((with_reducible refine (cOrd _).mono ?_); rintro e w' ⟨rfl, rfl⟩))
      | (go_at_call 17; ((with_reducible refine (dOrd _).mono ?_); rintro e w' ⟨rfl, rfl⟩))
      | (go_at_call 18; ((with_reducible refine (cSent _).mono ?_); rintro e w' ⟨rfl, rfl⟩))
      | (go_at_call 19; ((with_reducible refine (dSent _).mono ?_); rintro e w' ⟨rfl, rfl⟩))
      | (go_at_call 20; ((with_reducible refine (parent_any _ _).mono ?_); rintro e w' ⟨rfl, rfl⟩))
      | (go_at_call 21; ((with_reducible refine (refParent_any _ _).mono ?_); rintro e w' ⟨rfl, rfl⟩))
      | (go_at_call 22; ((with_reducible refine (cB _).mono ?_); rintro e w' ⟨rfl, rfl⟩))
      | (go_at_call 23; ((with_reducible refine (cC _).mono ?_); rintro e w' ⟨rfl, rfl⟩)))
  go_ret
  exact ⟨rfl, rfl⟩

set_option maxHeartbeats 2000000 in
theorem revTells_10 (n key size : Int) (w : World) (hk1 : 0 ≤ key) (hk2 : key ≤ 131071) (hk3 : key % 2 = 1) (hs : ¬ (1 ≤ size ∧ size ≤ 16)) :
    Calls Try.prog 3 #[.int .i64 n, .int .i64 key, .int .i64 size] w fun e w' => e = .returned (.bool true) ∧ w = w' := by
  have cN := fun w => name_yes key w hk1 hk2 hk3
  have cR := fun w => refName_yes key w hk1 hk2 hk3
  have cB := fun w => bucket_no n size w hs
  have cC := fun w => refBucket_no n size w hs
  clear hk1 hk2 hk3 hs
  obtain ⟨p, hp⟩ : ∃ p, rv n = p := ⟨_, rfl⟩
  obtain ⟨hp0, hp1⟩ := rv_bd n
  rw [hp] at hp0 hp1
  have cRev := fun w => rev_at n p w hp
  have cOrd := fun w => ord_at n (2 * p + 1) w (by rw [hp])
  have cSent := fun w => sent_at n (2 * p) w (by rw [hp])
  have dRev := fun w => refRev_at n p w hp
  have dOrd := fun w => refOrd_at n (2 * p + 1) w (by rw [hp])
  have dSent := fun w => refSent_at n (2 * p) w (by rw [hp])
  clear hp
  go_enter Try.func3, Try.ntmps3
  go_wp2_with (first
      | (go_at_call 11; ((with_reducible refine (shown_any _).mono ?_); rintro e w' ⟨rfl, rfl⟩))
      | (go_at_call 12; ((with_reducible refine (cN _).mono ?_); rintro e w' ⟨rfl, rfl⟩))
      | (go_at_call 13; ((with_reducible refine (cR _).mono ?_); rintro e w' ⟨rfl, rfl⟩))
      | (go_at_call 14; ((with_reducible refine (cRev _).mono ?_); rintro e w' ⟨rfl, rfl⟩))
      | (go_at_call 15; ((with_reducible refine (dRev _).mono ?_); rintro e w' ⟨rfl, rfl⟩))
      | (go_at_call 16; ((with_reducible refine (cOrd _).mono ?_); rintro e w' ⟨rfl, rfl⟩))
      | (go_at_call 17; ((with_reducible refine (dOrd _).mono ?_); rintro e w' ⟨rfl, rfl⟩))
      | (go_at_call 18; ((with_reducible refine (cSent _).mono ?_); rintro e w' ⟨rfl, rfl⟩))
      | (go_at_call 19; ((with_reducible refine (dSent _).mono ?_); rintro e w' ⟨rfl, rfl⟩))
      | (go_at_call 20; ((with_reducible refine (parent_any _ _).mono ?_); rintro e w' ⟨rfl, rfl⟩))
      | (go_at_call 21; ((with_reducible refine (refParent_any _ _).mono ?_); rintro e w' ⟨rfl, rfl⟩))
      | (go_at_call 22; ((with_reducible refine (cB _).mono ?_); rintro e w' ⟨rfl, rfl⟩))
      | (go_at_call 23; ((with_reducible refine (cC _).mono ?_); rintro e w' ⟨rfl, rfl⟩)))
  go_ret
  exact ⟨rfl, rfl⟩

set_option maxHeartbeats 2000000 in
theorem revTells_11 (n key size : Int) (w : World) (hk1 : 0 ≤ key) (hk2 : key ≤ 131071) (hk3 : key % 2 = 1) (hs1 : 1 ≤ size) (hs2 : size ≤ 16) :
    Calls Try.prog 3 #[.int .i64 n, .int .i64 key, .int .i64 size] w fun e w' => e = .returned (.bool true) ∧ w = w' := by
  have cN := fun w => name_yes key w hk1 hk2 hk3
  have cR := fun w => refName_yes key w hk1 hk2 hk3
  have cB := fun w => bucket_yes n size w hs1 hs2
  have cC := fun w => refBucket_yes n size w hs1 hs2
  clear hk1 hk2 hk3 hs1 hs2
  obtain ⟨p, hp⟩ : ∃ p, rv n = p := ⟨_, rfl⟩
  obtain ⟨hp0, hp1⟩ := rv_bd n
  rw [hp] at hp0 hp1
  have cRev := fun w => rev_at n p w hp
  have cOrd := fun w => ord_at n (2 * p + 1) w (by rw [hp])
  have cSent := fun w => sent_at n (2 * p) w (by rw [hp])
  have dRev := fun w => refRev_at n p w hp
  have dOrd := fun w => refOrd_at n (2 * p + 1) w (by rw [hp])
  have dSent := fun w => refSent_at n (2 * p) w (by rw [hp])
  clear hp
  go_enter Try.func3, Try.ntmps3
  go_wp2_with (first
      | (go_at_call 11; ((with_reducible refine (shown_any _).mono ?_); rintro e w' ⟨rfl, rfl⟩))
      | (go_at_call 12; ((with_reducible refine (cN _).mono ?_); rintro e w' ⟨rfl, rfl⟩))
      | (go_at_call 13; ((with_reducible refine (cR _).mono ?_); rintro e w' ⟨rfl, rfl⟩))
      | (go_at_call 14; ((with_reducible refine (cRev _).mono ?_); rintro e w' ⟨rfl, rfl⟩))
      | (go_at_call 15; ((with_reducible refine (dRev _).mono ?_); rintro e w' ⟨rfl, rfl⟩))
      | (go_at_call 16; ((with_reducible refine (cOrd _).mono ?_); rintro e w' ⟨rfl, rfl⟩))
      | (go_at_call 17; ((with_reducible refine (dOrd _).mono ?_); rintro e w' ⟨rfl, rfl⟩))
      | (go_at_call 18; ((with_reducible refine (cSent _).mono ?_); rintro e w' ⟨rfl, rfl⟩))
      | (go_at_call 19; ((with_reducible refine (dSent _).mono ?_); rintro e w' ⟨rfl, rfl⟩))
      | (go_at_call 20; ((with_reducible refine (parent_any _ _).mono ?_); rintro e w' ⟨rfl, rfl⟩))
      | (go_at_call 21; ((with_reducible refine (refParent_any _ _).mono ?_); rintro e w' ⟨rfl, rfl⟩))
      | (go_at_call 22; ((with_reducible refine (cB _).mono ?_); rintro e w' ⟨rfl, rfl⟩))
      | (go_at_call 23; ((with_reducible refine (cC _).mono ?_); rintro e w' ⟨rfl, rfl⟩)))
  go_ret
  exact ⟨rfl, rfl⟩

theorem revTells_any (n key size : Int) (w : World) :
    Calls Try.prog 3 #[.int .i64 n, .int .i64 key, .int .i64 size] w fun e w' => e = .returned (.bool true) ∧ w = w' := by
  by_cases hk : 0 ≤ key ∧ key ≤ 131071 ∧ key % 2 = 1
  · by_cases hs : 1 ≤ size ∧ size ≤ 16
    · exact revTells_11 n key size w hk.1 hk.2.1 hk.2.2 hs.1 hs.2
    · exact revTells_10 n key size w hk.1 hk.2.1 hk.2.2 hs
  · by_cases hs : 1 ≤ size ∧ size ≤ 16
    · exact revTells_01 n key size w hk hs.1 hs.2
    · exact revTells_00 n key size w hk hs

set_option maxHeartbeats 2000000 in
theorem revNames_any (key : Int) (w : World) :
    Calls Try.prog 8 #[.int .i64 key] w fun e w' => e = .returned (.bool true) ∧ w = w' := by
  by_cases hk : 0 ≤ key ∧ key ≤ 131071 ∧ key % 2 = 1
  · obtain ⟨h0, h1, h2⟩ := hk
    obtain ⟨r, hr⟩ : ∃ r, rv (key / 2) = r := ⟨_, rfl⟩
    obtain ⟨hr0, hr1⟩ := rv_bd (key / 2)
    rw [hr] at hr0 hr1
    have hb : rv r = key / 2 := by rw [← hr, rv_rv]; omega
    have cN := fun w => name_at key r w h0 h1 h2 hr
    have cO := fun w => ord_at r key w (by rw [hb]; omega)
    clear hr hb
    go_enter Try.func8, Try.ntmps8
    go_wp2_with (first
        | (go_at_call 11; ((with_reducible refine (shown_any _).mono ?_); rintro e w' ⟨rfl, rfl⟩))
        | (go_at_call 12; ((with_reducible refine (cN _).mono ?_); rintro e w' ⟨rfl, rfl⟩))
        | (go_at_call 16; ((with_reducible refine (cO _).mono ?_); rintro e w' ⟨rfl, rfl⟩)))
    go_ret
    exact ⟨rfl, rfl⟩
  · have cN := fun w => name_no key w hk
    by_cases h0 : 0 ≤ key
    · by_cases h1 : key ≤ 131071
      · have h2 : key % 2 = 0 := by omega
        clear hk
        go_enter Try.func8, Try.ntmps8
        go_wp2_with (first
            | (go_at_call 11; ((with_reducible refine (shown_any _).mono ?_); rintro e w' ⟨rfl, rfl⟩))
            | (go_at_call 12; ((with_reducible refine (cN _).mono ?_); rintro e w' ⟨rfl, rfl⟩)))
        go_ret
        exact ⟨rfl, rfl⟩
      · clear hk
        go_enter Try.func8, Try.ntmps8
        go_wp2_with (first
            | (go_at_call 11; ((with_reducible refine (shown_any _).mono ?_); rintro e w' ⟨rfl, rfl⟩))
            | (go_at_call 12; ((with_reducible refine (cN _).mono ?_); rintro e w' ⟨rfl, rfl⟩)))
        go_ret
        exact ⟨rfl, rfl⟩
    · clear hk
      go_enter Try.func8, Try.ntmps8
      go_wp2_with (first
          | (go_at_call 11; ((with_reducible refine (shown_any _).mono ?_); rintro e w' ⟨rfl, rfl⟩))
          | (go_at_call 12; ((with_reducible refine (cN _).mono ?_); rintro e w' ⟨rfl, rfl⟩)))
      go_ret
      exact ⟨rfl, rfl⟩

set_option maxHeartbeats 2000000 in
theorem revBuckets_any (x size : Int) (w : World) (hx0 : 0 ≤ x) (hx1 : x ≤ 65535) :
    Calls Try.prog 9 #[.int .u16 x, .int .i64 size] w fun e w' => e = .returned (.bool true) ∧ w = w' := by
  by_cases hs : 1 ≤ size ∧ size ≤ 16
  · obtain ⟨hs1, hs2⟩ := hs
    obtain ⟨b, hb⟩ : ∃ b, x % size = b := ⟨_, rfl⟩
    have hb0 : 0 ≤ b := by rw [← hb]; exact Int.emod_nonneg _ (by omega)
    have hb1 : b < size := by rw [← hb]; exact Int.emod_lt_of_pos _ (by omega)
    have hb2 : b ≤ x := by
      rw [← hb]
      have h1 := Int.emod_add_mul_ediv x size
      have h2 : 0 ≤ size * (x / size) := Int.mul_nonneg (by omega) (Int.ediv_nonneg hx0 (by omega))
      omega
    have cB := fun w => bucket_at x size b w hs1 hs2 (by rw [show x % 65536 = x by omega]; exact hb)
    have cC := fun w => bucket_at (x + 65536) size b w hs1 hs2 (by rw [show (x + 65536) % 65536 = x by omega]; exact hb)
    have hz : (x - b) % size = 0 := by rw [← hb, Int.sub_emod, Int.emod_emod_of_dvd _ (Int.dvd_refl _), Int.sub_self]; rfl
    have hs0 : (size == 0) = false := by simp; omega
    clear hb
    go_enter Try.func9, Try.ntmps9
    go_wp2_with (first
        | (go_at_call 11; ((with_reducible refine (shown_any _).mono ?_); rintro e w' ⟨rfl, rfl⟩))
        | (go_at_call 22; ((with_reducible refine (cB _).mono ?_); rintro e w' ⟨rfl, rfl⟩))
        | (go_at_call 22; ((with_reducible refine (cC _).mono ?_); rintro e w' ⟨rfl, rfl⟩)))
    go_ret
    exact ⟨rfl, rfl⟩
  · have cB := fun w => bucket_no x size w hs
    by_cases h0 : size < 1
    · clear hs
      go_enter Try.func9, Try.ntmps9
      go_wp2_with (first
          | (go_at_call 11; ((with_reducible refine (shown_any _).mono ?_); rintro e w' ⟨rfl, rfl⟩))
          | (go_at_call 22; ((with_reducible refine (cB _).mono ?_); rintro e w' ⟨rfl, rfl⟩)))
      go_ret
      exact ⟨rfl, rfl⟩
    · have h1 : 16 < size := by omega
      clear hs
      go_enter Try.func9, Try.ntmps9
      go_wp2_with (first
          | (go_at_call 11; ((with_reducible refine (shown_any _).mono ?_); rintro e w' ⟨rfl, rfl⟩))
          | (go_at_call 22; ((with_reducible refine (cB _).mono ?_); rintro e w' ⟨rfl, rfl⟩)))
      go_ret
      exact ⟨rfl, rfl⟩

end Go.Proofs.Ytpmhaigheadeeaa.RvLaws
