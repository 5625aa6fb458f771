/- The bits of 16-bit numbers in the other order, as plain numbers: what the layer's statements lean on. -/
import Derived.Laws.BitsAllLaws
import Derived.Lib.BitFns
import Derived.Laws.BitsLemmas
import Derived.RowKit
namespace Go.Proofs.Ytpmhaigheadeeaa.RvMath
open Go Go.RowKit

/-- A shift to the left, and one to the right, as the walk spells them. -/
def shl (k : IntKind) (x y : Int) : Int := k.wrap (x * 2 ^ min y.toNat k.bits)
def shr (k : IntKind) (x y : Int) : Int := x / 2 ^ min y.toNat k.bits

/-- The k lowest bits of a number in the other order. -/
def rvG : Nat → Nat → Nat
  | 0, _ => 0
  | k + 1, n => (n % 2) * 2 ^ k + rvG k (n / 2)

theorem rvG_lt (k : Nat) : ∀ n, rvG k n < 2 ^ k := by
  induction k with
  | zero => intro n; simp [rvG]
  | succ k ih =>
    intro n
    have h := ih (n / 2)
    have hb : n % 2 = 0 ∨ n % 2 = 1 := by omega
    simp only [rvG, Nat.pow_succ]
    rcases hb with hb | hb <;> rw [hb] <;> omega

theorem rvG_top (k : Nat) : ∀ n, rvG (k + 1) n = 2 * rvG k n + n / 2 ^ k % 2 := by
  induction k with
  | zero => intro n; simp [rvG]
  | succ k ih =>
    intro n
    have h := ih (n / 2)
    have hd : n / 2 / 2 ^ k = n / 2 ^ (k + 1) := by rw [Nat.div_div_eq_div_mul, Nat.pow_succ, Nat.mul_comm]
    rw [hd] at h
    have e1 : rvG (k + 1 + 1) n = (n % 2) * 2 ^ (k + 1) + rvG (k + 1) (n / 2) := rfl
    have e2 : rvG (k + 1) n = (n % 2) * 2 ^ k + rvG k (n / 2) := rfl
    rw [e1, e2, h, Nat.pow_succ, Nat.mul_add]
    have : n % 2 * (2 ^ k * 2) = 2 * (n % 2 * 2 ^ k) := by rw [Nat.mul_comm (2 ^ k) 2, ← Nat.mul_assoc, Nat.mul_comm (n % 2) 2, Nat.mul_assoc]
    omega

theorem rvG_rvG (k : Nat) : ∀ n, rvG k (rvG k n) = n % 2 ^ k := by
  induction k with
  | zero => intro n; simp [rvG, Nat.mod_one]
  | succ k ih =>
    intro n
    have ht := rvG_top k n
    have hb : n / 2 ^ k % 2 < 2 := Nat.mod_lt _ (by decide)
    have e1 : rvG (k + 1) (rvG (k + 1) n) = (rvG (k + 1) n % 2) * 2 ^ k + rvG k (rvG (k + 1) n / 2) := rfl
    have h1 : rvG (k + 1) n % 2 = n / 2 ^ k % 2 := by omega
    have h2 : rvG (k + 1) n / 2 = rvG k n := by omega
    rw [e1, h1, h2, ih n, Nat.pow_succ, Nat.mod_mul]
    rw [Nat.mul_comm]; omega

theorem rvG_mod (k : Nat) (n : Nat) : rvG k (n % 2 ^ k) = rvG k n := by
  have h := rvG_rvG k (rvG k n)
  rw [rvG_rvG k n, Nat.mod_eq_of_lt (rvG_lt k n)] at h
  exact h

theorem rvG_inj (k a b : Nat) (ha : a < 2 ^ k) (hb : b < 2 ^ k) (h : rvG k a = rvG k b) : a = b := by
  have h1 := rvG_rvG k a
  have h2 := rvG_rvG k b
  rw [h] at h1
  rw [Nat.mod_eq_of_lt ha] at h1
  rw [Nat.mod_eq_of_lt hb] at h2
  omega

/-- The lowest j bits tell the highest j of the other order. -/
theorem rvG_cut (j i : Nat) : ∀ n, rvG (j + i) n = rvG j n * 2 ^ i + rvG i (n / 2 ^ j) := by
  induction j with
  | zero => intro n; simp [rvG]
  | succ j ih =>
    intro n
    have h := ih (n / 2)
    have hd : n / 2 / 2 ^ j = n / 2 ^ (j + 1) := by rw [Nat.div_div_eq_div_mul, Nat.pow_succ, Nat.mul_comm]
    rw [hd] at h
    have e0 : j + 1 + i = (j + i) + 1 := by omega
    rw [e0]
    have e1 : rvG (j + i + 1) n = (n % 2) * 2 ^ (j + i) + rvG (j + i) (n / 2) := rfl
    have e2 : rvG (j + 1) n = (n % 2) * 2 ^ j + rvG j (n / 2) := rfl
    rw [e1, e2, h, Nat.add_mul, Nat.pow_add, Nat.mul_assoc, Nat.add_assoc]

/-- A whole number's 16 lowest bits. -/
def lo (x : Int) : Nat := (x % 65536).toNat
/-- 16 bits in the other order. -/
def rv (x : Int) : Int := (rvG 16 (lo x) : Int)

theorem lo_lt (x : Int) : lo x < 65536 := by unfold lo; omega
theorem lo_cast (x : Int) : (lo x : Int) = x % 65536 := by unfold lo; omega
theorem lo_nat (n : Nat) (h : n < 65536) : lo (n : Int) = n := by unfold lo; omega
theorem rv_bd (x : Int) : 0 ≤ rv x ∧ rv x < 65536 := by
  have := rvG_lt 16 (lo x); unfold rv; omega
theorem lo_rv (x : Int) : lo (rv x) = rvG 16 (lo x) := by
  unfold rv; exact lo_nat _ (by have := rvG_lt 16 (lo x); omega)
theorem rv_rv (x : Int) : rv (rv x) = x % 65536 := by
  have h : rv (rv x) = (rvG 16 (lo (rv x)) : Int) := rfl
  rw [h, lo_rv, rvG_rvG, Nat.mod_eq_of_lt (lo_lt x), lo_cast]

/-- One round of the code's loop. -/
theorem bit_of (x : Int) (i : Nat) (hi : i < 16) : (x / 2 ^ i) % 2 = ((lo x / 2 ^ i % 2 : Nat) : Int) := by
  have h := lo_cast x
  have hx : (x : Int) = 65536 * (x / 65536) + (lo x : Int) := by omega
  have e : (65536 : Int) = 2 ^ i * (2 * 2 ^ (15 - i)) := by
    rw [show (65536 : Int) = 2 ^ 16 from rfl]
    rw [show (16 : Nat) = i + (1 + (15 - i)) by omega, Int.pow_add, Int.pow_add]
    rfl
  have hp : (0 : Int) < 2 ^ i := Int.pow_pos (by decide)
  have h2 : x / 2 ^ i = (2 * (2 ^ (15 - i) * (x / 65536))) + (lo x : Int) / 2 ^ i := by
    conv => lhs; rw [hx, e]
    rw [Int.mul_assoc, Int.mul_assoc, Int.add_comm, Int.add_mul_ediv_left _ _ (by omega)]
    rw [← e]; omega
  rw [h2]
  have : ((lo x / 2 ^ i % 2 : Nat) : Int) = (lo x : Int) / 2 ^ i % 2 := by simp
  rw [this]; omega

theorem two_pow (i : Nat) : (2 : Int) ^ i = ((2 ^ i : Nat) : Int) := by simp

theorem wrap_id (x : Int) (h0 : -9223372036854775808 ≤ x) (h1 : x ≤ 9223372036854775807) : IntKind.i64.wrap x = x := by
  rw [IntKind.wrap_i64]; omega

theorem and_low (j : Nat) (hj : j < 63) (x : Int) : Go.bits .and .i64 x (2 ^ j - 1) = x % 2 ^ j := by
  have e : ((2 : Int) ^ j - 1) = ((2 ^ j - 1 : Nat) : Int) := by
    rw [Int.natCast_sub (Nat.two_pow_pos j)]; simp
  have hlt : 2 ^ j < 2 ^ 63 := Nat.pow_lt_pow_right (by decide) hj
  have hpos : 0 < 2 ^ j := Nat.two_pow_pos j
  have key : (BitVec.ofInt 64 x &&& BitVec.ofInt 64 (2 ^ j - 1)).toNat = ((x % 2 ^ j).toNat) := by
    rw [e, BitVec.ofInt_natCast, BitVec.toNat_and, BitVec.toNat_ofNat, Nat.mod_eq_of_lt (by omega), Nat.and_two_pow_sub_one_eq_mod, BitVec.toNat_ofInt]
    have hd : (2 : Int) ^ j ∣ ((2 ^ 64 : Nat) : Int) := by
      refine ⟨2 ^ (64 - j), ?_⟩
      rw [← Int.pow_add, show j + (64 - j) = 64 by omega]; rfl
    have := Int.emod_emod_of_dvd x hd
    have hn : 0 ≤ x % ((2 ^ 64 : Nat) : Int) := Int.emod_nonneg _ (by decide)
    have hm : 0 ≤ x % 2 ^ j := Int.emod_nonneg _ (by have : (0 : Int) < 2 ^ j := Int.pow_pos (by decide); omega)
    have h3 : (((x % ((2 ^ 64 : Nat) : Int)).toNat % 2 ^ j : Nat) : Int) = ((x % 2 ^ j).toNat : Int) := by
      rw [Int.natCast_emod, Int.toNat_of_nonneg hn, Int.toNat_of_nonneg hm, ← this, two_pow j]
    exact_mod_cast h3
  have hb : Go.bits .and .i64 x (2 ^ j - 1) = IntKind.i64.wrap ((BitVec.ofInt 64 x &&& BitVec.ofInt 64 (2 ^ j - 1)).toNat) := rfl
  have hm : 0 ≤ x % 2 ^ j := Int.emod_nonneg _ (by have : (0 : Int) < 2 ^ j := Int.pow_pos (by decide); omega)
  have hm2 : x % 2 ^ j < 2 ^ j := Int.emod_lt_of_pos _ (Int.pow_pos (by decide))
  have hlt' : (2 : Int) ^ j < 9223372036854775808 := by
    have h9 : 2 ^ j < 9223372036854775808 := hlt
    rw [two_pow]; omega
  rw [hb, key, Int.toNat_of_nonneg hm]
  exact wrap_id _ (by omega) (by omega)

theorem and_one (x : Int) : Go.bits .and .i64 x 1 = x % 2 := and_low 1 (by decide) x
theorem and_all (x : Int) : Go.bits .and .i64 x 65535 = x % 65536 := and_low 16 (by decide) x

theorem or_join (i : Nat) (x y : Int) (hx₀ : 0 ≤ x) (hx : x % 2 ^ i = 0) (hx₁ : x < 2 ^ 62) (hy₀ : 0 ≤ y) (hy : y < 2 ^ i) (hy₁ : y < 2 ^ 62) : Go.bits .or .i64 x y = x + y :=
  bits_join .i64 62 (by decide) (fun n h0 h1 => wrap_id n (by omega) (by omega)) i x y hx₀ hx hx₁ hy₀ hy hy₁

theorem round (x : Int) (i : Nat) (hi : i < 16) :
    Go.bits .or .i64 ((rvG i (lo x) * 2 ^ (16 - i) : Nat) : Int) (shl .i64 (Go.bits .and .i64 (shr .i64 x (i : Int)) 1) (wrap64 (15 - (i : Int)))) = ((rvG (i + 1) (lo x) * 2 ^ (16 - (i + 1)) : Nat) : Int) := by
  have e1 : shr .i64 x (i : Int) = x / 2 ^ i := by
    unfold shr; rw [Int.toNat_natCast, Nat.min_eq_left (by simp [IntKind.bits]; omega)]
  have e2 : wrap64 (15 - (i : Int)) = ((15 - i : Nat) : Int) := by unfold wrap64; omega
  have hb : lo x / 2 ^ i % 2 < 2 := Nat.mod_lt _ (by decide)
  have hp : 2 ^ (16 - i) = 2 * 2 ^ (15 - i) := by rw [show 16 - i = (15 - i) + 1 by omega, Nat.pow_succ, Nat.mul_comm]
  have hle : 2 ^ (15 - i) ≤ 2 ^ 15 := Nat.pow_le_pow_right (by decide) (by omega)
  have hpos : 0 < 2 ^ (15 - i) := Nat.two_pow_pos _
  have hm : lo x / 2 ^ i % 2 * 2 ^ (15 - i) < 2 ^ (16 - i) := by
    have : lo x / 2 ^ i % 2 = 0 ∨ lo x / 2 ^ i % 2 = 1 := by omega
    rcases this with h | h <;> rw [h] <;> omega
  have e3 : shl .i64 (((lo x / 2 ^ i % 2 : Nat) : Int)) ((15 - i : Nat) : Int) = ((lo x / 2 ^ i % 2 * 2 ^ (15 - i) : Nat) : Int) := by
    unfold shl
    rw [Int.toNat_natCast, Nat.min_eq_left (by simp [IntKind.bits]; omega), two_pow, ← Int.natCast_mul]
    exact wrap_id _ (by omega) (by omega)
  rw [e1, and_one, bit_of x i hi, e2, e3]
  have hr := rvG_lt i (lo x)
  have hr2 : rvG i (lo x) * 2 ^ (16 - i) < 2 ^ 16 := by
    have : 2 ^ 16 = 2 ^ i * 2 ^ (16 - i) := by rw [← Nat.pow_add, show i + (16 - i) = 16 by omega]
    rw [this]; exact Nat.mul_lt_mul_of_pos_right hr (Nat.two_pow_pos _)
  rw [or_join (16 - i) _ _ (by omega) (by rw [two_pow, ← Int.natCast_emod, Nat.mul_mod_left]; rfl) (by omega) (by omega) (by rw [two_pow]; exact_mod_cast hm) (by omega)]
  rw [← Int.natCast_add, rvG_top, show 16 - (i + 1) = 15 - i by omega, hp, Nat.add_mul, Nat.mul_assoc]
  congr 1
  rw [Nat.mul_left_comm]


/-- A bucket's parent: without its highest bit. -/
def par (n : Nat) : Nat := n - 2 ^ (Lib.bitLen n - 1)

theorem bitLenAux_pos (f : Nat) : ∀ x, 0 < x → x < 2 ^ f → 2 ^ (Lib.bitLenAux f x - 1) ≤ x ∧ x < 2 ^ (Lib.bitLenAux f x) ∧ 0 < Lib.bitLenAux f x ∧ Lib.bitLenAux f x ≤ f := by
  induction f with
  | zero => intro x h0 h1; simp at h1; omega
  | succ f ih =>
    intro x h0 h1
    have e : Lib.bitLenAux (f + 1) x = 1 + Lib.bitLenAux f (x / 2) := by simp only [Lib.bitLenAux]; rw [if_neg (by omega)]
    rw [e]
    by_cases hx : x / 2 = 0
    · have : Lib.bitLenAux f (x / 2) = 0 := by rw [hx]; cases f <;> simp [Lib.bitLenAux]
      rw [this]; have : x = 1 := by omega
      subst this; simp
    · have h2 : x / 2 < 2 ^ f := by rw [Nat.pow_succ] at h1; omega
      obtain ⟨i1, i2, i3, i4⟩ := ih (x / 2) (by omega) h2
      obtain ⟨g, hg⟩ : ∃ g, Lib.bitLenAux f (x / 2) = g + 1 := ⟨Lib.bitLenAux f (x / 2) - 1, by omega⟩
      rw [hg] at i1 i2 i4 ⊢
      simp only [Nat.add_sub_cancel] at i1
      rw [show 1 + (g + 1) - 1 = g + 1 by omega, show 1 + (g + 1) = g + 2 by omega]
      rw [Nat.pow_succ] at i2 ⊢
      have : 2 ^ (g + 2) = 2 ^ g * 2 * 2 := by rw [Nat.pow_succ, Nat.pow_succ]
      rw [this]
      refine ⟨by omega, by omega, by omega, by omega⟩

/-- The highest bit of a number. -/
theorem top_bit (n : Nat) (h0 : 0 < n) (h1 : n < 65536) : ∃ j, Lib.bitLen n = j + 1 ∧ j < 16 ∧ 2 ^ j ≤ n ∧ n < 2 ^ (j + 1) ∧ par n = n - 2 ^ j := by
  have h := bitLenAux_pos 64 n h0 (Nat.lt_of_lt_of_le h1 (by decide))
  have e : Lib.bitLenAux 64 n = Lib.bitLen n := rfl
  rw [e] at h
  obtain ⟨i1, i2, i3, _⟩ := h
  obtain ⟨j, hj⟩ : ∃ j, Lib.bitLen n = j + 1 := ⟨Lib.bitLen n - 1, by omega⟩
  refine ⟨j, hj, ?_, ?_, ?_, ?_⟩
  · rw [hj, Nat.add_sub_cancel] at i1
    by_cases c : j < 16
    · exact c
    · have : 2 ^ 16 ≤ 2 ^ j := Nat.pow_le_pow_right (by decide) (by omega)
      omega
  · rw [hj, Nat.add_sub_cancel] at i1; exact i1
  · rw [hj] at i2; exact i2
  · unfold par; rw [hj, Nat.add_sub_cancel]

theorem andNot_top (n : Nat) (j : Nat) (hj : j < 16) (h1 : 2 ^ j ≤ n) (h2 : n < 2 ^ (j + 1)) : Go.bits .andNot .u16 (n : Int) ((2 ^ j : Nat) : Int) = ((n - 2 ^ j : Nat) : Int) := by
  have hn : n < 65536 := by
    have : 2 ^ (j + 1) ≤ 2 ^ 16 := Nat.pow_le_pow_right (by decide) (by omega)
    omega
  have hp : 2 ^ j < 65536 := by omega
  rw [u16_andNot_nat n (2 ^ j) hn hp]
  congr 1
  have e : n = 2 ^ j + (n - 2 ^ j) := by omega
  have hl : n - 2 ^ j < 2 ^ j := by rw [Nat.pow_succ] at h2; omega
  refine Nat.eq_of_testBit_eq fun i => ?_
  rw [Nat.testBit_and]
  have hc : (65535 - 2 ^ j).testBit i = (decide (i < 16) && !(decide (i = j))) := by
    have h := Nat.testBit_two_pow_sub_succ (n := 16) (x := 2 ^ j) (by omega) i
    rw [show 2 ^ 16 - (2 ^ j + 1) = 65535 - 2 ^ j by omega] at h
    rw [h, Nat.testBit_two_pow]
    congr 2; exact decide_eq_decide.mpr ⟨fun h => h.symm, fun h => h.symm⟩
  rw [hc]
  conv => lhs; lhs; rw [e]
  by_cases hij : i = j
  · subst hij
    simp only [decide_true, Bool.not_true, Bool.and_false]
    exact (Nat.testBit_lt_two_pow hl).symm
  · by_cases hlt : i < j
    · rw [Nat.testBit_two_pow_add_gt hlt]
      simp [hij]
      omega
    · have z1 : n.testBit i = false := Nat.testBit_lt_two_pow (Nat.lt_of_lt_of_le h2 (Nat.pow_le_pow_right (by decide) (by omega)))
      have z2 : (n - 2 ^ j).testBit i = false := Nat.testBit_lt_two_pow (Nat.lt_of_lt_of_le hl (Nat.pow_le_pow_right (by decide) (by omega)))
      rw [← e, z1, z2]; simp

/-- What the code tells of a bucket's parent. -/
theorem parent_is (x : Int) (h : lo x ≠ 0) :
    IntKind.i64.wrap (Go.bits .andNot .u16 ((lo x : Nat) : Int) (shl .u16 1 (wrap64 (((Lib.bitLen (lo x) : Nat) : Int) - 1)))) = (par (lo x) : Int) := by
  obtain ⟨j, hj, h16, h1, h2, h3⟩ := top_bit (lo x) (by omega) (lo_lt x)
  have e1 : wrap64 (((Lib.bitLen (lo x) : Nat) : Int) - 1) = (j : Int) := by unfold wrap64; rw [hj]; omega
  have hp : 2 ^ j < 65536 := by have := lo_lt x; omega
  have e2 : shl .u16 1 (j : Int) = ((2 ^ j : Nat) : Int) := by
    unfold shl; rw [Int.toNat_natCast, Nat.min_eq_left (by simp [IntKind.bits]; omega), IntKind.wrap_u16, Int.one_mul, two_pow]; omega
  rw [e1, e2, andNot_top (lo x) j h16 h1 h2, h3]
  exact wrap_id _ (by omega) (by have := lo_lt x; omega)

/-! ### Splitting -/

theorem rvG_zero (k : Nat) : rvG k 0 = 0 := by
  induction k with
  | zero => rfl
  | succ k ih => simp [rvG, ih]

/-- The key of a bucket of a size 2^j, of 16 bits: its j bits stand ahead of all others. -/
theorem rvG_bucket (j n : Nat) (hj : j ≤ 16) : rvG 16 (n % 2 ^ j) = rvG j n * 2 ^ (16 - j) := by
  have h := rvG_cut j (16 - j) (n % 2 ^ j)
  rw [show j + (16 - j) = 16 by omega, rvG_mod, Nat.div_eq_of_lt (Nat.mod_lt _ (Nat.two_pow_pos j)), rvG_zero, Nat.add_zero] at h
  exact h

theorem rvG_name (j n : Nat) (hj : j ≤ 16) : rvG j n * 2 ^ (16 - j) ≤ rvG 16 n ∧ rvG 16 n < rvG j n * 2 ^ (16 - j) + 2 ^ (16 - j) := by
  have h := rvG_cut j (16 - j) n
  rw [show j + (16 - j) = 16 by omega] at h
  have := rvG_lt (16 - j) (n / 2 ^ j)
  omega

/-- SPLITS: a name's key lies behind its bucket's, and ahead of each greater one of that size. -/
theorem splits (j n o : Nat) (hj : j ≤ 16) (ho : o < 2 ^ j) : rvG 16 (n % 2 ^ j) ≤ rvG 16 n ∧ (rvG 16 (n % 2 ^ j) < rvG 16 o → rvG 16 n < rvG 16 o) := by
  have h1 := rvG_name j n hj
  have h2 := rvG_bucket j n hj
  have h3 := rvG_bucket j o hj
  rw [Nat.mod_eq_of_lt ho] at h3
  refine ⟨by omega, fun h => ?_⟩
  have h4 : rvG j n < rvG j o := by
    rw [h2, h3] at h
    exact Nat.lt_of_mul_lt_mul_right h
  have h5 : (rvG j n + 1) * 2 ^ (16 - j) ≤ rvG j o * 2 ^ (16 - j) := Nat.mul_le_mul_right _ h4
  rw [Nat.add_mul, Nat.one_mul] at h5
  omega

/-- Of twice the size the key is no less. -/
theorem split_up (j n : Nat) (hj : j ≤ 15) : rvG 16 (n % 2 ^ j) ≤ rvG 16 (n % 2 ^ (j + 1)) := by
  have h1 := rvG_bucket j n (by omega)
  have h2 := rvG_bucket (j + 1) n (by omega)
  rw [rvG_top j, show 16 - (j + 1) = 15 - j by omega, Nat.add_mul] at h2
  rw [show 16 - j = 15 - j + 1 by omega, Nat.pow_succ] at h1
  have h3 : 2 * rvG j n * 2 ^ (15 - j) = rvG j n * (2 ^ (15 - j) * 2) := by rw [Nat.mul_comm (2 ^ (15 - j)) 2, ← Nat.mul_assoc, Nat.mul_comm (rvG j n) 2]
  omega

theorem mod_double (n s : Nat) (hs : 0 < s) : n % (2 * s) = n % s ∨ n % (2 * s) = n % s + s := by
  rw [Nat.mul_comm, Nat.mod_mul]
  have : n / s % 2 = 0 ∨ n / s % 2 = 1 := by omega
  rcases this with h | h <;> rw [h] <;> omega

/-- A number with its highest bit put on: its parent is what was there. -/
theorem par_add (p j : Nat) (hj : j < 16) (hp : p < 2 ^ j) : par (p + 2 ^ j) = p := by
  have hb : 2 ^ (j + 1) ≤ 2 ^ 16 := Nat.pow_le_pow_right (by decide) (by omega)
  rw [Nat.pow_succ] at hb
  obtain ⟨i, _, _, h4, h5, h6⟩ := top_bit (p + 2 ^ j) (by have := Nat.two_pow_pos j; omega) (by omega)
  have e : i = j := by
    rcases Nat.lt_trichotomy i j with c | c | c
    · have : 2 ^ (i + 1) ≤ 2 ^ j := Nat.pow_le_pow_right (by decide) c
      omega
    · exact c
    · have h8 : 2 ^ (j + 1) ≤ 2 ^ i := Nat.pow_le_pow_right (by decide) c
      rw [Nat.pow_succ] at h8
      omega
  subst e
  rw [h6]; omega

/-- A number that isn't 0, its parent, and the bit between. -/
theorem parent_of (n : Nat) (h0 : 0 < n) (h1 : n < 65536) : ∃ j, j < 16 ∧ n = par n + 2 ^ j ∧ par n < 2 ^ j ∧ rvG 16 (par n) < rvG 16 n := by
  obtain ⟨j, _, h16, h4, h5, h6⟩ := top_bit n h0 h1
  rw [Nat.pow_succ] at h5
  have hp : par n < 2 ^ j := by omega
  refine ⟨j, h16, by omega, hp, ?_⟩
  have e1 : n % 2 ^ j = par n := by
    have h7 : n = par n + 2 ^ j * 1 := by omega
    generalize par n = q at h7 hp ⊢
    rw [h7, Nat.add_mul_mod_self_left, Nat.mod_eq_of_lt hp]
  have e2 : n / 2 ^ j = 1 := by
    have h7 : n = par n + 2 ^ j * 1 := by omega
    have h8 : par n / 2 ^ j = 0 := Nat.div_eq_of_lt hp
    generalize par n = q at h7 h8
    rw [h7, Nat.add_mul_div_left _ _ (Nat.two_pow_pos j), h8]
  have e3 : rvG j n = rvG j (par n) := by rw [← e1, rvG_mod]
  have h7 := rvG_name (j + 1) n (by omega)
  rw [rvG_top j, e2, e3] at h7
  have h8 := rvG_bucket j (par n) (by omega)
  rw [Nat.mod_eq_of_lt hp, show 16 - j = 15 - j + 1 by omega, Nat.pow_succ] at h8
  have h9 : (2 * rvG j (par n) + 1 % 2) * 2 ^ (16 - (j + 1)) = rvG j (par n) * (2 ^ (15 - j) * 2) + 2 ^ (15 - j) := by
    rw [show 16 - (j + 1) = 15 - j by omega, Nat.add_mul, show 1 % 2 = 1 from rfl, Nat.one_mul, Nat.mul_comm (2 ^ (15 - j)) 2, ← Nat.mul_assoc, Nat.mul_comm (rvG j (par n)) 2]
  have := Nat.two_pow_pos (15 - j)
  omega

/-- Each bit stands at 15 less its place. -/
theorem bit_at (m i : Nat) (hi : i < 16) : rvG 16 m / 2 ^ (15 - i) % 2 = m / 2 ^ i % 2 := by
  have h := rvG_cut (i + 1) (15 - i) m
  rw [show i + 1 + (15 - i) = 16 by omega] at h
  rw [h, Nat.mul_comm, Nat.add_comm, Nat.add_mul_div_left _ _ (Nat.two_pow_pos _), Nat.div_eq_of_lt (rvG_lt _ _), Nat.zero_add, rvG_top]
  omega

end Go.Proofs.Ytpmhaigheadeeaa.RvMath
