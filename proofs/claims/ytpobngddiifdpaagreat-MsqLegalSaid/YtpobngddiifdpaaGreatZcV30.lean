/- One core alone allocates and drops. -/
import Derived.Test.YtpobngddiifdpaaGreatZcV27
set_option linter.unusedSimpArgs false
set_option linter.unusedVariables false
namespace Go.Proofs.YtpobngddiifdpaaGreat.V
open Go Go.RowKit Go.Proofs.YtpobngddiifdpaaGreat.Hz
set_option maxRecDepth 100000

abbrev Rest := Den (.cons tI (.cons tI (.cons tR3 (.cons tL .nil))))
section
variable {s : Sy} {k : Int} {m : Me} {F : List Frm} {r : Rest}
theorem al_at {f : Frm} (h0 : 0 ≤ k) (h1 : k < s.2.1.length) : alS (stS s k m (F ++ [f], r)) k = allocF (stS s k m (F ++ [f], r)) k f.1 f.2.1 f.2.2.1 f.2.2.2.1 := by
  obtain ⟨op, pc, q, l, u⟩ := f
  obtain rfl : u = () := rfl
  exact alS_some (topI_st h0 h1)
end
end Go.Proofs.YtpobngddiifdpaaGreat.V

set_option linter.unusedSimpArgs false
set_option linter.unusedVariables false
namespace Go.Proofs.YtpobngddiifdpaaGreat.V
open Go Go.RowKit Go.Proofs.YtpobngddiifdpaaGreat.Hz
set_option maxRecDepth 100000

/-! ### A new system -/
/-- So many numbers from one on. -/
def up : Nat → Int → List Int
  | 0, _ => []
  | j + 1, a => a :: up j (a + 1)
theorem up_mem : ∀ (j : Nat) (a p : Int), p ∈ up j a ↔ a ≤ p ∧ p < a + j
  | 0, a, p => by
    constructor
    · intro h; cases h
    · intro h; omega
  | j + 1, a, p => by
    show p ∈ a :: up j (a + 1) ↔ _
    rw [List.mem_cons, up_mem j (a + 1) p]
    omega
theorem up_nodup : ∀ (j : Nat) (a : Int), (up j a).Nodup
  | 0, _ => List.nodup_nil
  | j + 1, a => List.nodup_cons.2 ⟨fun h => by have := (up_mem j (a + 1) a).1 h; omega, up_nodup j (a + 1)⟩
theorem nI_rep {n : Nat} {i : Int} : nI (List.replicate n (0 : Int)) i = 0 := by
  show List.getD (List.replicate n (0 : Int)) i.toNat 0 = 0
  rw [List.getD_eq_getElem?_getD, List.getElem?_replicate]
  split <;> rfl
theorem fill_at {n : Nat} (h1 : 1 ≤ n) (h2 : n ≤ 200) : ∀ j : Nat, j ≤ n → (fillN (newI n) n j).2 = (newI n).2 ∧ (fillN (newI n) n j).1.length = 128 + 4 * n ∧ ∀ q : Int, 1 ≤ q → q ≤ n → nI (fillN (newI n) n j).1 (lk q) = if q ≤ j then (if q = n then 0 else q + 1) else 0
  | 0, _ => by
    refine ⟨rfl, ?_, fun q h1 h2 => ?_⟩
    · show (List.replicate _ _).length = _
      rw [List.length_replicate]; omega
    · rw [if_neg (by omega)]
      exact nI_rep
  | j + 1, hj => by
    obtain ⟨e1, e2, e3⟩ := fill_at h1 h2 j (by omega)
    have hg : (newI n).2.1.length = n + 1 := by show (List.replicate _ _).length = _; rw [List.length_replicate]; omega
    have hf : Fits (fillN (newI n) n j) := ⟨by rw [e2, e1, hg]; omega, by rw [e1, hg]; omega⟩
    have hlk := lk_is ((j : Int) + 1)
    have hst : fillN (newI n) n (j + 1) = (List.set (α := Int) (fillN (newI n) n j).1 (lk ((j : Int) + 1)).toNat (if (j : Int) + 1 = n then 0 else (j : Int) + 2), (fillN (newI n) n j).2) := by
      show storeM _ (atI ((j : Int) + 1) 0) _ = _
      rw [atI_link (by omega) (by omega)]
      exact store_link (by omega) (by rw [e1, hg]; omega) hf
    rw [hst]
    refine ⟨e1, ?_, fun q q1 q2 => ?_⟩
    · show (List.set (α := Int) _ _ _).length = _
      rw [List.length_set]; exact e2
    · have hlq := lk_is q
      show nI (List.set (α := Int) _ _ _) (lk q) = _
      rw [nI_set (by omega) (by omega)]
      by_cases c : q = (j : Int) + 1
      · subst c
        rw [if_pos ⟨rfl, by rw [e2]; omega⟩, if_pos (show (j : Int) + 1 ≤ ((j + 1 : Nat) : Int) by omega)]
        by_cases d : (j : Int) + 1 = n
        · rw [if_pos d, if_pos d]
        · rw [if_neg d, if_neg d]; omega
      · rw [if_neg (by omega), e3 q q1 q2]
        by_cases d : q ≤ j
        · rw [if_pos d, if_pos (show q ≤ ((j + 1 : Nat) : Int) by omega)]
        · rw [if_neg d, if_neg (show ¬ q ≤ ((j + 1 : Nat) : Int) by omega)]
theorem chain_up {W : Li} {n : Nat} (hW : ∀ q : Int, 1 ≤ q → q ≤ n → nI W (lk q) = if q = n then 0 else q + 1) : ∀ (j : Nat) (a : Int), 1 ≤ a → a + j = n + 1 → Chain W (if a ≤ n then a else 0) (up j a)
  | 0, a, _, h => by rw [if_neg (by omega)]; rfl
  | j + 1, a, h1, h => by
    rw [if_pos (by omega)]
    refine ⟨rfl, ?_⟩
    have ih := chain_up hW j (a + 1) (by omega) (by omega)
    rw [hW a h1 (by omega)]
    by_cases c : a = n
    · rw [if_pos c]; rw [if_neg (by omega)] at ih; exact ih
    · rw [if_neg c]; rw [if_pos (by omega)] at ih; exact ih
theorem FL.filled {n : Nat} (h1 : 1 ≤ n) (h2 : n ≤ 200) : FL (fillM (newI n)) (up n 1) := by
  have hg : (newI n).2.1.length = n + 1 := by show (List.replicate _ _).length = _; rw [List.length_replicate]; omega
  obtain ⟨e1, e2, e3⟩ := fill_at h1 h2 n (Nat.le_refl _)
  have hf : Fits (fillN (newI n) n n) := ⟨by rw [e2, e1, hg]; omega, by rw [e1, hg]; omega⟩
  have hM : fillM (newI n) = (List.set (α := Int) (fillN (newI n) n n).1 (0 : Int).toNat 2, (fillN (newI n) n n).2) := by
    unfold fillM
    rw [hg, show ((n + 1 : Nat) : Int) - 1 = n by omega, show n + 1 - 1 = n from rfl]
    exact store_word (by decide) (by decide) hf
  have hlen : (List.set (α := Int) (fillN (newI n) n n).1 (0 : Int).toNat 2).length = 128 + 4 * n := by rw [List.length_set]; exact e2
  rw [hM, e1]
  refine ⟨⟨by show (List.set (α := Int) _ _ _).length = _; rw [hlen, hg]; omega, by rw [hg]; omega⟩, ?_, up_nodup _ _, fun p => ?_, rfl⟩
  · have e0 : nI (List.set (α := Int) (fillN (newI n) n n).1 (0 : Int).toNat 2) 0 = 2 := by
      rw [nI_set (by decide) (by decide), if_pos ⟨rfl, by rw [e2]; omega⟩]
    show Chain (List.set (α := Int) (fillN (newI n) n n).1 (0 : Int).toNat 2) (idxI (nI (List.set (α := Int) (fillN (newI n) n n).1 (0 : Int).toNat 2) 0)) _
    rw [e0]
    have h := chain_up (W := List.set (α := Int) (fillN (newI n) n n).1 (0 : Int).toNat 2) (n := n) (fun q q1 q2 => by
      have hlq := lk_is q
      rw [nI_set (by decide) (by omega), if_neg (by omega), e3 q q1 q2, if_pos q2]) n 1 (by decide) (by omega)
    rw [if_pos (by omega)] at h
    exact h
  · rw [up_mem, hg]
    show _ ↔ 1 ≤ p ∧ p < ((n + 1 : Nat) : Int) ∧ nI (List.replicate _ (0 : Int)) p = 0
    rw [nI_rep]
    omega
end Go.Proofs.YtpobngddiifdpaaGreat.V

set_option linter.unusedSimpArgs false
set_option linter.unusedVariables false
namespace Go.Proofs.YtpobngddiifdpaaGreat.V
open Go Go.RowKit Go.Proofs.YtpobngddiifdpaaGreat.Hz
set_option maxRecDepth 100000

theorem nodup_len : ∀ (n : Nat) (l : List Int), l.Nodup → (∀ p ∈ l, 0 ≤ p ∧ p < n) → l.length ≤ n
  | 0, l, _, h => by
    cases l with
    | nil => exact Nat.le_refl _
    | cons a r => have := h a (List.mem_cons_self ..); omega
  | n + 1, l, hn, h => by
    have ih := nodup_len n (l.erase (n : Int)) (hn.erase _) fun p hp => by
      have h1 := (hn.mem_erase_iff).1 hp
      have h2 := h p h1.2
      have h3 : p ≠ (n : Int) := h1.1
      omega
    by_cases c : (n : Int) ∈ l
    · rw [List.length_erase_of_mem c] at ih; omega
    · rw [List.erase_of_not_mem c] at ih; omega
/-- Where the walk is behind i nodes. -/
def walkP (l : List Int) (i : Nat) : Int := l.getD i 0
theorem Chain.drop {W : Li} : ∀ {l : List Int} {p : Int}, Chain W p l → ∀ i : Nat, i ≤ l.length → Chain W (walkP l i) (l.drop i)
  | [], p, h, i, hi => by
    have : i = 0 := by simpa using hi
    subst this
    rfl
  | q :: l, p, h, 0, _ => by
    show Chain W q (q :: l)
    exact ⟨rfl, h.2⟩
  | q :: l, p, h, i + 1, hi => Chain.drop h.2 i (by simpa using hi)
theorem Chain.next {W : Li} {l : List Int} {p : Int} (h : Chain W p l) {i : Nat} (hi : i < l.length) : nI W (lk (walkP l i)) = walkP l (i + 1) := by
  have h1 := Chain.drop h i (Nat.le_of_lt hi)
  have h2 := Chain.drop h (i + 1) hi
  rw [List.drop_eq_getElem_cons hi] at h1
  have e : walkP l i = l[i] := by unfold walkP; rw [List.getD_eq_getElem?_getD, List.getElem?_eq_getElem hi]; rfl
  have h3 := h1.2
  rw [e]
  cases hd : l.drop (i + 1) with
  | nil => rw [hd] at h2 h3; exact h3.trans h2.symm
  | cons a r => rw [hd] at h2 h3; exact h3.1.trans h2.1.symm
abbrev vLB (l : Li) (b : Bool) : SV := .tup [(false, [.sl tI l false]), (false, [.bool b])]
end Go.Proofs.YtpobngddiifdpaaGreat.V

set_option linter.unusedSimpArgs false
set_option linter.unusedVariables false
namespace Go.Proofs.YtpobngddiifdpaaGreat.V
open Go Go.RowKit Go.Proofs.YtpobngddiifdpaaGreat.Hz
set_option maxRecDepth 100000

abbrev nC (s : Sy) : Nat := s.2.1.length
theorem withS_n {s : Sy} {k : Int} {c : Cor} : nC (withS s k c) = nC s := List.length_set
theorem setS_n {s : Sy} {k : Int} {f : Frm} : nC (setS s k f) = nC s := by unfold setS; split <;> first | exact withS_n | rfl
end Go.Proofs.YtpobngddiifdpaaGreat.V
