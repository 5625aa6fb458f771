/- EventTags: the law, walked. -/
import Derived.Test.YtlcjkogdbleboaaGreatE6
set_option linter.unusedSimpArgs false
set_option linter.unusedVariables false
namespace Go.Proofs.YtlcjkogdbleboaaGreat.V
open Go Go.RowKit Go.Proofs.YtlcjkogdbleboaaGreat.Hz
set_option maxRecDepth 100000

abbrev Lp := List (Den (.int .u16))
abbrev vP (l : Lp) : SV := .one (.sl (.int .u16) l false)
/-- A pick. -/
def pick (l : Lp) (i : Nat) : Int := l.getD i (0 : Int)
theorem pick_in {l : Lp} (hw : ∀ x ∈ l, WFd (.int .u16) x) {i : Nat} (hi : i < l.length) : 0 ≤ pick l i ∧ pick l i ≤ 65535 := by
  unfold pick
  rw [List.getD_eq_getElem?_getD, List.getElem?_eq_getElem hi]
  exact wf_u16 (hw _ (List.getElem_mem hi))
theorem vU16_q {x : Int} (h0 : 0 ≤ x) (h1 : x ≤ 65535) (d : Int) (hd : 0 < d) : IntKind.u16.wrap (x.tdiv d) = x / d := by
  rw [Int.tdiv_eq_ediv_of_nonneg h0]
  have h2 : 0 ≤ x / d := Int.ediv_nonneg h0 (by omega)
  have h3 : x / d ≤ x := Int.ediv_le_self _ h0
  simp only [IntKind.wrap, IntKind.bits, IntKind.signed]
  simp
  omega
theorem Fin.begE {N : Nat} {s : Sy} {k op e : Int} (h : Fin N s) : Fin N (V.begE s k op e) := by
  unfold V.begE
  split
  · exact h.callS
  · exact h
/-- The op that a pick begins. -/
def opOf (x : Int) : Int := 19 + x / 8 % 3
theorem fill_word {n : Nat} (h1 : 1 ≤ n) (h2 : n ≤ 200) : ∀ j : Nat, j ≤ n → ∀ p : Int, 0 ≤ p → p < 128 → nI (fillN (newI n) n j).1 p = 0
  | 0, _, p, _, _ => nI_rep
  | j + 1, hj, p, p0, p1 => by
    obtain ⟨e1, e2, _⟩ := fill_at h1 h2 j (by omega)
    have ih := fill_word h1 h2 j (by omega) p p0 p1
    have hg : (newI n).2.1.length = n + 1 := by show (List.replicate _ _).length = _; rw [List.length_replicate]; omega
    have hf : Fits (fillN (newI n) n j) := ⟨by rw [e2, e1, hg]; omega, by rw [e1, hg]; omega⟩
    have hlk := lk_is ((j : Int) + 1)
    have hst : fillN (newI n) n (j + 1) = (List.set (α := Int) (fillN (newI n) n j).1 (lk ((j : Int) + 1)).toNat (if (j : Int) + 1 = n then 0 else (j : Int) + 2), (fillN (newI n) n j).2) := by
      show storeM _ (atI ((j : Int) + 1) 0) _ = _
      rw [atI_link (by omega) (by omega)]
      exact store_link (by omega) (by rw [e1, hg]; omega) hf
    rw [hst]
    show nI (List.set (α := Int) _ _ _) p = _
    rw [nI_set (by omega) p0, if_neg (by omega)]
    exact ih
/-- A new system's words. -/
theorem newF_mem {c : Int} {n : Nat} (h1 : 1 ≤ n) (h2 : n ≤ 200) : (newF c n).1.2.1.length = n + 1 ∧ (newF c n).1.1.length = 128 + 4 * n ∧ (newF c n).1.2.2.1 = false ∧ (∀ p : Int, 0 < p → p < 128 → nI (newF c n).1.1 p = 0) ∧ nI (newF c n).1.1 0 = 2 := by
  have hg : (newI n).2.1.length = n + 1 := by show (List.replicate _ _).length = _; rw [List.length_replicate]; omega
  obtain ⟨e1, e2, e3⟩ := fill_at h1 h2 n (Nat.le_refl _)
  have hf : Fits (fillN (newI n) n n) := ⟨by rw [e2, e1, hg]; omega, by rw [e1, hg]; omega⟩
  have hM : (newF c n).1 = (List.set (α := Int) (fillN (newI n) n n).1 (0 : Int).toNat 2, (fillN (newI n) n n).2) := by
    show fillM (newI n) = _
    unfold fillM
    rw [hg, show ((n + 1 : Nat) : Int) - 1 = n by omega, show n + 1 - 1 = n from rfl]
    exact store_word (by decide) (by decide) hf
  rw [hM, e1]
  refine ⟨hg, by show (List.set (α := Int) _ _ _).length = _; rw [List.length_set]; exact e2, rfl, fun p p0 p1 => ?_, ?_⟩
  · show nI (List.set (α := Int) _ _ _) p = 0
    rw [nI_set (by decide) (by omega), if_neg (by omega)]
    exact fill_word h1 h2 n (Nat.le_refl _) p (by omega) p1
  · show nI (List.set (α := Int) _ _ _) 0 = 2
    rw [nI_set (by decide) (by decide), if_pos ⟨rfl, by rw [e2]; omega⟩]
theorem newF_core {c : Int} {n : Int} {k : Int} : cAt (newF c n).2.1 k = dflt tCore := by
  unfold cAt
  show (List.replicate c.toNat (dflt tCore)).getD _ _ = _
  rw [List.getD_eq_getElem?_getD, List.getElem?_replicate]
  split <;> rfl
theorem newF_evI {c n : Nat} {Q : Frm → Prop} (h1 : 1 ≤ n) (h2 : n ≤ 200) (hc : 1 ≤ c) (hc8 : c ≤ 8) : EvI c Q (newF c n) where
  fits := (newF_fin (by omega) (by omega) (by omega)).fits
  good := (newF_mem h1 h2).2.2.1
  two := by rw [(newF_mem h1 h2).1]; omega
  cores := List.length_replicate
  one k hk := .inl (by rw [newF_core]; rfl)
theorem EvI.make {c : Nat} {Q : Frm → Prop} {s : Sy} {e : Int} {b : Bool} (h : EvI c Q s) (h0 : 0 ≤ e) (h1 : e ≤ 15) : EvI c Q (mkE s e b) := by
  rw [mkE_is h0 h1 h.fits]
  exact ⟨setW_fits h.fits, h.good, h.two, h.cores, h.one⟩
/-- How many cores. -/
theorem cores_of {a : Int} (h0 : 0 ≤ a) (h1 : a ≤ 255) : ∃ c : Nat, 1 ≤ c ∧ c ≤ 8 ∧ wrap64 (1 + a.tmod 8) = c := by
  have e : a.tmod 8 = a % 8 := Int.tmod_eq_emod_of_nonneg h0
  rw [e]
  refine ⟨(1 + a % 8).toNat, by omega, by omega, ?_⟩
  rw [IntWalk.wrap64_in _ (by omega)]
  omega
end Go.Proofs.YtlcjkogdbleboaaGreat.V
