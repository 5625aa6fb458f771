/- ScanSafe: a turn of a core, walked. ScanSafe: the law, walked. ScanSafe: the law, walked. -/
import Derived.Test.YtjeiopkfdgllhaaM18
import Derived.Test.YtjeiopkfdgllhaaR9
import Derived.Test.YtjeiopkfdgllhaaV17
import Derived.Test.YtjeiopkfdgllhaaVOpen
set_option linter.unusedSimpArgs false
set_option linter.unusedVariables false
namespace Go.Proofs.Ytjeiopkfdgllhaa.V
open Go Go.RowKit Go.Proofs.Ytjeiopkfdgllhaa.Hz
set_option maxRecDepth 100000

abbrev cPl (x : Pl) : List C := [.int .i64 x.1, .int .i64 x.2.1, .int .i64 x.2.2.1]
abbrev vPl (x : Pl) : SV := .agg (cPl x)
abbrev vSP (s : Sy) (x : Pl) : SV := .tup [(true, cS s), (true, cPl x)]
set_option maxHeartbeats 4000000 in
theorem s_turn {N : Nat} (s : Sy) (k : Int) (x : Pl) (wr : Bool) (hF : Fin N s) (hN : N ≤ 800000) (h0 : 0 ≤ k) (h1 : k < s.2.1.length) : Spec Try.prog 10 [vS s, vI k, vPl x, vB wr] (vSP (turnS s k x wr).1 (turnS s k x wr).2) := by
  obtain ⟨hf, hfits⟩ : Fine s ∧ Fits s.1 := ⟨hF.fine (by omega), hF.fits⟩
  have hg1 : s.1.2.1.length ≤ 1000000 := Nat.le_trans hfits.2 (by decide)
  have hw1 : s.1.1.length ≤ 1000000 := by have := hfits.1; have := hfits.2; omega
  have hcl : s.2.1.length ≤ 1000000 := Nat.le_trans hF.cores (by decide)
  have hstep := s_scanStep s k hF (by omega)
  have hidx : Spec Try.prog 37 [vI (cV s k)] (vI (idxI (cV s k))) := s_refIndex _
  have hkk : 0 ≤ k ∧ k < (s.2.1.length : Int) := ⟨h0, h1⟩
  refine spec_introF true tab_ok 0 Try.func10 rfl (by kernel_rfl) rfl ?_
  conv => whnf
  repeat (refine ⟨by first | omega | (simp only [Option.getD_none, Option.getD_some]; omega) | (simp; done) | (simp; omega), ?_⟩; conv => whnf)
  first | refine .inr (.inl ⟨_, hf.top (k := k), ?_⟩) | refine .inl (.inr (.inl ⟨_, hf.top (k := k), ?_⟩))
  conv => whnf
  repeat (refine ⟨by first | omega | (simp only [Option.getD_none, Option.getD_some]; omega) | (simp; done) | (simp; omega), ?_⟩; conv => whnf)
  refine bcase (fun h => ?_) (fun h => ?_)
  · rw [show turnS s k x wr = (scanS s k, x) from if_pos h]
    conv => whnf
    repeat (refine ⟨by first | omega | (simp only [Option.getD_none, Option.getD_some]; omega) | (simp; done) | (simp; omega), ?_⟩; conv => whnf)
    refine ⟨p_hazellaw06_turn_3, g_hazellaw06_turn_3, by kernel_rfl, ?st1, ?_, ?_⟩
    rotate_left
    · conv => whnf
      repeat' (first | (refine .inr (.inl ⟨_, hstep, ?_⟩); conv => whnf) | (refine .inl (.inr (.inl ⟨_, hstep, ?_⟩)); conv => whnf) | (refine And.intro ?_ ?_ <;> conv => whnf) | exact rfl)
    conv => whnf
    repeat (refine ⟨by first | omega | (simp only [Option.getD_none, Option.getD_some]; omega) | (simp; done) | (simp; omega), ?_⟩; conv => whnf)
    first | exact .inl rfl | exact .inr rfl
  rw [show turnS s k x wr = idleS s k x wr from if_neg (by rw [h]; decide)]
  unfold idleS
  conv => whnf
  repeat (refine ⟨by first | omega | (simp only [Option.getD_none, Option.getD_some]; omega) | (simp; done) | (simp; omega), ?_⟩; conv => whnf)
  refine dcase (fun c0 => ?_) (fun c0 => ?_)
  · rw [if_pos c0]
    cases wr with
    | true =>
      rw [if_pos rfl]
      conv => whnf
      repeat (refine ⟨by first | omega | (simp only [Option.getD_none, Option.getD_some]; omega) | (simp; done) | (simp; omega), ?_⟩; conv => whnf)
      first | refine .inr (.inl ⟨_, s_refCall s k 1 0 0 0 hcl, ?_⟩) | refine .inl (.inr (.inl ⟨_, s_refCall s k 1 0 0 0 hcl, ?_⟩))
      conv => whnf
      repeat (refine ⟨by first | omega | (simp only [Option.getD_none, Option.getD_some]; omega) | (simp; done) | (simp; omega), ?_⟩; conv => whnf)
      first | exact .inl rfl | exact .inr rfl
    | false =>
      rw [if_neg (by decide)]
      conv => whnf
      repeat (refine ⟨by first | omega | (simp only [Option.getD_none, Option.getD_some]; omega) | (simp; done) | (simp; omega), ?_⟩; conv => whnf)
      first | refine .inr (.inl ⟨_, s_refCall s k 3 100 0 0 hcl, ?_⟩) | refine .inl (.inr (.inl ⟨_, s_refCall s k 3 100 0 0 hcl, ?_⟩))
      conv => whnf
      repeat (refine ⟨by first | omega | (simp only [Option.getD_none, Option.getD_some]; omega) | (simp; done) | (simp; omega), ?_⟩; conv => whnf)
      first | exact .inl rfl | exact .inr rfl
  rw [if_neg c0]
  conv => whnf
  repeat (refine ⟨by first | omega | (simp only [Option.getD_none, Option.getD_some]; omega) | (simp; done) | (simp; omega), ?_⟩; conv => whnf)
  refine dcase (fun c1 => ?_) (fun c1 => ?_)
  · rw [if_pos c1]
    conv => whnf
    refine ⟨hkk, ?_⟩
    conv => whnf
    refine dcase (fun h => ?_) (fun h => ?_)
    · rw [show (if cE s k ≠ 0 then ((s, (0, 0, 0, ())) : Sy × Pl) else (s, (2, cV s k, 0, ()))) = _ from if_pos h]
      conv => whnf
      repeat (refine ⟨by first | omega | (simp only [Option.getD_none, Option.getD_some]; omega) | (simp; done) | (simp; omega), ?_⟩; conv => whnf)
      first | exact .inl rfl | exact .inr rfl
    · rw [show (if cE s k ≠ 0 then ((s, (0, 0, 0, ())) : Sy × Pl) else (s, (2, cV s k, 0, ()))) = _ from if_neg h]
      conv => whnf
      repeat (refine ⟨by first | omega | (simp only [Option.getD_none, Option.getD_some]; omega) | (simp; done) | (simp; omega), ?_⟩; conv => whnf)
      refine ⟨p_hazellaw06_turn_12, g_hazellaw06_turn_12, by kernel_rfl, ?st2, ?_, ?_⟩
      rotate_left
      · conv => whnf
        repeat' (first | (refine ⟨hkk, ?_⟩; conv => whnf) | (refine And.intro ?_ ?_ <;> conv => whnf) | exact rfl)
      conv => whnf
      repeat (refine ⟨by first | omega | (simp only [Option.getD_none, Option.getD_some]; omega) | (simp; done) | (simp; omega), ?_⟩; conv => whnf)
      first | exact .inl rfl | exact .inr rfl
  rw [if_neg c1]
  conv => whnf
  repeat (refine ⟨by first | omega | (simp only [Option.getD_none, Option.getD_some]; omega) | (simp; done) | (simp; omega), ?_⟩; conv => whnf)
  refine dcase (fun c2 => ?_) (fun c2 => ?_)
  · rw [if_pos c2]
    conv => whnf
    repeat (refine ⟨by first | omega | (simp only [Option.getD_none, Option.getD_some]; omega) | (simp; done) | (simp; omega), ?_⟩; conv => whnf)
    refine ⟨p_hazellaw06_turn_14, g_hazellaw06_turn_14, by kernel_rfl, ?st3, ?_, ?_⟩
    rotate_left
    · conv => whnf
      repeat' (first | (refine .inl ⟨_, s_refAt x.2.1 2, ?_⟩; conv => whnf) | (refine .inl (.inl ⟨_, s_refAt x.2.1 2, ?_⟩); conv => whnf) | (refine .inr (.inl ⟨_, s_refStore s.1 (atI x.2.1 2) x.2.1 hg1 hw1, ?_⟩); conv => whnf) | (refine .inl (.inr (.inl ⟨_, s_refStore s.1 (atI x.2.1 2) x.2.1 hg1 hw1, ?_⟩)); conv => whnf) | (refine .inr (.inl ⟨_, s_refMem s (storeM s.1 (atI x.2.1 2) x.2.1), ?_⟩); conv => whnf) | (refine .inl (.inr (.inl ⟨_, s_refMem s (storeM s.1 (atI x.2.1 2) x.2.1), ?_⟩)); conv => whnf) | (refine And.intro ?_ ?_ <;> conv => whnf) | exact rfl)
    conv => whnf
    repeat (refine ⟨by first | omega | (simp only [Option.getD_none, Option.getD_some]; omega) | (simp; done) | (simp; omega), ?_⟩; conv => whnf)
    first | exact .inl rfl | exact .inr rfl
  rw [if_neg c2]
  conv => whnf
  repeat (refine ⟨by first | omega | (simp only [Option.getD_none, Option.getD_some]; omega) | (simp; done) | (simp; omega), ?_⟩; conv => whnf)
  refine dcase (fun c3 => ?_) (fun c3 => ?_)
  · rw [if_pos c3]
    conv => whnf
    repeat (refine ⟨by first | omega | (simp only [Option.getD_none, Option.getD_some]; omega) | (simp; done) | (simp; omega), ?_⟩; conv => whnf)
    first | refine .inr (.inl ⟨_, s_refLoad s.1 100 hg1, ?_⟩) | refine .inl (.inr (.inl ⟨_, s_refLoad s.1 100 hg1, ?_⟩))
    conv => whnf
    repeat (refine ⟨by first | omega | (simp only [Option.getD_none, Option.getD_some]; omega) | (simp; done) | (simp; omega), ?_⟩; conv => whnf)
    refine ⟨p_hazellaw06_turn_17, g_hazellaw06_turn_17, by kernel_rfl, ?st4, ?_, ?_⟩
    rotate_left
    · conv => whnf
      repeat' (first | (refine .inr (.inl ⟨_, s_refMem s (loadM s.1 100), ?_⟩); conv => whnf) | (refine .inl (.inr (.inl ⟨_, s_refMem s (loadM s.1 100), ?_⟩)); conv => whnf) | (refine And.intro ?_ ?_ <;> conv => whnf) | exact rfl)
    conv => whnf
    repeat (refine ⟨by first | omega | (simp only [Option.getD_none, Option.getD_some]; omega) | (simp; done) | (simp; omega), ?_⟩; conv => whnf)
    first | exact .inl rfl | exact .inr rfl
  rw [if_neg c3]
  conv => whnf
  repeat (refine ⟨by first | omega | (simp only [Option.getD_none, Option.getD_some]; omega) | (simp; done) | (simp; omega), ?_⟩; conv => whnf)
  refine dcase (fun c4 => ?_) (fun c4 => ?_)
  · rw [if_pos c4]
    obtain ⟨m', hm'⟩ : ∃ m', casM s.1 100 x.2.2.1 (nextI x.2.2.1 x.2.1 0) = m' := ⟨_, rfl⟩
    have hcas := s_refCas s.1 100 x.2.2.1 (nextI x.2.2.1 x.2.1 0) hfits
    rw [hm'] at hcas ⊢
    obtain ⟨b, hb⟩ : ∃ b, casB s.1 100 x.2.2.1 = b := ⟨_, rfl⟩
    rw [hb] at hcas ⊢
    conv => whnf
    repeat (refine ⟨by first | omega | (simp only [Option.getD_none, Option.getD_some]; omega) | (simp; done) | (simp; omega), ?_⟩; conv => whnf)
    refine ⟨p_hazellaw06_turn_19, g_hazellaw06_turn_19, by kernel_rfl, ?st5, ?_, ?_⟩
    rotate_left
    · conv => whnf
      repeat' (first | (refine .inl ⟨_, s_refNext x.2.2.1 x.2.1 0, ?_⟩; conv => whnf) | (refine .inl (.inl ⟨_, s_refNext x.2.2.1 x.2.1 0, ?_⟩); conv => whnf) | (refine .inr (.inl ⟨_, hcas, ?_⟩); conv => whnf) | (refine .inl (.inr (.inl ⟨_, hcas, ?_⟩)); conv => whnf) | (refine And.intro ?_ ?_ <;> conv => whnf) | exact rfl)
    conv => whnf
    repeat (refine ⟨by first | omega | (simp only [Option.getD_none, Option.getD_some]; omega) | (simp; done) | (simp; omega), ?_⟩; conv => whnf)
    first | refine .inr (.inl ⟨_, s_refMem s m', ?_⟩) | refine .inl (.inr (.inl ⟨_, s_refMem s m', ?_⟩))
    conv => whnf
    repeat (refine ⟨by first | omega | (simp only [Option.getD_none, Option.getD_some]; omega) | (simp; done) | (simp; omega), ?_⟩; conv => whnf)
    cases b with
    | false =>
      rw [if_neg (by decide)]
      conv => whnf
      repeat (refine ⟨by first | omega | (simp only [Option.getD_none, Option.getD_some]; omega) | (simp; done) | (simp; omega), ?_⟩; conv => whnf)
      refine ⟨p_hazellaw06_turn_22, g_hazellaw06_turn_22, by kernel_rfl, ?st6, ?_, ?_⟩
      rotate_left
      · conv => whnf
        repeat' (first | (refine And.intro ?_ ?_ <;> conv => whnf) | exact rfl)
      conv => whnf
      repeat (refine ⟨by first | omega | (simp only [Option.getD_none, Option.getD_some]; omega) | (simp; done) | (simp; omega), ?_⟩; conv => whnf)
      first | exact .inl rfl | exact .inr rfl
    | true =>
      rw [if_pos rfl]
      conv => whnf
      repeat (refine ⟨by first | omega | (simp only [Option.getD_none, Option.getD_some]; omega) | (simp; done) | (simp; omega), ?_⟩; conv => whnf)
      first | refine .inl ⟨_, s_refIndex x.2.2.1, ?_⟩ | refine .inl (.inl ⟨_, s_refIndex x.2.2.1, ?_⟩)
      conv => whnf
      repeat (refine ⟨by first | omega | (simp only [Option.getD_none, Option.getD_some]; omega) | (simp; done) | (simp; omega), ?_⟩; conv => whnf)
      refine dcase (fun h => ?_) (fun h => ?_)
      · rw [if_pos h]
        conv => whnf
        repeat (refine ⟨by first | omega | (simp only [Option.getD_none, Option.getD_some]; omega) | (simp; done) | (simp; omega), ?_⟩; conv => whnf)
        first | exact .inl rfl | exact .inr rfl
      · rw [if_neg h]
        conv => whnf
        repeat (refine ⟨by first | omega | (simp only [Option.getD_none, Option.getD_some]; omega) | (simp; done) | (simp; omega), ?_⟩; conv => whnf)
        first | refine .inr (.inl ⟨_, s_refCall (m', s.2) k 5 (idxI x.2.2.1) 0 0 hcl, ?_⟩) | refine .inl (.inr (.inl ⟨_, s_refCall (m', s.2) k 5 (idxI x.2.2.1) 0 0 hcl, ?_⟩))
        conv => whnf
        repeat (refine ⟨by first | omega | (simp only [Option.getD_none, Option.getD_some]; omega) | (simp; done) | (simp; omega), ?_⟩; conv => whnf)
        first | exact .inl rfl | exact .inr rfl
  rw [if_neg c4]
  conv => whnf
  repeat (refine ⟨by first | omega | (simp only [Option.getD_none, Option.getD_some]; omega) | (simp; done) | (simp; omega), ?_⟩; conv => whnf)
  refine dcase (fun c5 => ?_) (fun c5 => ?_)
  · rw [if_pos c5]
    conv => whnf
    refine ⟨hkk, ?_⟩
    conv => whnf
    first | refine .inl ⟨_, hidx, ?_⟩ | refine .inl (.inl ⟨_, hidx, ?_⟩)
    conv => whnf
    repeat (refine ⟨by first | omega | (simp only [Option.getD_none, Option.getD_some]; omega) | (simp; done) | (simp; omega), ?_⟩; conv => whnf)
    refine dcase (fun h => ?_) (fun h => ?_)
    · rw [if_pos h]
      conv => whnf
      repeat (refine ⟨by first | omega | (simp only [Option.getD_none, Option.getD_some]; omega) | (simp; done) | (simp; omega), ?_⟩; conv => whnf)
      first | exact .inl rfl | exact .inr rfl
    · rw [if_neg h]
      conv => whnf
      repeat (refine ⟨by first | omega | (simp only [Option.getD_none, Option.getD_some]; omega) | (simp; done) | (simp; omega), ?_⟩; conv => whnf)
      first | exact .inl rfl | exact .inr rfl
  rw [if_neg c5]
  conv => whnf
  repeat (refine ⟨by first | omega | (simp only [Option.getD_none, Option.getD_some]; omega) | (simp; done) | (simp; omega), ?_⟩; conv => whnf)
  refine dcase (fun c6 => ?_) (fun c6 => ?_)
  · rw [if_pos c6]
    conv => whnf
    repeat (refine ⟨by first | omega | (simp only [Option.getD_none, Option.getD_some]; omega) | (simp; done) | (simp; omega), ?_⟩; conv => whnf)
    refine ⟨p_hazellaw06_turn_33, g_hazellaw06_turn_33, by kernel_rfl, ?st7, ?_, ?_⟩
    rotate_left
    · conv => whnf
      repeat' (first | (refine .inl ⟨_, s_refAt x.2.1 2, ?_⟩; conv => whnf) | (refine .inl (.inl ⟨_, s_refAt x.2.1 2, ?_⟩); conv => whnf) | (refine .inr (.inl ⟨_, s_refLoad s.1 (atI x.2.1 2) hg1, ?_⟩); conv => whnf) | (refine .inl (.inr (.inl ⟨_, s_refLoad s.1 (atI x.2.1 2) hg1, ?_⟩)); conv => whnf) | (refine And.intro ?_ ?_ <;> conv => whnf) | exact rfl)
    conv => whnf
    repeat (refine ⟨by first | omega | (simp only [Option.getD_none, Option.getD_some]; omega) | (simp; done) | (simp; omega), ?_⟩; conv => whnf)
    refine ⟨p_hazellaw06_turn_34, g_hazellaw06_turn_34, by kernel_rfl, ?st8, ?_, ?_⟩
    rotate_left
    · conv => whnf
      repeat' (first | (refine .inr (.inl ⟨_, s_refMem s (loadM s.1 (atI x.2.1 2)), ?_⟩); conv => whnf) | (refine .inl (.inr (.inl ⟨_, s_refMem s (loadM s.1 (atI x.2.1 2)), ?_⟩)); conv => whnf) | (refine And.intro ?_ ?_ <;> conv => whnf) | exact rfl)
    conv => whnf
    repeat (refine ⟨by first | omega | (simp only [Option.getD_none, Option.getD_some]; omega) | (simp; done) | (simp; omega), ?_⟩; conv => whnf)
    first | exact .inl rfl | exact .inr rfl
  rw [if_neg c6]
  conv => whnf
  repeat (refine ⟨by first | omega | (simp only [Option.getD_none, Option.getD_some]; omega) | (simp; done) | (simp; omega), ?_⟩; conv => whnf)
  first | refine .inr (.inl ⟨_, s_refCall s k 4 0 0 0 hcl, ?_⟩) | refine .inl (.inr (.inl ⟨_, s_refCall s k 4 0 0 0 hcl, ?_⟩))
  conv => whnf
  repeat (refine ⟨by first | omega | (simp only [Option.getD_none, Option.getD_some]; omega) | (simp; done) | (simp; omega), ?_⟩; conv => whnf)
  first | exact .inl rfl | exact .inr rfl

abbrev Lp := List (Den (.int .u16))
abbrev vP (l : Lp) : SV := .one (.sl (.int .u16) l false)
theorem wfu16 {x : Int} (h : WFd (.int .u16) x) : 0 ≤ x ∧ x ≤ 65535 := by
  have h : (Lit.int IntKind.u16 x).wf = true := h
  simp [Lit.wf, IntKind.min, IntKind.max, IntKind.signed, IntKind.bits] at h
  omega
/-- A pick. -/
def pick (l : Lp) (i : Nat) : Int := l.getD i (0 : Int)
theorem pick_in {l : Lp} (hw : ∀ x ∈ l, WFd (.int .u16) x) {i : Nat} (hi : i < l.length) : 0 ≤ pick l i ∧ pick l i ≤ 65535 := by
  unfold pick
  rw [List.getD_eq_getElem?_getD, List.getElem?_eq_getElem hi]
  exact wfu16 (hw _ (List.getElem_mem hi))
theorem vU16_q {x : Int} (h0 : 0 ≤ x) (h1 : x ≤ 65535) (d : Int) (hd : 0 < d) : IntKind.u16.wrap (x.tdiv d) = x / d := by
  rw [Int.tdiv_eq_ediv_of_nonneg h0]
  have h2 : 0 ≤ x / d := Int.ediv_nonneg h0 (by omega)
  have h3 : x / d ≤ x := Int.ediv_le_self _ h0
  simp only [IntKind.wrap, IntKind.bits, IntKind.signed]
  simp
  omega
/-- How many cores. -/
theorem cores_of {a : Int} (h0 : 0 ≤ a) (h1 : a ≤ 255) : ∃ c : Nat, 1 ≤ c ∧ c ≤ 8 ∧ wrap64 (1 + a.tmod 8) = c := by
  have e : a.tmod 8 = a % 8 := Int.tmod_eq_emod_of_nonneg h0
  rw [e]
  refine ⟨(1 + a % 8).toNat, by omega, by omega, ?_⟩
  rw [IntWalk.wrap64_in _ (by omega)]
  omega
theorem nodes_of {a d : Int} (h0 : 0 ≤ a) (h1 : a ≤ 255) (hd : 0 < d) (hd2 : d ≤ 100) : ∃ n : Nat, 1 ≤ n ∧ (n : Int) ≤ d ∧ wrap64 (1 + a.tmod d) = n := by
  have e : a.tmod d = a % d := Int.tmod_eq_emod_of_nonneg h0
  have h2 := Int.emod_nonneg a (show d ≠ 0 by omega)
  have h3 := Int.emod_lt_of_pos a hd
  rw [e]
  refine ⟨(1 + a % d).toNat, by omega, by omega, ?_⟩
  rw [IntWalk.wrap64_in _ (by omega)]
  omega
theorem newF_len {c n : Nat} : (newF (c : Int) (n : Int)).2.1.length = c := by
  show (List.replicate (c : Int).toNat _).length = c
  rw [List.length_replicate, Int.toNat_natCast]
abbrev LP := List (Den tR3)
/-- What the cores are at, by the core's number. -/
def plF (L : LP) : Nat → Pl := fun k => L.getD k (0, 0, 0, ())
theorem plF_set {L : LP} {k : Nat} {x : Pl} (hk : k < L.length) : plF (List.set L ((k : Int)).toNat x) = updN (plF L) k x := by
  funext c
  unfold plF updN
  rw [Int.toNat_natCast]
  by_cases e : c = k
  · subst e; rw [if_pos rfl]; exact getD_set hk
  · rw [if_neg e]
    show List.getD _ c _ = List.getD L c _
    rw [List.getD_eq_getElem?_getD, List.getD_eq_getElem?_getD, List.getElem?_set_ne (fun h => e h.symm)]
theorem plF_zero {c : Nat} : plF (List.replicate c (dflt tR3)) = fun _ => (0, 0, 0, ()) := by
  funext k
  unfold plF
  rw [List.getD_eq_getElem?_getD, List.getElem?_replicate]
  split <;> rfl
theorem SafeI.good {T : Int} {o : OM} {s : Sy} {L : Nat → Pl} (h : SafeI T o s L) : s.1.2.2.1 = false := by
  obtain ⟨l, hl⟩ := h.mm.list
  exact hl.good
/-- Cores that lay a node free, of the first i. -/
def nPush (cs : List Cor) (i : Nat) : Nat := ((cs.take i).map fun c => (pushOf c).length).sum
theorem nPush_succ {cs : List Cor} {i : Nat} (h : i < cs.length) : nPush cs (i + 1) = nPush cs i + (pushOf (cAt cs i)).length := by
  unfold nPush
  rw [List.take_succ_eq_append_getElem h, List.map_append, List.sum_append, cAt_elem h]
  simp
theorem turnS_len {s : Sy} {k : Int} {x : Pl} {wr : Bool} (hk : k < s.2.1.length) (h0 : 0 ≤ k) {N : Nat} (hF : Fin N s) : Fin (N + 1) (turnS s k x wr).1 ∧ (turnS s k x wr).1.2.1.length = s.2.1.length := by
  have hm := hF.more (Nat.le_succ N)
  have same : ∀ {m' : Me}, Fits m' → Fin (N + 1) (m', s.2) := fun h => hm.mem h
  have hca : ∀ {p a b}, Fits (casM s.1 p a b) := fun {p a b} => by unfold casM; split <;> first | exact storeM_fits hF.fits | exact hF.fits
  unfold turnS
  split
  · refine ⟨scanS_fin hF, ?_⟩
    unfold scanS
    split
    · rfl
    · exact scanF_n _ _ _ _ _ _
  unfold idleS
  split
  · split
    · exact ⟨hm.callS, callS_n⟩
    · exact ⟨hm.callS, callS_n⟩
  split
  · split
    · exact ⟨hm, rfl⟩
    · exact ⟨hm, rfl⟩
  split
  · exact ⟨same (storeM_fits hF.fits), rfl⟩
  split
  · exact ⟨same hF.fits, rfl⟩
  split
  · split
    · split
      · exact ⟨same hca, rfl⟩
      · exact ⟨(same hca).callS, callS_n⟩
    · exact ⟨same hca, rfl⟩
  split
  · split
    · exact ⟨hm, rfl⟩
    · exact ⟨hm, rfl⟩
  split
  · exact ⟨same hF.fits, rfl⟩
  · exact ⟨hm.callS, callS_n⟩

abbrev yPl : TypeId := 35
set_option maxHeartbeats 8000000 in
theorem s_ScanSafe (a : Int) (ha0 : 0 ≤ a) (ha1 : a ≤ 255) (b : Int) (hb0 : 0 ≤ b) (hb1 : b ≤ 255) (l : Lp) (hw : ∀ x ∈ l, WFd (.int .u16) x) : Spec Try.prog 3 [.one (.int .u8 a), .one (.int .u8 b), vP l] (vB true) := by
  obtain ⟨c, c1, c8, hc⟩ := cores_of ha0 ha1
  obtain ⟨n, n1, n40, hn⟩ := nodes_of hb0 hb1 (show (0 : Int) < 40 by decide) (by decide)
  have hnew := s_refNewF c n (by omega) (by omega) (by omega) (by omega)
  have hFn : Fin 0 (newF (c : Int) (n : Int)) := newF_fin (by omega) (by omega) (by omega)
  have hIn : SafeI 0 (fun _ => .free) (newF (c : Int) (n : Int)) (fun _ => (0, 0, 0, ())) := SafeI.start n1 (by omega) c1 c8
  have hCn : (newF (c : Int) (n : Int)).2.1.length = c := newF_len
  generalize newF (c : Int) (n : Int) = t0 at *
  refine spec_introF true tab_ok 0 Try.func3 rfl (by kernel_rfl) rfl ?_
  conv => whnf
  first | refine .inl ⟨_, s_shown06, ?_⟩ | refine .inl (.inl ⟨_, s_shown06, ?_⟩)
  conv => whnf
  repeat (refine ⟨by first | omega | (simp only [Option.getD_none, Option.getD_some]; omega) | (simp; done) | (simp; omega), ?_⟩; conv => whnf)
  refine dcase (fun h => ?_) (fun hl => ?_)
  · skip
    conv => whnf
    repeat (refine ⟨by first | omega | (simp only [Option.getD_none, Option.getD_some]; omega) | (simp; done) | (simp; omega), ?_⟩; conv => whnf)
    first | exact .inl rfl | exact .inr rfl
  replace hl : l.length ≤ 400 := Int.ofNat_le.1 (Int.not_lt.1 hl)
  conv => whnf
  repeat (refine ⟨by first | omega | (simp only [Option.getD_none, Option.getD_some]; omega) | (simp; done) | (simp; omega), ?_⟩; conv => whnf)
  intro z hz
  replace hz : z = a := hz.trans (IntWalk.wrap64_in _ (by omega))
  subst hz
  conv => whnf
  repeat (refine ⟨by first | omega | (simp only [Option.getD_none, Option.getD_some]; omega) | (simp; done) | (simp; omega), ?_⟩; conv => whnf)
  intro n' hn'
  replace hn' : n' = (c : Int) := hn'.trans hc
  subst hn'
  conv => whnf
  repeat (refine ⟨by first | omega | (simp only [Option.getD_none, Option.getD_some]; omega) | (simp; done) | (simp; omega), ?_⟩; conv => whnf)
  intro z2 hz2
  replace hz2 : z2 = b := hz2.trans (IntWalk.wrap64_in _ (by omega))
  subst hz2
  conv => whnf
  repeat (refine ⟨by first | omega | (simp only [Option.getD_none, Option.getD_some]; omega) | (simp; done) | (simp; omega), ?_⟩; conv => whnf)
  intro n2 hn2
  replace hn2 : n2 = (n : Int) := hn2.trans hn
  subst hn2
  conv => whnf
  repeat (refine ⟨by first | omega | (simp only [Option.getD_none, Option.getD_some]; omega) | (simp; done) | (simp; omega), ?_⟩; conv => whnf)
  first | refine .inr (.inl ⟨_, hnew, ?_⟩) | refine .inl (.inr (.inl ⟨_, hnew, ?_⟩))
  conv => whnf
  repeat (refine ⟨by first | omega | (simp only [Option.getD_none, Option.getD_some]; omega) | (simp; done) | (simp; omega), ?_⟩; conv => whnf)
  refine ⟨[(10, 40, yPl, tR3)], [2, 6, 7, 8, 9, 10, 11], [9, 40], ?_⟩
  apply Exists.intro
  conv => whnf
  refine loopK (fun y : Nat × Sy × LP => l.length - y.1) (fun y => y.1 ≤ l.length ∧ Fin y.1 y.2.1 ∧ y.2.1.2.1.length = c ∧ y.2.2.length = c ∧ ∃ o, SafeI (y.1 : Int) o y.2.1 (plF y.2.2)) (fun y => ⟨lay 207 0 [(2, vP l), (6, vB false), (7, vB true), (8, vI (c : Int)), (9, pB 9), (10, .one (.row 40)), (11, vI (y.1 : Int))], [(9, .cells ySys (cS y.2.1)), (40, .row yPl tR3 y.2.2)], []⟩) ?_ (0, t0, List.replicate c (dflt tR3)) rfl rfl ⟨Nat.zero_le _, hFn, hCn, List.length_replicate, _, by rw [show plF (List.replicate c (dflt tR3)) = fun _ => (0, 0, 0, ()) from plF_zero]; exact hIn⟩
  clear hFn hIn hCn hnew hc hn
  intro ⟨i, s, L⟩ ih ⟨hi, hF, hC, hL, o, hI⟩ hih
  simp only at hi hF hC hL hI hih
  conv => whnf
  refine dcase (fun h3 => ?_) (fun h3 => ?_)
  · replace h3 : (i : Int) < l.length := h3
    obtain ⟨x, hx⟩ : ∃ x, pick l i = x := ⟨_, rfl⟩
    obtain ⟨x0, x1⟩ := pick_in hw (show i < l.length by omega)
    rw [hx] at x0 x1
    have hx2 : List.getD l ((i : Int)).toNat (dflt (.int .u16)) = x := hx
    obtain ⟨k, hk, hkx⟩ : ∃ k : Nat, k < c ∧ x.tmod (c : Int) = (k : Int) := by
      rw [Int.tmod_eq_emod_of_nonneg x0]
      have h1 := Int.emod_nonneg x (show (c : Int) ≠ 0 by omega)
      have h2 := Int.emod_lt_of_pos x (show (0 : Int) < c by omega)
      exact ⟨(x % c).toNat, by omega, by omega⟩
    have hks : k < s.2.1.length := by omega
    have hk0 : (0 : Int) ≤ (k : Int) := by omega
    have hk1 : (k : Int) < (s.2.1.length : Int) := by omega
    have hkL : (0 : Int) ≤ (k : Int) ∧ (k : Int) < (L.length : Int) := ⟨by omega, by omega⟩
    have hkN : ((k : Int)).toNat < L.length := by omega
    have hin : (0 : Int) ≤ (i : Int) ∧ (i : Int) < (l.length : Int) := ⟨by omega, h3⟩
    obtain ⟨y, hy⟩ : ∃ y : Pl, plF L k = y := ⟨_, rfl⟩
    have hy2 : List.getD L ((k : Int)).toNat (dflt tR3) = y := hy
    obtain ⟨wr, hwr⟩ : ∃ wr : Bool, decide ((x / 8).tmod 2 = 1) = wr := ⟨_, rfl⟩
    have hturn := s_turn s (k : Int) y wr hF (by omega) hk0 hk1
    obtain ⟨hF2, hC2⟩ := turnS_len (x := y) (wr := wr) hk1 hk0 hF
    obtain ⟨o2, hI2, h6⟩ := hI.turn (wr := wr) (by omega) hks
    rw [hy] at hI2 h6
    obtain ⟨t, y2, ht⟩ : ∃ t y2, turnS s (k : Int) y wr = (t, y2) := ⟨_, _, rfl⟩
    rw [ht] at hturn hF2 hC2 hI2 h6
    simp only at hturn hF2 hC2 hI2 h6
    have hgood : t.1.2.2.1 = false := hI2.good
    have hcl : (t.2.1.length : Int) = (c : Int) := by omega
    obtain ⟨L2, hL2⟩ : ∃ L2, List.set L ((k : Int)).toNat y2 = L2 := ⟨_, rfl⟩
    have hnx := hih (i + 1, t, L2) ⟨by show i + 1 ≤ _; omega, hF2, by show t.2.1.length = c; omega, by show L2.length = c; rw [← hL2, List.length_set]; exact hL, o2, by show SafeI ((i + 1 : Nat) : Int) o2 t (plF L2); rw [← hL2, plF_set (by omega)]; exact hI2⟩ (by show l.length - (i + 1) < _; omega)
    conv => whnf
    refine ⟨hin, ?_⟩
    conv => whnf
    rw [hx2]
    intro w hw1
    replace hw1 : w = x := hw1.trans (IntWalk.wrap64_in _ (by omega))
    subst hw1
    conv => whnf
    refine ⟨by omega, ?_⟩
    conv => whnf
    rw [hkx]
    conv => whnf
    refine ⟨hkL, ?_⟩
    conv => whnf
    refine ⟨hkN, ?_⟩
    conv => whnf
    rw [hy2]
    rw [← hwr] at hturn
    have e8 : IntKind.u16.wrap ((List.getD l ((i : Int)).toNat (dflt (.int .u16))).tdiv 8) = w / 8 := by rw [hx2]; exact vU16_q x0 x1 8 (by decide)
    conv => whnf
    refine ⟨p_hazellaw06_ScanSafe_12, g_hazellaw06_ScanSafe_12, by kernel_rfl, ?st9, ?_, ?_⟩
    rotate_left
    · conv => whnf
      repeat' (first | (refine ⟨hin, ?_⟩; conv => whnf) | (refine ⟨(by decide), ?_⟩; conv => whnf) | ((intro z hz; replace hz : z = w / 8 := hz.trans e8; subst hz; conv => whnf)) | (refine .inr (.inl ⟨_, hturn, ?_⟩); conv => whnf) | (refine .inl (.inr (.inl ⟨_, hturn, ?_⟩)); conv => whnf) | (refine And.intro ?_ ?_ <;> conv => whnf) | exact rfl)
    conv => whnf
    refine ⟨hkL, ?_⟩
    conv => whnf
    refine ⟨hkN, ?_⟩
    conv => whnf
    rw [hL2]
    conv => whnf
    refine bcase (fun h => Bool.noConfusion (h.symm.trans hgood)) (fun _ => ?_)
    conv => whnf
    refine dcase (fun h => absurd hcl h) (fun _ => ?_)
    conv => whnf
    refine dcase (fun c6 => ?_) (fun _ => ?_)
    · have h66 : y2.2.2.1 = y.2.1 := h6 c6
      conv => whnf
      refine dcase (fun c7 => ?_) (fun _ => ?_)
      · conv => whnf
        refine dcase (fun h => absurd h66 h) (fun _ => ?_)
        conv => whnf
        intro w1 hw1
        replace hw1 : w1 = ((i + 1 : Nat) : Int) := by rw [IntWalk.wrap64_in _ (by omega)] at hw1; omega
        subst hw1
        conv => whnf
        exact hnx
      · conv => whnf
        intro w1 hw1
        replace hw1 : w1 = ((i + 1 : Nat) : Int) := by rw [IntWalk.wrap64_in _ (by omega)] at hw1; omega
        subst hw1
        conv => whnf
        exact hnx
    · conv => whnf
      intro w1 hw1
      replace hw1 : w1 = ((i + 1 : Nat) : Int) := by rw [IntWalk.wrap64_in _ (by omega)] at hw1; omega
      subst hw1
      conv => whnf
      exact hnx
  clear hih
  have hi : i = l.length := by
    replace h3 : ¬ (i : Int) < l.length := h3
    omega
  subst hi
  obtain ⟨fl, hfl⟩ := hI.mm.list
  have hRt := s_Retired s hF.cores (ret_fin hF)
  obtain ⟨hnd, hmem⟩ := hI.retired
  have hcnt := hI.count
  have hcl0 : (countI s.1.2.1 0 : Nat) = fl.length := count_of hfl.nodup fun p => by
    rw [hfl.mem p]
    exact ⟨fun h => ⟨⟨h.1, h.2.1⟩, h.2.2⟩, fun h => ⟨h.1.1, h.1.2, h.2⟩⟩
  have hfew := fun k hk => hI.few (k := k) hk
  have hRl : (retI s.2.1).length ≤ 1000000 := by have := ret_fin hF s.2.1.length (Nat.le_refl _); rw [List.take_length] at this; exact this
  obtain ⟨R, hR⟩ : ∃ R, retI s.2.1 = R := ⟨_, rfl⟩
  rw [hR] at hRt hnd hmem hcnt hRl
  conv => whnf
  first | refine .inr (.inl ⟨_, hRt, ?_⟩) | refine .inl (.inr (.inl ⟨_, hRt, ?_⟩))
  conv => whnf
  repeat (refine ⟨by first | omega | (simp only [Option.getD_none, Option.getD_some]; omega) | (simp; done) | (simp; omega), ?_⟩; conv => whnf)
  first | refine .inr (.inl ⟨_, s_refWalk s.1 fl hfl, ?_⟩) | refine .inl (.inr (.inl ⟨_, s_refWalk s.1 fl hfl, ?_⟩))
  conv => whnf
  repeat (refine ⟨by first | omega | (simp only [Option.getD_none, Option.getD_some]; omega) | (simp; done) | (simp; omega), ?_⟩; conv => whnf)
  refine ⟨[], [6, 7, 8, 9, 16, 17, 18, 19, 20], [9], ?_⟩
  apply Exists.intro
  conv => whnf
  refine loopK (fun j : Nat => R.length - j) (fun j => j ≤ R.length) (fun j => ⟨lay 207 0 [(6, vB false), (7, vB true), (8, vI (c : Int)), (9, pB 9), (16, vL R), (17, vL fl), (18, vB true), (19, vI 0), (20, vI (j : Int))], [(9, .cells ySys (cS s))], []⟩) ?_ 0 rfl rfl (Nat.zero_le _)
  intro j ih2 hj hih
  conv => whnf
  refine dcase (fun h4 => ?_) (fun h4 => ?_)
  · replace h4 : (j : Int) < R.length := h4
    have hjl : j < R.length := by omega
    obtain ⟨p, hp⟩ : ∃ p, nI R (j : Int) = p := ⟨_, rfl⟩
    have hp2 : List.getD R ((j : Int)).toNat (dflt tI) = p := hp
    have hpj : R[j] = p := by
      rw [← hp]
      show _ = List.getD R ((j : Nat) : Int).toNat 0
      rw [Int.toNat_natCast, List.getD_eq_getElem?_getD, List.getElem?_eq_getElem hjl]; rfl
    have hpm : p ∈ R := by rw [← hpj]; exact List.getElem_mem hjl
    obtain ⟨⟨hp1, hp3⟩, hpG⟩ := hmem p hpm
    have hni : memB ((R.take ((j : Int)).toNat).drop (0 : Int).toNat) p = false := by
      rw [Int.toNat_natCast]
      show memB (R.take j) p = false
      refine memB_no fun h => ?_
      rw [← hpj] at h
      obtain ⟨q, hq, hqj, e⟩ := mem_take.1 h
      exact absurd ((List.getElem_inj hnd).1 e) (by omega)
    have hin := s_refIn ((R.take ((j : Int)).toNat).drop (0 : Int).toNat) p (by rw [List.length_drop, List.length_take]; omega)
    rw [hni] at hin
    have hnx := hih (j + 1) (by omega) (by omega)
    have hjb : (0 : Int) ≤ (j : Int) ∧ (j : Int) < (R.length : Int) := ⟨by omega, h4⟩
    rw [← hp2] at hin
    have r1 : ¬ @LT.lt Int _ (List.getD R ((j : Int)).toNat (dflt tI)) 1 := by rw [hp2]; omega
    have r2 : ¬ @LE.le Int _ (s.1.2.1.length : Int) (List.getD R ((j : Int)).toNat (dflt tI)) := by rw [hp2]; omega
    have r3 : @LE.le Int _ 0 (List.getD R ((j : Int)).toNat (dflt tI)) ∧ @LT.lt Int _ (List.getD R ((j : Int)).toNat (dflt tI)) (s.1.2.1.length : Int) := by rw [hp2]; exact ⟨by omega, by omega⟩
    have r4 : List.getD s.1.2.1 (Int.toNat (List.getD R ((j : Int)).toNat (dflt tI))) (dflt tI) = (2 : Int) := by rw [hp2]; exact hpG
    have r5 : @LE.le Int _ 0 0 ∧ @LE.le Int _ 0 (j : Int) ∧ (j : Int) ≤ (R.length : Int) := ⟨by omega, by omega, by omega⟩
    conv => whnf
    refine ⟨p_hazellaw06_ScanSafe_23, g_hazellaw06_ScanSafe_23, by kernel_rfl, ?st10, ?_, ?_⟩
    rotate_left
    · conv => whnf
      repeat' (first | (refine ⟨hjb, ?_⟩; conv => whnf) | (refine ⟨r3, ?_⟩; conv => whnf) | (refine ⟨r5, ?_⟩; conv => whnf) | ((refine dcase (fun h => absurd h r1) (fun _ => ?_); conv => whnf)) | ((refine dcase (fun h => absurd h r2) (fun _ => ?_); conv => whnf)) | ((refine dcase (fun h => absurd r4 h) (fun _ => ?_); conv => whnf)) | (refine .inl ⟨_, hin, ?_⟩; conv => whnf) | (refine .inl (.inl ⟨_, hin, ?_⟩); conv => whnf) | (refine And.intro ?_ ?_ <;> conv => whnf) | exact rfl)
    conv => whnf
    intro w1 hw1
    replace hw1 : w1 = ((j + 1 : Nat) : Int) := by rw [IntWalk.wrap64_in _ (by omega)] at hw1; omega
    subst hw1
    conv => whnf
    exact hnx
  clear hih hj h4
  have hlim : Spec Try.prog 15 [vI (c : Int)] (vI (3 * (c : Int) + 1)) := s_Limit _ (by omega) (by omega)
  have hFf : Fine s := hF.fine (by omega)
  have hnb : ∀ j, j ≤ c → nPush s.2.1 j ≤ j := fun j => by
    induction j with
    | zero => intro _; exact Nat.le_refl _
    | succ j ihj =>
      intro hj
      have h1 := ihj (by omega)
      have h2 : (pushOf (cAt s.2.1 j)).length ≤ 1 := by
        unfold pushOf
        split
        · split
          · exact Nat.le_refl _
          · exact Nat.zero_le _
        · exact Nat.zero_le _
      rw [nPush_succ (by omega)]
      omega
  conv => whnf
  refine ⟨[], [6, 7, 8, 9, 16, 17, 18, 19, 21], [9], ?_⟩
  apply Exists.intro
  conv => whnf
  refine loopK (fun j : Nat => c - j) (fun j => j ≤ c) (fun j => ⟨lay 207 0 [(6, vB false), (7, vB true), (8, vI (c : Int)), (9, pB 9), (16, vL R), (17, vL fl), (18, vB true), (19, vI (nPush s.2.1 j : Nat)), (21, vI (j : Int))], [(9, .cells ySys (cS s))], []⟩) ?_ 0 rfl rfl (Nat.zero_le _)
  intro j ih2 hj hih
  conv => whnf
  refine dcase (fun h4 => ?_) (fun h4 => ?_)
  · replace h4 : (j : Int) < (c : Int) := h4
    have hjl : j < s.2.1.length := by omega
    have hjb : (0 : Int) ≤ (j : Int) ∧ (j : Int) < (s.2.1.length : Int) := ⟨by omega, by omega⟩
    have hnx := hih (j + 1) (by omega) (by omega)
    have hpo := nPush_succ hjl
    have hfl : ¬ (3 * (c : Int) + 1 < ((List.getD s.2.1 ((j : Int)).toNat (dflt tCore)).2.2.2.2.1.length : Int)) := by
      have : (List.getD s.2.1 ((j : Int)).toNat (dflt tCore)).2.2.2.2.1.length ≤ 3 * s.2.1.length + 1 := hfew j hjl
      omega
    have hn0 := hnb j hj
    have hn1 := hnb (j + 1) (by omega)
    have htI := topI_is (s := s) (k := (j : Int)) (by omega) (by omega)
    cases ht : topI s (j : Int) with
    | none =>
      rw [ht] at htI
      have e0 : (pushOf (cAt s.2.1 j)).length = 0 := by unfold pushOf; rw [← htI]; rfl
      rw [show nPush s.2.1 (j + 1) = nPush s.2.1 j by omega] at hnx
      conv => whnf
      first | refine .inr (.inl ⟨_, s_refTopNo ht hFf, ?_⟩) | refine .inl (.inr (.inl ⟨_, s_refTopNo ht hFf, ?_⟩))
      conv => whnf
      repeat (refine ⟨by first | omega | (simp only [Option.getD_none, Option.getD_some]; omega) | (simp; done) | (simp; omega), ?_⟩; conv => whnf)
      refine ⟨p_hazellaw06_ScanSafe_31, g_hazellaw06_ScanSafe_31, by kernel_rfl, ?st11, ?_, ?_⟩
      rotate_left
      · conv => whnf
        repeat' (first | (refine ⟨hjb, ?_⟩; conv => whnf) | (refine .inl ⟨_, hlim, ?_⟩; conv => whnf) | (refine .inl (.inl ⟨_, hlim, ?_⟩); conv => whnf) | (refine And.intro ?_ ?_ <;> conv => whnf) | exact rfl)
      conv => whnf
      refine dcase (fun h => absurd h hfl) (fun _ => ?_)
      conv => whnf
      intro w1 hw1
      replace hw1 : w1 = ((j + 1 : Nat) : Int) := by rw [IntWalk.wrap64_in _ (by omega)] at hw1; omega
      subst hw1
      conv => whnf
      exact hnx
    | some f =>
      rw [ht] at htI
      by_cases h2 : f.1 = 2
      · have e0 : (pushOf (cAt s.2.1 j)).length = 1 := by unfold pushOf; rw [← htI]; show (if f.1 = 2 then [f.2.2.1.1] else []).length = 1; rw [if_pos h2]; rfl
        conv => whnf
        first | refine .inr (.inl ⟨_, s_refTopOf ht hFf, ?_⟩) | refine .inl (.inr (.inl ⟨_, s_refTopOf ht hFf, ?_⟩))
        conv => whnf
        repeat (refine ⟨by first | omega | (simp only [Option.getD_none, Option.getD_some]; omega) | (simp; done) | (simp; omega), ?_⟩; conv => whnf)
        refine dcase (fun _ => ?_) (fun h => absurd h2 h)
        conv => whnf
        intro w2 hw2
        replace hw2 : w2 = ((nPush s.2.1 (j + 1) : Nat) : Int) := by rw [IntWalk.wrap64_in _ (by omega)] at hw2; omega
        subst hw2
        conv => whnf
        refine ⟨p_hazellaw06_ScanSafe_31, g_hazellaw06_ScanSafe_31, by kernel_rfl, ?st12, ?_, ?_⟩
        rotate_left
        · conv => whnf
          repeat' (first | (refine ⟨hjb, ?_⟩; conv => whnf) | (refine .inl ⟨_, hlim, ?_⟩; conv => whnf) | (refine .inl (.inl ⟨_, hlim, ?_⟩); conv => whnf) | (refine And.intro ?_ ?_ <;> conv => whnf) | exact rfl)
        conv => whnf
        refine dcase (fun h => absurd h hfl) (fun _ => ?_)
        conv => whnf
        intro w1 hw1
        replace hw1 : w1 = ((j + 1 : Nat) : Int) := by rw [IntWalk.wrap64_in _ (by omega)] at hw1; omega
        subst hw1
        conv => whnf
        exact hnx
      · have e0 : (pushOf (cAt s.2.1 j)).length = 0 := by unfold pushOf; rw [← htI]; show (if f.1 = 2 then [f.2.2.1.1] else []).length = 0; rw [if_neg h2]; rfl
        rw [show nPush s.2.1 (j + 1) = nPush s.2.1 j by omega] at hnx
        conv => whnf
        first | refine .inr (.inl ⟨_, s_refTopOf ht hFf, ?_⟩) | refine .inl (.inr (.inl ⟨_, s_refTopOf ht hFf, ?_⟩))
        conv => whnf
        repeat (refine ⟨by first | omega | (simp only [Option.getD_none, Option.getD_some]; omega) | (simp; done) | (simp; omega), ?_⟩; conv => whnf)
        refine dcase (fun h => absurd h h2) (fun _ => ?_)
        conv => whnf
        refine ⟨p_hazellaw06_ScanSafe_31, g_hazellaw06_ScanSafe_31, by kernel_rfl, ?st13, ?_, ?_⟩
        rotate_left
        · conv => whnf
          repeat' (first | (refine ⟨hjb, ?_⟩; conv => whnf) | (refine .inl ⟨_, hlim, ?_⟩; conv => whnf) | (refine .inl (.inl ⟨_, hlim, ?_⟩); conv => whnf) | (refine And.intro ?_ ?_ <;> conv => whnf) | exact rfl)
        conv => whnf
        refine dcase (fun h => absurd h hfl) (fun _ => ?_)
        conv => whnf
        intro w1 hw1
        replace hw1 : w1 = ((j + 1 : Nat) : Int) := by rw [IntWalk.wrap64_in _ (by omega)] at hw1; omega
        subst hw1
        conv => whnf
        exact hnx
  have hjc : j = c := by
    replace h4 : ¬ (j : Int) < (c : Int) := h4
    omega
  subst hjc
  have hP : nPush s.2.1 j = (s.2.1.map fun c => (pushOf c).length).sum := by unfold nPush; rw [← hC, List.take_length]
  have hn0 := hnb j (Nat.le_refl _)
  have hco0 := s_refCount s.1 0 hF.fits
  have hco2 := s_refCount s.1 2 hF.fits
  rw [hcl0] at hco0
  rw [hcnt, ← hP] at hco2
  conv => whnf
  first | refine .inl ⟨_, hco0, ?_⟩ | refine .inl (.inl ⟨_, hco0, ?_⟩)
  conv => whnf
  repeat (refine ⟨by first | omega | (simp only [Option.getD_none, Option.getD_some]; omega) | (simp; done) | (simp; omega), ?_⟩; conv => whnf)
  refine dcase (fun _ => ?_) (fun h => absurd rfl h)
  conv => whnf
  intro w2 hw2
  replace hw2 : w2 = ((R.length + nPush s.2.1 j : Nat) : Int) := by rw [IntWalk.wrap64_in _ (by omega)] at hw2; omega
  subst hw2
  conv => whnf
  first | refine .inl ⟨_, hco2, ?_⟩ | refine .inl (.inl ⟨_, hco2, ?_⟩)
  conv => whnf
  repeat (refine ⟨by first | omega | (simp only [Option.getD_none, Option.getD_some]; omega) | (simp; done) | (simp; omega), ?_⟩; conv => whnf)
  rw [decide_eq_true (rfl : ((R.length + nPush s.2.1 j : Nat) : Int) = ((R.length + nPush s.2.1 j : Nat) : Int))]
  first | exact .inl rfl | exact .inr rfl
end Go.Proofs.Ytjeiopkfdgllhaa.V
