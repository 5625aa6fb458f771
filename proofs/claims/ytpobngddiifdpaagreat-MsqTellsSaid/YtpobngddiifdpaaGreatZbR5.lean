/- The document's steps of layers 6 and 7, parts, new systems. -/
import Derived.Test.YtpobngddiifdpaaGreatZbR4
set_option linter.unusedSimpArgs false
set_option linter.unusedVariables false
namespace Go.Proofs.YtpobngddiifdpaaGreat.V
open Go Go.RowKit Go.Proofs.YtpobngddiifdpaaGreat.Hz
set_option maxRecDepth 100000

theorem s_refScan {N : Nat} (s : Sy) (k op pc : Int) (r : R8) (l : Li) (h0 : 0 ≤ k) (h1 : k < s.2.1.length) (hf : Fin N s) (hN : N ≤ 900000) (hl : l.length ≤ 1000) : Spec Tryz.prog 186 [vS s, vI k, vF (op, pc, r, l, ())] (vS (lookS s k op pc r l)) := by
  unfold lookS
  split
  · rename_i h; subst h
    exact s_refLook0 s k op r l (hf.fine hN) hl
  split
  · rename_i h; subst h
    exact s_refLook1 s k op r l h0 h1 (hf.fine hN) hl (hf.cAt k).ret
  rename_i c0 c1
  refine spec_introF false tab_ok 0 Tryz.func186 rfl (by kernel_rfl) rfl ?_
  conv => whnf
  repeat (refine ⟨by first | omega | (simp only [Option.getD_none, Option.getD_some]; omega) | (simp; done) | (simp; omega), ?_⟩; conv => whnf)
  refine dcase (fun h => absurd h c0) (fun _ => ?_)
  conv => whnf
  repeat (refine ⟨by first | omega | (simp only [Option.getD_none, Option.getD_some]; omega) | (simp; done) | (simp; omega), ?_⟩; conv => whnf)
  refine dcase (fun _ => ?_) (fun h => absurd c1 h)
  conv => whnf
  repeat (refine ⟨by first | omega | (simp only [Option.getD_none, Option.getD_some]; omega) | (simp; done) | (simp; omega), ?_⟩; conv => whnf)
  first | exact .inl rfl | exact .inr rfl
theorem scanF_haz {s : Sy} {k op pc : Int} {r : R8} {l : Li} (h : or2 op 3 4 = true) : scanF s k op pc r l = hazF s k op pc r l := by
  have h : op = 3 ∨ op = 4 := by
    unfold or2 at h
    rw [Bool.or_eq_true, decide_eq_true_eq, decide_eq_true_eq] at h
    exact h
  rcases h with h | h <;> subst h <;> rfl
theorem scanF_stack {s : Sy} {k op pc : Int} {r : R8} {l : Li} (h5 : ¬ op = 5) (h6 : ¬ op = 6) (h : or2 op 3 4 = false) : scanF s k op pc r l = stackF s k op pc r l := by
  have h : ¬ op = 3 ∧ ¬ op = 4 := by
    unfold or2 at h
    rw [Bool.or_eq_false_iff, decide_eq_false_iff_not, decide_eq_false_iff_not] at h
    exact h
  unfold scanF stackF
  rw [if_neg h.1, if_neg h.2, if_neg h5, if_neg h6]
theorem s_refStep6 {N : Nat} (s : Sy) (k : Int) (hf : Fin N s) (hN : N ≤ 900000) : Spec Tryz.prog 139 [vS s, vI k] (vS (scanS s k)) := by
  cases ht : topI s k with
  | none =>
    rw [scanS_none ht]
    refine spec_introF false tab_ok 0 Tryz.func139 rfl (by kernel_rfl) rfl ?_
    conv => whnf
    first | refine .inr (.inl ⟨_, s_refTopNo ht (hf.fine hN), ?_⟩) | refine .inl (.inr (.inl ⟨_, s_refTopNo ht (hf.fine hN), ?_⟩))
    conv => whnf
    repeat (refine ⟨by first | omega | (simp only [Option.getD_none, Option.getD_some]; omega) | (simp; done) | (simp; omega), ?_⟩; conv => whnf)
    first | exact .inl rfl | exact .inr rfl
  | some f =>
    obtain ⟨op, pc, r, l, u⟩ := f
    obtain rfl : u = () := rfl
    have hi := topI_some ht
    have hl : l.length ≤ 1000 := hf.top ht
    rw [scanS_some ht]
    refine spec_introF false tab_ok 0 Tryz.func139 rfl (by kernel_rfl) rfl ?_
    conv => whnf
    first | refine .inr (.inl ⟨_, s_refTopOf ht (hf.fine hN), ?_⟩) | refine .inl (.inr (.inl ⟨_, s_refTopOf ht (hf.fine hN), ?_⟩))
    conv => whnf
    repeat (refine ⟨by first | omega | (simp only [Option.getD_none, Option.getD_some]; omega) | (simp; done) | (simp; omega), ?_⟩; conv => whnf)
    refine dcase (fun h => ?_) (fun h => ?_)
    · have h : op = 5 := h
      subst h
      rw [show scanF s k 5 pc r l = retireS s k 5 pc r l from rfl]
      conv => whnf
      repeat (refine ⟨by first | omega | (simp only [Option.getD_none, Option.getD_some]; omega) | (simp; done) | (simp; omega), ?_⟩; conv => whnf)
      first | refine .inr (.inl ⟨_, s_refRetire s k 5 pc r l hi.1 hi.2.1 (hf.fine hN), ?_⟩) | refine .inl (.inr (.inl ⟨_, s_refRetire s k 5 pc r l hi.1 hi.2.1 (hf.fine hN), ?_⟩))
      conv => whnf
      repeat (refine ⟨by first | omega | (simp only [Option.getD_none, Option.getD_some]; omega) | (simp; done) | (simp; omega), ?_⟩; conv => whnf)
      first | exact .inl rfl | exact .inr rfl
    have h5 : ¬ op = 5 := h
    conv => whnf
    repeat (refine ⟨by first | omega | (simp only [Option.getD_none, Option.getD_some]; omega) | (simp; done) | (simp; omega), ?_⟩; conv => whnf)
    refine dcase (fun h => ?_) (fun h => ?_)
    · have h : op = 6 := h
      subst h
      rw [show scanF s k 6 pc r l = lookS s k 6 pc r l from rfl]
      conv => whnf
      repeat (refine ⟨by first | omega | (simp only [Option.getD_none, Option.getD_some]; omega) | (simp; done) | (simp; omega), ?_⟩; conv => whnf)
      first | refine .inr (.inl ⟨_, s_refScan s k 6 pc r l hi.1 hi.2.1 hf hN hl, ?_⟩) | refine .inl (.inr (.inl ⟨_, s_refScan s k 6 pc r l hi.1 hi.2.1 hf hN hl, ?_⟩))
      conv => whnf
      repeat (refine ⟨by first | omega | (simp only [Option.getD_none, Option.getD_some]; omega) | (simp; done) | (simp; omega), ?_⟩; conv => whnf)
      first | exact .inl rfl | exact .inr rfl
    have h6 : ¬ op = 6 := h
    conv => whnf
    repeat (refine ⟨by first | omega | (simp only [Option.getD_none, Option.getD_some]; omega) | (simp; done) | (simp; omega), ?_⟩; conv => whnf)
    obtain ⟨b, hb⟩ : ∃ b, or2 op 3 4 = b := ⟨_, rfl⟩
    have hown := s_refOwn5 op
    rw [hb] at hown
    first | refine .inl ⟨_, hown, ?_⟩ | refine .inl (.inl ⟨_, hown, ?_⟩)
    conv => whnf
    repeat (refine ⟨by first | omega | (simp only [Option.getD_none, Option.getD_some]; omega) | (simp; done) | (simp; omega), ?_⟩; conv => whnf)
    cases b with
    | true =>
      rw [scanF_haz hb]
      conv => whnf
      repeat (refine ⟨by first | omega | (simp only [Option.getD_none, Option.getD_some]; omega) | (simp; done) | (simp; omega), ?_⟩; conv => whnf)
      first | refine .inr (.inl ⟨_, s_refHaz s k op pc r l ht (hf.fine hN), ?_⟩) | refine .inl (.inr (.inl ⟨_, s_refHaz s k op pc r l ht (hf.fine hN), ?_⟩))
      conv => whnf
      repeat (refine ⟨by first | omega | (simp only [Option.getD_none, Option.getD_some]; omega) | (simp; done) | (simp; omega), ?_⟩; conv => whnf)
      first | exact .inl rfl | exact .inr rfl
    | false =>
      rw [scanF_stack h5 h6 hb]
      conv => whnf
      repeat (refine ⟨by first | omega | (simp only [Option.getD_none, Option.getD_some]; omega) | (simp; done) | (simp; omega), ?_⟩; conv => whnf)
      first | refine .inr (.inl ⟨_, s_refStack s k op pc r l ht (hf.fine hN), ?_⟩) | refine .inl (.inr (.inl ⟨_, s_refStack s k op pc r l ht (hf.fine hN), ?_⟩))
      conv => whnf
      repeat (refine ⟨by first | omega | (simp only [Option.getD_none, Option.getD_some]; omega) | (simp; done) | (simp; omega), ?_⟩; conv => whnf)
      first | exact .inl rfl | exact .inr rfl
theorem thenS_is {s : Sy} {k op pc q o a : Int} {r : R8} {l : Li} (h : wrap64 (pc + 1) = q) : thenS s k op pc r l o a = callS (setS s k (op, q, r, l, ())) k o a 0 0 := by
  unfold thenS
  rw [callS_P, h]
theorem s_refAlloc (s : Sy) (k op pc : Int) (r : R8) (l : Li) (h0 : 0 ≤ k) (h1 : k < s.2.1.length) (hf : Fine s) : Spec Tryz.prog 138 [vS s, vI k, vF (op, pc, r, l, ())] (vS (allocS s k op pc r l)) := by
  refine spec_introF false tab_ok 0 Tryz.func138 rfl (by kernel_rfl) rfl ?_
  conv => whnf
  repeat (refine ⟨by first | omega | (simp only [Option.getD_none, Option.getD_some]; omega) | (simp; done) | (simp; omega), ?_⟩; conv => whnf)
  refine dcase (fun h => ?_) (fun c0 => ?_)
  · have h : pc = 0 := h
    subst h
    rw [show allocS s k op 0 r l = _ from if_pos (.inl rfl), thenS_is (q := 1) (by decide +kernel)]
    conv => whnf
    repeat (refine ⟨by first | omega | (simp only [Option.getD_none, Option.getD_some]; omega) | (simp; done) | (simp; omega), ?_⟩; conv => whnf)
    first | refine .inr (.inl ⟨_, s_refThen s k op 0 1 1 0 0 0 r l hf.cores hf.frames, ?_⟩) | refine .inl (.inr (.inl ⟨_, s_refThen s k op 0 1 1 0 0 0 r l hf.cores hf.frames, ?_⟩))
    conv => whnf
    repeat (refine ⟨by first | omega | (simp only [Option.getD_none, Option.getD_some]; omega) | (simp; done) | (simp; omega), ?_⟩; conv => whnf)
    first | exact .inl rfl | exact .inr rfl
  conv => whnf
  repeat (refine ⟨by first | omega | (simp only [Option.getD_none, Option.getD_some]; omega) | (simp; done) | (simp; omega), ?_⟩; conv => whnf)
  refine dcase (fun h => ?_) (fun c1 => ?_)
  · have h : pc = 1 := h
    subst h
    have n02 : ¬ ((1 : Int) = 0 ∨ (1 : Int) = 2) := by decide
    conv => whnf
    repeat (refine ⟨by first | omega | (simp only [Option.getD_none, Option.getD_some]; omega) | (simp; done) | (simp; omega), ?_⟩; conv => whnf)
    refine dcase (fun e0 => ?_) (fun e0 => ?_)
    · rw [show allocS s k op 1 r l = _ from (if_neg n02).trans ((if_pos rfl).trans (if_pos e0))]
      conv => whnf
      repeat (refine ⟨by first | omega | (simp only [Option.getD_none, Option.getD_some]; omega) | (simp; done) | (simp; omega), ?_⟩; conv => whnf)
      first | refine .inr (.inl ⟨_, s_refBack s k (cV s k) 0 hf.cores hf.frames, ?_⟩) | refine .inl (.inr (.inl ⟨_, s_refBack s k (cV s k) 0 hf.cores hf.frames, ?_⟩))
      conv => whnf
      repeat (refine ⟨by first | omega | (simp only [Option.getD_none, Option.getD_some]; omega) | (simp; done) | (simp; omega), ?_⟩; conv => whnf)
      first | exact .inl rfl | exact .inr rfl
    conv => whnf
    repeat (refine ⟨by first | omega | (simp only [Option.getD_none, Option.getD_some]; omega) | (simp; done) | (simp; omega), ?_⟩; conv => whnf)
    refine dcase (fun l0 => ?_) (fun l0 => ?_)
    · rw [show allocS s k op 1 r l = _ from (if_neg n02).trans ((if_pos rfl).trans ((if_neg e0).trans (if_pos (Int.ofNat.inj l0))))]
      conv => whnf
      repeat (refine ⟨by first | omega | (simp only [Option.getD_none, Option.getD_some]; omega) | (simp; done) | (simp; omega), ?_⟩; conv => whnf)
      first | refine .inr (.inl ⟨_, s_refBack s k 0 2 hf.cores hf.frames, ?_⟩) | refine .inl (.inr (.inl ⟨_, s_refBack s k 0 2 hf.cores hf.frames, ?_⟩))
      conv => whnf
      repeat (refine ⟨by first | omega | (simp only [Option.getD_none, Option.getD_some]; omega) | (simp; done) | (simp; omega), ?_⟩; conv => whnf)
      first | exact .inl rfl | exact .inr rfl
    · rw [show allocS s k op 1 r l = _ from (if_neg n02).trans ((if_pos rfl).trans ((if_neg e0).trans (if_neg (fun e => l0 (congrArg Int.ofNat e))))), thenS_is (q := 2) (by decide +kernel)]
      conv => whnf
      repeat (refine ⟨by first | omega | (simp only [Option.getD_none, Option.getD_some]; omega) | (simp; done) | (simp; omega), ?_⟩; conv => whnf)
      first | refine .inr (.inl ⟨_, s_refThen s k op 1 2 6 0 0 0 r l hf.cores hf.frames, ?_⟩) | refine .inl (.inr (.inl ⟨_, s_refThen s k op 1 2 6 0 0 0 r l hf.cores hf.frames, ?_⟩))
      conv => whnf
      repeat (refine ⟨by first | omega | (simp only [Option.getD_none, Option.getD_some]; omega) | (simp; done) | (simp; omega), ?_⟩; conv => whnf)
      first | exact .inl rfl | exact .inr rfl
  conv => whnf
  repeat (refine ⟨by first | omega | (simp only [Option.getD_none, Option.getD_some]; omega) | (simp; done) | (simp; omega), ?_⟩; conv => whnf)
  refine dcase (fun h => ?_) (fun c2 => ?_)
  · have h : pc = 2 := h
    subst h
    rw [show allocS s k op 2 r l = _ from if_pos (.inr rfl), thenS_is (q := 3) (by decide +kernel)]
    conv => whnf
    repeat (refine ⟨by first | omega | (simp only [Option.getD_none, Option.getD_some]; omega) | (simp; done) | (simp; omega), ?_⟩; conv => whnf)
    first | refine .inr (.inl ⟨_, s_refThen s k op 2 3 1 0 0 0 r l hf.cores hf.frames, ?_⟩) | refine .inl (.inr (.inl ⟨_, s_refThen s k op 2 3 1 0 0 0 r l hf.cores hf.frames, ?_⟩))
    conv => whnf
    repeat (refine ⟨by first | omega | (simp only [Option.getD_none, Option.getD_some]; omega) | (simp; done) | (simp; omega), ?_⟩; conv => whnf)
    first | exact .inl rfl | exact .inr rfl
  have n02 : ¬ (pc = 0 ∨ pc = 2) := fun e => e.elim c0 c2
  conv => whnf
  repeat (refine ⟨by first | omega | (simp only [Option.getD_none, Option.getD_some]; omega) | (simp; done) | (simp; omega), ?_⟩; conv => whnf)
  refine dcase (fun c3 => ?_) (fun c3 => ?_)
  · rw [show allocS s k op pc r l = _ from (if_neg n02).trans ((if_neg c1).trans (if_pos c3))]
    conv => whnf
    repeat (refine ⟨by first | omega | (simp only [Option.getD_none, Option.getD_some]; omega) | (simp; done) | (simp; omega), ?_⟩; conv => whnf)
    first | refine .inr (.inl ⟨_, s_refBack s k (cV s k) (cE s k) hf.cores hf.frames, ?_⟩) | refine .inl (.inr (.inl ⟨_, s_refBack s k (cV s k) (cE s k) hf.cores hf.frames, ?_⟩))
    conv => whnf
    repeat (refine ⟨by first | omega | (simp only [Option.getD_none, Option.getD_some]; omega) | (simp; done) | (simp; omega), ?_⟩; conv => whnf)
    first | exact .inl rfl | exact .inr rfl
  · rw [show allocS s k op pc r l = s from (if_neg n02).trans ((if_neg c1).trans (if_neg c3))]
    conv => whnf
    repeat (refine ⟨by first | omega | (simp only [Option.getD_none, Option.getD_some]; omega) | (simp; done) | (simp; omega), ?_⟩; conv => whnf)
    first | exact .inl rfl | exact .inr rfl
theorem s_refStep7 {N : Nat} (s : Sy) (k : Int) (hf : Fin N s) (hN : N ≤ 900000) : Spec Tryz.prog 76 [vS s, vI k] (vS (alS s k)) := by
  cases ht : topI s k with
  | none =>
    rw [alS_none ht]
    refine spec_introF false tab_ok 0 Tryz.func76 rfl (by kernel_rfl) rfl ?_
    conv => whnf
    first | refine .inr (.inl ⟨_, s_refTopNo ht (hf.fine hN), ?_⟩) | refine .inl (.inr (.inl ⟨_, s_refTopNo ht (hf.fine hN), ?_⟩))
    conv => whnf
    repeat (refine ⟨by first | omega | (simp only [Option.getD_none, Option.getD_some]; omega) | (simp; done) | (simp; omega), ?_⟩; conv => whnf)
    first | exact .inl rfl | exact .inr rfl
  | some f =>
    obtain ⟨op, pc, r, l, u⟩ := f
    obtain rfl : u = () := rfl
    have hi := topI_some ht
    have hs6 := s_refStep6 s k hf hN
    have hfi := hf.fine hN
    rw [scanS_some ht] at hs6
    rw [alS_some ht]
    refine spec_introF false tab_ok 0 Tryz.func76 rfl (by kernel_rfl) rfl ?_
    conv => whnf
    first | refine .inr (.inl ⟨_, s_refTopOf ht (hf.fine hN), ?_⟩) | refine .inl (.inr (.inl ⟨_, s_refTopOf ht (hf.fine hN), ?_⟩))
    conv => whnf
    repeat (refine ⟨by first | omega | (simp only [Option.getD_none, Option.getD_some]; omega) | (simp; done) | (simp; omega), ?_⟩; conv => whnf)
    refine dcase (fun h => ?_) (fun h => ?_)
    · have h : op = 7 := h
      subst h
      rw [show allocF s k 7 pc r l = allocS s k 7 pc r l from rfl]
      conv => whnf
      repeat (refine ⟨by first | omega | (simp only [Option.getD_none, Option.getD_some]; omega) | (simp; done) | (simp; omega), ?_⟩; conv => whnf)
      first | refine .inr (.inl ⟨_, s_refAlloc s k 7 pc r l hi.1 hi.2.1 hfi, ?_⟩) | refine .inl (.inr (.inl ⟨_, s_refAlloc s k 7 pc r l hi.1 hi.2.1 hfi, ?_⟩))
      conv => whnf
      repeat (refine ⟨by first | omega | (simp only [Option.getD_none, Option.getD_some]; omega) | (simp; done) | (simp; omega), ?_⟩; conv => whnf)
      first | exact .inl rfl | exact .inr rfl
    have h7 : ¬ op = 7 := h
    conv => whnf
    repeat (refine ⟨by first | omega | (simp only [Option.getD_none, Option.getD_some]; omega) | (simp; done) | (simp; omega), ?_⟩; conv => whnf)
    refine dcase (fun h => ?_) (fun h => ?_)
    · have h8 : ¬ op = 8 := h
      rw [show allocF s k op pc r l = scanF s k op pc r l from (if_neg h7).trans (if_neg h8)]
      conv => whnf
      repeat (refine ⟨by first | omega | (simp only [Option.getD_none, Option.getD_some]; omega) | (simp; done) | (simp; omega), ?_⟩; conv => whnf)
      first | refine .inr (.inl ⟨_, hs6, ?_⟩) | refine .inl (.inr (.inl ⟨_, hs6, ?_⟩))
      conv => whnf
      repeat (refine ⟨by first | omega | (simp only [Option.getD_none, Option.getD_some]; omega) | (simp; done) | (simp; omega), ?_⟩; conv => whnf)
      first | exact .inl rfl | exact .inr rfl
    have h8 : op = 8 := Decidable.not_not.1 h
    subst h8
    rw [show allocF s k 8 pc r l = dropS s k pc r l from rfl]
    conv => whnf
    repeat (refine ⟨by first | omega | (simp only [Option.getD_none, Option.getD_some]; omega) | (simp; done) | (simp; omega), ?_⟩; conv => whnf)
    refine dcase (fun h => ?_) (fun h => ?_)
    · have h : pc = 0 := h
      subst h
      rw [show dropS s k 0 r l = _ from if_pos rfl, thenS_is (q := 1) (by decide +kernel)]
      conv => whnf
      repeat (refine ⟨by first | omega | (simp only [Option.getD_none, Option.getD_some]; omega) | (simp; done) | (simp; omega), ?_⟩; conv => whnf)
      first | refine .inr (.inl ⟨_, s_refThen s k 8 0 1 2 r.1 0 0 r l hfi.cores hfi.frames, ?_⟩) | refine .inl (.inr (.inl ⟨_, s_refThen s k 8 0 1 2 r.1 0 0 r l hfi.cores hfi.frames, ?_⟩))
      conv => whnf
      repeat (refine ⟨by first | omega | (simp only [Option.getD_none, Option.getD_some]; omega) | (simp; done) | (simp; omega), ?_⟩; conv => whnf)
      first | exact .inl rfl | exact .inr rfl
    have c0 : ¬ pc = 0 := h
    conv => whnf
    repeat (refine ⟨by first | omega | (simp only [Option.getD_none, Option.getD_some]; omega) | (simp; done) | (simp; omega), ?_⟩; conv => whnf)
    refine dcase (fun h => ?_) (fun h => ?_)
    · rw [show dropS s k pc r l = _ from (if_neg c0).trans (if_pos h)]
      conv => whnf
      repeat (refine ⟨by first | omega | (simp only [Option.getD_none, Option.getD_some]; omega) | (simp; done) | (simp; omega), ?_⟩; conv => whnf)
      first | refine .inr (.inl ⟨_, s_refBack s k r.1 0 hfi.cores hfi.frames, ?_⟩) | refine .inl (.inr (.inl ⟨_, s_refBack s k r.1 0 hfi.cores hfi.frames, ?_⟩))
      conv => whnf
      repeat (refine ⟨by first | omega | (simp only [Option.getD_none, Option.getD_some]; omega) | (simp; done) | (simp; omega), ?_⟩; conv => whnf)
      first | exact .inl rfl | exact .inr rfl
    · rw [show dropS s k pc r l = s from (if_neg c0).trans (if_neg h)]
      conv => whnf
      repeat (refine ⟨by first | omega | (simp only [Option.getD_none, Option.getD_some]; omega) | (simp; done) | (simp; omega), ?_⟩; conv => whnf)
      first | exact .inl rfl | exact .inr rfl
end Go.Proofs.YtpobngddiifdpaaGreat.V
