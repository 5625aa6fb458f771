/- Layer 6 of the program: each step of it; what steps keep. -/
import Derived.Test.YtpobngddiifdpaaGreatZdV14
set_option linter.unusedSimpArgs false
set_option linter.unusedVariables false
namespace Go.Proofs.YtpobngddiifdpaaGreat.V
open Go Go.RowKit Go.Proofs.YtpobngddiifdpaaGreat.Hz
set_option maxRecDepth 100000

/-- What is asked of a core. -/
structure FinC (c : Cor) : Prop where
  frames : c.1.length ≤ 1000
  ret : c.2.2.2.2.1.length ≤ 1000
  seen : ∀ f ∈ c.1, f.2.2.2.1.length ≤ 1000
/-- What steps ask of a system, and keep; of the log: at most N lines. -/
structure Fin (N : Nat) (s : Sy) : Prop where
  fits : Fits s.1
  cores : s.2.1.length ≤ 1000
  core : ∀ c ∈ s.2.1, FinC c
  log : s.2.2.1.length ≤ N
theorem Fin.fine {N : Nat} {s : Sy} (h : Fin N s) (hN : N ≤ 900000) : Fine s := ⟨h.fits, h.cores, fun c hc => (h.core c hc).frames, Nat.le_trans h.log hN⟩
theorem Fin.more {N M : Nat} {s : Sy} (h : Fin N s) (hN : N ≤ M) : Fin M s := ⟨h.fits, h.cores, h.core, Nat.le_trans h.log hN⟩
theorem dflt_finC : FinC (dflt tCore) := ⟨Nat.zero_le _, Nat.zero_le _, fun f hf => nomatch hf⟩
theorem cAt_mem {l : List Cor} {k : Int} : cAt l k ∈ l ∨ cAt l k = dflt tCore := by
  unfold cAt
  rw [List.getD_eq_getElem?_getD]
  cases h : l[k.toNat]? with
  | none => exact .inr rfl
  | some c => exact .inl (List.mem_of_getElem? h)
theorem Fin.cAt {N : Nat} {s : Sy} (h : Fin N s) (k : Int) : FinC (cAt s.2.1 k) := by
  rcases cAt_mem (l := s.2.1) (k := k) with e | e
  · exact h.core _ e
  · rw [e]; exact dflt_finC
theorem Fin.withS {N : Nat} {s : Sy} {k : Int} {c : Cor} (h : Fin N s) (hc : FinC c) : Fin N (V.withS s k c) where
  fits := h.fits
  cores := by
    have : (V.withS s k c).2.1.length = s.2.1.length := List.length_set
    have := h.cores
    omega
  core := fun d hd => by
    rcases List.mem_or_eq_of_mem_set (show d ∈ s.2.1.set k.toNat c from hd) with e | e
    · exact h.core d e
    · rw [e]; exact hc
  log := h.log
theorem Fin.mem {N : Nat} {s : Sy} {m : Me} (h : Fin N s) (hm : Fits m) : Fin N (m, s.2) := ⟨hm, h.cores, h.core, h.log⟩
theorem Fin.setS {N : Nat} {s : Sy} {k : Int} {f : Frm} (h : Fin N s) (hl : f.2.2.2.1.length ≤ 1000) : Fin N (V.setS s k f) := by
  by_cases c : (topI s k).isSome
  · rw [show V.setS s k f = _ from if_pos c]
    have hc := h.cAt k
    refine h.withS ⟨?_, hc.ret, fun g hg => ?_⟩
    · exact Nat.le_trans (Nat.le_of_eq List.length_set) hc.frames
    · rcases List.mem_or_eq_of_mem_set hg with e | e
      · exact hc.seen g e
      · rw [e]; exact hl
  · rw [show V.setS s k f = s from if_neg c]; exact h
theorem Fin.backS {N : Nat} {s : Sy} {k v e : Int} (h : Fin N s) : Fin N (V.backS s k v e) := by
  by_cases c : (topI s k).isSome
  · rw [show V.backS s k v e = _ from if_pos c]
    have hc := h.cAt k
    exact h.withS ⟨Nat.le_trans (List.length_take_le' ..) hc.frames, hc.ret, fun g hg => hc.seen g (List.mem_of_mem_take hg)⟩
  · rw [show V.backS s k v e = s from if_neg c]; exact h
theorem Fin.callP {N : Nat} {s : Sy} {k op a : Int} (h : Fin N s) : Fin N (V.callP s k op a) := by
  by_cases c : isCoreB s k = true ∧ (V.cAt s.2.1 k).1.length < 40
  · rw [show V.callP s k op a = _ from if_pos c]
    have hc := h.cAt k
    refine h.withS ⟨?_, hc.ret, fun g hg => ?_⟩
    · show List.length (_ ++ _) ≤ 1000
      rw [List.length_append]
      have : List.length [frm0 op a 0 0] = 1 := rfl
      omega
    · rcases List.mem_append.1 hg with e | e
      · exact hc.seen g e
      · rw [List.mem_singleton.1 e]; exact Nat.zero_le _
  · rw [show V.callP s k op a = s from if_neg c]; exact h
theorem Fin.callS {N : Nat} {s : Sy} {k op a b d : Int} (h : Fin N s) : Fin N (V.callS s k op a b d) := by
  by_cases c : 0 ≤ k ∧ k < s.2.1.length ∧ (V.cAt s.2.1 k).1.length < 40
  · rw [show V.callS s k op a b d = _ from if_pos c]
    have hc := h.cAt k
    refine h.withS ⟨?_, hc.ret, fun g hg => ?_⟩
    · show List.length (_ ++ _) ≤ 1000
      rw [List.length_append]
      have : List.length [frm0 op a b d] = 1 := rfl
      omega
    · rcases List.mem_append.1 hg with e | e
      · exact hc.seen g e
      · rw [List.mem_singleton.1 e]; exact Nat.zero_le _
  · rw [show V.callS s k op a b d = s from if_neg c]; exact h
theorem Fin.keptS {N : Nat} {s : Sy} {k : Int} {l : Li} (h : Fin N s) (hl : l.length ≤ 1000) : Fin N (V.keptS s k l) :=
  h.withS ⟨(h.cAt k).frames, hl, (h.cAt k).seen⟩
theorem Fin.logS {N : Nat} {s : Sy} {k a b c v : Int} (h : Fin N s) : Fin (N + 1) (V.logS s k a b c v) := by
  by_cases d : isCoreB s k = true
  · rw [show V.logS s k a b c v = _ from if_pos d]
    refine ⟨h.fits, h.cores, h.core, ?_⟩
    show List.length (_ ++ _) ≤ N + 1
    rw [List.length_append]
    exact Nat.add_le_add_right h.log 1
  · rw [show V.logS s k a b c v = s from if_neg d]; exact h.more (Nat.le_succ N)
theorem Fin.top {N : Nat} {s : Sy} {k : Int} {f : Frm} (h : Fin N s) (ht : topI s k = some f) : f.2.2.2.1.length ≤ 1000 := by
  unfold topI at ht
  split at ht
  · cases hc : s.2.1[k.toNat]? with
    | none => rw [hc] at ht; cases ht
    | some c =>
      rw [hc] at ht
      exact (h.core c (List.mem_of_getElem? hc)).seen f (List.mem_of_getLast? ht)
  · cases ht
theorem loadM_fits {m : Me} {p : Int} (h : Fits m) : Fits (loadM m p) := h
theorem storeM_fits {m : Me} {p v : Int} (h : Fits m) : Fits (storeM m p v) := by
  have := storeM_len m p v
  unfold Fits at h ⊢
  omega
theorem casM_fits {m : Me} {p a b : Int} (h : Fits m) : Fits (casM m p a b) := by
  have := casM_len m p a b
  unfold Fits at h ⊢
  omega

/-! ### Each op keeps it -/
theorem popS_fin {N : Nat} {s : Sy} {k op pc : Int} {r : R8} {l : Li} (h : Fin N s) (hl : l.length ≤ 1000) : Fin (N + 1) (popS s k op pc r l) := by
  have h1 := h.more (Nat.le_succ N)
  unfold popS
  split
  · unfold pop0
    split
    · exact (h.mem (m := loadM s.1 0) h.fits).logS.backS
    · exact (h1.mem (m := loadM s.1 0) h.fits).setS hl
  · split
    · exact (h1.mem (m := loadM s.1 _) h.fits).setS hl
    · split
      · unfold pop2
        cases casB s.1 0 r.1 with
        | true => exact (h1.mem (turnM_fits (casM_fits h.fits))).backS
        | false => exact (h1.mem (casM_fits h.fits)).setS hl
      · exact h1
theorem pushSt_fin {N : Nat} {s : Sy} {k op pc : Int} {r : R8} {l : Li} (h : Fin N s) (hl : l.length ≤ 1000) : Fin N (pushSt s k op pc r l) := by
  unfold pushSt
  split
  · exact (h.mem (m := loadM s.1 _) h.fits).setS hl
  · split
    · exact (h.mem (storeM_fits h.fits)).setS hl
    · split
      · unfold push2
        cases casB s.1 0 r.2.1 with
        | true => exact (h.mem (turnM_fits (casM_fits h.fits))).backS
        | false => exact (h.mem (casM_fits h.fits)).setS hl
      · exact h
theorem protS_fin {N : Nat} {s : Sy} {k op pc : Int} {r : R8} {l : Li} (h : Fin N s) (hl : l.length ≤ 1000) : Fin N (protS s k op pc r l) := by
  unfold protS
  split
  · unfold prot0
    split
    · exact (h.mem (m := loadM s.1 _) h.fits).backS
    · exact (h.mem (m := loadM s.1 _) h.fits).setS hl
  · split
    · exact (h.mem (storeM_fits h.fits)).setS hl
    · split
      · unfold prot2
        split
        · exact (h.mem (m := loadM s.1 _) h.fits).backS
        · exact (h.mem (m := loadM s.1 _) h.fits).setS hl
      · exact h
theorem clearS_fin {N : Nat} {s : Sy} {k pc : Int} {r : R8} {l : Li} (h : Fin N s) (hl : l.length ≤ 1000) : Fin N (clearS s k pc r l) := by
  unfold clearS
  split
  · split
    · exact (h.mem (storeM_fits h.fits)).backS
    · exact (h.mem (storeM_fits h.fits)).setS hl
  · exact h
theorem retireS_fin {N : Nat} {s : Sy} {k op pc : Int} {r : R8} {l : Li} (h : Fin N s) (hl : l.length ≤ 1000) : Fin N (retireS s k op pc r l) := by
  unfold retireS
  split
  · exact h.backS
  · split
    · unfold retire0
      split
      · exact h.backS
      · rename_i h2
        have h3 : Fin N (retM s k r.1) := (h.keptS (k := k) (l := snoc (retL s k) r.1) (by
          show List.length (_ ++ _) ≤ 1000
          rw [List.length_append]
          have : List.length [r.1] = 1 := rfl
          omega)).mem (turnM_fits h.fits)
        split
        · exact h3.backS
        · exact (h3.setS hl).callP
    · exact h
def lookS (s : Sy) (k op pc : Int) (r : R8) (l : Li) : Sy := if pc = 0 then look0 s k op r l else if pc = 1 then look1 s k op r l else s
theorem lookS_fin {N : Nat} {s : Sy} {k op pc : Int} {r : R8} {l : Li} (h : Fin N s) (hl : l.length ≤ 1000) : Fin N (lookS s k op pc r l) := by
  unfold lookS
  split
  · refine (h.mem (m := loadM s.1 _) h.fits).setS ?_
    show (lookL s r l).length ≤ 1000
    unfold lookL
    split
    · show List.length (_ ++ _) ≤ 1000
      rw [List.length_append]
      have : List.length [loadI s.1 (lookP s r)] = 1 := rfl
      omega
    · exact hl
  · split
    · unfold look1
      split
      · exact h.backS
      · rename_i h2
        refine (Fin.setS (h.keptS ?_) hl).callP
        have h3 : (retL s k).length ≤ 1000 := (h.cAt k).ret
        rw [List.length_append, List.length_take, List.length_drop, Nat.min_eq_left (by omega)]
        omega
    · exact h

/-! ### Each step -/
theorem s_lookX (s : Sy) (k op pc : Int) (r : R8) (l : Li) (h0 : ¬ pc = 0) (h1 : ¬ pc = 1) : Spec Tryz.prog 194 [vS s, vI k, vF (op, pc, r, l, ())] (vS s) := by
  refine spec_introF false tab_ok 0 Tryz.func194 rfl (by kernel_rfl) rfl ?_
  conv => whnf
  refine dcase (fun h => absurd h h0) (fun _ => ?_)
  conv => whnf
  refine dcase (fun h => absurd h h1) (fun _ => ?_)
  conv => whnf
  first | exact .inl rfl | exact .inr rfl
theorem s_look {N : Nat} (s : Sy) (k op pc : Int) (r : R8) (l : Li) (h0 : 0 ≤ k) (h1 : k < s.2.1.length) (hf : Fin N s) (hN : N ≤ 900000) (hl : l.length ≤ 1000) : Spec Tryz.prog 194 [vS s, vI k, vF (op, pc, r, l, ())] (vS (lookS s k op pc r l)) := by
  unfold lookS
  split
  · rename_i h; subst h
    exact s_look0 s k op r l hf.fits hf.cores fun c hc => (hf.core c hc).frames
  · split
    · rename_i h; subst h
      exact s_look1 s k op r l h0 h1 (hf.fine hN) hl (hf.cAt k).ret
    · exact s_lookX s k op pc r l (by assumption) (by assumption)
theorem s_scanStep6 {N : Nat} (s : Sy) (k pc : Int) (r : R8) (l : Li) (ht : topI s k = some ((6 : Int), pc, r, l, ())) (hf : Fin N s) (hN : N ≤ 900000) : Spec Tryz.prog 114 [vS s, vI k] (vS (lookS s k 6 pc r l)) := by
  refine spec_introF false tab_ok 0 Tryz.func114 rfl (by kernel_rfl) rfl ?_
  conv => whnf
  first | refine .inr (.inl ⟨_, s_topOf ht (hf.fine hN), ?_⟩) | refine .inl (.inr (.inl ⟨_, s_topOf ht (hf.fine hN), ?_⟩))
  conv => whnf
  refine ⟨p_scan_Step_2, g_scan_Step_2, by kernel_rfl, ?st1, ?_, ?_⟩
  rotate_left
  · conv => whnf
    refine .inr (.inr ⟨500, _, s_steps, ?_⟩)
    conv => whnf
    refine ⟨fun h => absurd (show (6 : Int) = 5 from h) (by decide), fun _ => ⟨fun _ => ?_, fun h => absurd rfl h⟩⟩
    conv => whnf
  conv => whnf
  first | refine .inr (.inl ⟨_, s_look s k 6 pc r l (topI_some ht).1 (topI_some ht).2.1 hf hN (hf.top ht), ?_⟩) | refine .inl (.inr (.inl ⟨_, s_look s k 6 pc r l (topI_some ht).1 (topI_some ht).2.1 hf hN (hf.top ht), ?_⟩))
  conv => whnf
  first | exact .inl rfl | exact .inr rfl
/-- A step of layer 6. -/
def scanF (s : Sy) (k op pc : Int) (r : R8) (l : Li) : Sy :=
  if op = 1 then popS s k 1 pc r l else if op = 2 then pushSt s k 2 pc r l else if op = 3 then protS s k 3 pc r l else if op = 4 then clearS s k pc r l else if op = 5 then retireS s k 5 pc r l else if op = 6 then lookS s k 6 pc r l else s
def scanS (s : Sy) (k : Int) : Sy := match topI s k with
  | none => s
  | some f => scanF s k f.1 f.2.1 f.2.2.1 f.2.2.2.1
theorem scanS_some {s : Sy} {k op pc : Int} {r : R8} {l : Li} (ht : topI s k = some (op, pc, r, l, ())) : scanS s k = scanF s k op pc r l := by unfold scanS; rw [ht]
theorem scanS_none {s : Sy} {k : Int} (ht : topI s k = none) : scanS s k = s := by unfold scanS; rw [ht]
theorem scanF_fin {N : Nat} {s : Sy} {k op pc : Int} {r : R8} {l : Li} (h : Fin N s) (hl : l.length ≤ 1000) : Fin (N + 1) (scanF s k op pc r l) := by
  have h1 := h.more (Nat.le_succ N)
  unfold scanF
  split
  · exact popS_fin h hl
  split
  · exact pushSt_fin h1 hl
  split
  · exact protS_fin h1 hl
  split
  · exact clearS_fin h1 hl
  split
  · exact retireS_fin h1 hl
  split
  · exact lookS_fin h1 hl
  exact h1
theorem s_scanStep {N : Nat} (s : Sy) (k : Int) (hf : Fin N s) (hN : N ≤ 900000) : Spec Tryz.prog 114 [vS s, vI k] (vS (scanS s k)) := by
  cases ht : topI s k with
  | none => rw [scanS_none ht]; exact s_scanStepNo s k ht (hf.fine hN)
  | some f =>
    obtain ⟨op, pc, r, l, u⟩ := f
    obtain rfl : u = () := rfl
    rw [scanS_some ht]
    unfold scanF
    split
    · rename_i h; subst h; exact s_scanStep1 s k pc r l ht (hf.fine hN)
    split
    · rename_i h; subst h; exact s_scanStep2 s k pc r l ht (hf.fine hN)
    split
    · rename_i h; subst h; exact s_scanStep3 s k pc r l ht (hf.fine hN)
    split
    · rename_i h; subst h; exact s_scanStep4 s k pc r l ht (hf.fine hN)
    split
    · rename_i h; subst h; exact s_scanStep5 s k pc r l ht (hf.fine hN)
    split
    · rename_i h; subst h; exact s_scanStep6 s k pc r l ht hf hN
    · rename_i a1 a2 a3 a4 a5 a6
      exact s_scanStepX s k op pc r l (by
        have b1 : ¬ op = (1 : Int) := a1
        have b2 : ¬ op = (2 : Int) := a2
        have b3 : ¬ op = (3 : Int) := a3
        have b4 : ¬ op = (4 : Int) := a4
        have b5 : ¬ op = (5 : Int) := a5
        have b6 : ¬ op = (6 : Int) := a6
        have : ∀ n : Int, ¬ n = 1 → ¬ n = 2 → ¬ n = 3 → ¬ n = 4 → ¬ n = 5 → ¬ n = 6 → n < 1 ∨ 6 < n := fun n => by omega
        exact this op b1 b2 b3 b4 b5 b6) ht (hf.fine hN)
end Go.Proofs.YtpobngddiifdpaaGreat.V
