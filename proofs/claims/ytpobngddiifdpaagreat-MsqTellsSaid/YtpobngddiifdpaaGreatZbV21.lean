/- Layer 6 of the program: each step of it; what steps keep. -/
import Derived.Test.YtpobngddiifdpaaGreatZbV14
set_option linter.unusedSimpArgs false
set_option linter.unusedVariables false
namespace Go.Proofs.YtpobngddiifdpaaGreat.V
open Go Go.RowKit Go.Proofs.YtpobngddiifdpaaGreat.Hz
set_option maxRecDepth 100000

/-- What is asked of a core. -/
structure FinC (c : Cor) : Prop where
  frames : c.1.length ≤ 1000
  ret : c.2.2.2.2.1.length ≤ 1000
  seen : ∀ f ∈ c.1, f.2.2.2.1.length ≤ 1000
/-- What steps ask of a system, and keep; of the log: at most N lines. -/
structure Fin (N : Nat) (s : Sy) : Prop where
  fits : Fits s.1
  cores : s.2.1.length ≤ 1000
  core : ∀ c ∈ s.2.1, FinC c
  log : s.2.2.1.length ≤ N
theorem Fin.fine {N : Nat} {s : Sy} (h : Fin N s) (hN : N ≤ 900000) : Fine s := ⟨h.fits, h.cores, fun c hc => (h.core c hc).frames, Nat.le_trans h.log hN⟩
theorem Fin.more {N M : Nat} {s : Sy} (h : Fin N s) (hN : N ≤ M) : Fin M s := ⟨h.fits, h.cores, h.core, Nat.le_trans h.log hN⟩
theorem dflt_finC : FinC (dflt tCore) := ⟨Nat.zero_le _, Nat.zero_le _, fun f hf => nomatch hf⟩
theorem cAt_mem {l : List Cor} {k : Int} : cAt l k ∈ l ∨ cAt l k = dflt tCore := by
  unfold cAt
  rw [List.getD_eq_getElem?_getD]
  cases h : l[k.toNat]? with
  | none => exact .inr rfl
  | some c => exact .inl (List.mem_of_getElem? h)
theorem Fin.cAt {N : Nat} {s : Sy} (h : Fin N s) (k : Int) : FinC (cAt s.2.1 k) := by
  rcases cAt_mem (l := s.2.1) (k := k) with e | e
  · exact h.core _ e
  · rw [e]; exact dflt_finC
theorem Fin.withS {N : Nat} {s : Sy} {k : Int} {c : Cor} (h : Fin N s) (hc : FinC c) : Fin N (V.withS s k c) where
  fits := h.fits
  cores := by
    have : (V.withS s k c).2.1.length = s.2.1.length := List.length_set
    have := h.cores
    omega
  core := fun d hd => by
    rcases List.mem_or_eq_of_mem_set (show d ∈ s.2.1.set k.toNat c from hd) with e | e
    · exact h.core d e
    · rw [e]; exact hc
  log := h.log
theorem Fin.mem {N : Nat} {s : Sy} {m : Me} (h : Fin N s) (hm : Fits m) : Fin N (m, s.2) := ⟨hm, h.cores, h.core, h.log⟩
theorem Fin.setS {N : Nat} {s : Sy} {k : Int} {f : Frm} (h : Fin N s) (hl : f.2.2.2.1.length ≤ 1000) : Fin N (V.setS s k f) := by
  by_cases c : (topI s k).isSome
  · rw [show V.setS s k f = _ from if_pos c]
    have hc := h.cAt k
    refine h.withS ⟨?_, hc.ret, fun g hg => ?_⟩
    · exact Nat.le_trans (Nat.le_of_eq List.length_set) hc.frames
    · rcases List.mem_or_eq_of_mem_set hg with e | e
      · exact hc.seen g e
      · rw [e]; exact hl
  · rw [show V.setS s k f = s from if_neg c]; exact h
theorem Fin.backS {N : Nat} {s : Sy} {k v e : Int} (h : Fin N s) : Fin N (V.backS s k v e) := by
  by_cases c : (topI s k).isSome
  · rw [show V.backS s k v e = _ from if_pos c]
    have hc := h.cAt k
    exact h.withS ⟨Nat.le_trans (List.length_take_le' ..) hc.frames, hc.ret, fun g hg => hc.seen g (List.mem_of_mem_take hg)⟩
  · rw [show V.backS s k v e = s from if_neg c]; exact h
theorem Fin.callP {N : Nat} {s : Sy} {k op a : Int} (h : Fin N s) : Fin N (V.callP s k op a) := by
  by_cases c : isCoreB s k = true ∧ (V.cAt s.2.1 k).1.length < 40
  · rw [show V.callP s k op a = _ from if_pos c]
    have hc := h.cAt k
    refine h.withS ⟨?_, hc.ret, fun g hg => ?_⟩
    · show List.length (_ ++ _) ≤ 1000
      rw [List.length_append]
      have : List.length [frm0 op a 0 0] = 1 := rfl
      omega
    · rcases List.mem_append.1 hg with e | e
      · exact hc.seen g e
      · rw [List.mem_singleton.1 e]; exact Nat.zero_le _
  · rw [show V.callP s k op a = s from if_neg c]; exact h
theorem Fin.callS {N : Nat} {s : Sy} {k op a b d : Int} (h : Fin N s) : Fin N (V.callS s k op a b d) := by
  by_cases c : 0 ≤ k ∧ k < s.2.1.length ∧ (V.cAt s.2.1 k).1.length < 40
  · rw [show V.callS s k op a b d = _ from if_pos c]
    have hc := h.cAt k
    refine h.withS ⟨?_, hc.ret, fun g hg => ?_⟩
    · show List.length (_ ++ _) ≤ 1000
      rw [List.length_append]
      have : List.length [frm0 op a b d] = 1 := rfl
      omega
    · rcases List.mem_append.1 hg with e | e
      · exact hc.seen g e
      · rw [List.mem_singleton.1 e]; exact Nat.zero_le _
  · rw [show V.callS s k op a b d = s from if_neg c]; exact h
theorem Fin.keptS {N : Nat} {s : Sy} {k : Int} {l : Li} (h : Fin N s) (hl : l.length ≤ 1000) : Fin N (V.keptS s k l) :=
  h.withS ⟨(h.cAt k).frames, hl, (h.cAt k).seen⟩
theorem Fin.logS {N : Nat} {s : Sy} {k a b c v : Int} (h : Fin N s) : Fin (N + 1) (V.logS s k a b c v) := by
  by_cases d : isCoreB s k = true
  · rw [show V.logS s k a b c v = _ from if_pos d]
    refine ⟨h.fits, h.cores, h.core, ?_⟩
    show List.length (_ ++ _) ≤ N + 1
    rw [List.length_append]
    exact Nat.add_le_add_right h.log 1
  · rw [show V.logS s k a b c v = s from if_neg d]; exact h.more (Nat.le_succ N)
theorem Fin.top {N : Nat} {s : Sy} {k : Int} {f : Frm} (h : Fin N s) (ht : topI s k = some f) : f.2.2.2.1.length ≤ 1000 := by
  unfold topI at ht
  split at ht
  · cases hc : s.2.1[k.toNat]? with
    | none => rw [hc] at ht; cases ht
    | some c =>
      rw [hc] at ht
      exact (h.core c (List.mem_of_getElem? hc)).seen f (List.mem_of_getLast? ht)
  · cases ht
theorem loadM_fits {m : Me} {p : Int} (h : Fits m) : Fits (loadM m p) := h
theorem storeM_fits {m : Me} {p v : Int} (h : Fits m) : Fits (storeM m p v) := by
  have := storeM_len m p v
  unfold Fits at h ⊢
  omega
theorem casM_fits {m : Me} {p a b : Int} (h : Fits m) : Fits (casM m p a b) := by
  have := casM_len m p a b
  unfold Fits at h ⊢
  omega

/-! ### Each op keeps it -/
theorem popS_fin {N : Nat} {s : Sy} {k op pc : Int} {r : R8} {l : Li} (h : Fin N s) (hl : l.length ≤ 1000) : Fin (N + 1) (popS s k op pc r l) := by
  have h1 := h.more (Nat.le_succ N)
  unfold popS
  split
  · unfold pop0
    split
    · exact (h.mem (m := loadM s.1 0) h.fits).logS.backS
    · exact (h1.mem (m := loadM s.1 0) h.fits).setS hl
  · split
    · exact (h1.mem (m := loadM s.1 _) h.fits).setS hl
    · split
      · unfold pop2
        cases casB s.1 0 r.1 with
        | true => exact (h1.mem (turnM_fits (casM_fits h.fits))).backS
        | false => exact (h1.mem (casM_fits h.fits)).setS hl
      · exact h1
theorem pushSt_fin {N : Nat} {s : Sy} {k op pc : Int} {r : R8} {l : Li} (h : Fin N s) (hl : l.length ≤ 1000) : Fin N (pushSt s k op pc r l) := by
  unfold pushSt
  split
  · exact (h.mem (m := loadM s.1 _) h.fits).setS hl
  · split
    · exact (h.mem (storeM_fits h.fits)).setS hl
    · split
      · unfold push2
        cases casB s.1 0 r.2.1 with
        | true => exact (h.mem (turnM_fits (casM_fits h.fits))).backS
        | false => exact (h.mem (casM_fits h.fits)).setS hl
      · exact h
theorem protS_fin {N : Nat} {s : Sy} {k op pc : Int} {r : R8} {l : Li} (h : Fin N s) (hl : l.length ≤ 1000) : Fin N (protS s k op pc r l) := by
  unfold protS
  split
  · unfold prot0
    split
    · exact (h.mem (m := loadM s.1 _) h.fits).backS
    · exact (h.mem (m := loadM s.1 _) h.fits).setS hl
  · split
    · exact (h.mem (storeM_fits h.fits)).setS hl
    · split
      · unfold prot2
        split
        · exact (h.mem (m := loadM s.1 _) h.fits).backS
        · exact (h.mem (m := loadM s.1 _) h.fits).setS hl
      · exact h
theorem clearS_fin {N : Nat} {s : Sy} {k pc : Int} {r : R8} {l : Li} (h : Fin N s) (hl : l.length ≤ 1000) : Fin N (clearS s k pc r l) := by
  unfold clearS
  split
  · split
    · exact (h.mem (storeM_fits h.fits)).backS
    · exact (h.mem (storeM_fits h.fits)).setS hl
  · exact h
theorem retireS_fin {N : Nat} {s : Sy} {k op pc : Int} {r : R8} {l : Li} (h : Fin N s) (hl : l.length ≤ 1000) : Fin N (retireS s k op pc r l) := by
  unfold retireS
  split
  · exact h.backS
  · split
    · unfold retire0
      split
      · exact h.backS
      · rename_i h2
        have h3 : Fin N (retM s k r.1) := (h.keptS (k := k) (l := snoc (retL s k) r.1) (by
          show List.length (_ ++ _) ≤ 1000
          rw [List.length_append]
          have : List.length [r.1] = 1 := rfl
          omega)).mem (turnM_fits h.fits)
        split
        · exact h3.backS
        · exact (h3.setS hl).callP
    · exact h
def lookS (s : Sy) (k op pc : Int) (r : R8) (l : Li) : Sy := if pc = 0 then look0 s k op r l else if pc = 1 then look1 s k op r l else s
theorem lookS_fin {N : Nat} {s : Sy} {k op pc : Int} {r : R8} {l : Li} (h : Fin N s) (hl : l.length ≤ 1000) : Fin N (lookS s k op pc r l) := by
  unfold lookS
  split
  · refine (h.mem (m := loadM s.1 _) h.fits).setS ?_
    show (lookL s r l).length ≤ 1000
    unfold lookL
    split
    · show List.length (_ ++ _) ≤ 1000
      rw [List.length_append]
      have : List.length [loadI s.1 (lookP s r)] = 1 := rfl
      omega
    · exact hl
  · split
    · unfold look1
      split
      · exact h.backS
      · rename_i h2
        refine (Fin.setS (h.keptS ?_) hl).callP
        have h3 : (retL s k).length ≤ 1000 := (h.cAt k).ret
        rw [List.length_append, List.length_take, List.length_drop, Nat.min_eq_left (by omega)]
        omega
    · exact h

/-! ### Each step -/
theorem s_lookX (s : Sy) (k op pc : Int) (r : R8) (l : Li) (h0 : ¬ pc = 0) (h1 : ¬ pc = 1) : Spec Tryz.prog 194 [vS s, vI k, vF (op, pc, r, l, ())] (vS s) := by
  refine spec_introF false tab_ok 0 Tryz.func194 rfl (by kernel_rfl) rfl ?_
  conv => whnf
  refine dcase (fun h => absurd h h0) (fun _ => ?_)
  conv => whnf
  refine dcase (fun h => absurd h h1) (fun _ => ?_)
  conv => whnf
  first | exact .inl rfl | exact .inr rfl
theorem s_look {N : Nat} (s : Sy) (k op pc : Int) (r : R8) (l : Li) (h0 : 0 ≤ k) (h1 : k < s.2.1.length) (hf : Fin N s) (hN : N ≤ 900000) (hl : l.length ≤ 1000) : Spec Tryz.prog 194 [vS s, vI k, vF (op, pc, r, l, ())] (vS (lookS s k op pc r l)) := by
  unfold lookS
  split
  · rename_i h; subst h
    exact s_look0 s k op r l hf.fits hf.cores fun c hc => (hf.core c hc).frames
  · split
    · rename_i h; subst h
      exact s_look1 s k op r l h0 h1 (hf.fine hN) hl (hf.cAt k).ret
    · exact s_lookX s k op pc r l (by assumption) (by assumption)
theorem s_scanStep6 {N : Nat} (s : Sy) (k pc : Int) (r : R8) (l : Li) (ht : topI s k = some ((6 : Int), pc, r, l, ())) (hf : Fin N s) (hN : N ≤ 900000) : Spec Tryz.prog 114 [vS s, vI k] (vS (lookS s k 6 pc r l)) := by
  refine spec_introF false tab_ok 0 Tryz.func114 rfl (by kernel_rfl) rfl ?_
  conv => whnf
  first | refine .inr (.inl ⟨_, s_topOf ht (hf.fine hN), ?_⟩) | refine .inl (.inr (.inl ⟨_, s_topOf ht (hf.fine hN), ?_⟩))
  conv => whnf
  refine ⟨p_scan_Step_2, g_scan_Step_2, by kernel_rfl, ?st1, ?_, ?_⟩
  rotate_left
  · conv => whnf
    refine .inr (.inr ⟨500, _, s_steps, ?_⟩)
    conv => whnf
    refine ⟨fun h => absurd (show (6 : Int) = 5 from h) (by decide), fun _ => ⟨fun _ => ?_, fun h => absurd rfl h⟩⟩
    conv => whnf
  conv => whnf
  first | refine .inr (.inl ⟨_, s_look s k 6 pc r l (topI_some ht).1 (topI_some ht).2.1 hf hN (hf.top ht), ?_⟩) | refine .inl (.inr (.inl ⟨_, s_look s k 6 pc r l (topI_some ht).1 (topI_some ht).2.1 hf hN (hf.top ht), ?_⟩))
  conv => whnf
  first | exact .inl rfl | exact .inr rfl
/-- A step of layer 6. -/
def scanF (s : Sy) (k op pc : Int) (r : R8) (l : Li) : Sy :=
  if op = 1 then popS s k 1 pc r l else if op = 2 then pushSt s k 2 pc r l else if op = 3 then protS s k 3 pc r l else if op = 4 then clearS s k pc r l else if op = 5 then retireS s k 5 pc r l else if op = 6 then lookS s k 6 pc r l else s
def scanS (s : Sy) (k : Int) : Sy := match topI s k with
  | none => s
  | some f => scanF s k f.1 f.2.1 f.2.2.1 f.2.2.2.1
theorem scanS_some {s : Sy} {k op pc : Int} {r : R8} {l : Li} (ht : topI s k = some (op, pc, r, l, ())) : scanS s k = scanF s k op pc r l := by unfold scanS; rw [ht]
theorem scanS_none {s : Sy} {k : Int} (ht : topI s k = none) : scanS s k = s := by unfold scanS; rw [ht]
theorem scanF_fin {N : Nat} {s : Sy} {k op pc : Int} {r : R8} {l : Li} (h : Fin N s) (hl : l.length ≤ 1000) : Fin (N + 1) (scanF s k op pc r l) := by
  have h1 := h.more (Nat.le_succ N)
  unfold scanF
  split
  · exact popS_fin h hl
  split
  · exact pushSt_fin h1 hl
  split
  · exact protS_fin h1 hl
  split
  · exact clearS_fin h1 hl
  split
  · exact retireS_fin h1 hl
  split
  · exact lookS_fin h1 hl
  exact h1
theorem s_scanStep {N : Nat} (s : Sy) (k : Int) (hf : Fin N s) (hN : N ≤ 900000) : Spec Tryz.prog 114 [vS s, vI k] (vS (scanS s k)) := by
  cases ht : topI s k with
  | none => rw [scanS_none ht]; exact s_scanStepNo s k ht (hf.fine hN)
  | some f =>
    obtain ⟨op, pc, r, l, u⟩ := f
    obtain rfl : u = () := rfl
    rw [scanS_some ht]
    unfold scanF
    split
    · rename_i h; subst h; exact s_scanStep1 s k pc r l ht (hf.fine hN)
    split
    · rename_i h; subst h; exact s_scanStep2 s k pc r l ht (hf.fine hN)
    split
    · rename_i h; subst h; exact s_scanStep3 s k pc r l ht (hf.fine hN)
    split
    · rename_i h; subst h; exact s_scanStep4 s k pc r l ht (hf.fine hN)
    split
    · rename_i h; subst h; exact s_scanStep5 s k pc r l ht (hf.fine hN)
    split
    · rename_i h; subst h; exact s_scanStep6 s k pc r l ht hf hN
    · rename_i a1 a2 a3 a4 a5 a6
      exact s_scanStepX s k op pc r l (by
        have b1 : ¬ op = (1 : Int) := a1
        have b2 : ¬ op = (2 : Int) := a2
        have b3 : ¬ op = (3 : Int) := a3
        have b4 : ¬ op = (4 : Int) := a4
        have b5 : ¬ op = (5 : Int) := a5
        have b6 : ¬ op = (6 : Int) := a6
        have : ∀ n : Int, ¬ n = 1 → ¬ n = 2 → ¬ n = 3 → ¬ n = 4 → ¬ n = 5 → ¬ n = 6 → n < 1 ∨ 6 < n := fun n => by omega
        exact this op b1 b2 b3 b4 b5 b6) ht (hf.fine hN)
end Go.Proofs.YtpobngddiifdpaaGreat.V

set_option linter.unusedSimpArgs false
set_option linter.unusedVariables false
namespace Go.Proofs.YtpobngddiifdpaaGreat.V
open Go Go.RowKit Go.Proofs.YtpobngddiifdpaaGreat.Hz
set_option maxRecDepth 100000

/-- A step of layer 7. -/
def allocF (s : Sy) (k op pc : Int) (r : R8) (l : Li) : Sy := if op = 7 then allocS s k 7 pc r l else if op = 8 then dropS s k pc r l else scanF s k op pc r l
def alS (s : Sy) (k : Int) : Sy := match topI s k with
  | none => s
  | some f => allocF s k f.1 f.2.1 f.2.2.1 f.2.2.2.1
theorem alS_some {s : Sy} {k op pc : Int} {r : R8} {l : Li} (ht : topI s k = some (op, pc, r, l, ())) : alS s k = allocF s k op pc r l := by unfold alS; rw [ht]
theorem alS_none {s : Sy} {k : Int} (ht : topI s k = none) : alS s k = s := by unfold alS; rw [ht]
theorem thenS_fin {N : Nat} {s : Sy} {k op pc o a : Int} {r : R8} {l : Li} (h : Fin N s) (hl : l.length ≤ 1000) : Fin N (thenS s k op pc r l o a) := (h.setS (f := (op, wrap64 (pc + 1), r, l, ())) hl).callP
theorem allocF_fin {N : Nat} {s : Sy} {k op pc : Int} {r : R8} {l : Li} (h : Fin N s) (hl : l.length ≤ 1000) : Fin (N + 1) (allocF s k op pc r l) := by
  have h1 := h.more (Nat.le_succ N)
  unfold allocF
  split
  · unfold allocS
    split
    · exact thenS_fin h1 hl
    split
    · split
      · exact h1.backS
      split
      · exact h1.backS
      · exact thenS_fin h1 hl
    split
    · exact h1.backS
    · exact h1
  split
  · unfold dropS
    split
    · exact thenS_fin h1 hl
    split
    · exact h1.backS
    · exact h1
  exact scanF_fin h hl
theorem alS_fin {N : Nat} {s : Sy} {k : Int} (h : Fin N s) : Fin (N + 1) (alS s k) := by
  unfold alS
  split
  · exact h.more (Nat.le_succ N)
  · rename_i f hf
    exact allocF_fin h (h.top hf)
theorem s_alStep {N : Nat} (s : Sy) (k : Int) (hf : Fin N s) (hN : N ≤ 900000) : Spec Tryz.prog 73 [vS s, vI k] (vS (alS s k)) := by
  cases ht : topI s k with
  | none => rw [alS_none ht]; exact s_allocStepNo s k ht (hf.fine hN)
  | some f =>
    obtain ⟨op, pc, r, l, u⟩ := f
    obtain rfl : u = () := rfl
    rw [alS_some ht]
    unfold allocF
    split
    · rename_i h; subst h; exact s_allocStep7 s k pc r l ht (hf.fine hN)
    split
    · rename_i h; subst h; exact s_allocStep8 s k pc r l ht (hf.fine hN)
    · rename_i h7 h8
      have := s_scanStep s k hf hN
      rw [scanS_some ht] at this
      exact s_allocStepX s _ k op pc r l h7 h8 ht (hf.fine hN) this

/-! ### Which ops -/
def ownB (lo hi op : Int) : Bool := decide (lo ≤ op ∧ op ≤ hi)
theorem s_scanOwn (op : Int) : Spec Tryz.prog 108 [vI op] (vB (ownB 1 6 op)) := by
  have yes : 1 ≤ op ∧ op ≤ 6 → ownB 1 6 op = true := decide_eq_true
  have no : ¬ (1 ≤ op ∧ op ≤ 6) → ownB 1 6 op = false := decide_eq_false
  refine spec_introF false tab_ok 0 Tryz.func108 rfl (by kernel_rfl) rfl ?_
  conv => whnf
  refine .inr (.inr ⟨500, _, s_steps, ?_⟩)
  conv => whnf
  refine ⟨fun h => ?_, fun h5 => ⟨fun h => ?_, fun h6 => ⟨fun h => ?_, fun h1 => ⟨fun h => ?_, fun h2 => ⟨fun h => ?_, fun h3 => ⟨fun h => ?_, fun h4 => ?_⟩⟩⟩⟩⟩⟩
  · have h : op = 5 := h
    rw [yes (by omega)]; conv => whnf
    first | exact .inl rfl | exact .inr rfl
  · have h : op = 6 := h
    rw [yes (by omega)]; conv => whnf
    first | exact .inl rfl | exact .inr rfl
  · have h : op = 1 := h
    rw [yes (by omega)]; conv => whnf
    first | exact .inl rfl | exact .inr rfl
  · have h : op = 2 := h
    rw [yes (by omega)]; conv => whnf
    first | exact .inl rfl | exact .inr rfl
  · have h : op = 3 := h
    rw [yes (by omega)]; conv => whnf
    first | exact .inl rfl | exact .inr rfl
  · have h : op = 4 := h
    rw [yes (by omega)]; conv => whnf
    first | exact .inl rfl | exact .inr rfl
  · have h1 : ¬ op = 1 := h1
    have h2 : ¬ op = 2 := h2
    have h3 : ¬ op = 3 := h3
    have h4 : ¬ op = 4 := h4
    have h5 : ¬ op = 5 := h5
    have h6 : ¬ op = 6 := h6
    rw [no (by omega)]; conv => whnf
    first | exact .inl rfl | exact .inr rfl
theorem s_allocOwn (op : Int) : Spec Tryz.prog 68 [vI op] (vB (ownB 1 8 op)) := by
  have yes : 1 ≤ op ∧ op ≤ 8 → ownB 1 8 op = true := decide_eq_true
  refine spec_introF false tab_ok 0 Tryz.func68 rfl (by kernel_rfl) rfl ?_
  conv => whnf
  refine dcase (fun h => ?_) (fun h => ?_)
  · rw [yes (by omega)]
    conv => whnf
    first | exact .inl rfl | exact .inr rfl
  conv => whnf
  refine dcase (fun h8 => ?_) (fun h8 => ?_)
  · rw [yes (by omega)]
    conv => whnf
    first | exact .inl rfl | exact .inr rfl
  rw [show ownB 1 8 op = ownB 1 6 op from decide_eq_decide.2 (by omega)]
  conv => whnf
  first | refine .inl ⟨_, s_scanOwn op, ?_⟩ | refine .inl (.inl ⟨_, s_scanOwn op, ?_⟩)
  conv => whnf
  first | exact .inl rfl | exact .inr rfl

/-! ### The document's -/
theorem s_refPlace (k i : Int) : Spec Tryz.prog 147 [vI k, vI i] (vI (placeI k i)) := by
  refine spec_introF false tab_ok 0 Tryz.func147 rfl (by kernel_rfl) rfl ?_
  conv => whnf
  first | exact .inl rfl | exact .inr rfl
theorem s_refCas (m : Me) (p old now : Int) (hf : Fits m) : Spec Tryz.prog 145 [vM m, vI p, vI old, vI now] (vMB (casM m p old now) (casB m p old)) := by
  have hm := hf.1
  have hg := hf.2
  have yes : 0 ≤ p ∧ p < m.1.length ∧ nI m.1 p = old → casM m p old now = storeM m p now ∧ casB m p old = true := fun h => ⟨if_pos h, decide_eq_true h⟩
  have no : ¬ (0 ≤ p ∧ p < m.1.length ∧ nI m.1 p = old) → casM m p old now = loadM m p ∧ casB m p old = false := fun h => ⟨if_neg h, decide_eq_false h⟩
  refine spec_introF false tab_ok 0 Tryz.func145 rfl (by kernel_rfl) rfl ?_
  conv => whnf
  first | refine .inr (.inl ⟨_, s_refLoad m p (by omega), ?_⟩) | refine .inl (.inr (.inl ⟨_, s_refLoad m p (by omega), ?_⟩))
  conv => whnf
  refine dcase (fun h => ?_) (fun h => ?_)
  · rw [(no (by omega)).1, (no (by omega)).2]
    conv => whnf
    first | exact .inl rfl | exact .inr rfl
  conv => whnf
  refine dcase (fun h1 => ?_) (fun h1 => ?_)
  · rw [(no (by omega)).1, (no (by omega)).2]
    conv => whnf
    first | exact .inl rfl | exact .inr rfl
  have e : loadI m p = nI m.1 p := if_neg (by omega)
  conv => whnf
  refine dcase (fun h2 => ?_) (fun h2 => ?_)
  · rw [(no (by rw [← e]; exact fun q => h2 q.2.2)).1, (no (by rw [← e]; exact fun q => h2 q.2.2)).2]
    conv => whnf
    first | exact .inl rfl | exact .inr rfl
  · have hy := yes ⟨by omega, by omega, by rw [← e]; exact Classical.not_not.1 h2⟩
    rw [hy.1, hy.2]
    conv => whnf
    first | refine .inr (.inl ⟨_, s_refStore m p now (by omega) (by omega), ?_⟩) | refine .inl (.inr (.inl ⟨_, s_refStore m p now (by omega) (by omega), ?_⟩))
    conv => whnf
    first | exact .inl rfl | exact .inr rfl
end Go.Proofs.YtpobngddiifdpaaGreat.V

set_option linter.unusedSimpArgs false
set_option linter.unusedVariables false
namespace Go.Proofs.YtpobngddiifdpaaGreat.V
open Go Go.RowKit Go.Proofs.YtpobngddiifdpaaGreat.Hz
set_option maxRecDepth 100000

theorem s_cut0 (w : Int) : Spec Tryz.prog 107 [vI w, vI 0] (vI (w % 2)) := by
  have e : wrap64 (((BitVec.ofInt 64 (w.fdiv (2 ^ 0)) &&& BitVec.ofInt 64 (wrap64 (wrap64 (1 * 2 ^ 1) - 1))).toNat : Nat) : Int) = w % 2 := by
    rw [show wrap64 (wrap64 (1 * 2 ^ 1) - 1) = 2 ^ 1 - 1 by rw [IntWalk.wrap64_in (1 * 2 ^ 1) (by omega), IntWalk.wrap64_in _ (by omega)]; rfl, and_low _ 1 (by omega), fdiv_pow]
    have h : (w / 2 ^ 0) % 2 ^ 1 = w % 2 := by omega
    rw [h, IntWalk.wrap64_in _ (by omega)]
  refine spec_introF false tab_ok 0 Tryz.func107 rfl (by kernel_rfl) rfl ?_
  conv => whnf
  refine ⟨p_pack_cut_1, g_pack_cut_1, by kernel_rfl, ?st1, ?_, ?_⟩
  rotate_left
  · conv => whnf
    first | refine .inl ⟨_, s_from0, ?_⟩ | refine .inl (.inl ⟨_, s_from0, ?_⟩)
    conv => whnf
    repeat (refine ⟨by first | omega | (simp only [Option.getD_none, Option.getD_some]; omega) | (simp; done) | (simp; omega), ?_⟩; conv => whnf)
    first | refine .inl ⟨_, s_wide, ?_⟩ | refine .inl (.inl ⟨_, s_wide, ?_⟩)
    conv => whnf
    repeat (refine ⟨by first | omega | (simp only [Option.getD_none, Option.getD_some]; omega) | (simp; done) | (simp; omega), ?_⟩; conv => whnf)
  conv => whnf
  exact .inl (congrArg vI e)
theorem s_Mark (w : Int) : Spec Tryz.prog 83 [vI w] (vI (w % 2)) := by
  refine spec_introF false tab_ok 0 Tryz.func83 rfl (by kernel_rfl) rfl ?_
  conv => whnf
  first | refine .inl ⟨_, s_cut0 w, ?_⟩ | refine .inl (.inl ⟨_, s_cut0 w, ?_⟩)
  conv => whnf
  first | exact .inl rfl | exact .inr rfl
end Go.Proofs.YtpobngddiifdpaaGreat.V

set_option linter.unusedSimpArgs false
set_option linter.unusedVariables false
namespace Go.Proofs.YtpobngddiifdpaaGreat.V
open Go Go.RowKit Go.Proofs.YtpobngddiifdpaaGreat.Hz
set_option maxRecDepth 100000

theorem dfl_fin (c : Int) (m : Me) (hm : Fits m) (hc : c.toNat ≤ 1000) : Fin 0 (m, List.replicate c.toNat (dflt tCore), ([] : List Evt), ()) := by
  refine ⟨hm, ?_, fun d hd => ?_, Nat.le_refl _⟩
  · show List.length (List.replicate _ _) ≤ 1000
    rw [List.length_replicate]; exact hc
  · rw [(List.mem_replicate.1 (show d ∈ List.replicate _ _ from hd)).2]
    exact dflt_finC
theorem fillM_fits {m : Me} (h : Fits m) : Fits (fillM m) := by
  unfold fillM
  refine storeM_fits ?_
  have := fillN_len m ((m.2.1.length : Int) - 1) (m.2.1.length - 1)
  unfold Fits at h ⊢
  omega
theorem newF_fin {c n : Int} (h1 : 1 ≤ n) (h2 : n ≤ 200) (hc : c ≤ 8) : Fin 0 (newF c n) := dfl_fin c _ (fillM_fits (newI_fits h1 h2).1) (by omega)
end Go.Proofs.YtpobngddiifdpaaGreat.V

set_option linter.unusedSimpArgs false
set_option linter.unusedVariables false
namespace Go.Proofs.YtpobngddiifdpaaGreat.V
open Go Go.RowKit Go.Proofs.YtpobngddiifdpaaGreat.Hz
set_option maxRecDepth 100000

/-! ### What is right and small -/
theorem may_is {s : Sy} {k : Int} (h : mayS s k = true) : SmallS s k ∧ RightS s := by
  unfold mayS at h
  rw [Bool.and_eq_true] at h
  exact ⟨smallS_is h.1, rightS_is h.2⟩
theorem cAt_nat {l : List Cor} {c : Cor} (h : c ∈ l) : ∃ j : Nat, j < l.length ∧ cAt l j = c := by
  obtain ⟨j, hj, e⟩ := List.getElem_of_mem h
  refine ⟨j, hj, ?_⟩
  unfold cAt
  rw [Int.toNat_natCast, List.getD_eq_getElem?_getD, List.getElem?_eq_getElem hj]
  exact e
theorem may_fin {s : Sy} {k : Int} (h : mayS s k = true) : Fin 200 s := by
  obtain ⟨⟨h1, h2, h3, h4⟩, ⟨r1, r2, r3, r4⟩⟩ := may_is h
  obtain ⟨m1, m2, m3, m4, m5⟩ := r1
  refine ⟨⟨m3, by omega⟩, by omega, fun c hc => ?_, h3⟩
  obtain ⟨j, hj, e⟩ := cAt_nat hc
  obtain ⟨q1, q2, q3⟩ := h4 j hj
  rw [e] at q1 q2 q3
  refine ⟨by omega, by omega, fun f hf => ?_⟩
  obtain ⟨i, hi, e2⟩ := List.getElem_of_mem hf
  have := q3 i hi
  have e3 : fAt c.1 i = f := by
    unfold fAt
    rw [Int.toNat_natCast, List.getD_eq_getElem?_getD, List.getElem?_eq_getElem hi]
    exact e2
  rw [e3] at this
  omega

/-! ### The parts -/
/-! ### A step turns at most one node -/
/-- One place at most is another one. -/
def oneSet (a b : Li) : Prop := b = a ∨ ∃ (q : Nat) (v : Int), b = List.set (α := Int) a q v
theorem turnM_one (m : Me) (p to : Int) : oneSet m.2.1 (turnM m p to).2.1 := by
  by_cases c : 1 ≤ p ∧ p < m.2.1.length ∧ turnB (nI m.2.1 p) to = true
  · rw [show turnM m p to = _ from if_pos c]; exact .inr ⟨_, _, rfl⟩
  · rw [show turnM m p to = _ from if_neg c]; exact .inl rfl
theorem storeM_G (m : Me) (p v : Int) : (storeM m p v).2.1 = m.2.1 := by
  unfold storeM; split <;> rfl
theorem casM_G (m : Me) (p a b : Int) : (casM m p a b).2.1 = m.2.1 := by
  unfold casM; split
  · exact storeM_G _ _ _
  · rfl
theorem setS_M (s : Sy) (k : Int) (f : Frm) : (setS s k f).1 = s.1 := by unfold setS; split <;> rfl
theorem backS_M (s : Sy) (k v e : Int) : (backS s k v e).1 = s.1 := by unfold backS; split <;> rfl
theorem callP_M (s : Sy) (k op a : Int) : (callP s k op a).1 = s.1 := by unfold callP; split <;> rfl
theorem logS_M (s : Sy) (k a b c v : Int) : (logS s k a b c v).1 = s.1 := (logS_cores s k a b c v).2
theorem scanF_one (s : Sy) (k op pc : Int) (r : R8) (l : Li) : oneSet s.1.2.1 (scanF s k op pc r l).1.2.1 := by
  have same : ∀ {a : Li}, oneSet a a := .inl rfl
  unfold scanF
  split
  · unfold popS
    split
    · unfold pop0
      split
      · rw [backS_M, logS_M]; exact same
      · rw [setS_M]; exact same
    split
    · rw [setS_M]; exact same
    split
    · unfold pop2
      cases casB s.1 0 r.1 with
      | true =>
        rw [cond_true, backS_M]
        have := turnM_one (casM s.1 0 r.1 (popN r)) (idxI r.1) 1
        rw [casM_G] at this
        exact this
      | false => rw [cond_false, setS_M]; show oneSet _ (casM _ _ _ _).2.1; rw [casM_G]; exact same
    · exact same
  split
  · unfold pushSt
    split
    · rw [setS_M]; exact same
    split
    · rw [setS_M]; show oneSet _ (storeM _ _ _).2.1; rw [storeM_G]; exact same
    split
    · unfold push2
      cases casB s.1 0 r.2.1 with
      | true =>
        rw [cond_true, backS_M]
        have := turnM_one (casM s.1 0 r.2.1 (pushN r)) r.1 0
        rw [casM_G] at this
        exact this
      | false => rw [cond_false, setS_M]; show oneSet _ (casM _ _ _ _).2.1; rw [casM_G]; exact same
    · exact same
  split
  · unfold protS
    split
    · unfold prot0
      split
      · rw [backS_M]; exact same
      · rw [setS_M]; exact same
    split
    · rw [setS_M]; show oneSet _ (storeM _ _ _).2.1; rw [storeM_G]; exact same
    split
    · unfold prot2
      split
      · rw [backS_M]; exact same
      · rw [setS_M]; exact same
    · exact same
  split
  · unfold clearS
    split
    · split
      · rw [backS_M]; show oneSet _ (storeM _ _ _).2.1; rw [storeM_G]; exact same
      · rw [setS_M]; show oneSet _ (storeM _ _ _).2.1; rw [storeM_G]; exact same
    · exact same
  split
  · unfold retireS
    split
    · rw [backS_M]; exact same
    split
    · unfold retire0
      split
      · rw [backS_M]; exact same
      split
      · rw [backS_M]; exact turnM_one _ _ _
      · rw [callP_M, setS_M]; exact turnM_one _ _ _
    · exact same
  split
  · unfold lookS
    split
    · unfold look0; rw [setS_M]; exact same
    split
    · unfold look1
      split
      · rw [backS_M]; exact same
      · unfold look1a; rw [callP_M, setS_M]; exact same
    · exact same
  exact same
theorem alS_one (s : Sy) (k : Int) : oneSet s.1.2.1 (alS s k).1.2.1 := by
  unfold alS
  split
  · exact .inl rfl
  · rename_i f _
    unfold allocF
    split
    · unfold allocS
      split
      · unfold thenS; rw [callP_M, setS_M]; exact .inl rfl
      split
      · split
        · rw [backS_M]; exact .inl rfl
        split
        · rw [backS_M]; exact .inl rfl
        · unfold thenS; rw [callP_M, setS_M]; exact .inl rfl
      split
      · rw [backS_M]; exact .inl rfl
      · exact .inl rfl
    split
    · unfold dropS
      split
      · unfold thenS; rw [callP_M, setS_M]; exact .inl rfl
      split
      · rw [backS_M]; exact .inl rfl
      · exact .inl rfl
    · exact scanF_one s k _ _ _ _
end Go.Proofs.YtpobngddiifdpaaGreat.V
