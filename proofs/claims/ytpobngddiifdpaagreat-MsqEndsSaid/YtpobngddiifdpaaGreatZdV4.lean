/- Layer 2 of the program: memory. -/
import Derived.Test.YtpobngddiifdpaaGreatZdV3
set_option linter.unusedSimpArgs false
set_option linter.unusedVariables false
namespace Go.Proofs.YtpobngddiifdpaaGreat.V
open Go Go.RowKit Go.Proofs.YtpobngddiifdpaaGreat.Hz
set_option maxRecDepth 100000

/-- The words fit the nodes. -/
def Fits (m : Me) : Prop := m.1.length = 124 + 4 * m.2.1.length ∧ m.2.1.length ≤ 1000
theorem s_mNode (m : Me) (p : Int) (hf : Fits m) : Spec Tryz.prog 167 [vM m, vI p] (vI (nodeI m.2.1.length p)) := by
  obtain ⟨hf, hg⟩ := hf
  refine spec_introF false tab_ok 0 Tryz.func167 rfl (by kernel_rfl) rfl ?_
  conv => whnf
  refine dcase (fun h => ?_) (fun h => ?_)
  · conv => whnf
    rw [show nodeI m.2.1.length p = 0 from if_neg (by omega)]
    first | exact .inl rfl | exact .inr rfl
  conv => whnf
  refine dcase (fun h1 => ?_) (fun h1 => ?_)
  · conv => whnf
    rw [show nodeI m.2.1.length p = 0 from if_neg (by omega)]
    first | exact .inl rfl | exact .inr rfl
  conv => whnf
  rw [IntWalk.wrap64_in (p - 128) (by omega)]
  refine ⟨by decide, ?_⟩
  conv => whnf
  rw [Int.tmod_eq_emod_of_nonneg (by omega)]
  refine dcase (fun h2 => ?_) (fun h2 => ?_)
  · conv => whnf
    rw [show nodeI m.2.1.length p = 0 from if_neg (by omega)]
    first | exact .inl rfl | exact .inr rfl
  · conv => whnf
    rw [IntWalk.wrap64_in (p - 128) (by omega)]
    refine ⟨by decide, ?_⟩
    conv => whnf
    rw [Int.tdiv_eq_ediv_of_nonneg (by omega), IntWalk.wrap64_in ((p - 128) / 4) (by omega), IntWalk.wrap64_in _ (by omega), show nodeI m.2.1.length p = (p - 128) / 4 + 1 from if_pos (by omega)]
    first | exact .inl rfl | exact .inr rfl
theorem s_touched0 (m : Me) (p : Int) (hf : Fits m) : Spec Tryz.prog 99 [vM m, vI p, .one .nilfn] (vM (loadM m p)) := by
  have hn := nodeI_lt m.2.1.length p
  unfold loadM
  refine spec_introF false tab_ok 0 Tryz.func99 rfl (by kernel_rfl) rfl ?_
  conv => whnf
  first | refine .inl ⟨_, s_mNode m p hf, ?_⟩ | refine .inl (.inl ⟨_, s_mNode m p hf, ?_⟩)
  conv => whnf
  refine dcase (fun h => ?_) (fun h => ?_)
  · conv => whnf
    rw [badB_out (.inl h)]
    first | exact .inl rfl | exact .inr rfl
  conv => whnf
  refine dcase (fun h1 => ?_) (fun h1 => ?_)
  · conv => whnf
    rw [badB_out (.inr (by omega))]
    first | exact .inl rfl | exact .inr rfl
  have e : m.2.2.1 = false → badB m p = (decide (0 < nodeI m.2.1.length p) && decide (nI m.2.1 (nodeI m.2.1.length p) = 0)) := badB_in (by omega)
  conv => whnf
  refine dcase (fun h2 => ?_) (fun h2 => ?_)
  · rw [decide_eq_true h2] at e
    conv => whnf
    repeat (refine ⟨by first | omega | (simp only [Option.getD_none, Option.getD_some]; omega) | (simp; done) | (simp; omega), ?_⟩; conv => whnf)
    refine dcase (fun h3 => ?_) (fun h3 => ?_)
    · have e2 : badB m p = true := by
        cases hb : m.2.2.1 with
        | true => exact badB_bad hb
        | false => rw [e hb]; exact decide_eq_true h3
      rw [e2]
      conv => whnf
      first | exact .inl rfl | exact .inr rfl
    · have e2 : badB m p = m.2.2.1 := by
        cases hb : m.2.2.1 with
        | true => exact badB_bad hb
        | false => rw [e hb]; exact decide_eq_false h3
      rw [e2]
      conv => whnf
      first | exact .inl rfl | exact .inr rfl
  · rw [decide_eq_false h2] at e
    have e2 : badB m p = m.2.2.1 := by
      cases hb : m.2.2.1 with
      | true => exact badB_bad hb
      | false => rw [e hb]; rfl
    rw [e2]
    conv => whnf
    first | exact .inl rfl | exact .inr rfl
theorem s_mLoad (m : Me) (p : Int) (hf : Fits m) : Spec Tryz.prog 56 [vM m, vI p] (vMI (loadM m p) (loadI m p)) := by
  refine spec_introF false tab_ok 0 Tryz.func56 rfl (by kernel_rfl) rfl ?_
  conv => whnf
  first | refine .inr (.inl ⟨_, s_touched0 m p hf, ?_⟩) | refine .inl (.inr (.inl ⟨_, s_touched0 m p hf, ?_⟩))
  conv => whnf
  refine dcase (fun h => ?_) (fun h => ?_)
  · conv => whnf
    rw [show loadI m p = 0 from if_pos (.inl h)]
    first | exact .inl rfl | exact .inr rfl
  conv => whnf
  refine dcase (fun h1 => ?_) (fun h1 => ?_)
  · conv => whnf
    rw [show loadI m p = 0 from if_pos (.inr (by omega))]
    first | exact .inl rfl | exact .inr rfl
  conv => whnf
  refine ⟨p_mem_Load_4, g_mem_Load_4, by kernel_rfl, ?st1, ?_, ?_⟩
  rotate_left
  · conv => whnf
    repeat (refine ⟨by first | omega | (simp only [Option.getD_none, Option.getD_some]; omega) | (simp; done) | (simp; omega), ?_⟩; conv => whnf)
  rw [show loadI m p = nI m.1 p from if_neg (by omega)]
  conv => whnf
  first | exact .inl rfl | exact .inr rfl
theorem copy_all {α : Type} (l : List α) (d : α) : List.take (List.replicate ((l.length : Int)).toNat d).length l ++ List.drop l.length (List.replicate ((l.length : Int)).toNat d) = l := by
  simp
theorem s_mStore (m : Me) (p v : Int) (hf : Fits m) : Spec Tryz.prog 58 [vM m, vI p, vI v] (vM (storeM m p v)) := by
  have hn := nodeI_lt m.2.1.length p
  have hl : m.1.length ≤ 1000000 := by have := hf.1; have := hf.2; omega
  refine spec_introF false tab_ok 2 Tryz.func58 rfl (by kernel_rfl) rfl ?_
  conv => whnf
  refine .inr ⟨_, _, 1000, Tryz.func99, ⟨by kernel_rfl, rfl⟩, ?_⟩
  conv => whnf
  refine .inl (.inl ⟨_, s_mNode m p hf, ?_⟩)
  conv => whnf
  refine dcase (fun h => ?_) (fun h => ?_)
  · conv => whnf
    rw [show storeM m p v = (m.1, m.2.1, true, ()) from if_pos (.inl h)]
    first | exact .inl rfl | exact .inr rfl
  conv => whnf
  refine dcase (fun h1 => ?_) (fun h1 => ?_)
  · conv => whnf
    rw [show storeM m p v = (m.1, m.2.1, true, ()) from if_pos (.inr (by omega))]
    first | exact .inl rfl | exact .inr rfl
  rw [show storeM m p v = (List.set (α := Int) m.1 p.toNat v, m.2.1, badB m p, ()) from if_neg (by omega)]
  have e : m.2.2.1 = false → badB m p = (decide (0 < nodeI m.2.1.length p) && decide (nI m.2.1 (nodeI m.2.1.length p) = 0)) := badB_in (by omega)
  conv => whnf
  refine dcase (fun h2 => ?_) (fun h2 => ?_)
  · rw [decide_eq_true h2] at e
    conv => whnf
    repeat (refine ⟨by first | omega | (simp only [Option.getD_none, Option.getD_some]; omega) | (simp; done) | (simp; omega), ?_⟩; conv => whnf)
    refine dcase (fun h3 => ?_) (fun h3 => ?_)
    · have e2 : badB m p = true := by
        cases hb : m.2.2.1 with
        | true => exact badB_bad hb
        | false => rw [e hb]; exact decide_eq_true h3
      rw [e2]
      conv => whnf
      repeat (refine ⟨by first | omega | (simp only [Option.getD_none, Option.getD_some]; omega) | (simp; done) | (simp; omega), ?_⟩; conv => whnf)
      erw [copy_all]
      refine .inr ⟨_, _, 2000, Tryz.func100, ⟨by kernel_rfl, rfl⟩, ?_⟩
      conv => whnf
      repeat (refine ⟨by first | omega | (simp only [Option.getD_none, Option.getD_some]; omega) | (simp; done) | (simp; omega), ?_⟩; conv => whnf)
      first | exact .inl rfl | exact .inr rfl
    · have e2 : badB m p = m.2.2.1 := by
        cases hb : m.2.2.1 with
        | true => exact badB_bad hb
        | false => rw [e hb]; exact decide_eq_false h3
      rw [e2]
      conv => whnf
      repeat (refine ⟨by first | omega | (simp only [Option.getD_none, Option.getD_some]; omega) | (simp; done) | (simp; omega), ?_⟩; conv => whnf)
      erw [copy_all]
      refine .inr ⟨_, _, 2000, Tryz.func100, ⟨by kernel_rfl, rfl⟩, ?_⟩
      conv => whnf
      repeat (refine ⟨by first | omega | (simp only [Option.getD_none, Option.getD_some]; omega) | (simp; done) | (simp; omega), ?_⟩; conv => whnf)
      first | exact .inl rfl | exact .inr rfl
  · rw [decide_eq_false h2] at e
    have e2 : badB m p = m.2.2.1 := by
      cases hb : m.2.2.1 with
      | true => exact badB_bad hb
      | false => rw [e hb]; rfl
    rw [e2]
    conv => whnf
    repeat (refine ⟨by first | omega | (simp only [Option.getD_none, Option.getD_some]; omega) | (simp; done) | (simp; omega), ?_⟩; conv => whnf)
    erw [copy_all]
    refine .inr ⟨_, _, 2000, Tryz.func100, ⟨by kernel_rfl, rfl⟩, ?_⟩
    conv => whnf
    repeat (refine ⟨by first | omega | (simp only [Option.getD_none, Option.getD_some]; omega) | (simp; done) | (simp; omega), ?_⟩; conv => whnf)
    first | exact .inl rfl | exact .inr rfl

/-- May a node be turned so? -/
def eq2 (a b c d : Int) : Bool := decide (a = c) && (decide (b = d) && true)
def turnB (a b : Int) : Bool := eq2 a b 0 1 || (eq2 a b 1 2 || (eq2 a b 1 0 || eq2 a b 2 0))
theorem s_turns (a b : Int) : Spec Tryz.prog 103 [vI a, vI b] (vB (turnB a b)) := by
  unfold turnB
  refine spec_introF false tab_ok 0 Tryz.func103 rfl (by kernel_rfl) rfl ?_
  conv => whnf
  refine bcase (fun h1 => ?_) (fun h1 => ?_)
  · conv => whnf
    rw [show eq2 a b 0 1 = true from h1]
    first | exact .inl rfl | exact .inr rfl
  rw [show eq2 a b 0 1 = false from h1]
  conv => whnf
  refine bcase (fun h2 => ?_) (fun h2 => ?_)
  · conv => whnf
    rw [show eq2 a b 1 2 = true from h2]
    first | exact .inl rfl | exact .inr rfl
  rw [show eq2 a b 1 2 = false from h2]
  conv => whnf
  refine bcase (fun h3 => ?_) (fun h3 => ?_)
  · conv => whnf
    rw [show eq2 a b 1 0 = true from h3]
    first | exact .inl rfl | exact .inr rfl
  rw [show eq2 a b 1 0 = false from h3]
  conv => whnf
  refine bcase (fun h4 => ?_) (fun h4 => ?_)
  · conv => whnf
    rw [show eq2 a b 2 0 = true from h4]
    first | exact .inl rfl | exact .inr rfl
  · rw [show eq2 a b 2 0 = false from h4]
    conv => whnf
    first | exact .inl rfl | exact .inr rfl
/-- A node is turned. -/
def turnM (m : Me) (p to : Int) : Me := if 1 ≤ p ∧ p < m.2.1.length ∧ turnB (nI m.2.1 p) to = true then (m.1, List.set (α := Int) m.2.1 p.toNat to, m.2.2) else (m.1, m.2.1, true, ())
theorem s_mTurn (m : Me) (p to : Int) (hl : m.2.1.length ≤ 1000000) : Spec Tryz.prog 60 [vM m, vI p, vI to] (vM (turnM m p to)) := by
  refine spec_introF false tab_ok 1 Tryz.func60 rfl (by kernel_rfl) rfl ?_
  conv => whnf
  refine dcase (fun h => ?_) (fun h => ?_)
  · conv => whnf
    rw [show turnM m p to = (m.1, m.2.1, true, ()) from if_neg (by omega)]
    first | exact .inl rfl | exact .inr rfl
  conv => whnf
  refine dcase (fun h1 => ?_) (fun h1 => ?_)
  · conv => whnf
    rw [show turnM m p to = (m.1, m.2.1, true, ()) from if_neg (by omega)]
    first | exact .inl rfl | exact .inr rfl
  conv => whnf
  repeat (refine ⟨by first | omega | (simp only [Option.getD_none, Option.getD_some]; omega) | (simp; done) | (simp; omega), ?_⟩; conv => whnf)
  refine .inl (.inl ⟨_, s_turns _ _, ?_⟩)
  conv => whnf
  refine ncaseb (fun h2 => ?_) (fun h2 => ?_)
  · conv => whnf
    rw [show turnM m p to = (m.1, m.2.1, true, ()) from if_neg (fun h => by rw [show turnB (nI m.2.1 p) to = false from h2] at h; cases h.2.2)]
    first | exact .inl rfl | exact .inr rfl
  rw [show turnM m p to = (m.1, List.set (α := Int) m.2.1 p.toNat to, m.2.2) from if_pos ⟨by omega, by omega, h2⟩]
  conv => whnf
  refine .inr ⟨_, _, 1000, Tryz.func104, ⟨by kernel_rfl, rfl⟩, ?_⟩
  conv => whnf
  intro b hb
  cases b with
  | true =>
    have := hb rfl
    rw [this] at h1
    simp at h1
    omega
  | false =>
    conv => whnf
    refine ⟨le_most (by omega), ?_⟩
    conv => whnf
    repeat (refine ⟨by first | omega | (simp only [Option.getD_none, Option.getD_some]; omega) | (simp; done) | (simp; omega), ?_⟩; conv => whnf)
    first | exact .inl rfl | exact .inr rfl
/-- Cas. -/
def casM (m : Me) (p old now : Int) : Me := if 0 ≤ p ∧ p < m.1.length ∧ nI m.1 p = old then storeM m p now else loadM m p
def casB (m : Me) (p old : Int) : Bool := decide (0 ≤ p ∧ p < m.1.length ∧ nI m.1 p = old)
theorem s_mCas (m : Me) (p old now : Int) (hf : Fits m) : Spec Tryz.prog 191 [vM m, vI p, vI old, vI now] (vMB (casM m p old now) (casB m p old)) := by
  have no : ¬ (0 ≤ p ∧ p < m.1.length ∧ nI m.1 p = old) → casM m p old now = loadM m p ∧ casB m p old = false := fun h => ⟨if_neg h, decide_eq_false h⟩
  have yes : (0 ≤ p ∧ p < m.1.length ∧ nI m.1 p = old) → casM m p old now = storeM m p now ∧ casB m p old = true := fun h => ⟨if_pos h, decide_eq_true h⟩
  refine spec_introF false tab_ok 0 Tryz.func191 rfl (by kernel_rfl) rfl ?_
  conv => whnf
  refine dcase (fun h => ?_) (fun h => ?_)
  · conv => whnf
    refine dcase (fun h1 => ?_) (fun h1 => ?_)
    · conv => whnf
      repeat (refine ⟨by first | omega | (simp only [Option.getD_none, Option.getD_some]; omega) | (simp; done) | (simp; omega), ?_⟩; conv => whnf)
      refine ncase (fun h2 => ?_) (fun h2 => ?_)
      · obtain ⟨e1, e2⟩ := no (fun h => h2 h.2.2)
        rw [e1, e2]
        conv => whnf
        first | refine .inr (.inl ⟨_, s_touched0 m p hf, ?_⟩) | refine .inl (.inr (.inl ⟨_, s_touched0 m p hf, ?_⟩))
        conv => whnf
        first | exact .inl rfl | exact .inr rfl
      · obtain ⟨e1, e2⟩ := yes ⟨h, h1, h2⟩
        rw [e1, e2]
        conv => whnf
        first | refine .inr (.inl ⟨_, s_mStore m p now hf, ?_⟩) | refine .inl (.inr (.inl ⟨_, s_mStore m p now hf, ?_⟩))
        conv => whnf
        first | exact .inl rfl | exact .inr rfl
    · obtain ⟨e1, e2⟩ := no (fun h => h1 h.2.1)
      rw [e1, e2]
      conv => whnf
      first | refine .inr (.inl ⟨_, s_touched0 m p hf, ?_⟩) | refine .inl (.inr (.inl ⟨_, s_touched0 m p hf, ?_⟩))
      conv => whnf
      first | exact .inl rfl | exact .inr rfl
  · obtain ⟨e1, e2⟩ := no (fun h2 => h h2.1)
    rw [e1, e2]
    conv => whnf
    first | refine .inr (.inl ⟨_, s_touched0 m p hf, ?_⟩) | refine .inl (.inr (.inl ⟨_, s_touched0 m p hf, ?_⟩))
    conv => whnf
    first | exact .inl rfl | exact .inr rfl
theorem s_mAt (n c : Int) : Spec Tryz.prog 57 [vI n, vI c] (vI (atI n c)) := by
  refine spec_introF false tab_ok 0 Tryz.func57 rfl (by kernel_rfl) rfl ?_
  conv => whnf
  first | exact .inl rfl | exact .inr rfl
end Go.Proofs.YtpobngddiifdpaaGreat.V
