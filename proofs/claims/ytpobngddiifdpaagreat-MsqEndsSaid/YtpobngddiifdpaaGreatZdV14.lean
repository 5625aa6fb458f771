/- Layer 6 of the program: a scan that frees, whole. -/
import Derived.Test.YtpobngddiifdpaaGreatZdV13
set_option linter.unusedSimpArgs false
set_option linter.unusedVariables false
namespace Go.Proofs.YtpobngddiifdpaaGreat.V
open Go Go.RowKit Go.Proofs.YtpobngddiifdpaaGreat.Hz
set_option maxRecDepth 100000

abbrev LLi := List (Den tL)
abbrev vLL (l : LLi) : SV := .one (.sl tL l false)
abbrev catL (ls : LLi) : Li := List.flatten (α := Den tI) ls
theorem catL_take (ls : LLi) (i : Nat) (h : i < ls.length) : catL (ls.take (i + 1)) = catL (ls.take i) ++ ls.getD i [] := by
  unfold catL
  rw [List.take_add_one, List.flatten_append, List.getD_eq_getElem?_getD, List.getElem?_eq_getElem h]
  simp
theorem lens_le (ls : LLi) (i : Nat) : (catL (ls.take i)).length ≤ (catL ls).length := by
  have h : catL ls = catL (ls.take i) ++ catL (ls.drop i) := by
    unfold catL
    rw [← List.flatten_append, List.take_append_drop]
  rw [h, List.length_append]
  omega
theorem s_Concat (ls : LLi) (hl : (catL ls).length ≤ 1000000) (hn : ls.length ≤ 1000000) : Spec Tryz.prog 215 [vLL ls] (vL (catL ls)) := by
  refine spec_introF false tab_ok 1 Tryz.func215 rfl (by kernel_rfl) rfl ?_
  conv => whnf
  refine ⟨[], [0, 2, 3, 9, 10, 11], [], ?_⟩
  apply Exists.intro
  conv => whnf
  refine loopK (fun x : Int × Int => ((ls.length : Int) - x.1).toNat) (fun x => 0 ≤ x.1 ∧ x.1 ≤ ls.length ∧ x.2 = (catL (ls.take x.1.toNat)).length) (fun x => ⟨lay 36 0 [(0, vLL ls), (2, .one (.emp tI)), (3, vI x.2), (9, vLL ls), (10, vI ls.length), (11, vI x.1)], [], []⟩) ?_ (0, 0) rfl rfl ⟨by omega, by omega, rfl⟩
  intro ⟨i, z⟩ ih ⟨hi1, hi2, hi3⟩ hih
  conv => whnf
  refine dcase (fun h => ?_) (fun h => ?_)
  · conv => whnf
    simp only at hi1 hi2 hi3 hih h
    have h2 : i.toNat < ls.length := by omega
    have e1 := catL_take ls i.toNat h2
    have e2 := lens_le ls (i.toNat + 1)
    have e3 : (catL (ls.take (i + 1).toNat)).length = (catL (ls.take i.toNat)).length + (ls.getD i.toNat (dflt tL)).length := by
      rw [show (i + 1).toNat = i.toNat + 1 by omega, e1, List.length_append]
      rfl
    have e7 : (catL (ls.take (i + 1).toNat)).length ≤ (catL ls).length := lens_le ls _
    have e4 : wrap64 (z + ((ls.getD i.toNat (dflt tL)).length : Int)) = ((catL (ls.take (i + 1).toNat)).length : Int) := by
      rw [IntWalk.wrap64_in _ (by omega)]
      omega
    have e5 : wrap64 (i + 1) = i + 1 := IntWalk.wrap64_in _ (by omega)
    repeat (refine ⟨by first | omega | (simp only [Option.getD_none, Option.getD_some]; omega) | (simp; done) | (simp; omega), ?_⟩; conv => whnf)
    refine dcase (fun h3 => ?_) (fun h3 => ?_)
    · rw [e4] at h3
      omega
    conv => whnf
    erw [e5]
    exact hih (i + 1, wrap64 (z + ((ls.getD i.toNat (dflt tL)).length : Int))) ⟨by show 0 ≤ i + 1; omega, by show i + 1 ≤ _; omega, e4⟩ (by show (_ - (i + 1)).toNat < _; omega)
  · simp only at hi1 hi2 hi3 hih h
    have ei : i.toNat = ls.length := by omega
    rw [ei, List.take_length] at hi3
    have key : ∀ (l : LLi) (i : Int), 0 ≤ i → i < l.length → l.length ≤ 1000000 → (catL l).length ≤ 1000000 → (catL (l.take (i + 1).toNat)) = catL (l.take i.toNat) ++ l.getD i.toNat (dflt tL) ∧ (catL (l.take i.toNat)).length + (l.getD i.toNat (dflt tL)).length ≤ mostElems ∧ wrap64 (i + 1) = i + 1 := fun l i h0 h1 h2 h3 => by
      have e1 := catL_take l i.toNat (by omega)
      have e2 := lens_le l (i.toNat + 1)
      refine ⟨by rw [show (i + 1).toNat = i.toNat + 1 by omega]; exact e1, le_most ?_, IntWalk.wrap64_in _ (by omega)⟩
      rw [e1, List.length_append] at e2
      have e3 : (l.getD i.toNat []).length = (l.getD i.toNat (dflt tL)).length := rfl
      omega
    conv => whnf
    refine .inr ⟨_, _, 8, Tryz.func221, ⟨by kernel_rfl, rfl⟩, ?_⟩
    conv => whnf
    have e6 : wrap64 (z - wrap64 (0 - 0)) = z := by
      rw [IntWalk.wrap64_in (0 - 0) (by omega), IntWalk.wrap64_in _ (by omega)]; omega
    refine dcase (fun h3 => ?_) (fun h3 => ?_)
    · omega
    conv => whnf
    erw [e6]
    refine dcase (fun h4 => ?_) (fun h4 => ?_)
    · conv => whnf
      refine ⟨rfl, ?_⟩
      conv => whnf
      refine ⟨⟨h4, le_most (by show 0 + z.toNat ≤ 1000000; omega)⟩, ?_⟩
      conv => whnf
      repeat (refine ⟨by first | omega | (simp only [Option.getD_none, Option.getD_some]; omega) | (simp; done) | (simp; omega), ?_⟩; conv => whnf)
      refine ⟨[], [6, 25, 26, 27], [33], ?_⟩
      apply Exists.intro
      conv => whnf
      refine loopK (fun i : Int => ((ls.length : Int) - i).toNat) (fun i => 0 ≤ i ∧ i ≤ ls.length) (fun i => ⟨lay 36 0 [(6, .one (.row 33)), (25, vLL ls), (26, vI ls.length), (27, vI i)], [(33, .row yInt tI (catL (ls.take i.toNat)))], []⟩) ?_ 0 rfl rfl ⟨by omega, by omega⟩
      intro j ih2 ⟨hj1, hj2⟩ hih2
      conv => whnf
      refine dcase (fun h7 => ?_) (fun h7 => ?_)
      · obtain ⟨k1, k2, k3⟩ := key ls j hj1 h7 hn hl
        conv => whnf
        repeat (refine ⟨by first | omega | (simp only [Option.getD_none, Option.getD_some]; omega) | (simp; done) | (simp; omega), ?_⟩; conv => whnf)
        erw [k3]
        have h8 := hih2 (j + 1) ⟨by omega, by omega⟩ (by omega)
        rw [k1] at h8
        exact h8
      · rw [show ls.take j.toNat = ls from List.take_of_length_le (by omega)]
        conv => whnf
        first | exact .inl rfl | exact .inr rfl
    · conv => whnf
      refine ⟨[(6, 33, yInt, tI)], [6, 25, 26, 27], [33], ?_⟩
      apply Exists.intro
      conv => whnf
      refine loopK (fun i : Int => ((ls.length : Int) - i).toNat) (fun i => 0 ≤ i ∧ i ≤ ls.length) (fun i => ⟨lay 36 0 [(6, .one (.row 33)), (25, vLL ls), (26, vI ls.length), (27, vI i)], [(33, .row yInt tI (catL (ls.take i.toNat)))], []⟩) ?_ 0 rfl rfl ⟨by omega, by omega⟩
      intro j ih2 ⟨hj1, hj2⟩ hih2
      conv => whnf
      refine dcase (fun h7 => ?_) (fun h7 => ?_)
      · obtain ⟨k1, k2, k3⟩ := key ls j hj1 h7 hn hl
        conv => whnf
        repeat (refine ⟨by first | omega | (simp only [Option.getD_none, Option.getD_some]; omega) | (simp; done) | (simp; omega), ?_⟩; conv => whnf)
        erw [k3]
        have h8 := hih2 (j + 1) ⟨by omega, by omega⟩ (by omega)
        rw [k1] at h8
        exact h8
      · rw [show ls.take j.toNat = ls from List.take_of_length_le (by omega)]
        conv => whnf
        first | exact .inl rfl | exact .inr rfl

/-- The first place from i on of what is not in S. -/
def nextOut (S l : List Int) (i : Nat) : Nat := i + (l.drop i).findIdx (fun p => !memB S p)
theorem nextOut_in {S l : List Int} {i : Nat} (h : i < l.length) (hm : memB S (l.getD i 0) = true) : nextOut S l (i + 1) = nextOut S l i := by
  unfold nextOut
  rw [List.drop_eq_getElem_cons h, List.findIdx_cons]
  rw [List.getD_eq_getElem?_getD, List.getElem?_eq_getElem h, Option.getD_some] at hm
  rw [hm]
  simp only [Bool.not_true, cond_false]
  omega
theorem nextOut_out {S l : List Int} {i : Nat} (h : i < l.length) (hm : memB S (l.getD i 0) = false) : nextOut S l i = i := by
  unfold nextOut
  rw [List.drop_eq_getElem_cons h, List.findIdx_cons]
  rw [List.getD_eq_getElem?_getD, List.getElem?_eq_getElem h, Option.getD_some] at hm
  rw [hm]
  rfl
theorem nextOut_end {S l : List Int} {i : Nat} (h : l.length ≤ i) : nextOut S l i = i := by
  unfold nextOut
  rw [List.drop_eq_nil_of_le h]
  rfl
/-- A scan frees a node. -/
def look1a (s : Sy) (k op : Int) (r : R8) (S : Li) (i : Nat) : Sy :=
  callP (setS (keptS s k ((retL s k).take i ++ (retL s k).drop (i + 1))) k (op, (1 : Int), (r.1, (i : Int), r.2.2), S, ())) k 2 (nI (retL s k) i)
abbrev rg1 (r : R8) : Int := r.2.1
def look1 (s : Sy) (k op : Int) (r : R8) (S : Li) : Sy :=
  if rg1 r < 0 ∨ ((retL s k).length : Int) ≤ nextOut S (retL s k) (rg1 r).toNat then backS s k (retL s k).length 0 else look1a s k op r S (nextOut S (retL s k) (rg1 r).toNat)
theorem look1_end {s : Sy} {k op : Int} {r : R8} {S : Li} (h : rg1 r < 0 ∨ ((retL s k).length : Int) ≤ nextOut S (retL s k) (rg1 r).toNat) : look1 s k op r S = backS s k (retL s k).length 0 := if_pos h
theorem look1_at {s : Sy} {k op : Int} {r : R8} {S : Li} {i : Nat} (h : ¬ rg1 r < 0) (h2 : nextOut S (retL s k) (rg1 r).toNat = i) (h3 : i < (retL s k).length) : look1 s k op r S = look1a s k op r S i := by
  unfold look1
  rw [h2, if_neg (by omega)]
theorem s_look1 (s : Sy) (k op : Int) (r : R8) (S : Li) (h0 : 0 ≤ k) (h1 : k < s.2.1.length) (hf : Fine s) (hS : S.length ≤ 1000) (hL : (retL s k).length ≤ 1000) : Spec Tryz.prog 194 [vS s, vI k, vF (op, (1 : Int), r, S, ())] (vS (look1 s k op r S)) := by
  have hb := s_cBack s k (retL s k).length 0 hf.cores hf.frames
  refine spec_introF false tab_ok 0 Tryz.func194 rfl (by kernel_rfl) rfl ?_
  conv => whnf
  repeat (refine ⟨by first | omega | (simp only [Option.getD_none, Option.getD_some]; omega) | (simp; done) | (simp; omega), ?_⟩; conv => whnf)
  refine ⟨[], [1, 3, 5, 6, 9, 10], [3, 5, 6], ?_⟩
  apply Exists.intro
  conv => whnf
  refine loopK (fun i : Int => (((retL s k).length : Int) - i).toNat) (fun i => 0 ≤ i ∧ (rg1 r < 0 ∨ (rg1 r ≤ i ∧ nextOut S (retL s k) i.toNat = nextOut S (retL s k) (rg1 r).toNat))) (fun i => ⟨lay 125 0 [(1, vI k), (3, pB 3), (5, pB 5), (6, pB 6), (9, vL (retL s k)), (10, vI i)], [(3, .cells ySys (cS s)), (5, .cells yFrame (cF (op, (1 : Int), r, S, ()))), (6, .cells ySys (zeroC tSys))], []⟩) ?_ (if (0 : Int) > rg1 r then 0 else rg1 r) rfl rfl ?_
  rotate_left
  · by_cases h : (0 : Int) > rg1 r
    · rw [if_pos h]; exact ⟨Int.le_refl _, .inl h⟩
    · rw [if_neg h]; exact ⟨by omega, .inr ⟨Int.le_refl _, rfl⟩⟩
  intro i ih ⟨hi1, hi2⟩ hih
  conv => whnf
  refine dcase (fun h => ?_) (fun h => ?_)
  · have h9 : i < (retL s k).length := h
    conv => whnf
    repeat (refine ⟨by first | omega | (simp only [Option.getD_none, Option.getD_some]; omega) | (simp; done) | (simp; omega), ?_⟩; conv => whnf)
    refine dcase (fun h2 => ?_) (fun h2 => ?_)
    · have h3 : 0 ≤ rg1 r := h2
      have h4 : i.toNat < (retL s k).length := by omega
      have e2 : wrap64 (i + 1) = i + 1 := IntWalk.wrap64_in _ (by omega)
      obtain ⟨h5, h6⟩ : rg1 r ≤ i ∧ nextOut S (retL s k) i.toNat = nextOut S (retL s k) (rg1 r).toNat := hi2.resolve_left (by omega)
      conv => whnf
      refine ⟨p_scan_look_16, g_scan_look_16, by kernel_rfl, ?st1, ?_, ?_⟩
      rotate_left
      · conv => whnf
        repeat' (first | (refine ⟨by first | omega | (simp only [Option.getD_none, Option.getD_some]; omega) | (simp; done) | (simp; omega), ?_⟩; conv => whnf) | (refine .inl ⟨_, s_Contains S (nI (retL s k) i) (by omega), ?_⟩; conv => whnf) | (refine .inl (.inl ⟨_, s_Contains S (nI (retL s k) i) (by omega), ?_⟩); conv => whnf) | (refine And.intro ?_ ?_ <;> conv => whnf) | exact rfl)
      conv => whnf
      refine bcase (fun h7 => ?_) (fun h7 => ?_)
      · conv => whnf
        erw [e2]
        refine hih (i + 1) ⟨by omega, .inr ⟨by omega, ?_⟩⟩ (by omega)
        rw [← h6, show (i + 1).toNat = i.toNat + 1 by omega]
        exact nextOut_in h4 h7
      · have h8 := nextOut_out h4 h7
        rw [look1_at (by omega) (h6.symm.trans h8) h4]
        have ei : ((i.toNat : Nat) : Int) = i := by omega
        have hl1 : look1a s k op r S i.toNat = callP (setS (keptS s k ((retL s k).take i.toNat ++ (retL s k).drop (i.toNat + 1))) k (op, (1 : Int), (r.1, i, r.2.2), S, ())) k 2 (nI (retL s k) i) := by
          unfold look1a
          rw [ei]
        rw [hl1]
        have e3 : (i + 1).toNat = i.toNat + 1 := by omega
        have hlen : ((retL s k).take i.toNat ++ (retL s k).drop (i.toNat + 1)).length ≤ 1000 := by
          rw [List.length_append, List.length_take, List.length_drop]
          omega
        have hcat : Spec Tryz.prog 215 [vLL [List.drop ((none : Option Int).getD 0).toNat ((retL s k).take i.toNat), (retL s k).drop (((some (wrap64 (i + 1))).getD 0).toNat)]] (vL ((retL s k).take i.toNat ++ (retL s k).drop (i.toNat + 1))) := by
          have e4 : ((some (wrap64 (i + 1))).getD 0).toNat = i.toNat + 1 := by
            rw [e2]; exact e3
          have e5 : ((none : Option Int).getD 0).toNat = 0 := rfl
          rw [e4, e5, List.drop_zero]
          have e6 : catL [(retL s k).take i.toNat, (retL s k).drop (i.toNat + 1)] = (retL s k).take i.toNat ++ (retL s k).drop (i.toNat + 1) := by
            simp [catL]
          rw [← e6]
          exact s_Concat _ (by rw [e6]; omega) (by show 2 ≤ 1000000; decide)
        have hk := keptS_fine (k := k) (l := (retL s k).take i.toNat ++ (retL s k).drop (i.toNat + 1)) hf
        conv => whnf
        repeat (refine ⟨by first | omega | (simp only [Option.getD_none, Option.getD_some]; omega) | (simp; done) | (simp; omega), ?_⟩; conv => whnf)
        refine ⟨p_scan_look_18, g_scan_look_18, by kernel_rfl, ?st2, ?_, ?_⟩
        rotate_left
        · conv => whnf
          repeat' (first | (refine ⟨by first | omega | (simp only [Option.getD_none, Option.getD_some]; omega) | (simp; done) | (simp; omega), ?_⟩; conv => whnf) | (refine .inr (.inl ⟨_, hcat, ?_⟩); conv => whnf) | (refine .inl (.inr (.inl ⟨_, hcat, ?_⟩)); conv => whnf) | (refine .inr (.inl ⟨_, s_kept s k ((retL s k).take i.toNat ++ (retL s k).drop (i.toNat + 1)) h0 h1 hf.cores, ?_⟩); conv => whnf) | (refine .inl (.inr (.inl ⟨_, s_kept s k ((retL s k).take i.toNat ++ (retL s k).drop (i.toNat + 1)) h0 h1 hf.cores, ?_⟩)); conv => whnf) | (refine And.intro ?_ ?_ <;> conv => whnf) | exact rfl)
        conv => whnf
        refine ⟨p_scan_look_19, g_scan_look_19, by kernel_rfl, ?st3, ?_, ?_⟩
        rotate_left
        · conv => whnf
          repeat' (first | (refine ⟨by first | omega | (simp only [Option.getD_none, Option.getD_some]; omega) | (simp; done) | (simp; omega), ?_⟩; conv => whnf) | (refine .inr (.inl ⟨_, s_cSet (keptS s k ((retL s k).take i.toNat ++ (retL s k).drop (i.toNat + 1))) k (op, (1 : Int), (r.1, i, r.2.2), S, ()) hk.cores hk.frames, ?_⟩); conv => whnf) | (refine .inl (.inr (.inl ⟨_, s_cSet (keptS s k ((retL s k).take i.toNat ++ (retL s k).drop (i.toNat + 1))) k (op, (1 : Int), (r.1, i, r.2.2), S, ()) hk.cores hk.frames, ?_⟩)); conv => whnf) | (refine .inr (.inl ⟨_, s_cCall1 (setS (keptS s k ((retL s k).take i.toNat ++ (retL s k).drop (i.toNat + 1))) k (op, (1 : Int), (r.1, i, r.2.2), S, ())) k 2 (nI (retL s k) i) (setS_fine hk).cores, ?_⟩); conv => whnf) | (refine .inl (.inr (.inl ⟨_, s_cCall1 (setS (keptS s k ((retL s k).take i.toNat ++ (retL s k).drop (i.toNat + 1))) k (op, (1 : Int), (r.1, i, r.2.2), S, ())) k 2 (nI (retL s k) i) (setS_fine hk).cores, ?_⟩)); conv => whnf) | (refine And.intro ?_ ?_ <;> conv => whnf) | exact rfl)
        conv => whnf
        first | exact .inl rfl | exact .inr rfl
    · have h3 : ¬ 0 ≤ rg1 r := h2
      rw [look1_end (.inl (by omega))]
      conv => whnf
      first | refine .inr (.inl ⟨_, hb, ?_⟩) | refine .inl (.inr (.inl ⟨_, hb, ?_⟩))
      conv => whnf
      first | exact .inl rfl | exact .inr rfl
  · rw [look1_end (by
      rcases hi2 with h5 | ⟨h5, h6⟩
      · exact .inl h5
      · rw [← h6, nextOut_end (by omega)]; exact .inr (by omega))]
    conv => whnf
    first | refine .inr (.inl ⟨_, hb, ?_⟩) | refine .inl (.inr (.inl ⟨_, hb, ?_⟩))
    conv => whnf
    first | exact .inl rfl | exact .inr rfl
end Go.Proofs.YtpobngddiifdpaaGreat.V
