/- Queues: what is in a queue, the program. -/
import Derived.Test.YtpobngddiifdpaaGreatZdQ4
import Derived.Test.YtpobngddiifdpaaGreatZdN11
import Derived.Test.YtpobngddiifdpaaGreatZdV23
set_option linter.unusedSimpArgs false
set_option linter.unusedVariables false
namespace Go.Proofs.YtpobngddiifdpaaGreat.V
open Go Go.RowKit Go.Proofs.YtpobngddiifdpaaGreat.Hz
set_option maxRecDepth 100000

/-- The items from a node on: so many nodes at most; those that were gone through, and what they held. -/
def itemsF (m : Me) : Nat → Int → Li → Li → Option Li
  | 0, _, _, _ => none
  | f + 1, p, had, out =>
    if 1 ≤ p ∧ p < m.2.1.length ∧ p ∉ had then
      (if idxI (nI m.1 (atI p 1)) = 0 then some (if had = [] then out else out ++ [nI m.1 (atI p 3)])
       else itemsF m f (idxI (nI m.1 (atI p 1))) (had ++ [p]) (if had = [] then out else out ++ [nI m.1 (atI p 3)]))
    else none
def itemsI (m : Me) (q : Int) : Option Li := itemsF m (m.2.1.length + 1) (idxI (nI m.1 (32 + 2 * q))) [] []
def vItems (o : Option Li) : SV := .tup [(false, [.sl tI (o.getD []) false]), (false, [.bool o.isSome])]
/-- Which nodes are among those. -/
def hadB (n : Nat) (had : Li) : List Bool := (List.range n).map fun j : Nat => decide ((j : Int) ∈ had)
theorem hadB_len {n : Nat} {had : Li} : (hadB n had).length = n := by unfold hadB; rw [List.length_map, List.length_range]
theorem hadB_get {n : Nat} {had : Li} {p : Int} (h0 : 0 ≤ p) (h1 : p < n) : List.getD (hadB n had) p.toNat (dflt .bool) = decide (p ∈ had) := by
  obtain ⟨j, rfl⟩ : ∃ j : Nat, p = j := ⟨p.toNat, by omega⟩
  unfold hadB
  rw [Int.toNat_natCast, List.getD_eq_getElem?_getD, List.getElem?_map, List.getElem?_range (by omega)]
  rfl
theorem hadB_set {n : Nat} {had : Li} {p : Int} (h0 : 0 ≤ p) : List.set (hadB n had) p.toNat true = hadB n (had ++ [p]) := by
  obtain ⟨j, rfl⟩ : ∃ j : Nat, p = j := ⟨p.toNat, by omega⟩
  rw [Int.toNat_natCast]
  apply List.ext_getElem?
  intro i
  unfold hadB
  rw [List.getElem?_map]
  by_cases hi : i < n
  · rw [List.getElem?_range hi]
    by_cases c : j = i
    · subst c
      rw [List.getElem?_set_self (by rw [List.length_map, List.length_range]; exact hi)]
      show some true = some (decide ((j : Int) ∈ had ++ [(j : Int)]))
      rw [decide_eq_true (List.mem_append_right _ (List.mem_singleton.2 rfl))]
    · rw [List.getElem?_set_ne c, List.getElem?_map, List.getElem?_range hi]
      show some (decide ((i : Int) ∈ had)) = some (decide ((i : Int) ∈ had ++ [(j : Int)]))
      refine congrArg some (decide_eq_decide.2 ⟨fun h => List.mem_append_left _ h, fun h => ?_⟩)
      rcases List.mem_append.1 h with h | h
      · exact h
      · have := List.mem_singleton.1 h
        omega
  · rw [List.getElem?_eq_none (by rw [List.length_set, List.length_map, List.length_range]; omega), List.getElem?_eq_none (by rw [List.length_range]; omega)]
    rfl
theorem hadB_zero {n : Nat} : List.replicate n false = hadB n [] := by
  apply List.ext_getElem?
  intro i
  unfold hadB
  rw [List.getElem?_map]
  by_cases hi : i < n
  · rw [List.getElem?_range hi, List.getElem?_replicate_of_lt hi]; rfl
  · rw [List.getElem?_eq_none (by rw [List.length_replicate]; omega), List.getElem?_eq_none (by rw [List.length_range]; omega)]
    rfl
theorem s_mItems (s : Sy) (q : Int) (h0 : 0 ≤ q) (h1 : q ≤ 7) (hg : 1 ≤ s.1.2.1.length) (hg2 : s.1.2.1.length ≤ 1000) (hw : s.1.1.length = 128 + 4 * (s.1.2.1.length - 1)) : Spec Tryz.prog 19 [vS s, vI q] (vItems (itemsI s.1 q)) := by
  have hq := s_isQueue q
  rw [decide_eq_true h0, decide_eq_true (Int.lt_of_le_of_lt h1 (by decide))] at hq
  have hSp := s_mSpot8 q h0 h1
  have hin : (0 : Int) ≤ 32 + 2 * q ∧ 32 + 2 * q < (s.1.1.length : Int) := by omega
  have hix := s_Index (nI s.1.1 (32 + 2 * q))
  have hgl : (0 : Int) ≤ (s.1.2.1.length : Int) ∧ (s.1.2.1.length : Int) ≤ maxLen := by
    refine ⟨by omega, ?_⟩
    have : (1000 : Int) ≤ maxLen := by decide
    omega
  obtain ⟨R, hR⟩ : ∃ R, itemsI s.1 q = R := ⟨_, rfl⟩
  unfold itemsI at hR
  obtain ⟨p0, hp0⟩ : ∃ p0, idxI (nI s.1.1 (32 + 2 * q)) = p0 := ⟨_, rfl⟩
  rw [hp0] at hix hR
  rw [show itemsI s.1 q = R from by unfold itemsI; rw [hp0]; exact hR]
  obtain ⟨G, hG⟩ : ∃ G, s.1.2.1.length = G := ⟨_, rfl⟩
  refine spec_introF true tab_ok 0 Tryz.func19 rfl (by kernel_rfl) rfl ?_
  conv => whnf
  repeat (refine ⟨by first | omega | (simp only [Option.getD_none, Option.getD_some]; omega) | (simp; done) | (simp; omega), ?_⟩; conv => whnf)
  first | refine .inl ⟨_, hq, ?_⟩ | refine .inl (.inl ⟨_, hq, ?_⟩)
  conv => whnf
  repeat (refine ⟨by first | omega | (simp only [Option.getD_none, Option.getD_some]; omega) | (simp; done) | (simp; omega), ?_⟩; conv => whnf)
  repeat (refine ⟨by first | omega | (simp only [Option.getD_none, Option.getD_some]; omega) | (simp; done) | (simp; omega), ?_⟩; conv => whnf)
  refine ⟨p_msq_Items_5, g_msq_Items_5, by kernel_rfl, ?st1, ?_, ?_⟩
  rotate_left
  · conv => whnf
    repeat' (first | (refine .inl ⟨_, hSp, ?_⟩; conv => whnf) | (refine .inl (.inl ⟨_, hSp, ?_⟩); conv => whnf) | (refine ⟨hin, ?_⟩; conv => whnf) | (refine .inl ⟨_, hix, ?_⟩; conv => whnf) | (refine .inl (.inl ⟨_, hix, ?_⟩); conv => whnf) | (refine And.intro ?_ ?_ <;> conv => whnf) | exact rfl)
  repeat (refine ⟨by first | omega | (simp only [Option.getD_none, Option.getD_some]; omega) | (simp; done) | (simp; omega), ?_⟩; conv => whnf)
  refine ⟨[(7, 54, yInt, tI)], [2, 4, 5, 6, 7, 8, 9], [2, 17, 54], ?_⟩
  apply Exists.intro
  conv => whnf
  refine loopK (fun y : Nat × Int × Li × Li × List Bool => y.1) (fun y => itemsF s.1 y.1 y.2.1 y.2.2.1 y.2.2.2.1 = R ∧ y.2.2.2.2 = hadB s.1.2.1.length y.2.2.1 ∧ y.2.2.1.length + y.1 = s.1.2.1.length + 1 ∧ (∀ x : Int, x ∈ y.2.2.1 → 1 ≤ x ∧ x < (s.1.2.1.length : Int)) ∧ y.2.2.1.Nodup ∧ y.2.2.2.1.length ≤ y.2.2.1.length) (fun y => ⟨lay 66 0 [(2, pB 2), (4, .one (.emp tI)), (5, vB false), (6, .one (.row 17)), (7, .one (.row 54)), (8, vI y.2.1), (9, vB y.2.2.1.isEmpty)], [(2, .cells ySys (cS s)), (17, .row 4 .bool y.2.2.2.2), (54, .row yInt tI y.2.2.2.1)], []⟩) ?_ (s.1.2.1.length + 1, p0, [], [], List.replicate s.1.2.1.length (dflt .bool)) rfl rfl ⟨hR, hadB_zero, by simp, (fun x h => nomatch h), List.nodup_nil, Nat.le_refl _⟩
  intro ⟨f, p, had, out, B⟩ ih ⟨hr, hB, hlen, hmem, hnd, hol⟩ hih
  simp only at hr hB hlen hmem hnd hol hih
  have hl1 : had.length ≤ s.1.2.1.length := nodup_len _ had hnd fun x hx => by
    have := hmem x hx
    omega
  obtain ⟨f, rfl⟩ : ∃ f', f = f' + 1 := ⟨f - 1, by omega⟩
  unfold itemsF at hr
  have hget : ∀ (h0 : 0 ≤ p) (h1 : p < (s.1.2.1.length : Int)), List.getD B p.toNat (dflt .bool) = decide (p ∈ had) := fun h0 h1 => by rw [hB]; exact hadB_get h0 h1
  have hBl : (B.length : Int) = (s.1.2.1.length : Int) := by rw [hB, hadB_len]
  dsimp only
  conv => whnf
  refine dcase (fun c1 => ?_) (fun c1 => ?_)
  · replace c1 : p < 1 := c1
    rw [if_neg (fun h => absurd h.1 (by omega))] at hr
    subst hr
    conv => whnf
    first | exact .inl rfl | exact .inr rfl
  replace c1 : 1 ≤ p := Int.not_lt.1 c1
  conv => whnf
  refine dcase (fun c2 => ?_) (fun c2 => ?_)
  · replace c2 : (B.length : Int) ≤ p := c2
    rw [if_neg (fun h => absurd h.2.1 (by omega))] at hr
    subst hr
    conv => whnf
    first | exact .inl rfl | exact .inr rfl
  replace c2 : p < (s.1.2.1.length : Int) := by
    replace c2 : ¬ (B.length : Int) ≤ p := c2
    omega
  have hget := hget (by omega) c2
  conv => whnf
  have hpB : (0 : Int) ≤ p ∧ p < (B.length : Int) := ⟨by omega, by omega⟩
  have hpN : p.toNat < B.length := by omega
  refine ⟨hpB, ?_⟩
  conv => whnf
  refine ⟨hpN, ?_⟩
  rw [hget]
  by_cases c3 : p ∈ had
  · rw [decide_eq_true c3]
    rw [if_neg (fun h => absurd c3 h.2.2)] at hr
    subst hr
    conv => whnf
    first | exact .inl rfl | exact .inr rfl
  rw [decide_eq_false c3]
  rw [if_pos ⟨c1, c2, c3⟩] at hr
  have hset : List.set B p.toNat true = hadB s.1.2.1.length (had ++ [p]) := by rw [hB]; exact hadB_set (by omega)
  obtain ⟨B2, hB2⟩ : ∃ B2, List.set B p.toNat true = B2 := ⟨_, rfl⟩
  rw [hB2] at hset
  have ha1 : atI p 1 = 128 + 4 * (p - 1) + 1 := atI_is (by omega) (by omega) (by decide) (by decide)
  have ha3 : atI p 3 = 128 + 4 * (p - 1) + 3 := atI_is (by omega) (by omega) (by decide) (by decide)
  have hi1 : (0 : Int) ≤ atI p 1 ∧ atI p 1 < (s.1.1.length : Int) := by rw [ha1]; omega
  have hi3 : (0 : Int) ≤ atI p 3 ∧ atI p 3 < (s.1.1.length : Int) := by rw [ha3]; omega
  have hA1 := s_mAt p 1
  have hA3 := s_mAt p 3
  have hx1 := s_Index (nI s.1.1 (atI p 1))
  obtain ⟨nxt, hnx⟩ : ∃ nxt, idxI (nI s.1.1 (atI p 1)) = nxt := ⟨_, rfl⟩
  rw [hnx] at hx1 hr
  have hnd2 : (had ++ [p]).Nodup := List.nodup_append.2 ⟨hnd, by simp, fun a ha b hb e => c3 (by rw [← List.mem_singleton.1 hb, ← e]; exact ha)⟩
  have hmem2 : ∀ x : Int, x ∈ had ++ [p] → 1 ≤ x ∧ x < (s.1.2.1.length : Int) := fun x hx => by
    rcases List.mem_append.1 hx with h | h
    · exact hmem x h
    · rw [List.mem_singleton.1 h]; exact ⟨c1, c2⟩
  have hl2 : (had ++ [p]).length = had.length + 1 := by rw [List.length_append]; rfl
  conv => whnf
  refine ⟨hpB, ?_⟩
  conv => whnf
  refine ⟨hpN, ?_⟩
  conv => whnf
  rw [hB2]
  by_cases c4 : had = []
  · rw [show had.isEmpty = true from by rw [c4]; rfl]
    rw [if_pos c4] at hr
    have hih2 := fun h => hih (f, nxt, had ++ [p], out, B2) ⟨h, hset, by show (had ++ [p]).length + f = _; omega, hmem2, hnd2, by show out.length ≤ (had ++ [p]).length; omega⟩ (Nat.lt_succ_self _)
    dsimp only at hih2
    rw [show (had ++ [p]).isEmpty = false from by rw [c4]; rfl] at hih2
    conv => whnf
    refine ⟨p_msq_Items_13, g_msq_Items_13, by kernel_rfl, ?st2, ?_, ?_⟩
    rotate_left
    · conv => whnf
      repeat' (first | (refine .inl ⟨_, hA1, ?_⟩; conv => whnf) | (refine .inl (.inl ⟨_, hA1, ?_⟩); conv => whnf) | (refine ⟨hi1, ?_⟩; conv => whnf) | (refine .inl ⟨_, hx1, ?_⟩; conv => whnf) | (refine .inl (.inl ⟨_, hx1, ?_⟩); conv => whnf) | (refine And.intro ?_ ?_ <;> conv => whnf) | exact rfl)
    conv => whnf
    refine dcase (fun c5 => ?_) (fun c5 => ?_)
    · replace c5 : nxt = 0 := c5
      rw [if_pos c5] at hr
      subst hr
      conv => whnf
      first | exact .inl rfl | exact .inr rfl
    · replace c5 : ¬ nxt = 0 := c5
      rw [if_neg c5] at hr
      conv => whnf
      exact hih2 hr
  · rw [show had.isEmpty = false from by cases had with
      | nil => exact absurd rfl c4
      | cons => rfl]
    rw [if_neg c4] at hr
    obtain ⟨v, hv⟩ : ∃ v, nI s.1.1 (atI p 3) = v := ⟨_, rfl⟩
    have hv2 : List.getD s.1.1 (atI p 3).toNat (dflt tI) = v := hv
    rw [hv] at hr
    have hol2 : (out ++ [v]).length = out.length + 1 := by rw [List.length_append]; rfl
    have hih2 := fun h => hih (f, nxt, had ++ [p], out ++ [v], B2) ⟨h, hset, by show (had ++ [p]).length + f = _; omega, hmem2, hnd2, by show (out ++ [v]).length ≤ (had ++ [p]).length; omega⟩ (Nat.lt_succ_self _)
    dsimp only at hih2
    rw [show (had ++ [p]).isEmpty = false from by cases had <;> rfl] at hih2
    have hobl : (out.length + [List.getD s.1.1 (atI p 3).toNat (dflt tI)].length).le mostElems := le_most (by show out.length + 1 ≤ _; omega)
    conv => whnf
    refine ⟨p_msq_Items_12, g_msq_Items_12, by kernel_rfl, ?st3, ?_, ?_⟩
    rotate_left
    · conv => whnf
      repeat' (first | (refine .inl ⟨_, hA3, ?_⟩; conv => whnf) | (refine .inl (.inl ⟨_, hA3, ?_⟩); conv => whnf) | (refine ⟨hi3, ?_⟩; conv => whnf) | (refine ⟨hobl, ?_⟩; conv => whnf) | (refine And.intro ?_ ?_ <;> conv => whnf) | exact rfl)
    rw [hv2]
    conv => whnf
    refine ⟨p_msq_Items_13, g_msq_Items_13, by kernel_rfl, ?st4, ?_, ?_⟩
    rotate_left
    · conv => whnf
      repeat' (first | (refine .inl ⟨_, hA1, ?_⟩; conv => whnf) | (refine .inl (.inl ⟨_, hA1, ?_⟩); conv => whnf) | (refine ⟨hi1, ?_⟩; conv => whnf) | (refine .inl ⟨_, hx1, ?_⟩; conv => whnf) | (refine .inl (.inl ⟨_, hx1, ?_⟩); conv => whnf) | (refine And.intro ?_ ?_ <;> conv => whnf) | exact rfl)
    conv => whnf
    refine dcase (fun c5 => ?_) (fun c5 => ?_)
    · replace c5 : nxt = 0 := c5
      rw [if_pos c5] at hr
      subst hr
      conv => whnf
      first | exact .inl rfl | exact .inr rfl
    · replace c5 : ¬ nxt = 0 := c5
      rw [if_neg c5] at hr
      conv => whnf
      exact hih2 hr
end Go.Proofs.YtpobngddiifdpaaGreat.V

set_option linter.unusedSimpArgs false
set_option linter.unusedVariables false
namespace Go.Proofs.YtpobngddiifdpaaGreat.V
open Go Go.RowKit Go.Proofs.YtpobngddiifdpaaGreat.Hz
set_option maxRecDepth 100000

theorem Fin.ite {N : Nat} {c : Prop} {_ : Decidable c} {a b : Sy} (h1 : Fin N a) (h2 : Fin N b) : Fin N (if c then a else b) := by
  by_cases h : c
  · rw [if_pos h]; exact h1
  · rw [if_neg h]; exact h2
section
variable {N : Nat} {s : Sy} {k pc q v n t w x e y : Int} {l : Li}
theorem putS_fin {r : Den (.cons tI (.cons tI (.cons tI .nil)))} (h : Fin N s) (hl : l.length ≤ 1000) : Fin (N + 1) (putS s k pc q v n t w r l) := by
  have hN : N ≤ N + 1 := Nat.le_succ _
  have hs : ∀ {m : Me} {op pc' : Int} {r' : R8}, Fits m → Fin N (setS (m, s.2) k (op, pc', r', l, ())) := fun hm => (h.mem hm).setS hl
  have hs0 : ∀ {op pc' : Int} {r' : R8}, Fin N (setS s k (op, pc', r', l, ())) := fun {op pc' r'} => h.setS (f := (op, pc', r', l, ())) hl
  have hst : ∀ {a b : Int}, Fits (storeM s.1 a b) := storeM_fits h.fits
  have hld : ∀ {a : Int}, Fits (loadM s.1 a) := loadM_fits h.fits
  have hca : ∀ {a b c : Int}, Fits (casM s.1 a b c) := casM_fits h.fits
  unfold putS
  repeat' with_reducible apply Fin.ite
  all_goals first
    | exact h.more hN
    | exact hs0.more hN
    | exact hs0.callS.more hN
    | exact (hs hst).more hN
    | exact (hs hld).more hN
    | exact (hs hca).more hN
    | exact (hs hca).logS
    | exact h.backS.more hN
    | exact (h.mem hst).backS.more hN
theorem takeS_fin {h' : Int} (h : Fin N s) (hl : l.length ≤ 1000) : Fin (N + 1) (takeS s k pc q v h' t w x e y l) := by
  have hN : N ≤ N + 1 := Nat.le_succ _
  have hs : ∀ {m : Me} {op pc' : Int} {r' : R8}, Fits m → Fin N (setS (m, s.2) k (op, pc', r', l, ())) := fun hm => (h.mem hm).setS hl
  have hs0 : ∀ {op pc' : Int} {r' : R8}, Fin N (setS s k (op, pc', r', l, ())) := fun {op pc' r'} => h.setS (f := (op, pc', r', l, ())) hl
  have hst : ∀ {a b : Int}, Fits (storeM s.1 a b) := storeM_fits h.fits
  have hld : ∀ {a : Int}, Fits (loadM s.1 a) := loadM_fits h.fits
  have hca : ∀ {a b c : Int}, Fits (casM s.1 a b c) := casM_fits h.fits
  unfold takeS
  repeat' with_reducible apply Fin.ite
  all_goals first
    | exact h.more hN
    | exact hs0.more hN
    | exact hs0.callS.more hN
    | exact (hs hst).more hN
    | exact (hs hld).more hN
    | exact (hs hca).more hN
    | exact (hs hld).logS
    | exact (((h.mem hca).logS).setS hl).callS
    | exact h.backS.more hN
    | exact (h.mem hst).backS.more hN
end
theorem msqS_fin {N : Nat} {s : Sy} {k : Int} (h : Fin N s) : Fin (N + 1) (msqS s k) := by
  unfold msqS
  split
  · exact alS_fin h
  · rename_i f ht
    have hl := h.top ht
    unfold msqF
    split
    · split
      · exact h.more (Nat.le_succ _)
      · split
        · exact putS_fin h hl
        · exact takeS_fin h hl
    · exact alS_fin h
end Go.Proofs.YtpobngddiifdpaaGreat.V
