/- The memory's management: retiring, scanning, allocating, dropping; a step of any of its ops. The memory's management: scanning; a step of any of its ops. The memory's management: new systems; a core that is at nothing calls an op. -/
import Derived.Test.YtpobngddiifdpaaGreatZdM6
set_option linter.unusedSimpArgs false
set_option linter.unusedVariables false
namespace Go.Proofs.YtpobngddiifdpaaGreat.V
open Go Go.RowKit Go.Proofs.YtpobngddiifdpaaGreat.Hz
set_option maxRecDepth 100000

theorem Wt.noScan {C : Nat} {R : Li} : ∀ {op : Int} {l : List Frm}, op ≠ 1 → op ≠ 2 → op ≠ 6 → Wt C R op l → ∀ g ∈ l, g.1 ≠ 6
  | _, [], _, _, _, _, g, hg => nomatch hg
  | op, g :: rest, h1, h2, h6, h, x, hx => by
    have n6 : g.1 ≠ 6 := fun e => h2 (h.1.scan e).1
    have n1 : g.1 ≠ 1 := fun e => h.1.low (.inl e)
    have n2 : g.1 ≠ 2 := fun e => h.1.low (.inr (.inl e))
    rcases List.mem_cons.1 hx with e | hx
    · rw [e]; exact n6
    · exact Wt.noScan n1 n2 n6 h.2.2 x hx
theorem nodup_sub_len : ∀ (R S : List Int), R.Nodup → (∀ p ∈ R, p ∈ S) → R.length ≤ S.length
  | [], _, _, _ => Nat.zero_le _
  | p :: R, S, hn, hs => by
    have hp := hs p (List.mem_cons_self ..)
    have hn := List.nodup_cons.1 hn
    have ih := nodup_sub_len R (S.erase p) hn.2 fun q hq => (List.mem_erase_of_ne (fun e : q = p => hn.1 (e ▸ hq))).2 (hs q (List.mem_cons_of_mem _ hq))
    rw [List.length_erase_of_mem hp] at ih
    have : 0 < S.length := List.length_pos_of_mem hp
    rw [List.length_cons]
    omega
theorem nextOut_ge {S l : List Int} {i : Nat} : i ≤ nextOut S l i := by unfold nextOut; omega
theorem nextOut_seen {S l : List Int} {i j : Nat} (h1 : i ≤ j) (h2 : j < nextOut S l i) (h3 : j < l.length) : l[j] ∈ S := by
  unfold nextOut at h2
  have hlt : j - i < (l.drop i).findIdx (fun p => !memB S p) := by omega
  have := List.not_of_lt_findIdx hlt
  rw [List.getElem_drop] at this
  simp only [Bool.not_eq_eq_eq_not, Bool.not_true, Bool.not_eq_false, memB, decide_eq_true_eq] at this
  have e : i + (j - i) = j := by omega
  simpa [e] using this
theorem nextOut_hit {S l : List Int} {i : Nat} (h : nextOut S l i < l.length) : nI l (nextOut S l i) ∉ S := by
  have hlt : (l.drop i).findIdx (fun p => !memB S p) < (l.drop i).length := by
    rw [List.length_drop]
    unfold nextOut at h
    omega
  have := List.findIdx_getElem (w := hlt)
  rw [List.getElem_drop] at this
  have hn : memB S (l[nextOut S l i]) = false := by
    have e : (!memB S (l[nextOut S l i])) = true := this
    simpa using e
  show List.getD l ((nextOut S l i : Nat) : Int).toNat 0 ∉ S
  rw [Int.toNat_natCast, List.getD_eq_getElem?_getD, List.getElem?_eq_getElem h]
  exact of_decide_eq_false hn
section
variable {T : Int} {k C : Nat} {m : Me} {o : OM} {F : List Frm} {f f' g : Frm} {r : Rest} {l : List Int}
theorem CoreI.noScan (hc : CoreI m o C k (F ++ [f], r)) (h1 : f.1 ≠ 1) (h2 : f.1 ≠ 2) (h6 : f.1 ≠ 6) : (rtL r).length ≤ 3 * C := by
  rcases hc.few with h | ⟨_, g, hg, e⟩
  · exact h
  · have hg : g ∈ F ++ [f] := hg
    rcases List.mem_append.1 hg with hg | hg
    · exact absurd e (Wt.noScan h1 h2 h6 (Stk.waits hc) g (List.mem_reverse.2 hg))
    · rw [List.mem_singleton] at hg
      rw [hg] at e
      exact absurd e h6
/-- A node is given from hand to hand, nothing else of the memory is changed but what it is. -/
theorem good_give {p v : Int} {x : Own} {fs : List Frm} {r' : Rest} (hl : FL m l) (hT : tagI (nI m.1 0) ≤ T) (hs : ∀ p, InN m p → statO (o p) (nI m.2.1 p)) (hp : InN m p) (hw : Way k (o p) x) (ho : Mine k (o p)) (hx : Mine k x) (hv : statO x v) (hv0 : v ≠ 0) (hg : nI m.2.1 p ≠ 0)
    (hc : CoreI (setG m p v) (upd o p x) C k (F ++ fs, r'))
    (hout : (∃ f' g, fs = [f', g] ∧ Like f f' ∧ (1 ≤ g.1 ∧ g.1 ≤ 8) ∧ r'.1 = r.1 ∧ r'.2.1 = r.2.1) ∨ (fs = [] ∧ Post k m f (setG m p v) (upd o p x) r')) : Good T k C m o F f r ⟨setG m p v, fs, r', []⟩ (upd o p x) where
  chg := ⟨setG_glen, .inl ⟨rfl, fun _ _ _ => rfl⟩, fun _ _ _ _ _ _ => rfl, fun _ _ _ _ _ _ => rfl, fun c q hck _ => upd_owns ho hx hck q⟩
  list := ⟨l, hl.setG hp hg hv0⟩
  tag := by show tagI (nI m.1 0) ≤ T + 1; omega
  stat q hq := by
    have h1 := hp.1
    have h2 := hq.1
    by_cases e : q = p
    · subst e
      rw [upd_self]
      show statO x (nI (setG m q v).2.1 q)
      rw [setG_self (by omega) hq.2]; exact hv
    · rw [upd_ne e]
      show statO (o q) (nI (setG m p v).2.1 q)
      rw [setG_ne (by omega) (by omega) (fun h => e h.symm)]
      exact hs q hq
  core := hc
  words _ _ _ _ := rfl
  cells _ _ _ _ _ := rfl
  own q hq := by
    by_cases e : q = p
    · subst e
      rw [upd_self]; exact hw
    · rw [upd_ne e]; exact .inl rfl
  log := .inl rfl
  out := hout.elim (fun h => .inr (.inl h)) fun h => .inr (.inr h)
theorem setG_same {p v : Int} (h0 : 0 ≤ p) (h1 : p < m.2.1.length) (h : nI m.2.1 p = v) : setG m p v = m := by
  unfold setG
  have e : List.set (α := Int) m.2.1 p.toNat v = m.2.1 := by
    apply List.ext_getElem?
    intro j
    by_cases hj : p.toNat = j
    · subst hj
      have : p.toNat < m.2.1.length := by omega
      rw [List.getElem?_set_self this, List.getElem?_eq_getElem this]
      rw [← h]
      show some (List.getD m.2.1 p.toNat 0) = _
      rw [List.getD_eq_getElem?_getD, List.getElem?_eq_getElem this]; rfl
    · rw [List.getElem?_set_ne hj]
  rw [e]
theorem inN_setG {p v q : Int} : InN (setG m p v) q ↔ InN m q := by unfold InN; rw [setG_glen]
theorem good_retire {pc : Int} {g : R8} {S : Li} (hC : 1 ≤ C ∧ C ≤ 8) (hl : FL m l) (hT : tagI (nI m.1 0) ≤ T) (hs : ∀ p, InN m p → statO (o p) (nI m.2.1 p)) (hc : CoreI m o C k (F ++ [((5 : Int), pc, g, S, ())], r)) :
    ∃ o', Good T k C m o F ((5 : Int), pc, g, S, ()) r (lRetire C m pc g S r) o' := by
  have ht := Stk.topOf hc
  have hW := Stk.waits hc
  have hfew := hc.noScan (fun e => nope e rfl) (fun e => nope e rfl) (fun e => nope e rfl)
  have hnp : ∀ p x, InN m p → o p ≠ .push k x := hc.noPush (fun e => nope e rfl)
  have hpost : ∀ m' o' r', Post k m ((5 : Int), pc, g, S, ()) m' o' r' := fun m' o' r' => ⟨fun e => e.elim (fun e => nope e rfl) fun e => nope e rfl, fun e => nope e rfl, fun e => nope e rfl⟩
  unfold lRetire
  rcases ht.retire rfl with hp | ⟨hp, hin, ho⟩
  · obtain rfl : pc = 1 := hp
    rw [if_pos rfl]
    exact ⟨o, good_back hl hT hs hc rfl (hpost _ _ _) (fun e => nope e rfl) (fun e => nope e rfl) (.inl rfl)⟩
  obtain rfl : pc = 0 := hp
  replace hin : InN m g.1 := hin
  replace ho : o g.1 = .gone k := ho
  have hg : nI m.2.1 g.1 = 1 := by have := hs _ hin; rw [ho] at this; exact this
  have hm : turnM m g.1 2 = setG m g.1 2 := turnM_ok hin (by rw [hg]; decide)
  have hnin : g.1 ∉ rtL r := fun e => by have := ((hc.ret g.1).1 e).2; rw [ho] at this; cases this
  have hret : ∀ p, p ∈ snoc (rtL r) g.1 ↔ InN (setG m g.1 2) p ∧ upd o g.1 (.ret k) p = .ret k := fun p => by
    rw [List.mem_append, List.mem_singleton, inN_setG]
    have := hc.ret p
    by_cases e : p = g.1
    · subst e
      rw [upd_self]
      exact ⟨fun _ => ⟨hin, rfl⟩, fun _ => .inr rfl⟩
    · rw [upd_ne e]
      exact ⟨fun h => h.elim this.1 (fun h => absurd h e), fun h => .inl (this.2 h)⟩
  have hnd : (snoc (rtL r) g.1).Nodup := by
    rw [List.nodup_append]
    refine ⟨hc.nodup, by simp, fun a ha b hb => ?_⟩
    rw [List.mem_singleton] at hb
    rw [hb]
    exact fun e => hnin (e ▸ ha)
  have hnp' : ∀ p x, InN (setG m g.1 2) p → upd o g.1 (.ret k) p ≠ .push k x := fun p x hp => by
    rw [inN_setG] at hp
    by_cases e : p = g.1
    · subst e; rw [upd_self]; exact fun e => nomatch e
    · rw [upd_ne e]; exact hnp p x hp
  have hw5 : ∀ R', Wt C R' 5 F.reverse := fun R' => Wt.indep (by decide) (by decide) (by decide) hW
  have hlen : (snoc (rtL r) g.1).length = (rtL r).length + 1 := by rw [List.length_append]; rfl
  rw [if_neg (by decide), if_pos rfl, if_neg (by omega), hm]
  by_cases hq : ((rtL r).length : Int) + 1 < 3 * C + 1
  · rw [if_pos hq]
    refine ⟨_, good_give hl hT hs hin (.inr (.inr (.inl ⟨ho, rfl⟩))) (by rw [ho]; exact rfl) rfl rfl (by decide) (by rw [hg]; decide) ?_ (.inr ⟨rfl, hpost _ _ _⟩)⟩
    rw [List.append_nil]
    exact ⟨Stk.back (f := ((5 : Int), (0 : Int), g, S, ())) (hw5 _) (fun e => nope e rfl), hnd, hret, .inl (by show (snoc (rtL r) g.1).length ≤ _; omega), fun p x h1 h2 => absurd h2 (hnp' p x h1)⟩
  · rw [if_neg hq]
    refine ⟨_, good_give hl hT hs hin (.inr (.inr (.inl ⟨ho, rfl⟩))) (by rw [ho]; exact rfl) rfl rfl (by decide) (by rw [hg]; decide) ?_ (.inl ⟨_, _, rfl, ⟨rfl, fun _ => .inl rfl, fun e => nope e rfl⟩, by show (1 : Int) ≤ 6 ∧ (6 : Int) ≤ 8; decide, rfl, rfl⟩)⟩
    refine ⟨?_, hnd, hret, .inr ⟨by show (snoc (rtL r) g.1).length ≤ _; omega, frm0 6 0 0 0, by simp, rfl⟩, fun p x h1 h2 => absurd h2 (hnp' p x h1)⟩
    have := hc.st
    rw [rev_one] at this
    show Stk _ _ C k _ (F ++ [_, _]).reverse
    rw [rev_two]
    refine this.call (f' := ((5 : Int), (1 : Int), g, S, ())) (topScan rfl (.inl ⟨rfl, by show (0 : Int) ≤ 0; decide, by show (0 : Int) < 3 * C; omega, by show (([] : Li).length : Int) ≤ 0; decide, rfl⟩)) rfl (by show 1 + room 6 ≤ room 5; decide) ?_ (hw5 _)
    exact ⟨fun e => absurd (show (5 : Int) = 1 ∨ (5 : Int) = 2 ∨ (5 : Int) = 3 ∨ (5 : Int) = 4 from e) (by decide), fun _ => ⟨rfl, rfl⟩, fun e => nope e rfl, fun e => nope e rfl, fun e => nope e rfl⟩
theorem good_drop {pc : Int} {g : R8} {S : Li} (hl : FL m l) (hT : tagI (nI m.1 0) ≤ T) (hs : ∀ p, InN m p → statO (o p) (nI m.2.1 p)) (hc : CoreI m o C k (F ++ [((8 : Int), pc, g, S, ())], r)) :
    ∃ o', Good T k C m o F ((8 : Int), pc, g, S, ()) r (lDrop m pc g S r) o' := by
  have ht := Stk.topOf hc
  have hW := Stk.waits hc
  have hfew := hc.noScan (fun e => nope e rfl) (fun e => nope e rfl) (fun e => nope e rfl)
  have hnp : ∀ p x, InN m p → o p ≠ .push k x := hc.noPush (fun e => nope e rfl)
  unfold lDrop
  rcases ht.drop rfl with hp | ⟨hp, hin, ho⟩
  · obtain rfl : pc = 1 := hp
    rw [if_neg (by decide), if_pos rfl]
    exact ⟨o, good_back hl hT hs hc rfl ⟨fun e => e.elim (fun e => nope e rfl) fun e => nope e rfl, fun e => nope e rfl, fun e => nope e rfl⟩ (fun e => nope e rfl) (fun e => nope e rfl) (.inl rfl)⟩
  obtain rfl : pc = 0 := hp
  replace hin : InN m g.1 := hin
  replace ho : o g.1 = .fresh k := ho
  have hg : nI m.2.1 g.1 = 1 := by have := hs _ hin; rw [ho] at this; exact this
  have hm : setG m g.1 1 = m := setG_same (by have := hin.1; omega) hin.2 hg
  rw [if_pos rfl]
  have hcore : CoreI (setG m g.1 1) (upd o g.1 (.push k 1)) C k (F ++ [((8 : Int), (1 : Int), g, S, ()), frm0 2 g.1 0 0], r) := by
    rw [hm]
    refine hc.call (f' := ((8 : Int), (1 : Int), g, S, ())) ⟨rfl, rfl, fun p hp => ?_⟩ rfl (topPush rfl ⟨hin, ⟨1, upd_self⟩, .inl rfl⟩) (by show 1 + room 2 ≤ room 8; decide) ?_ fun p x h1 h2 => ?_
    · by_cases e : p = g.1
      · subst e
        rw [upd_self, ho]
        exact ⟨fun e => (nomatch e), fun e => (nomatch e)⟩
      · rw [upd_ne e]
    · exact ⟨fun e => absurd (show (8 : Int) = 1 ∨ (8 : Int) = 2 ∨ (8 : Int) = 3 ∨ (8 : Int) = 4 from e) (by decide), fun e => nope e rfl, fun e => nope e rfl, fun e => nope e rfl, fun _ => ⟨rfl, rfl⟩⟩
    · by_cases e : p = g.1
      · exact ⟨rfl, e.symm⟩
      · rw [upd_ne e] at h2
        exact absurd h2 (hnp p x h1)
  have := good_give (T := T) (k := k) (f := ((8 : Int), (0 : Int), g, S, ())) (r := r) hl hT hs hin (.inr (.inr (.inr (.inr (.inl ⟨ho, rfl⟩))))) (by rw [ho]; exact rfl) rfl ⟨rfl, .inl rfl⟩ (by decide) (by rw [hg]; decide) hcore (.inl ⟨_, _, rfl, ⟨rfl, fun _ => .inl rfl, fun e => nope e rfl⟩, by show (1 : Int) ≤ 2 ∧ (2 : Int) ≤ 8; decide, rfl, rfl⟩)
  rw [hm] at this
  exact ⟨_, this⟩
theorem good_alloc {pc : Int} {g : R8} {S : Li} (hC : 1 ≤ C ∧ C ≤ 8) (hl : FL m l) (hT : tagI (nI m.1 0) ≤ T) (hs : ∀ p, InN m p → statO (o p) (nI m.2.1 p)) (hc : CoreI m o C k (F ++ [((7 : Int), pc, g, S, ())], r)) :
    ∃ o', Good T k C m o F ((7 : Int), pc, g, S, ()) r (lAlloc m pc g S r) o' := by
  have ht := Stk.topOf hc
  have n1 : ¬ ((7 : Int) = 1) := by decide
  have n2 : (7 : Int) ≠ 2 := by decide
  have n3 : ¬ ((7 : Int) = 3) := by decide
  have n6 : ¬ ((7 : Int) = 6) := by decide
  have wait : ∀ (pc' op : Int), (pc' = 1 ∨ pc' = 3) ∧ op = 1 ∨ pc' = 2 ∧ op = 6 → WaitI C (rtL r) ((7 : Int), pc', g, S, ()) op := fun pc' op h => ⟨fun e => absurd (show (7 : Int) = 1 ∨ (7 : Int) = 2 ∨ (7 : Int) = 3 ∨ (7 : Int) = 4 from e) (by decide), fun e => nope e rfl, fun e => absurd e n6, fun _ => h, fun e => nope e rfl⟩
  have hback : ∀ r' : Rest, rtL r' = rtL r → Told m o k r' → Good T k C m o F ((7 : Int), pc, g, S, ()) r ⟨m, [], r', []⟩ o := fun r' hr h => good_back hl hT hs hc hr ⟨fun _ => h, fun e => absurd e n1, fun e => absurd e n3⟩ n2 (fun e => absurd e n6) (.inl rfl)
  have hlike : ∀ pc' : Int, Like ((7 : Int), pc, g, S, ()) ((7 : Int), pc', g, S, ()) := fun _ => ⟨rfl, fun _ => .inl rfl, fun e => absurd e n3⟩
  unfold lAlloc
  rcases ht.alloc rfl with hp | hp | ⟨hp, htold⟩
  · obtain rfl : pc = 0 := hp
    rw [if_pos (.inl rfl)]
    exact ⟨o, good_call hl hT hs hc (hlike _) (topPop rfl (.inl rfl)) (by show 1 + room 1 ≤ room 7; decide) (wait _ _ (.inl ⟨.inl rfl, rfl⟩)) n2 (by show (1 : Int) ≤ 1 ∧ (1 : Int) ≤ 8; decide)⟩
  · obtain rfl : pc = 2 := hp
    rw [if_pos (.inr rfl)]
    exact ⟨o, good_call hl hT hs hc (hlike _) (topPop rfl (.inl rfl)) (by show 1 + room 1 ≤ room 7; decide) (wait _ _ (.inl ⟨.inr rfl, rfl⟩)) n2 (by show (1 : Int) ≤ 1 ∧ (1 : Int) ≤ 8; decide)⟩
  rcases hp with hp | hp
  · obtain rfl : pc = 1 := hp
    rw [if_neg (by decide), if_pos rfl]
    by_cases he : r.2.1 = 0
    · rw [if_pos he]
      refine ⟨o, hback _ rfl ?_⟩
      rcases htold with h | h
      · exact .inl ⟨rfl, h.2⟩
      · rw [he] at h; cases h
    rw [if_neg he]
    by_cases hr : (rtL r).length = 0
    · rw [if_pos hr]
      exact ⟨o, hback _ rfl (.inr rfl)⟩
    · rw [if_neg hr]
      exact ⟨o, good_call hl hT hs hc (hlike _) (topScan rfl (.inl ⟨rfl, by show (0 : Int) ≤ 0; decide, by show (0 : Int) < 3 * C; omega, by show (([] : Li).length : Int) ≤ 0; decide, rfl⟩)) (by show 1 + room 6 ≤ room 7; decide) (wait _ _ (.inr ⟨rfl, rfl⟩)) n2 (by show (1 : Int) ≤ 6 ∧ (6 : Int) ≤ 8; decide)⟩
  · obtain rfl : pc = 3 := hp
    rw [if_neg (by decide), if_neg (by decide), if_pos rfl]
    exact ⟨o, hback _ rfl htold⟩
end

theorem mem_take {l : List Int} {n : Nat} {p : Int} : p ∈ l.take n ↔ ∃ j : Nat, ∃ h : j < l.length, j < n ∧ l[j] = p := by
  rw [List.mem_take_iff_getElem]
  constructor
  · rintro ⟨i, h, e⟩
    exact ⟨i, by omega, by omega, e⟩
  · rintro ⟨i, h, h2, e⟩
    exact ⟨i, by omega, e⟩
section
variable {T : Int} {k C : Nat} {m : Me} {o : OM} {F : List Frm} {f f' g : Frm} {r : Rest} {l : List Int}
theorem good_scan {pc : Int} {g : R8} {S : Li} (hC : 1 ≤ C ∧ C ≤ 8) (hl : FL m l) (hT : tagI (nI m.1 0) ≤ T) (hs : ∀ p, InN m p → statO (o p) (nI m.2.1 p)) (hc : CoreI m o C k (F ++ [((6 : Int), pc, g, S, ())], r)) :
    ∃ o', Good T k C m o F ((6 : Int), pc, g, S, ()) r (lScan C m pc g S r) o' := by
  have ht := Stk.topOf hc
  have hW := Stk.waits hc
  have hnp : ∀ p x, InN m p → o p ≠ .push k x := hc.noPush (fun e => nope e rfl)
  have hpost : ∀ m' o' r', Post k m ((6 : Int), pc, g, S, ()) m' o' r' := fun m' o' r' => ⟨fun e => e.elim (fun e => nope e rfl) fun e => nope e rfl, fun e => nope e rfl, fun e => nope e rfl⟩
  have hlen := hl.fits.1
  unfold lScan
  rcases ht.scan rfl with ⟨hp, a0, a1, a2, a3⟩ | ⟨hp, a0, a1, a2, a3, a4⟩
  · obtain rfl : pc = 0 := hp
    obtain ⟨q, hq⟩ : ∃ q : Int, q = g.1 := ⟨_, rfl⟩
    replace a0 : 0 ≤ q := by rw [hq]; exact a0
    replace a1 : q < 3 * C := by rw [hq]; exact a1
    replace a2 : (S.length : Int) ≤ q := by rw [hq]; exact a2
    rw [← hq]
    have e8 : wrap64 (8 + q) = 8 + q := IntWalk.wrap64_in _ (by omega)
    have e1 : wrap64 (q + 1) = q + 1 := IntWalk.wrap64_in _ (by omega)
    have e3 : wrap64 (3 * (C : Int)) = 3 * C := IntWalk.wrap64_in _ (by omega)
    obtain ⟨l1, l2⟩ := load_word (m := m) (p := 8 + q) (by omega) (by omega) hl.fits
    rw [if_pos rfl, e8, e1, e3, l1, l2]
    refine ⟨o, good_stay hl hT hs hc ⟨rfl, fun _ => .inr rfl, fun e => nope e rfl⟩ (topScan rfl ?_) (fun e => nope e rfl)⟩
    have hS : (((if nI m.1 (8 + q) ≠ 0 ∧ S.length < 24 then snoc S (nI m.1 (8 + q)) else S).length : Nat) : Int) ≤ q + 1 := by
      split
      · rw [List.length_append]; show ((S.length + 1 : Nat) : Int) ≤ _; omega
      · omega
    obtain ⟨S2, hS2⟩ : ∃ S2 : Li, (if nI m.1 (8 + q) ≠ 0 ∧ S.length < 24 then snoc S (nI m.1 (8 + q)) else S) = S2 := ⟨_, rfl⟩
    rw [hS2] at hS ⊢
    by_cases c : 3 * (C : Int) ≤ q + 1
    · right
      rw [if_pos c]
      refine ⟨rfl, by show q + 1 = 3 * (C : Int); omega, Int.le_trans hS (show q + 1 ≤ 3 * (C : Int) by omega), ?_, ?_, ?_⟩
      · show @LE.le Int _ 0 g.2.1
        rw [show g.2.1 = 0 from a3]; exact Int.le_refl _
      · show @LE.le Int _ g.2.1 _
        rw [show g.2.1 = 0 from a3]; exact Int.natCast_nonneg _
      · intro p hp
        have hp : p ∈ (rtL r).take (Int.toNat g.2.1) := hp
        rw [show g.2.1 = 0 from a3] at hp
        cases hp
    · left
      rw [if_neg c]
      exact ⟨rfl, by show 0 ≤ q + 1; omega, by show q + 1 < 3 * (C : Int); omega, hS, a3⟩
  obtain rfl : pc = 1 := hp
  obtain ⟨i, hi⟩ : ∃ i : Int, i = g.2.1 := ⟨_, rfl⟩
  replace a2 : 0 ≤ i := by rw [hi]; exact a2
  replace a3 : i ≤ (rtL r).length := by rw [hi]; exact a3
  replace a4 : ∀ p ∈ (rtL r).take i.toNat, p ∈ S := by rw [hi]; exact a4
  replace a1 : (S.length : Int) ≤ 3 * C := a1
  rw [← hi, if_neg (by decide), if_pos rfl]
  have seen : ∀ j : Nat, ∀ h : j < (rtL r).length, j < nextOut S (rtL r) i.toNat → (rtL r)[j] ∈ S := fun j h hj => by
    by_cases c : j < i.toNat
    · exact a4 _ (mem_take.2 ⟨j, h, c, rfl⟩)
    · exact nextOut_seen (by omega) hj h
  by_cases he : i < 0 ∨ ((rtL r).length : Int) ≤ nextOut S (rtL r) i.toNat
  · rw [if_pos he]
    have hle : (rtL r).length ≤ 3 * C := by
      have := nodup_sub_len (rtL r) S hc.nodup fun p hp => by
        obtain ⟨j, hj, e⟩ := List.getElem_of_mem hp
        rw [← e]
        exact seen j hj (by omega)
      omega
    exact ⟨o, good_back hl hT hs hc rfl (hpost _ _ _) (fun e => nope e rfl) (fun _ => hle) (.inl rfl)⟩
  rw [if_neg he]
  obtain ⟨n, hn⟩ : ∃ n, nextOut S (rtL r) i.toNat = n := ⟨_, rfl⟩
  have hhit := nextOut_hit (S := S) (l := rtL r) (i := i.toNat) (by omega)
  rw [hn] at he seen hhit ⊢
  have hnl : n < (rtL r).length := by omega
  obtain ⟨p, hp⟩ : ∃ p, nI (rtL r) (n : Int) = p := ⟨_, rfl⟩
  have hpg : (rtL r)[n] = p := by
    rw [← hp]
    show _ = List.getD (rtL r) ((n : Nat) : Int).toNat 0
    rw [Int.toNat_natCast, List.getD_eq_getElem?_getD, List.getElem?_eq_getElem hnl]; rfl
  rw [hp] at hhit ⊢
  obtain ⟨hin, ho⟩ := (hc.ret p).1 (by rw [← hpg]; exact List.getElem_mem hnl)
  have hg : nI m.2.1 p = 2 := by have := hs _ hin; rw [ho] at this; exact this
  have hm : setG m p 2 = m := setG_same (by have := hin.1; omega) hin.2 hg
  have hR : ∀ q, q ∈ (rtL r).take n ++ (rtL r).drop (n + 1) ↔ q ∈ rtL r ∧ q ≠ p := fun q => by
    have hsplit : rtL r = (rtL r).take n ++ p :: (rtL r).drop (n + 1) := by
      rw [← hpg, List.getElem_cons_drop, List.take_append_drop]
    have hnd := hc.nodup
    rw [show rtL (F ++ [((6 : Int), (1 : Int), g, S, ())], r).2 = rtL r from rfl, hsplit] at hnd
    have hnd2 := List.nodup_append.1 hnd
    have h1 : p ∉ (rtL r).take n := fun h => hnd2.2.2 p h p (List.mem_cons_self ..) rfl
    have h2 : p ∉ (rtL r).drop (n + 1) := (List.nodup_cons.1 hnd2.2.1).1
    rw [List.mem_append]
    constructor
    · rintro (h | h)
      · exact ⟨List.mem_of_mem_take h, fun e => h1 (e ▸ h)⟩
      · exact ⟨List.mem_of_mem_drop h, fun e => h2 (e ▸ h)⟩
    · rintro ⟨h, hne⟩
      rw [hsplit, List.mem_append, List.mem_cons] at h
      rcases h with h | h | h
      · exact .inl h
      · exact absurd h hne
      · exact .inr h
  have hnd' : ((rtL r).take n ++ (rtL r).drop (n + 1)).Nodup := by
    have : ((rtL r).take n ++ (rtL r).drop (n + 1)).Sublist (rtL r) := by
      have h := List.Sublist.append (List.Sublist.refl ((rtL r).take n)) (List.sublist_cons_self p ((rtL r).drop (n + 1)))
      rw [← hpg, List.getElem_cons_drop, List.take_append_drop] at h
      exact h
    exact this.nodup hc.nodup
  have hcore : CoreI (setG m p 2) (upd o p (.push k 2)) C k (F ++ [((6 : Int), (1 : Int), (g.1, ((n : Nat) : Int), g.2.2), S, ()), frm0 2 p 0 0], snocR r ((rtL r).take n ++ (rtL r).drop (n + 1))) := by
    rw [hm]
    have hlt : ((rtL r).take n ++ (rtL r).drop (n + 1)).length + 1 = (rtL r).length := by
      rw [List.length_append, List.length_take, List.length_drop]; omega
    refine ⟨?_, hnd', fun q => ?_, .inr ⟨?_, ((6 : Int), (1 : Int), (g.1, ((n : Nat) : Int), g.2.2), S, ()), by simp, rfl⟩, fun q x h1 h2 => ?_⟩
    · have := hc.st
      rw [rev_one] at this
      show Stk _ _ C k _ (F ++ [_, _]).reverse
      rw [rev_two]
      refine this.call (f' := ((6 : Int), (1 : Int), (g.1, ((n : Nat) : Int), g.2.2), S, ())) (topPush rfl ⟨hin, ⟨2, upd_self⟩, .inl rfl⟩) rfl (by show 1 + room 2 ≤ room 6; decide) ?_ (Wt.scan hW)
      refine ⟨fun e => absurd (show (6 : Int) = 1 ∨ (6 : Int) = 2 ∨ (6 : Int) = 3 ∨ (6 : Int) = 4 from e) (by decide), fun e => nope e rfl, fun _ => ⟨rfl, rfl, .inr ⟨rfl, a0, a1, by show (0 : Int) ≤ (n : Int); omega, ?_, fun q hq => ?_⟩⟩, fun e => nope e rfl, fun e => nope e rfl⟩
      · show ((n : Nat) : Int) ≤ (((rtL r).take n ++ (rtL r).drop (n + 1)).length : Int)
        omega
      · have hq : q ∈ ((rtL r).take n ++ (rtL r).drop (n + 1)).take ((n : Nat) : Int).toNat := hq
        rw [Int.toNat_natCast, List.take_append_of_le_length (by rw [List.length_take]; omega), List.take_take, Nat.min_self] at hq
        obtain ⟨j, hj, hjn, e⟩ := mem_take.1 hq
        rw [← e]
        exact seen j hj hjn
    · show q ∈ (rtL r).take n ++ (rtL r).drop (n + 1) ↔ _
      rw [hR q, hc.ret q]
      by_cases e : q = p
      · subst e
        rw [upd_self]
        exact ⟨fun h => absurd rfl h.2, fun h => (nomatch h.2)⟩
      · rw [upd_ne e]
        exact ⟨fun h => h.1, fun h => ⟨h, e⟩⟩
    · show ((rtL r).take n ++ (rtL r).drop (n + 1)).length ≤ 3 * C + 1
      rcases hc.few with h | ⟨h, _⟩
      · have h : (rtL r).length ≤ 3 * C := h; omega
      · have h : (rtL r).length ≤ 3 * C + 1 := h; omega
    · by_cases e : q = p
      · exact ⟨F ++ [((6 : Int), (1 : Int), (g.1, ((n : Nat) : Int), g.2.2), S, ())], frm0 2 p 0 0, by simp, rfl, e.symm⟩
      · rw [upd_ne e] at h2
        exact absurd h2 (hnp q x h1)
  have := good_give (T := T) (k := k) (f := ((6 : Int), (1 : Int), g, S, ())) (r := r) (v := 2) (x := .push k 2) hl hT hs hin (.inr (.inr (.inr (.inl ⟨ho, rfl⟩)))) (by rw [ho]; exact rfl) rfl ⟨rfl, .inr rfl⟩ (by decide) (by rw [hg]; decide) hcore (.inl ⟨_, _, rfl, ⟨rfl, fun _ => .inl rfl, fun e => nope e rfl⟩, by show (1 : Int) ≤ 2 ∧ (2 : Int) ≤ 8; decide, rfl, rfl⟩)
  rw [hm] at this
  exact ⟨_, this⟩
end
/-- A step of any of these ops: all is as it should be behind it. -/
theorem MM.step {T : Int} {o : OM} {s : Sy} {k : Nat} {F : List Frm} {f : Frm} {r : Rest} (h : MM T o s) (hT : T < 1000000000) (hk : k < s.2.1.length) (hc : cAt s.2.1 k = (F ++ [f], r)) (hop : 1 ≤ f.1 ∧ f.1 ≤ 8) :
    ∃ o', alS s k = (lMM s.2.1.length k s.1 f r).into s k F ∧ Good T k s.2.1.length s.1 o F f r (lMM s.2.1.length k s.1 f r) o' ∧ MM (T + 1) o' (alS s k) := by
  have hcore := h.core k hk
  rw [hc] at hcore
  obtain ⟨l, hl⟩ := h.list
  have hC := h.cores
  have hF : F.length ≤ 38 := by
    have := hcore.st
    rw [rev_one] at this
    have h1 := this.2.1
    rw [List.length_reverse] at h1
    omega
  have hloc := al_loc (k := (k : Int)) (by omega) (by omega) hF hc hop
  suffices ∃ o', Good T k s.2.1.length s.1 o F f r (lMM s.2.1.length k s.1 f r) o' by
    obtain ⟨o', hg⟩ := this
    exact ⟨o', hloc, hg, by rw [hloc]; exact h.into hk hg.chg hg.list hg.tag hg.stat hg.core⟩
  obtain ⟨op, pc, g, S, u⟩ := f
  obtain rfl : u = () := rfl
  have hcase : ∀ x : Int, 1 ≤ x ∧ x ≤ 8 → x = 1 ∨ x = 2 ∨ x = 3 ∨ x = 4 ∨ x = 5 ∨ x = 6 ∨ x = 7 ∨ x = 8 := fun x hx => by omega
  have ht := h.tag
  have hs := h.stat
  have k8 : k < 8 := by omega
  rcases hcase op hop with e | e | e | e | e | e | e | e <;> subst e
  · exact good_pop hl ht hT hs hcore
  · exact good_push k8 hl ht hT hs hcore
  · exact good_prot k8 hl ht hs hcore
  · exact good_clear k8 hl ht hs hcore
  · exact good_retire hC hl ht hs hcore
  · exact good_scan hC hl ht hs hcore
  · exact good_alloc hC hl ht hs hcore
  · exact good_drop hl ht hs hcore

theorem up_mem9 : ∀ (n : Nat) (a p : Int), p ∈ up n a ↔ a ≤ p ∧ p < a + n
  | 0, a, p => ⟨fun h => (nomatch h), fun h => absurd h.1 (by omega)⟩
  | n + 1, a, p => by
    have ih := up_mem9 n (a + 1) p
    show p ∈ a :: up n (a + 1) ↔ _
    rw [List.mem_cons, ih]
    constructor
    · rintro (h | h)
      · omega
      · omega
    · intro h
      by_cases c : p = a
      · exact .inl c
      · exact .inr (by omega)
theorem newF_glen {c : Int} {n : Nat} (h1 : 1 ≤ n) (h2 : n ≤ 200) : (newF c n).1.2.1.length = n + 1 := by
  have hg : (newI n).2.1.length = n + 1 := by show (List.replicate _ _).length = _; rw [List.length_replicate]; omega
  obtain ⟨e1, e2, e3⟩ := fill_at h1 h2 n (Nat.le_refl _)
  have hf : Fits (fillN (newI n) n n) := ⟨by rw [e2, e1, hg]; omega, by rw [e1, hg]; omega⟩
  have hM : (newF c n).1 = (List.set (α := Int) (fillN (newI n) n n).1 (0 : Int).toNat 2, (fillN (newI n) n n).2) := by
    show fillM (newI n) = _
    unfold fillM
    rw [hg, show ((n + 1 : Nat) : Int) - 1 = n by omega, show n + 1 - 1 = n from rfl]
    exact store_word (by decide) (by decide) hf
  rw [hM, e1]
  exact hg
theorem newF_head {c : Int} {n : Nat} (h1 : 1 ≤ n) (h2 : n ≤ 200) : nI (newF c n).1.1 0 = 2 := by
  have hg : (newI n).2.1.length = n + 1 := by show (List.replicate _ _).length = _; rw [List.length_replicate]; omega
  obtain ⟨e1, e2, e3⟩ := fill_at h1 h2 n (Nat.le_refl _)
  have hf : Fits (fillN (newI n) n n) := ⟨by rw [e2, e1, hg]; omega, by rw [e1, hg]; omega⟩
  have hM : (newF c n).1 = (List.set (α := Int) (fillN (newI n) n n).1 (0 : Int).toNat 2, (fillN (newI n) n n).2) := by
    show fillM (newI n) = _
    unfold fillM
    rw [hg, show ((n + 1 : Nat) : Int) - 1 = n by omega, show n + 1 - 1 = n from rfl]
    exact store_word (by decide) (by decide) hf
  rw [hM]
  show nI (List.set (α := Int) _ _ _) 0 = 2
  rw [nI_set (by decide) (by decide), if_pos ⟨rfl, by rw [e2]; omega⟩]
theorem newF_cor {c : Int} {n : Int} {k : Int} : cAt (newF c n).2.1 k = dflt tCore := by
  unfold cAt
  show (List.replicate c.toNat (dflt tCore)).getD _ _ = _
  rw [List.getD_eq_getElem?_getD, List.getElem?_replicate]
  split <;> rfl
section
variable {T : Int} {o o' : OM} {s : Sy} {k : Nat}
theorem Chg.same9 {m : Me} : Chg k m o m o := ⟨rfl, .inl ⟨rfl, fun _ _ _ => rfl⟩, fun _ _ _ _ _ _ => rfl, fun _ _ _ _ _ _ => rfl, fun _ _ _ _ => ⟨Iff.rfl, Iff.rfl, Iff.rfl, fun _ => Iff.rfl⟩⟩
end
end Go.Proofs.YtpobngddiifdpaaGreat.V
