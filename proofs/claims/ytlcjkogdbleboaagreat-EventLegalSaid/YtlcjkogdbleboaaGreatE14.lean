/- EventLegal: the law. -/
import Derived.Test.YtlcjkogdbleboaaGreatE7
set_option linter.unusedSimpArgs false
set_option linter.unusedVariables false
namespace Go.Proofs.YtlcjkogdbleboaaGreat.V
open Go Go.RowKit Go.Proofs.YtlcjkogdbleboaaGreat.Hz
set_option maxRecDepth 100000

abbrev xCore (x : Evt) : Int := x.1
abbrev xKind (x : Evt) : Int := x.2.1
abbrev xA (x : Evt) : Int := x.2.2.1
abbrev xV (x : Evt) : Int := x.2.2.2.2.1
/-- An event, a line further; none: that can't be. -/
def playS (e : Int) (b : Bool) (s : Option Bool) (x : Evt) : Option Bool := match s with
  | none => none
  | some v => if xA x ≠ e then some v else if xKind x = 10 then some true else if xKind x = 11 then some false
    else if xKind x = 12 then (if decide (xV x = 1) ≠ v ∨ xV x < 0 ∨ 1 < xV x then none else some (v && !b)) else some v
def playE (e : Int) (b : Bool) (L : List Evt) : Option Bool := L.foldl (playS e b) (some false)
theorem playE_snoc {e : Int} {b : Bool} {L : List Evt} {x : Evt} : playE e b (L ++ [x]) = playS e b (playE e b L) x := by
  unfold playE
  rw [List.foldl_append]
  rfl
def QL (f : Frm) : Prop := ∃ e : Int, 0 ≤ e ∧ e ≤ 3 ∧ EvQ e f
def oddB (e : Int) : Bool := decide (e % 2 = 1)
/-- What is known of a system whose cores are at these events. -/
structure LegI (T : Int) (W : Li) (L : List Evt) : Prop where
  tag : ∀ e : Int, 0 ≤ e → e ≤ 3 → Tagd (nI W (80 + e)) T
  mark : ∀ e : Int, 0 ≤ e → e ≤ 3 → nI W (80 + e) % 2 = selfI (oddB e)
  play : ∀ e : Int, 0 ≤ e → e ≤ 3 → playE e (oddB e) L = some (decide (idxI (nI W (80 + e)) ≠ 0))
theorem leg_step {c k : Nat} {T : Int} {s : Sy} {f : Frm} {r : Rest} (h : EvI c QL s) (hk : k < c) (hc : cAt s.2.1 k = ([f], r)) (hf : EvFr f) (hq : QL f) (hT : T ≤ 1000000) (hL : LegI T s.1.1 s.2.2.1) :
    EvI c QL (evS s k) ∧ LegI (T + 1) (evS s k).1.1 (evS s k).2.2.1 ∧ (((evS s k).2.2.1 = s.2.2.1 ∧ (cAt (evS s k).2.1 k).1 ≠ []) ∨ ((cAt (evS s k).2.1 k).1 = [] ∧ (cAt (evS s k).2.1 k).2.2.1 = 0 ∧ ∃ kind v, (cAt (evS s k).2.1 k).2.1 = v ∧ (evS s k).2.2.1 = List.append (α := Evt) s.2.2.1 [((k : Int), kind, f.2.2.1.1, 0, v, ())])) := by
  obtain ⟨e, e0, e3, hqe⟩ := hq
  obtain ⟨hI, _, hoth, _, hcase⟩ := ev_wordQ (e := e) h hk ⟨e0, by omega⟩ hc hf hqe (fun f' hf' => ⟨e, e0, e3, evQ_step hqe hf'⟩) (hL.tag e e0 e3) hT
  have hfe : f.2.2.1.1 = e := hqe.1
  refine ⟨hI, ?_⟩
  obtain ⟨w, hw⟩ : ∃ w, nI s.1.1 (80 + e) = w := ⟨_, rfl⟩
  have htag := hL.tag e e0 e3
  have hmark := hL.mark e e0 e3
  have hplay := hL.play e e0 e3
  rw [hw] at hcase htag hmark hplay
  have hbit : (w % 2 = 1 ↔ oddB e = true) ∧ (w % 2 = 0 ↔ oddB e = false) := by
    rw [hmark]
    cases oddB e <;> simp [selfI]
  rw [hfe]
  -- the others
  have others : ∀ (x : Option Evt), (∀ y, x = some y → xA y = e) → (evS s k).2.2.1 = s.2.2.1 ++ x.toList → (∀ e2 : Int, 0 ≤ e2 → e2 ≤ 3 → e2 ≠ e → Tagd (nI (evS s k).1.1 (80 + e2)) (T + 1) ∧ nI (evS s k).1.1 (80 + e2) % 2 = selfI (oddB e2) ∧ playE e2 (oddB e2) (evS s k).2.2.1 = some (decide (idxI (nI (evS s k).1.1 (80 + e2)) ≠ 0))) := fun x hx hlog e2 h0 h3 hne => by
    rw [hoth (80 + e2) (by omega) (by omega)]
    have ht := hL.tag e2 h0 h3
    refine ⟨⟨ht.1, by have := ht.2; omega⟩, hL.mark e2 h0 h3, ?_⟩
    rw [← hL.play e2 h0 h3, hlog]
    cases x with
    | none => rw [show Option.toList (none : Option Evt) = [] from rfl, List.append_nil]
    | some y =>
      show playE e2 (oddB e2) (s.2.2.1 ++ [y]) = _
      rw [playE_snoc, hL.play e2 h0 h3]
      unfold playS
      have : xA y ≠ e2 := by rw [hx y rfl]; exact fun h => hne h.symm
      simp only [if_pos this]
  have all : ∀ (x : Option Evt), (∀ y, x = some y → xA y = e) → (evS s k).2.2.1 = s.2.2.1 ++ x.toList → Tagd (nI (evS s k).1.1 (80 + e)) (T + 1) → nI (evS s k).1.1 (80 + e) % 2 = selfI (oddB e) → playE e (oddB e) (evS s k).2.2.1 = some (decide (idxI (nI (evS s k).1.1 (80 + e)) ≠ 0)) → LegI (T + 1) (evS s k).1.1 (evS s k).2.2.1 := fun x hx hlog h1 h2 h3 => by
    have ho := others x hx hlog
    refine ⟨fun e2 a b => ?_, fun e2 a b => ?_, fun e2 a b => ?_⟩
    · by_cases hne : e2 = e
      · rw [hne]; exact h1
      · exact (ho e2 a b hne).1
    · by_cases hne : e2 = e
      · rw [hne]; exact h2
      · exact (ho e2 a b hne).2.1
    · by_cases hne : e2 = e
      · rw [hne]; exact h3
      · exact (ho e2 a b hne).2.2
  rcases hcase with ⟨e1, ⟨e2, e4⟩ | ⟨i1, i2, h21, v, i3, e2, hv⟩⟩ | ⟨e1, i1, i2, i3, e2, h21⟩
  · refine ⟨?_, .inl ⟨e2, e4⟩⟩
    refine all none (fun y h => nomatch h) (by rw [e2]; exact (List.append_nil _).symm) ?_ ?_ ?_
    · rw [e1]; exact ⟨htag.1, by have := htag.2; omega⟩
    · rw [e1]; exact hmark
    · rw [e1, e2]; exact hplay
  · refine ⟨?_, .inr ⟨i1, i2, 12, v, i3, e2⟩⟩
    refine all (some ((k : Int), 12, e, 0, v, ())) (fun y h => by rw [← Option.some.inj h]) e2 ?_ ?_ ?_
    · rw [e1]; exact ⟨htag.1, by have := htag.2; omega⟩
    · rw [e1]; exact hmark
    · rw [e1, e2]
      show playE e (oddB e) (s.2.2.1 ++ [((k : Int), (12 : Int), e, (0 : Int), v, ())]) = _
      rw [playE_snoc, hplay]
      unfold playS
      show (if e ≠ e then _ else if (12 : Int) = 10 then _ else if (12 : Int) = 11 then _ else if (12 : Int) = 12 then _ else _) = _
      rw [if_neg (fun h => h rfl), if_neg (by decide), if_neg (by decide), if_pos rfl]
      show (if decide (v = 1) ≠ decide (idxI w ≠ 0) ∨ v < 0 ∨ 1 < v then none else _) = _
      rcases hv with ⟨hv, hi⟩ | ⟨hv, hi, hm⟩
      · rw [hv, decide_eq_false (show ¬ idxI w ≠ 0 from fun h => h hi)]
        rfl
      · rw [hv, decide_eq_true (show idxI w ≠ 0 from hi), hbit.2.1 hm]
        rfl
  · refine ⟨?_, .inr ⟨i1, i3, _, _, i2, e2⟩⟩
    obtain ⟨_, q2, q3, q4⟩ := evN_is (op := f.1) htag hT
    have key : ∀ g : Int, 19 ≤ g ∧ g ≤ 21 → g = 19 ∨ g = 20 ∨ g = 21 := fun g h => by omega
    refine all (some ((k : Int), evK f.1, e, 0, evV f.1, ())) (fun y h => by rw [← Option.some.inj h]) e2 ?_ ?_ ?_
    · rw [e1]; exact q2
    · rw [e1, q4]
      unfold evMk
      by_cases c1 : f.1 = 21
      · rw [if_pos c1, ← hmark]; exact (h21 c1).1.symm
      · rw [if_neg c1]; omega
    · rw [e1, e2, q3]
      show playE e (oddB e) (s.2.2.1 ++ [((k : Int), evK f.1, e, (0 : Int), evV f.1, ())]) = _
      rw [playE_snoc, hplay]
      unfold playS
      show (if e ≠ e then _ else if evK f.1 = 10 then _ else if evK f.1 = 11 then _ else if evK f.1 = 12 then (if decide (evV f.1 = 1) ≠ decide (idxI w ≠ 0) ∨ evV f.1 < 0 ∨ 1 < evV f.1 then none else some (decide (idxI w ≠ 0) && !oddB e)) else _) = _
      rw [if_neg (fun h => h rfl)]
      rcases key f.1 hf.1 with c | c | c
      · rw [c]; rfl
      · rw [c]; rfl
      · obtain ⟨hm, hi⟩ := h21 c
        rw [c, decide_eq_true (show idxI w ≠ 0 from hi), hbit.1.1 hm]
        rfl
end Go.Proofs.YtlcjkogdbleboaaGreat.V
