/- EventOnce: the law. -/
import Derived.Test.YtlcjkogdbleboaaGreatE7
set_option linter.unusedSimpArgs false
set_option linter.unusedVariables false
namespace Go.Proofs.YtlcjkogdbleboaaGreat.V
open Go Go.RowKit Go.Proofs.YtlcjkogdbleboaaGreat.Hz
set_option maxRecDepth 100000

abbrev evKind (x : Evt) : Int := x.2.1
abbrev evVal (x : Evt) : Int := x.2.2.2.2.1
abbrev Lv := List (Den tEv)
/-- How often it was set; how often a test was told so. -/
def setsN : List Evt → Nat
  | [] => 0
  | x :: r => (if evKind x = 10 then 1 else 0) + setsN r
def toldN : List Evt → Nat
  | [] => 0
  | x :: r => (if evKind x = 12 ∧ evVal x = 1 then 1 else 0) + toldN r
theorem setsN_append : ∀ a b : List Evt, setsN (a ++ b) = setsN a + setsN b
  | [], b => by show setsN b = 0 + _; omega
  | x :: r, b => by show _ + setsN (r ++ b) = _ + setsN r + _; rw [setsN_append r b]; omega
theorem toldN_append : ∀ a b : List Evt, toldN (a ++ b) = toldN a + toldN b
  | [], b => by show toldN b = 0 + _; omega
  | x :: r, b => by show _ + toldN (r ++ b) = _ + toldN r + _; rw [toldN_append r b]; omega
theorem setsN_le : ∀ a : List Evt, setsN a ≤ a.length
  | [] => Nat.le_refl _
  | x :: r => by
    have := setsN_le r
    show (if evKind x = 10 then 1 else 0) + setsN r ≤ r.length + 1
    split <;> omega
theorem toldN_le : ∀ a : List Evt, toldN a ≤ a.length
  | [] => Nat.le_refl _
  | x :: r => by
    have := toldN_le r
    show (if evKind x = 12 ∧ evVal x = 1 then 1 else 0) + toldN r ≤ r.length + 1
    split <;> omega
/-- What is asked behind each line. -/
def OnceAt (b : Bool) (P : List Evt) (x : Evt) : Prop := (b = false → evKind x = 12 → (evVal x = 1 ↔ 0 < setsN P)) ∧ (b = true → toldN P ≤ setsN P)
def OnceL (b : Bool) (L : List Evt) : Prop := ∀ i : Nat, ∀ h : i < L.length, OnceAt b (L.take (i + 1)) L[i]
theorem OnceL.snoc {b : Bool} {L : List Evt} {x : Evt} (h : OnceL b L) (hx : OnceAt b (L ++ [x]) x) : OnceL b (L ++ [x]) := fun i hi => by
  have hi2 := hi
  rw [List.length_append, List.length_singleton] at hi2
  by_cases c : i < L.length
  · have := h i c
    rw [List.getElem_append_left c, List.take_append_of_le_length (by omega)]
    exact this
  · have e : i = L.length := by omega
    subst e
    rw [List.take_of_length_le (by rw [List.length_append, List.length_singleton]; exact Nat.le_refl _)]
    have : (L ++ [x])[L.length]'hi = x := by simp
    rw [this]; exact hx
/-- Once: what the word and the log say of each other. -/
structure OnceI (b : Bool) (w : Int) (L : List Evt) : Prop where
  lines : OnceL b L
  own : b = true → toldN L + (if idxI w = 0 then 0 else 1) ≤ setsN L
  not : b = false → (idxI w ≠ 0 ↔ 0 < setsN L)
def QO (f : Frm) : Prop := EvQ 0 f ∧ f.1 ≠ 20
theorem selfI_is {b : Bool} {w : Int} (h : w % 2 = selfI b) : (w % 2 = 1 ↔ b = true) ∧ (w % 2 = 0 ↔ b = false) := by
  rw [h]
  cases b <;> simp [selfI]
/-- A step keeps it. -/
theorem once_step {c k : Nat} {T : Int} {s : Sy} {f : Frm} {r : Rest} {b : Bool} (h : EvI c QO s) (hk : k < c) (hc : cAt s.2.1 k = ([f], r)) (hf : EvFr f) (hq : QO f) (hw : Tagd (nI s.1.1 80) T) (hT : T ≤ 1000000) (hb : nI s.1.1 80 % 2 = selfI b) (hO : OnceI b (nI s.1.1 80) s.2.2.1) :
    EvI c QO (evS s k) ∧ Tagd (nI (evS s k).1.1 80) (T + 1) ∧ nI (evS s k).1.1 80 % 2 = selfI b ∧ OnceI b (nI (evS s k).1.1 80) (evS s k).2.2.1 := by
  obtain ⟨hI, _, _, _, hcase⟩ := ev_wordQ (e := 0) h hk ⟨by decide, by decide⟩ hc hf hq.1 (fun f' hf' => ⟨evQ_step hq.1 hf', by rw [(lEv_op hf').1]; exact hq.2⟩) hw hT
  rw [show (80 : Int) + 0 = 80 from rfl] at hcase
  refine ⟨hI, ?_⟩
  obtain ⟨w, hwe⟩ : ∃ w, nI s.1.1 80 = w := ⟨_, rfl⟩
  rw [hwe] at hcase hw hb hO
  obtain ⟨s1, s2⟩ := selfI_is hb
  have hsame : ∀ x : Evt, setsN (s.2.2.1 ++ [x]) = setsN s.2.2.1 + (if evKind x = 10 then 1 else 0) := fun x => by rw [setsN_append]; rfl
  have htold : ∀ x : Evt, toldN (s.2.2.1 ++ [x]) = toldN s.2.2.1 + (if evKind x = 12 ∧ evVal x = 1 then 1 else 0) := fun x => by rw [toldN_append]; rfl
  rcases hcase with ⟨e1, ⟨e2, _⟩ | ⟨_, _, h21, v, _, e2, hv⟩⟩ | ⟨e1, _, _, _, e2, h21⟩
  · rw [e1, e2]
    exact ⟨⟨hw.1, by have := hw.2; omega⟩, hb, hO⟩
  · rw [e1, e2]
    refine ⟨⟨hw.1, by have := hw.2; omega⟩, hb, ?_⟩
    obtain ⟨x, hx⟩ : ∃ x : Evt, ((k : Int), (12 : Int), (0 : Int), (0 : Int), v, ()) = x := ⟨_, rfl⟩
    have hkd : evKind x = 12 := by rw [← hx]
    have hvl : evVal x = v := by rw [← hx]
    show OnceI b w (s.2.2.1 ++ [((k : Int), (12 : Int), (0 : Int), (0 : Int), v, ())])
    rw [hx]
    have hs1 := hsame x
    have ht1 := htold x
    rw [hkd, hvl] at ht1
    rw [hkd, if_neg (by decide)] at hs1
    have ho := hO.own
    have hn := hO.not
    rcases hv with ⟨hv, hi⟩ | ⟨hv, hi, hm⟩
    · rw [hv, if_neg (by decide)] at ht1
      rw [if_pos hi] at ho
      refine ⟨hO.lines.snoc ⟨fun hb0 _ => ?_, fun hb1 => ?_⟩, fun hb1 => ?_, fun hb0 => ?_⟩
      · rw [hvl, hv, hs1]
        have := hn hb0
        constructor
        · intro e; exact absurd e (by decide)
        · intro e; exact absurd hi (this.2 e)
      · rw [hs1, ht1]; have := ho hb1; omega
      · rw [hs1, ht1, if_pos hi]; exact ho hb1
      · rw [hs1]; exact hn hb0
    · rw [hv, if_pos ⟨rfl, rfl⟩] at ht1
      have hb0 : b = false := s2.1 hm
      refine ⟨hO.lines.snoc ⟨fun _ _ => ?_, fun hb1 => ?_⟩, fun hb1 => ?_, fun _ => ?_⟩
      · rw [hvl, hv, hs1]
        exact ⟨fun _ => (hn hb0).1 hi, fun _ => rfl⟩
      · rw [hb0] at hb1; cases hb1
      · rw [hb0] at hb1; cases hb1
      · rw [hs1]; exact hn hb0
  · rw [e1, e2]
    obtain ⟨_, q2, q3, q4⟩ := evN_is (op := f.1) hw hT
    have key : ∀ g : Int, 19 ≤ g ∧ g ≤ 21 → g ≠ 20 → g = 19 ∨ g = 21 := fun g h h' => by omega
    have hop : f.1 = 19 ∨ f.1 = 21 := key f.1 hf.1 hq.2
    have ho := hO.own
    have hn := hO.not
    refine ⟨q2, ?_, ?_⟩
    · rw [q4]
      unfold evMk
      by_cases c1 : f.1 = 21
      · rw [if_pos c1, ← hb]; exact (h21 c1).1.symm
      · rw [if_neg c1]; omega
    · obtain ⟨x, hx⟩ : ∃ x : Evt, ((k : Int), evK f.1, (0 : Int), (0 : Int), evV f.1, ()) = x := ⟨_, rfl⟩
      have hkd : evKind x = evK f.1 := by rw [← hx]
      have hvl : evVal x = evV f.1 := by rw [← hx]
      show OnceI b (evN f.1 w) (s.2.2.1 ++ [((k : Int), evK f.1, (0 : Int), (0 : Int), evV f.1, ())])
      rw [hx]
      have hs1 := hsame x
      have ht1 := htold x
      rw [hkd, hvl] at ht1
      rw [hkd] at hs1
      rcases hop with e | e
      · rw [e] at hs1 ht1 hkd hvl q3 ⊢
        rw [show evK 19 = 10 from rfl] at hs1 ht1 hkd
        rw [if_pos rfl] at hs1
        rw [if_neg (by decide)] at ht1
        rw [show evI 19 = 1 from rfl] at q3
        refine ⟨hO.lines.snoc ⟨fun _ e => absurd (hkd.symm.trans e) (by decide), fun hb1 => ?_⟩, fun hb1 => ?_, fun hb0 => ?_⟩
        · rw [hs1, ht1]; have := ho hb1; omega
        · rw [hs1, ht1, q3, if_neg (by decide)]; have := ho hb1; omega
        · rw [q3, hs1]
          exact ⟨fun _ => by omega, fun _ => by decide⟩
      · obtain ⟨hm, hi⟩ := h21 e
        have hb1 : b = true := s1.1 hm
        rw [e] at hs1 ht1 hkd hvl q3 ⊢
        rw [show evK 21 = 12 from rfl] at hs1 ht1 hkd
        rw [show evV 21 = 1 from rfl] at ht1 hvl
        rw [if_neg (by decide)] at hs1
        rw [if_pos ⟨rfl, rfl⟩] at ht1
        rw [show evI 21 = 0 from rfl] at q3
        have ho := ho hb1
        rw [if_neg hi] at ho
        refine ⟨hO.lines.snoc ⟨fun hb0 => ?_, fun _ => ?_⟩, fun _ => ?_, fun hb0 => ?_⟩
        · rw [hb1] at hb0; cases hb0
        · rw [hs1, ht1]; omega
        · rw [hs1, ht1, q3, if_pos rfl]; omega
        · rw [hb1] at hb0; cases hb0
end Go.Proofs.YtlcjkogdbleboaaGreat.V
