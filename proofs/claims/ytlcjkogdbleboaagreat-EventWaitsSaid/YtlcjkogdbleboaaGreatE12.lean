/- EventWaits: the law. -/
import Derived.Test.YtlcjkogdbleboaaGreatE7
set_option linter.unusedSimpArgs false
set_option linter.unusedVariables false
namespace Go.Proofs.YtlcjkogdbleboaaGreat.V
open Go Go.RowKit Go.Proofs.YtlcjkogdbleboaaGreat.Hz
set_option maxRecDepth 100000

/-- What an op alone makes of an event's word; what it tells; its line of the log. -/
def resW (op w : Int) : Int := if op = 21 ∧ (idxI w = 0 ∨ w % 2 = 0) then w else evN op w
def resV (op w : Int) : Int := if op = 21 ∧ idxI w ≠ 0 then 1 else 0
/-- An op alone, in two steps. -/
theorem two_run {s : Sy} {k : Nat} {op e : Int} {r : Rest} (hk : k < s.2.1.length) (hf : Fits s.1) (h2 : 2 ≤ s.1.2.1.length) (hop : 19 ≤ op ∧ op ≤ 21) (he : 0 ≤ e ∧ e ≤ 15) (hc : cAt s.2.1 k = ([frm0 op e 0 0], r)) :
    ∃ ev, evS (evS s k) k = (Loc.mk (setW s.1 (80 + e) (resW op (nI s.1.1 (80 + e)))) [] (resV op (nI s.1.1 (80 + e)), 0, r.2.2) [ev]).into s k [] ∧ EvFr (frm0 op e 0 0) ∧ (∀ f, topI (evS s k) k = some f → EvFr f) := by
  have hlen : s.1.1.length = 124 + 4 * s.1.2.1.length := hf.1
  have hfr : EvFr (frm0 op e 0 0) := ⟨hop, he, .inl rfl⟩
  have h1 := ev_loc (F := []) (f := frm0 op e 0 0) (by omega) (by omega) hf hc hfr
  obtain ⟨w, hw⟩ : ∃ w, nI s.1.1 (80 + e) = w := ⟨_, rfl⟩
  have hsame : setW s.1 (80 + e) w = s.1 := setW_same (by omega) (by omega) hw
  have hl : lEv k s.1 (frm0 op e 0 0) r = if op = 21 ∧ idxI w = 0 then ⟨s.1, [], (0, 0, r.2.2), [((k : Int), 12, e, 0, 0, ())]⟩ else if op = 21 ∧ w % 2 = 0 then ⟨s.1, [], (1, 0, r.2.2), [((k : Int), 12, e, 0, 1, ())]⟩ else ⟨s.1, [(op, (1 : Int), (e, w, (0 : Int), (0 : Int), (0 : Int), (0 : Int), (0 : Int), (0 : Int), ()), ([] : List Int), ())], r, []⟩ := by
    rw [← hw]; exact if_pos rfl
  rw [hw]
  have idle : ∀ L : Loc, L.fs = [] → evS (L.into s k []) k = L.into s k [] ∧ topI (L.into s k []) k = none := fun L hL => by
    have ht : topI (L.into s k []) k = none := by
      rw [topI_is (by omega) (by rw [into_len]; omega), into_core hk, hL]; rfl
    exact ⟨by unfold evS; rw [ht], ht⟩
  rw [h1, hl]
  by_cases c1 : op = 21 ∧ idxI w = 0
  · rw [if_pos c1]
    obtain ⟨q1, q2⟩ := idle ⟨s.1, [], (0, 0, r.2.2), [((k : Int), 12, e, 0, 0, ())]⟩ rfl
    refine ⟨((k : Int), 12, e, 0, 0, ()), ?_, hfr, fun f hff => by rw [q2] at hff; cases hff⟩
    rw [q1]
    unfold resW resV
    rw [if_pos ⟨c1.1, .inl c1.2⟩, if_neg (fun h => h.2 c1.2), hsame]
  rw [if_neg c1]
  by_cases c2 : op = 21 ∧ w % 2 = 0
  · rw [if_pos c2]
    obtain ⟨q1, q2⟩ := idle ⟨s.1, [], (1, 0, r.2.2), [((k : Int), 12, e, 0, 1, ())]⟩ rfl
    refine ⟨((k : Int), 12, e, 0, 1, ()), ?_, hfr, fun f hff => by rw [q2] at hff; cases hff⟩
    rw [q1]
    unfold resW resV
    rw [if_pos ⟨c2.1, .inr c2.2⟩, if_pos ⟨c2.1, fun h => c1 ⟨c2.1, h⟩⟩, hsame]
  rw [if_neg c2]
  obtain ⟨g, hg⟩ : ∃ g : Frm, g = (op, (1 : Int), (e, w, (0 : Int), (0 : Int), (0 : Int), (0 : Int), (0 : Int), (0 : Int), ()), ([] : List Int), ()) := ⟨_, rfl⟩
  have hgf : EvFr g := by rw [hg]; exact ⟨hop, he, .inr rfl⟩
  rw [← hg, into_nil, List.nil_append]
  have hcore : cAt (stS s k s.1 ([g], r)).2.1 k = ([] ++ [g], r) := stS_core (by omega) (by omega)
  have h3 := ev_loc (s := stS s k s.1 ([g], r)) (k := (k : Int)) (F := []) (by omega) (by rw [stS_len]; omega) hf hcore hgf
  have hl2 : lEv k (stS s k s.1 ([g], r)).1 g r = ⟨setW s.1 (80 + e) (evN op w), [], (evV op, 0, r.2.2), [((k : Int), evK op, e, 0, evV op, ())]⟩ := by
    show lEv k s.1 g r = _
    rw [hg]
    unfold lEv
    rw [if_neg (fun h => nope (show (1 : Int) = 0 from h) rfl)]
    show (if nI s.1.1 (80 + e) = w then _ else _) = _
    rw [if_pos hw]
  refine ⟨((k : Int), evK op, e, 0, evV op, ()), ?_, hfr, fun f hff => by
    rw [topI_is (by omega) (by rw [stS_len]; omega), hcore] at hff
    rw [← Option.some.inj hff]; exact hgf⟩
  rw [h3, hl2]
  have hv : evV op = resV op w := by
    unfold evV resV
    by_cases c : op = 21
    · rw [if_pos c, if_pos ⟨c, fun h => c1 ⟨c, h⟩⟩]
    · rw [if_neg c, if_neg (fun h => c h.1)]
  have hr : resW op w = evN op w := if_neg (fun h => h.2.elim (fun e => c1 ⟨h.1, e⟩) fun e => c2 ⟨h.1, e⟩)
  rw [hv, hr]
  unfold Loc.into stS
  show (_, List.set (List.set s.2.1 (k : Int).toNat _) (k : Int).toNat _, _, ()) = _
  rw [List.set_set]
/-- Two cores, each with an op on an event of its own: whoever goes first, the words and what is told are the same. -/
structure Both (s : Sy) (o0 x o1 y : Int) (t : Sy) : Prop where
  mem : t.1 = setW (setW s.1 (80 + x) (resW o0 (nI s.1.1 (80 + x)))) (80 + y) (resW o1 (nI s.1.1 (80 + y)))
  cores : t.2.1.length = 2
  idle0 : (cAt t.2.1 0).1 = []
  idle1 : (cAt t.2.1 1).1 = []
  val0 : (cAt t.2.1 0).2.1 = resV o0 (nI s.1.1 (80 + x))
  val1 : (cAt t.2.1 1).2.1 = resV o1 (nI s.1.1 (80 + y))
  log : t.2.2.1.length = 2
theorem setW_comm {m : Me} {p q v w : Int} (hp : 0 ≤ p) (hq : 0 ≤ q) (h : p ≠ q) : setW (setW m p v) q w = setW (setW m q w) p v := by
  unfold setW
  show (List.set (α := Int) (List.set (α := Int) m.1 p.toNat v) q.toNat w, m.2) = _
  rw [List.set_comm v w (show p.toNat ≠ q.toNat by omega)]
theorem both_one {s : Sy} {j k : Nat} {o0 x o1 y : Int} {r0 r1 : Rest} (hjk : j ≠ k) (hj : j < 2) (hk : k < 2) (h2 : s.2.1.length = 2) (hf : Fits s.1) (hg : 2 ≤ s.1.2.1.length) (hx : 0 ≤ x ∧ x ≤ 15) (hy : 0 ≤ y ∧ y ≤ 15) (hxy : x ≠ y) (ho0 : 19 ≤ o0 ∧ o0 ≤ 21) (ho1 : 19 ≤ o1 ∧ o1 ≤ 21)
    (hc0 : cAt s.2.1 j = ([frm0 o0 x 0 0], r0)) (hc1 : cAt s.2.1 k = ([frm0 o1 y 0 0], r1)) (hL : s.2.2.1 = []) :
    ∃ a b c t : Sy, a = evS s j ∧ b = evS a j ∧ c = evS b k ∧ t = evS c k ∧ (∀ f, topI s j = some f → EvFr f) ∧ (∀ f, topI a j = some f → EvFr f) ∧ (∀ f, topI b k = some f → EvFr f) ∧ (∀ f, topI c k = some f → EvFr f) ∧
    t.1 = setW (setW s.1 (80 + x) (resW o0 (nI s.1.1 (80 + x)))) (80 + y) (resW o1 (nI s.1.1 (80 + y))) ∧ t.2.1.length = 2 ∧ (cAt t.2.1 j).1 = [] ∧ (cAt t.2.1 k).1 = [] ∧ (cAt t.2.1 j).2.1 = resV o0 (nI s.1.1 (80 + x)) ∧ (cAt t.2.1 k).2.1 = resV o1 (nI s.1.1 (80 + y)) ∧ t.2.2.1.length = 2 := by
  have hlen : s.1.1.length = 124 + 4 * s.1.2.1.length := hf.1
  obtain ⟨ev0, e0, f0, g0⟩ := two_run (k := j) (r := r0) (by omega) hf hg ho0 hx hc0
  obtain ⟨b, hb⟩ : ∃ b, b = evS (evS s j) j := ⟨_, rfl⟩
  rw [← hb] at e0
  have hbm : b.1 = setW s.1 (80 + x) (resW o0 (nI s.1.1 (80 + x))) := by rw [e0]; rfl
  have hbc : cAt b.2.1 k = ([frm0 o1 y 0 0], r1) := by rw [e0, into_other (fun h => hjk h.symm)]; exact hc1
  have hbj : cAt b.2.1 j = ([], resV o0 (nI s.1.1 (80 + x)), 0, r0.2.2) := by rw [e0]; exact into_core (by omega)
  have hbn : b.2.1.length = 2 := by rw [e0, into_len]; exact h2
  have hbL : b.2.2.1 = [ev0] := by
    rw [e0]
    show s.2.2.1 ++ [ev0] = _
    rw [hL]; rfl
  have hbf : Fits b.1 := by rw [hbm]; exact setW_fits hf
  have hby : nI b.1.1 (80 + y) = nI s.1.1 (80 + y) := by rw [hbm]; exact setW_ne (by omega) (by omega) (by omega)
  obtain ⟨ev1, e1, f1, g1⟩ := two_run (s := b) (k := k) (r := r1) (by omega) hbf (by rw [hbm]; exact hg) ho1 hy hbc
  obtain ⟨t, ht⟩ : ∃ t, t = evS (evS b k) k := ⟨_, rfl⟩
  rw [← ht] at e1
  have htj : cAt t.2.1 j = ([], resV o0 (nI s.1.1 (80 + x)), 0, r0.2.2) := by rw [e1, into_other hjk]; exact hbj
  have htk : cAt t.2.1 k = ([], resV o1 (nI b.1.1 (80 + y)), 0, r1.2.2) := by rw [e1]; exact into_core (by omega)
  refine ⟨evS s j, b, evS b k, t, rfl, hb, rfl, ht, fun f hff => ?_, g0, fun f hff => ?_, g1, ?_, ?_, ?_, ?_, ?_, ?_, ?_⟩
  · rw [topI_is (by omega) (by omega), hc0] at hff
    rw [← Option.some.inj hff]; exact f0
  · rw [topI_is (by omega) (by omega), hbc] at hff
    rw [← Option.some.inj hff]; exact f1
  · rw [e1, ← hbm, hby]; rfl
  · rw [e1, into_len]; exact hbn
  · rw [htj]
  · rw [htk]
  · rw [htj]
  · rw [htk, hby]
  · rw [e1]
    show (b.2.2.1 ++ [ev1]).length = 2
    rw [hbL]; rfl
end Go.Proofs.YtlcjkogdbleboaaGreat.V
