/- ScanSafe: a turn of a core. ScanSafe: how it begins; what is there at the end. -/
import Derived.Test.YtjeiopkfdgllhaaM16
set_option linter.unusedSimpArgs false
set_option linter.unusedVariables false
namespace Go.Proofs.Ytjeiopkfdgllhaa.V
open Go Go.RowKit Go.Proofs.Ytjeiopkfdgllhaa.Hz
set_option maxRecDepth 100000

/-- A core that is at nothing goes on. -/
def idleS (s : Sy) (k : Int) (x : Pl) (wr : Bool) : Sy × Pl :=
  if x.1 = 0 then (if wr = true then (callS s k 1 0 0 0, (1, 0, 0, ())) else (callS s k 3 100 0 0, (5, 0, 0, ())))
  else if x.1 = 1 then (if cE s k ≠ 0 then (s, (0, 0, 0, ())) else (s, (2, cV s k, 0, ())))
  else if x.1 = 2 then ((storeM s.1 (atI x.2.1 2) x.2.1, s.2), (3, x.2.1, 0, ()))
  else if x.1 = 3 then ((loadM s.1 100, s.2), (4, x.2.1, loadI s.1 100, ()))
  else if x.1 = 4 then (if casB s.1 100 x.2.2.1 = true then (if idxI x.2.2.1 = 0 then ((casM s.1 100 x.2.2.1 (nextI x.2.2.1 x.2.1 0), s.2), (0, 0, 0, ())) else (callS (casM s.1 100 x.2.2.1 (nextI x.2.2.1 x.2.1 0), s.2) k 5 (idxI x.2.2.1) 0 0, (0, 0, 0, ()))) else ((casM s.1 100 x.2.2.1 (nextI x.2.2.1 x.2.1 0), s.2), (3, x.2.1, 0, ())))
  else if x.1 = 5 then (if idxI (cV s k) = 0 then (s, (7, 0, 0, ())) else (s, (6, idxI (cV s k), 0, ())))
  else if x.1 = 6 then ((loadM s.1 (atI x.2.1 2), s.2), (7, x.2.1, loadI s.1 (atI x.2.1 2), ()))
  else (callS s k 4 0 0 0, (0, 0, 0, ()))
/-- A turn. -/
def turnS (s : Sy) (k : Int) (x : Pl) (wr : Bool) : Sy × Pl := if (topI s k).isSome = true then (scanS s k, x) else idleS s k x wr
theorem alS_scan {s : Sy} {k : Int} {f : Frm} (ht : topI s k = some f) (h : 1 ≤ f.1 ∧ f.1 ≤ 6) : alS s k = scanS s k := by
  obtain ⟨op, pc, g, l, u⟩ := f
  obtain rfl : u = () := rfl
  rw [alS_some ht, scanS_some ht]
  have h7 := le67 (x := op) h
  unfold allocF
  rw [if_neg h7.1, if_neg h7.2]
section
variable {T : Int} {o : OM} {s : Sy} {L : Nat → Pl} {k : Nat} {wr : Bool}
theorem SafeI.mono {T' : Int} (h : SafeI T o s L) (hT : T ≤ T') : SafeI T' o s L := ⟨h.mm.mono hT, h.sh, h.nodrop, h.who, h.ops, h.pl⟩
theorem updN_same {α : Type} {f : Nat → α} : updN f k (f k) = f := by
  funext c
  unfold updN
  split
  · rename_i e; rw [e]
  · rfl
theorem mem_self {m : Me} (h : m = s.1) : ((m, s.2) : Sy) = s := by rw [h]
theorem top_idle (hk : k < s.2.1.length) (ht : (topI s k).isSome = false) : (cAt s.2.1 k).1 = [] := by
  rw [topI_is (by omega) (by omega)] at ht
  cases h : (cAt s.2.1 k).1 with
  | nil => rfl
  | cons a l => rw [h, List.getLast?_cons] at ht; cases ht
theorem top_busy (hk : k < s.2.1.length) (ht : (topI s k).isSome = true) : ∃ F f r, cAt s.2.1 k = (F ++ [f], r) ∧ topI s k = some f := by
  have e := topI_is (s := s) (k := (k : Int)) (by omega) (by omega)
  obtain ⟨f, hf⟩ := Option.isSome_iff_exists.1 ht
  rw [hf] at e
  have := List.getLast?_eq_some_iff.1 e.symm
  obtain ⟨F, hF⟩ := this
  exact ⟨F, f, (cAt s.2.1 k).2, by rw [← hF], hf⟩
theorem SafeI.idle (h : SafeI T o s L) (hk : k < s.2.1.length) (hidle : (cAt s.2.1 k).1 = []) : ∃ o', SafeI T o' (idleS s k (L k) wr).1 (updN L k (idleS s k (L k) wr).2) ∧ ((L k).1 = 6 → (idleS s k (L k) wr).2.2.2.1 = (L k).2.1) := by
  obtain ⟨l, hl⟩ := h.mm.list
  have hfit := hl.fits
  have hgood := hl.good
  have hlen := hfit.1
  obtain ⟨l1, l2⟩ := load_word (m := s.1) (p := 100) (by decide) (by decide) hfit
  have no : ∀ {P : Prop} {a : Frm}, (cAt s.2.1 k).1 = [a] → P := fun e => by rw [hidle] at e; cases e
  obtain ⟨x, hx⟩ : ∃ x, L k = x := ⟨_, rfl⟩
  have hpl := h.pl k hk
  rw [hx] at hpl ⊢
  have n6 : ∀ n : Int, x.1 = n → n ≠ 6 → x.1 = 6 → ∀ {P : Prop}, P := fun n e hn e6 => absurd (e.symm.trans e6) hn
  unfold idleS
  by_cases c0 : x.1 = 0
  · rw [if_pos c0]
    cases wr with
    | true =>
      rw [if_pos rfl]
      exact ⟨o, h.calls hk hidle (by decide) (topPop rfl (.inl rfl)) fun cs => .pops rfl rfl rfl, fun e => n6 0 c0 (by decide) e⟩
    | false =>
      rw [if_neg (by decide)]
      exact ⟨o, h.calls hk hidle (by decide) (topProt rfl ⟨⟨by show (0 : Int) ≤ 100; decide, by show (100 : Int) < 124; decide, by show (0 : Int) ≤ 0; decide, by show (0 : Int) ≤ 2; decide⟩, .inl rfl⟩) fun cs => .prots rfl rfl ⟨rfl, rfl, rfl⟩, fun e => n6 0 c0 (by decide) e⟩
  rw [if_neg c0]
  by_cases c1 : x.1 = 1
  · rw [if_pos c1]
    have ht : Told s.1 o k (cAt s.2.1 k).2 := by
      cases hpl with
      | any e => exact absurd e c0
      | pops e e2 => exact no e2
      | popped e e2 ht => exact ht
      | has e => exact absurd c1 (by rcases e with e | e | e <;> rw [e] <;> decide)
      | prots e => exact absurd c1 (by rw [e]; decide)
      | protd e => exact absurd c1 (by rw [e]; decide)
      | reads e => exact absurd c1 (by rw [e]; decide)
      | ends e => exact absurd c1 (by rw [e]; decide)
    by_cases cE0 : cE s k ≠ 0
    · rw [if_pos cE0]
      exact ⟨o, h.put hk hidle (.any rfl), fun e => n6 1 c1 (by decide) e⟩
    · rw [if_neg cE0]
      rcases ht with ⟨_, a, b⟩ | e
      · exact ⟨o, h.put hk hidle (.has (.inl rfl) hidle a b fun e => absurd rfl e), fun e => n6 1 c1 (by decide) e⟩
      · exfalso
        have h0 : (cAt s.2.1 k).2.2.1 = 0 := Decidable.not_not.1 cE0
        rw [h0] at e
        exact nope (show (0 : Int) = 2 from e) rfl
  rw [if_neg c1]
  have hhas : (x.1 = 2 ∨ x.1 = 3 ∨ x.1 = 4) → InN s.1 x.2.1 ∧ o x.2.1 = .fresh k ∧ (x.1 ≠ 2 → KeyI s.1 x.2.1) := fun hc => by
    have ne : ∀ n : Int, x.1 = n → ¬ (n = 2 ∨ n = 3 ∨ n = 4) → ∀ {P : Prop}, P := fun n e hn => absurd (by rw [e] at hc; exact hc) hn
    cases hpl with
    | any e => exact absurd e c0
    | pops e e2 => exact absurd e c1
    | popped e e2 ht => exact absurd e c1
    | has e e2 a b d => exact ⟨a, b, d⟩
    | prots e => exact ne 5 e (by decide)
    | protd e => exact ne 5 e (by decide)
    | reads e => exact ne 6 e (by decide)
    | ends e => exact ne 7 e (by decide)
  by_cases c2 : x.1 = 2
  · rw [if_pos c2]
    obtain ⟨a, b, _⟩ := hhas (.inl c2)
    have hg : nI s.1.2.1 x.2.1 ≠ 0 := by
      have := h.mm.stat _ a
      rw [b] at this
      rw [show nI s.1.2.1 x.2.1 = 1 from this]; decide
    rw [atI_key a hfit, store_key a hg hfit hgood]
    exact ⟨o, h.key hk hidle a b, fun e => n6 2 c2 (by decide) e⟩
  rw [if_neg c2]
  by_cases c3 : x.1 = 3
  · rw [if_pos c3, mem_self l1]
    obtain ⟨a, b, d⟩ := hhas (.inr (.inl c3))
    exact ⟨o, h.put hk hidle (.has (.inr (.inr rfl)) hidle a b fun _ => d c2), fun e => n6 3 c3 (by decide) e⟩
  rw [if_neg c3]
  by_cases c4 : x.1 = 4
  · rw [if_pos c4]
    obtain ⟨a, b, d⟩ := hhas (.inr (.inr c4))
    by_cases hb : casB s.1 100 x.2.2.1 = true
    · rw [if_pos hb]
      have hw : nI s.1.1 100 = x.2.2.1 := (of_decide_eq_true hb).2.2
      have hcm : casM s.1 100 x.2.2.1 (nextI x.2.2.1 x.2.1 0) = setW s.1 100 (nextI (nI s.1.1 100) x.2.1 0) := by
        rw [show casM s.1 100 x.2.2.1 (nextI x.2.2.1 x.2.1 0) = storeM s.1 100 (nextI x.2.2.1 x.2.1 0) from if_pos (of_decide_eq_true hb), store_word (by decide) (by decide) hfit, hw]
        rfl
      rw [hcm]
      obtain ⟨o', h1, h2⟩ := h.lay hk hidle a b (d c2)
      rw [hw] at h2
      by_cases ci : idxI x.2.2.1 = 0
      · rw [if_pos ci]
        exact ⟨o', h1, fun e => n6 4 c4 (by decide) e⟩
      · rw [if_neg ci]
        obtain ⟨h3, h4⟩ := h2 ci
        have := h1.calls (x := (0, 0, 0, ())) (op := 5) (a := idxI x.2.2.1) hk hidle (by decide) (topRetire rfl (.inr ⟨rfl, h3, h4⟩)) fun cs => .any rfl
        refine ⟨o', ?_, fun e => n6 4 c4 (by decide) e⟩
        have e : ∀ y : Pl, updN (updN L k y) k y = updN L k y := fun y => by
          funext c; unfold updN; split <;> rfl
        rw [e] at this
        exact this
    · rw [if_neg hb]
      have hcm : casM s.1 100 x.2.2.1 (nextI x.2.2.1 x.2.1 0) = s.1 := by
        rw [show casM s.1 100 x.2.2.1 (nextI x.2.2.1 x.2.1 0) = loadM s.1 100 from if_neg (fun e => hb (decide_eq_true e)), l1]
      rw [mem_self hcm]
      exact ⟨o, h.put hk hidle (.has (.inr (.inl rfl)) hidle a b fun _ => d c2), fun e => n6 4 c4 (by decide) e⟩
  rw [if_neg c4]
  have n234 : ¬ (x.1 = 2 ∨ x.1 = 3 ∨ x.1 = 4) := fun e => e.elim c2 fun e => e.elim c3 c4
  by_cases c5 : x.1 = 5
  · rw [if_pos c5]
    have hg : idxI (cV s k) = 0 ∨ Guard s.1 o s.2.1 k 0 (idxI (cV s k)) ∧ KeyI s.1 (idxI (cV s k)) := by
      cases hpl with
      | any e => exact absurd e c0
      | pops e e2 => exact no e2
      | popped e e2 ht => exact absurd e c1
      | has e => exact absurd e n234
      | prots e e2 => exact no e2
      | protd e e2 hg => exact hg
      | reads e => exact absurd c5 (by rw [e]; decide)
      | ends e => exact absurd c5 (by rw [e]; decide)
    by_cases ci : idxI (cV s k) = 0
    · rw [if_pos ci]
      exact ⟨o, h.put hk hidle (.ends rfl hidle), fun e => n6 5 c5 (by decide) e⟩
    · rw [if_neg ci]
      have := hg.resolve_left ci
      exact ⟨o, h.put hk hidle (.reads rfl hidle this.1 this.2), fun e => n6 5 c5 (by decide) e⟩
  rw [if_neg c5]
  by_cases c6 : x.1 = 6
  · rw [if_pos c6]
    have hg : Guard s.1 o s.2.1 k 0 x.2.1 ∧ KeyI s.1 x.2.1 := by
      cases hpl with
      | any e => exact absurd e c0
      | pops e e2 => exact no e2
      | popped e e2 ht => exact absurd e c1
      | has e => exact absurd e n234
      | prots e e2 => exact no e2
      | protd e e2 hg => exact absurd e c5
      | reads e e2 hg hk => exact ⟨hg, hk⟩
      | ends e => exact absurd c6 (by rw [e]; decide)
    have hnf := hg.1.notFree h.mm.stat
    obtain ⟨k1, k2⟩ := load_key hg.1.inn hnf hfit hgood
    rw [atI_key hg.1.inn hfit, mem_self k1, k2]
    exact ⟨o, h.put hk hidle (.ends rfl hidle), fun _ => hg.2⟩
  rw [if_neg c6]
  exact ⟨o, h.calls hk hidle (by decide) (topClear rfl ⟨by show (0 : Int) ≤ 0; decide, by show (0 : Int) ≤ 2; decide⟩) fun cs => .any rfl, fun e => absurd e c6⟩
/-- A turn of a core. -/
theorem SafeI.turn (h : SafeI T o s L) (hT : T < 1000000000) (hk : k < s.2.1.length) : ∃ o', SafeI (T + 1) o' (turnS s k (L k) wr).1 (updN L k (turnS s k (L k) wr).2) ∧ ((L k).1 = 6 → (turnS s k (L k) wr).2.2.2.1 = (L k).2.1) := by
  unfold turnS
  by_cases hb : (topI s k).isSome = true
  · rw [if_pos hb]
    obtain ⟨F, f, r, hc, ht⟩ := top_busy hk hb
    have hop := h.ops k hk f (by rw [hc]; simp)
    obtain ⟨o', e, hs⟩ := h.step hT hk hc
    rw [← alS_scan ht hop]
    refine ⟨o', by rw [updN_same]; exact hs, fun e6 => ?_⟩
    have hpl := h.pl k hk
    rw [hc] at hpl
    exfalso
    have no : F ++ [f] ≠ [] := by simp
    cases hpl with
    | any e => rw [e] at e6; exact nope e6 rfl
    | pops e => rw [e] at e6; exact nope e6 rfl
    | popped e => rw [e] at e6; exact nope e6 rfl
    | has e => rcases e with e | e | e <;> rw [e] at e6 <;> exact nope e6 rfl
    | prots e => rw [e] at e6; exact nope e6 rfl
    | protd e => rw [e] at e6; exact nope e6 rfl
    | reads _ e => exact no e
    | ends _ e => exact no e
  · rw [if_neg hb]
    obtain ⟨o', h1, h2⟩ := h.idle (wr := wr) hk (top_idle hk (Bool.eq_false_iff.2 hb))
    exact ⟨o', h1.mono (by omega), h2⟩
end

theorem pl1_iff (g : Li) (x : Int) : ∀ (k : Nat) (p : Int), p ∈ places1 g x k ↔ 1 ≤ p ∧ p < k ∧ nI g p = x
  | 0, p => by
    constructor
    · intro h; cases h
    · intro h; omega
  | k + 1, p => by
    have ih := pl1_iff g x k p
    unfold places1
    split
    · rename_i h
      rw [List.mem_append, List.mem_singleton, ih]
      constructor
      · rintro (e | e)
        · exact ⟨e.1, by omega, e.2.2⟩
        · rw [e]; exact ⟨by omega, by omega, h.2⟩
      · intro e
        by_cases c : p = k
        · exact .inr c
        · exact .inl ⟨e.1, by omega, e.2.2⟩
    · rename_i h
      rw [ih]
      constructor
      · intro e; exact ⟨e.1, by omega, e.2.2⟩
      · intro e
        refine ⟨e.1, ?_, e.2.2⟩
        have : p ≠ k := fun c => h ⟨by omega, by rw [← c]; exact e.2.2⟩
        omega
theorem pl1_nodup (g : Li) (x : Int) : ∀ k : Nat, (places1 g x k).Nodup
  | 0 => List.nodup_nil
  | k + 1 => by
    have ih := pl1_nodup g x k
    unfold places1
    split
    · refine List.nodup_append.2 ⟨ih, by simp, fun a ha b hb => ?_⟩
      rw [List.mem_singleton.1 hb]
      have := (pl1_iff g x k a).1 ha
      exact Int.ne_of_lt this.2.1
    · exact ih
/-- The nodes that are free are counted. -/
theorem pl1_count (g : Li) (x : Int) : ∀ k : Nat, k ≤ g.length → (places1 g x k).length = ((g.take k).drop 1).count x
  | 0, _ => rfl
  | k + 1, hk => by
    have ih := pl1_count g x k (by omega)
    have hget : nI g k = g[k]'(by omega) := by
      show List.getD g ((k : Int).toNat) 0 = _
      rw [List.getD_eq_getElem?_getD, Int.toNat_natCast, List.getElem?_eq_getElem (by omega)]
      rfl
    unfold places1
    rw [List.take_succ_eq_append_getElem (show k < g.length by omega)]
    by_cases c0 : k = 0
    · subst c0
      rw [if_neg (fun e => e.1 rfl)]
      rfl
    · rw [List.drop_append_of_le_length (by rw [List.length_take]; omega), List.count_append, ← ih]
      by_cases c : nI g k = x
      · rw [if_pos ⟨c0, c⟩, List.length_append, List.count_singleton, ← hget, c]
        simp
      · rw [if_neg (fun e => c e.2), List.count_singleton, ← hget]
        have : (nI g k == x) = false := by simpa using c
        rw [if_neg (by rw [this]; decide)]
        rfl
/-- Nodes of a kind, counted. -/
theorem count_of {m : Me} {L : Li} {x : Int} (hn : L.Nodup) (hm : ∀ p, p ∈ L ↔ InN m p ∧ nI m.2.1 p = x) : countI m.2.1 x = L.length := by
  have hp : (places1 m.2.1 x m.2.1.length).Perm L := (List.perm_ext_iff_of_nodup (pl1_nodup _ _ _) hn).2 fun p => by
    rw [pl1_iff, hm]
    unfold InN
    exact ⟨fun ⟨a, b, c⟩ => ⟨⟨a, b⟩, c⟩, fun ⟨⟨a, b⟩, c⟩ => ⟨a, b, c⟩⟩
  rw [← hp.length_eq, pl1_count m.2.1 x m.2.1.length (Nat.le_refl _), List.take_length]
  rfl
/-- The node that a core is laying free. -/
def pushOf (c : Cor) : Li := match c.1.getLast? with
  | some f => if f.1 = 2 then [f.2.2.1.1] else []
  | none => []
def partsOf (c : Cor) : Li := rtL c.2 ++ pushOf c
theorem retI_flat : ∀ l : List Cor, (retI l).length + (l.map fun c => (pushOf c).length).sum = (l.flatMap partsOf).length
  | [] => rfl
  | c :: r => by
    have ih := retI_flat r
    rw [List.flatMap_cons, List.length_append, ← ih]
    have e : (retI (c :: r)).length = (rtL c.2).length + (retI r).length := List.length_append
    have e2 : (partsOf c).length = (rtL c.2).length + (pushOf c).length := List.length_append
    rw [e, e2, List.map_cons, List.sum_cons]
    omega
theorem mem_retI : ∀ {l : List Cor} {p : Int}, p ∈ retI l → ∃ c : Nat, c < l.length ∧ p ∈ rtL (cAt l c).2
  | [], p, h => (nomatch h)
  | x :: r, p, h => by
    rcases List.mem_append.1 (show p ∈ rtL x.2 ++ retI r from h) with h | h
    · exact ⟨0, Nat.zero_lt_succ _, h⟩
    · obtain ⟨c, h1, h2⟩ := mem_retI h
      exact ⟨c + 1, Nat.succ_lt_succ h1, h2⟩
theorem retI_sub : ∀ l : List Cor, (retI l).Sublist (l.flatMap partsOf)
  | [] => List.Sublist.refl _
  | x :: r => by
    show (List.append (rtL x.2) (retI r)).Sublist _
    rw [List.flatMap_cons]
    exact List.Sublist.append (List.sublist_append_left _ _) (retI_sub r)
theorem cAt_elem {l : List Cor} {c : Nat} (h : c < l.length) : cAt l c = l[c] := by
  unfold cAt
  rw [Int.toNat_natCast, List.getD_eq_getElem?_getD, List.getElem?_eq_getElem h]
  rfl
section
variable {T : Int} {o : OM} {s : Sy} {L : Nat → Pl} {k : Nat}
theorem SafeI.push_of (h : SafeI T o s L) {c : Nat} {p : Int} (hc : c < s.2.1.length) (hp : p ∈ pushOf (cAt s.2.1 c)) : InN s.1 p ∧ o p = .push c 2 := by
  unfold pushOf at hp
  split at hp
  · rename_i f hf
    split at hp
    · rename_i h2
      rw [List.mem_singleton.1 hp]
      obtain ⟨F, hF⟩ := List.getLast?_eq_some_iff.1 hf
      have hcore := h.mm.core c hc
      have e : cAt s.2.1 c = (F ++ [f], (cAt s.2.1 c).2) := by rw [← hF]
      rw [e] at hcore
      obtain ⟨a, ⟨x, b⟩, _⟩ := (Stk.topOf hcore).push h2
      refine ⟨a, ?_⟩
      have := h.mm.stat _ a
      rw [b] at this
      rcases this.2 with e1 | e1
      · exact absurd (by rw [b, e1]) (h.nodrop _ c a)
      · rw [b, e1]
    · cases hp
  · cases hp
theorem SafeI.parts (h : SafeI T o s L) {c : Nat} {p : Int} (hc : c < s.2.1.length) (hp : p ∈ partsOf (cAt s.2.1 c)) : InN s.1 p ∧ (o p = .ret c ∨ o p = .push c 2) := by
  rcases List.mem_append.1 hp with hp | hp
  · have := ((h.mm.core c hc).ret p).1 hp
    exact ⟨this.1, .inl this.2⟩
  · have := h.push_of hc hp
    exact ⟨this.1, .inr this.2⟩
theorem SafeI.all_nodup (h : SafeI T o s L) : (s.2.1.flatMap partsOf).Nodup := by
  unfold List.Nodup
  rw [List.pairwise_flatMap]
  refine ⟨fun c hc => ?_, List.pairwise_iff_getElem.2 fun i j hi hj hij x hx y hy e => ?_⟩
  · obtain ⟨i, hi, rfl⟩ := List.getElem_of_mem hc
    rw [← cAt_elem hi]
    refine List.nodup_append.2 ⟨(h.mm.core i hi).nodup, ?_, fun a ha b hb e => ?_⟩
    · unfold pushOf
      split
      · split
        · simp
        · exact List.nodup_nil
      · exact List.nodup_nil
    · subst e
      have h1 := (((h.mm.core i hi).ret a).1 ha).2
      have h2 := (h.push_of hi hb).2
      rw [h1] at h2; cases h2
  · subst e
    rw [← cAt_elem hi] at hx
    rw [← cAt_elem hj] at hy
    have h1 := (h.parts hi hx).2
    have h2 := (h.parts hj hy).2
    rcases h1 with h1 | h1 <;> rcases h2 with h2 | h2 <;> rw [h1] at h2
    · exact absurd (Own.ret.inj h2) (by omega)
    · cases h2
    · cases h2
    · exact absurd (Own.push.inj h2).1 (by omega)
/-- Each retired node is Retired, and is told once. -/
theorem SafeI.retired (h : SafeI T o s L) : (retI s.2.1).Nodup ∧ ∀ p ∈ retI s.2.1, InN s.1 p ∧ nI s.1.2.1 p = 2 := by
  refine ⟨(retI_sub _).nodup h.all_nodup, fun p hp => ?_⟩
  obtain ⟨c, hc, h2⟩ := mem_retI hp
  have := ((h.mm.core c hc).ret p).1 h2
  refine ⟨this.1, ?_⟩
  have h3 := h.mm.stat p this.1
  rw [this.2] at h3
  exact h3
/-- All Retired nodes are there, or are being laid free. -/
theorem SafeI.count (h : SafeI T o s L) : countI s.1.2.1 2 = (retI s.2.1).length + (s.2.1.map fun c => (pushOf c).length).sum := by
  rw [retI_flat]
  refine count_of h.all_nodup fun p => ?_
  rw [List.mem_flatMap]
  constructor
  · rintro ⟨c, hc, hp⟩
    obtain ⟨i, hi, rfl⟩ := List.getElem_of_mem hc
    rw [← cAt_elem hi] at hp
    obtain ⟨a, b⟩ := h.parts hi hp
    refine ⟨a, ?_⟩
    have h3 := h.mm.stat p a
    rcases b with b | b
    · rw [b] at h3; exact h3
    · rw [b] at h3; exact h3.1
  · rintro ⟨a, b⟩
    have h3 := h.mm.stat p a
    rw [b] at h3
    cases ho : o p with
    | free => rw [ho] at h3; exact nope h3 rfl
    | fresh c => rw [ho] at h3; exact nope h3 rfl
    | shared => rw [ho] at h3; exact nope h3 rfl
    | gone c => rw [ho] at h3; exact nope h3 rfl
    | ret c =>
      have hc := h.who p c a (.inl ho)
      refine ⟨s.2.1[c], List.getElem_mem hc, ?_⟩
      rw [← cAt_elem hc]
      exact List.mem_append_left _ (((h.mm.core c hc).ret p).2 ⟨a, ho⟩)
    | push c x =>
      have hc := h.who p c a (.inr ⟨x, ho⟩)
      obtain ⟨F, f, e, e1, e2⟩ := (h.mm.core c hc).push p x a ho
      refine ⟨s.2.1[c], List.getElem_mem hc, ?_⟩
      rw [← cAt_elem hc]
      refine List.mem_append_right _ ?_
      unfold pushOf
      rw [e, List.getLast?_concat]
      show p ∈ if f.1 = 2 then [f.2.2.1.1] else []
      rw [if_pos e1, List.mem_singleton]
      exact e2.symm
theorem SafeI.few (h : SafeI T o s L) (hk : k < s.2.1.length) : (rtL (cAt s.2.1 k).2).length ≤ 3 * s.2.1.length + 1 := by
  rcases (h.mm.core k hk).few with h | h
  · omega
  · exact h.1
theorem SafeI.start {c n : Nat} (h1 : 1 ≤ n) (h2 : n ≤ 200) (c1 : 1 ≤ c) (c8 : c ≤ 8) : SafeI 0 (fun _ => .free) (V.newF (c : Int) (n : Int)) (fun _ => (0, 0, 0, ())) := by
  refine ⟨MM.newF h1 h2 c1 c8, ?_, fun p c _ h => (nomatch h), fun p c _ h => ?_, fun k hk f hf => ?_, fun k hk => ?_⟩
  · left
    have hg := newF_glen (c := (c : Int)) h1 h2
    have h100 : nI (V.newF (c : Int) (n : Int)).1.1 100 = 0 := by
      have hg' : (newI n).2.1.length = n + 1 := by show (List.replicate _ _).length = _; rw [List.length_replicate]; omega
      obtain ⟨e1, e2, e3⟩ := fill_at h1 h2 n (Nat.le_refl _)
      have hf : Fits (fillN (newI n) n n) := ⟨by rw [e2, e1, hg']; omega, by rw [e1, hg']; omega⟩
      have hM : (V.newF (c : Int) (n : Int)).1 = (List.set (α := Int) (fillN (newI n) n n).1 (0 : Int).toNat 2, (fillN (newI n) n n).2) := by
        show fillM (newI n) = _
        unfold fillM
        rw [hg', show ((n + 1 : Nat) : Int) - 1 = n by omega, show n + 1 - 1 = n from rfl]
        exact store_word (by decide) (by decide) hf
      rw [hM]
      show nI (List.set (α := Int) _ _ _) 100 = 0
      rw [nI_set (by decide) (by decide), if_neg (by omega)]
      have low : ∀ j : Nat, j ≤ n → nI (fillN (newI n) n j).1 100 = 0 := by
        intro j
        induction j with
        | zero => intro _; exact nI_rep
        | succ j ih =>
          intro hj
          obtain ⟨f1, f2, _⟩ := fill_at h1 h2 j (by omega)
          have hf' : Fits (fillN (newI n) n j) := ⟨by rw [f2, f1, hg']; omega, by rw [f1, hg']; omega⟩
          have hlk := lk_is ((j : Int) + 1)
          show nI (storeM (fillN (newI n) n j) (atI ((j : Int) + 1) 0) _).1 100 = 0
          rw [atI_link (by omega) (by omega), store_link (by omega) (by rw [f1, hg']; omega) hf']
          show nI (List.set (α := Int) _ _ _) 100 = 0
          rw [nI_set (by omega) (by decide), if_neg (by omega)]
          exact ih (by omega)
      exact low n (Nat.le_refl _)
    rw [h100]; decide
  · rcases h with h | ⟨x, h⟩ <;> cases h
  · rw [newF_cor] at hf; cases hf
  · exact .any rfl
end
end Go.Proofs.Ytjeiopkfdgllhaa.V
