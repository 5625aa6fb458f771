/- The memory's management: what a step of one of its ops does. The memory's management: the list of free nodes, and slots, step by step. The memory's management: laying free, naming, retiring, scanning, allocating, dropping, step by step. -/
import Derived.Test.YtpobngddiifdpaaGreatZdM3
set_option linter.unusedSimpArgs false
set_option linter.unusedVariables false
namespace Go.Proofs.YtpobngddiifdpaaGreat.V
open Go Go.RowKit Go.Proofs.YtpobngddiifdpaaGreat.Hz
set_option maxRecDepth 100000

theorem turnM_ok {m : Me} {p to : Int} (hp : InN m p) (h : turnB (nI m.2.1 p) to = true) : turnM m p to = setG m p to := if_pos ⟨hp.1, hp.2, h⟩
theorem FL.setG {m : Me} {l : List Int} {p v : Int} (h : FL m l) (hp : InN m p) (h1 : nI m.2.1 p ≠ 0) (h2 : v ≠ 0) : FL (setG m p v) l := by
  refine ⟨setG_fits h.fits, h.head, h.nodup, fun q => ?_, h.good⟩
  rw [setG_glen, h.mem q]
  have := hp.1
  by_cases hq : q = p
  · subst hq
    rw [setG_self (by omega) hp.2]
    exact ⟨fun e => absurd e.2.2 h1, fun e => absurd e.2.2 h2⟩
  · constructor
    · rintro ⟨a, b, d⟩; exact ⟨a, b, by rw [setG_ne (by omega) (by omega) (fun e => hq e.symm)]; exact d⟩
    · rintro ⟨a, b, d⟩; rw [setG_ne (by omega) (by omega) (fun e => hq e.symm)] at d; exact ⟨a, b, d⟩

/-! ### What a step leads to -/
/-- How a node goes from hand to hand by core k's own step. -/
def Way (k : Nat) (x y : Own) : Prop :=
  y = x ∨ x = .free ∧ y = .fresh k ∨ x = .gone k ∧ y = .ret k ∨ x = .ret k ∧ y = .push k 2 ∨ x = .fresh k ∧ y = .push k 1 ∨ (∃ g, x = .push k g) ∧ y = .free
/-- What is told by an op that ends. -/
structure Post (k : Nat) (m : Me) (f : Frm) (m' : Me) (o' : OM) (r' : Rest) : Prop where
  told : f.1 = 1 ∨ f.1 = 7 → Told m' o' k r'
  none : f.1 = 1 → r'.2.1 ≠ 0 → idxI (nI m.1 0) = 0
  prot : f.1 = 3 → r'.1 = nI m.1 f.2.2.1.1 ∧ (idxI r'.1 = 0 ∨ nI m'.1 (slotP k f.2.2.1.2.1) = idxI r'.1)
/-- A frame goes on: as the same op, of the same node or place. -/
def Like (f f' : Frm) : Prop := f'.1 = f.1 ∧ (f.1 ≠ 1 → f'.2.2.1.1 = f.2.2.1.1 ∨ f.1 = 6) ∧ (f.1 = 3 → f'.2.2.1.2.1 = f.2.2.1.2.1)
structure Good (T : Int) (k : Nat) (C : Nat) (m : Me) (o : OM) (F : List Frm) (f : Frm) (r : Rest) (L : Loc) (o' : OM) : Prop where
  chg : Chg k m o L.m o'
  list : ∃ l, FL L.m l
  tag : tagI (nI L.m.1 0) ≤ T + 1
  stat : ∀ p, InN m p → statO (o' p) (nI L.m.2.1 p)
  core : CoreI L.m o' C k (F ++ L.fs, L.r)
  words : ∀ q, 0 < q → q < 128 → (∀ i, 0 ≤ i → i ≤ 2 → q ≠ slotP k i) → nI L.m.1 q = nI m.1 q
  cells : ∀ p j, InN m p → 1 ≤ j → j ≤ 3 → nI L.m.1 (lk p + j) = nI m.1 (lk p + j)
  own : ∀ p, InN m p → Way k (o p) (o' p)
  log : L.ev = [] ∨ L.ev = [((k : Int), 9, 0, 0, 0, ())]
  out : (∃ f', L.fs = [f'] ∧ Like f f' ∧ L.r = r) ∨ (∃ f' g, L.fs = [f', g] ∧ Like f f' ∧ (1 ≤ g.1 ∧ g.1 ≤ 8) ∧ L.r.1 = r.1 ∧ L.r.2.1 = r.2.1) ∨ (L.fs = [] ∧ Post k m f L.m o' L.r)

section
variable {T : Int} {k C : Nat} {m : Me} {o : OM} {F : List Frm} {f f' g : Frm} {r : Rest} {l : List Int}
theorem Chg.refl : Chg k m o m o := ⟨rfl, .inl ⟨rfl, fun _ _ _ => rfl⟩, fun _ _ _ _ _ _ => rfl, fun _ _ _ _ _ _ => rfl, fun _ p _ _ => same_owns p⟩
theorem Keeps.refl (r' : Rest) (h : rtL r' = rtL r) : Keeps k m o r m o r' := ⟨rfl, h, fun _ _ => Iff.rfl⟩
/-- Nothing but frames is changed. -/
theorem good_stay (hl : FL m l) (hT : tagI (nI m.1 0) ≤ T) (hs : ∀ p, InN m p → statO (o p) (nI m.2.1 p)) (hc : CoreI m o C k (F ++ [f], r)) (hk : Like f f') (ht : TopI m o C k r f') (hp : f.1 = 2 → f'.2.2.1.1 = f.2.2.1.1) : Good T k C m o F f r ⟨m, [f'], r, []⟩ o where
  chg := Chg.refl
  list := ⟨l, hl⟩
  tag := by show tagI (nI m.1 0) ≤ T + 1; omega
  stat := hs
  core := hc.set (Keeps.refl r rfl) hk.1 ht fun p x h1 h2 => by
    obtain ⟨F', f2, e, e1, e2⟩ := hc.push p x h1 h2
    have := (List.append_inj' (show F ++ [f] = F' ++ [f2] from e) rfl).2
    rw [List.cons.injEq] at this
    rw [← this.1] at e1 e2
    exact ⟨hk.1.trans e1, (hp e1).trans e2⟩
  words _ _ _ _ := rfl
  cells _ _ _ _ _ := rfl
  own _ _ := .inl rfl
  log := .inl rfl
  out := .inl ⟨f', rfl, hk, rfl⟩
theorem good_call (hl : FL m l) (hT : tagI (nI m.1 0) ≤ T) (hs : ∀ p, InN m p → statO (o p) (nI m.2.1 p)) (hc : CoreI m o C k (F ++ [f], r)) (hk : Like f f') (ht : TopI m o C k r g) (hrm : 1 + room g.1 ≤ room f.1) (hw : WaitI C (rtL r) f' g.1) (h2 : f.1 ≠ 2) (hg : 1 ≤ g.1 ∧ g.1 ≤ 8) : Good T k C m o F f r ⟨m, [f', g], r, []⟩ o where
  chg := Chg.refl
  list := ⟨l, hl⟩
  tag := by show tagI (nI m.1 0) ≤ T + 1; omega
  stat := hs
  core := hc.call (Keeps.refl r rfl) hk.1 ht hrm hw fun p x h1 h3 => absurd h3 (hc.noPush h2 p x h1)
  words _ _ _ _ := rfl
  cells _ _ _ _ _ := rfl
  own _ _ := .inl rfl
  log := .inl rfl
  out := .inr (.inl ⟨f', g, rfl, hk, hg, rfl, rfl⟩)
theorem good_back {r' : Rest} {ev : List Evt} (hl : FL m l) (hT : tagI (nI m.1 0) ≤ T) (hs : ∀ p, InN m p → statO (o p) (nI m.2.1 p)) (hc : CoreI m o C k (F ++ [f], r)) (hr : rtL r' = rtL r) (hpost : Post k m f m o r') (h2 : f.1 ≠ 2) (h6 : f.1 = 6 → (rtL r).length ≤ 3 * C) (hev : ev = [] ∨ ev = [((k : Int), 9, 0, 0, 0, ())]) : Good T k C m o F f r ⟨m, [], r', ev⟩ o where
  chg := Chg.refl
  list := ⟨l, hl⟩
  tag := by show tagI (nI m.1 0) ≤ T + 1; omega
  stat := hs
  core := by
    show CoreI m o C k (F ++ [], r')
    rw [List.append_nil]
    exact hc.back (Keeps.refl r' hr) (fun e => hpost.told (.inl e)) h6 fun p x h1 => hc.noPush h2 p x h1
  words _ _ _ _ := rfl
  cells _ _ _ _ _ := rfl
  own _ _ := .inl rfl
  log := hev
  out := .inr (.inr ⟨rfl, hpost⟩)
end

theorem stat_free {x : Own} (h : statO x 0) : x = .free := by
  cases x with
  | free => rfl
  | push c g => have h : (0 : Int) = g ∧ (g = 1 ∨ g = 2) := h; omega
  | _ => exact absurd h (by show ¬ (0 : Int) = _; decide)
theorem slotP_place {k : Nat} {i : Int} (hk : k < 8) (h0 : 0 ≤ i) (h1 : i ≤ 2) : placeI (k : Int) i = slotP k i := by
  unfold placeI
  rw [slotP_is, IntWalk.wrap64_in (3 * (k : Int)) (by omega), IntWalk.wrap64_in (8 + 3 * (k : Int)) (by omega), IntWalk.wrap64_in _ (by omega)]
section
variable {T : Int} {k C : Nat} {m : Me} {o : OM} {F : List Frm} {f f' g : Frm} {r : Rest} {l : List Int}
theorem Stk.topOf (h : CoreI m o C k (F ++ [f], r)) : TopI m o C k r f := by
  have := h.st
  rw [rev_one] at this
  exact this.1
theorem Stk.waits (h : CoreI m o C k (F ++ [f], r)) : Wt C (rtL r) f.1 F.reverse := by
  have := h.st
  rw [rev_one] at this
  exact this.2.2
/-- A word of one's own is set. -/
theorem good_word {q v : Int} {fs : List Frm} {r' : Rest} (hl : FL m l) (hT : tagI (nI m.1 0) ≤ T) (hs : ∀ p, InN m p → statO (o p) (nI m.2.1 p)) (hq : (∃ i, 0 ≤ i ∧ i ≤ 2 ∧ q = slotP k i ∧ k < 8) ∨ (∃ p, q = lk p ∧ InN m p ∧ ∃ x, o p = .push k x))
    (hc : CoreI (setW m q v) o C k (F ++ fs, r'))
    (hout : (∃ f', fs = [f'] ∧ Like f f' ∧ r' = r) ∨ (fs = [] ∧ Post k m f (setW m q v) o r')) : Good T k C m o F f r ⟨setW m q v, fs, r', []⟩ o where
  chg := by
    refine ⟨rfl, .inl ?_, fun c i hck h8 h0 h2 => ?_, fun c p x hck hp hx => ?_, fun _ p _ _ => same_owns p⟩
    · rcases hq with ⟨i, a, b, rfl, _⟩ | ⟨p, rfl, hp, x, hx⟩
      · have := slotP_is k i
        exact ⟨setW_ne (by omega) (by omega) (by omega), fun p hp _ => by have := hp.1; have := lk_is p; exact setW_ne (by omega) (by omega) (by omega)⟩
      · have := lk_is p
        have := hp.1
        refine ⟨setW_ne (by omega) (by omega) (by omega), fun p2 hp2 h2 => ?_⟩
        have := lk_is p2
        have := hp2.1
        refine setW_ne (by omega) (by omega) fun e => ?_
        obtain rfl : p2 = p := by omega
        have := hs p2 hp
        rw [hx, h2] at this
        have : (0 : Int) = x ∧ (x = 1 ∨ x = 2) := this
        omega
    · have h3 := slotP_is c i
      rcases hq with ⟨j, a, b, rfl, _⟩ | ⟨p, rfl, hp, x, hx⟩
      · have := slotP_is k j
        exact setW_ne (by omega) (by omega) (by omega)
      · have := lk_is p
        have := hp.1
        exact setW_ne (by omega) (by omega) (by omega)
    · have h3 := lk_is p
      have := hp.1
      rcases hq with ⟨j, a, b, rfl, _⟩ | ⟨p2, rfl, hp2, x2, hx2⟩
      · have := slotP_is k j
        exact setW_ne (by omega) (by omega) (by omega)
      · have := lk_is p2
        have := hp2.1
        refine setW_ne (by omega) (by omega) fun e => ?_
        obtain rfl : p2 = p := by omega
        rw [hx] at hx2
        exact hck (Own.push.inj hx2).1
  list := by
    refine ⟨l, hl.setW ?_ fun p hp => ?_⟩
    · rcases hq with ⟨i, a, b, rfl, _⟩ | ⟨p, rfl, hp, x, hx⟩
      · have := slotP_is k i; omega
      · have := lk_is p; have := hp.1; omega
    · have h1 := (hl.mem p).1 hp
      have := lk_is p
      rcases hq with ⟨i, a, b, rfl, _⟩ | ⟨p2, rfl, hp2, x, hx⟩
      · have := slotP_is k i; omega
      · intro e
        have := lk_is p2
        obtain rfl : p2 = p := by omega
        have := hs p2 hp2
        rw [hx, h1.2.2] at this
        have : (0 : Int) = x ∧ (x = 1 ∨ x = 2) := this
        omega
  tag := by
    have : nI (setW m q v).1 0 = nI m.1 0 := by
      rcases hq with ⟨i, a, b, rfl, _⟩ | ⟨p, rfl, hp, x, hx⟩
      · have := slotP_is k i; exact setW_ne (by omega) (by omega) (by omega)
      · have := lk_is p; have := hp.1; exact setW_ne (by omega) (by omega) (by omega)
    rw [this]; omega
  stat := hs
  core := hc
  words q2 h0 h1 h2 := by
    rcases hq with ⟨i, a, b, rfl, _⟩ | ⟨p, rfl, hp, x, hx⟩
    · have := slotP_is k i; exact setW_ne (by omega) (by omega) fun e => h2 i a b e.symm
    · have := lk_is p; have := hp.1; exact setW_ne (by omega) (by omega) (by omega)
  cells p j hp h1 h3 := by
    have := lk_is p
    have := hp.1
    rcases hq with ⟨i, a, b, rfl, _⟩ | ⟨p2, rfl, hp2, x, hx⟩
    · have := slotP_is k i; exact setW_ne (by omega) (by omega) (by omega)
    · have := lk_is p2; have := hp2.1; exact setW_ne (by omega) (by omega) (by omega)
  own _ _ := .inl rfl
  log := .inl rfl
  out := hout.imp id .inr
theorem good_pop {pc : Int} {g : R8} {S : Li} (hl : FL m l) (hT : tagI (nI m.1 0) ≤ T) (hT2 : T < 1000000000) (hs : ∀ p, InN m p → statO (o p) (nI m.2.1 p)) (hc : CoreI m o C k (F ++ [((1 : Int), pc, g, S, ())], r)) :
    ∃ o', Good T k C m o F ((1 : Int), pc, g, S, ()) r (lPop k m pc g S r) o' := by
  have ht := Stk.topOf hc
  obtain ⟨e1, e2⟩ := load_word (m := m) (p := 0) (by decide) (by decide) hl.fits
  have hglen := hl.fits.2
  rcases ht.pop rfl with hp | ⟨hp, hst, hlk⟩
  · obtain rfl : pc = 0 := hp
    unfold lPop
    rw [if_pos rfl, e1, e2]
    by_cases hi : idxI (nI m.1 0) = 0
    · rw [if_pos hi]
      exact ⟨o, good_back hl hT hs hc rfl ⟨fun _ => .inr rfl, fun _ _ => hi, fun e => nope e rfl⟩ (fun e => nope e rfl) (fun e => nope e rfl) (.inr rfl)⟩
    · rw [if_neg hi]
      have hin := (hl.headIn hi).1
      refine ⟨o, good_stay hl hT hs hc ⟨rfl, fun e => absurd rfl e, fun e => nope e rfl⟩ ?_ (fun e => nope e rfl)⟩
      exact topPop rfl (.inr ⟨.inl rfl, ⟨hin, .inl rfl⟩, fun e => nope e rfl⟩)
  rcases hp with hp | hp
  · obtain rfl : pc = 1 := hp
    have hin : InN m (idxI g.1) := hst.1
    unfold lPop
    rw [if_neg (by decide), if_pos rfl, atI_link hin.1 (by have := hin.2; omega)]
    obtain ⟨e3, e4⟩ := load_link hin.1 hin.2 hl.fits
    rw [e3, e4]
    refine ⟨o, good_stay hl hT hs hc ⟨rfl, fun e => absurd rfl e, fun e => nope e rfl⟩ ?_ (fun e => nope e rfl)⟩
    exact topPop rfl (.inr ⟨.inr rfl, hst, fun _ _ => rfl⟩)
  · obtain rfl : pc = 2 := hp
    have hin : InN m (idxI g.1) := hst.1
    unfold lPop
    rw [if_neg (by decide), if_neg (by decide), if_pos rfl]
    by_cases hb : casB m 0 g.1 = true
    · rw [if_pos hb]
      have hw : nI m.1 0 = g.1 := (of_decide_eq_true hb).2.2
      have hne : idxI (nI m.1 0) ≠ 0 := by rw [hw]; have := hin.1; omega
      obtain ⟨q1, q2, l', rfl⟩ := hl.headIn hne
      have hlink : g.2.1 = nI m.1 (lk (idxI g.1)) := hlk rfl hw.symm
      rw [hw] at q1 q2 hl
      have ho : o (idxI g.1) = .free := stat_free (by have := hs _ q1; rw [q2] at this; exact this)
      have hm : turnM (casM m 0 g.1 (popN g)) (idxI g.1) 1 = popM m (idxI g.1) := by
        have hcm : casM m 0 g.1 (popN g) = storeM m 0 (popN g) := if_pos (of_decide_eq_true hb)
        rw [hcm, store_word (by decide) (by decide) hl.fits, turnM_ok (m := (List.set (α := Int) m.1 (0 : Int).toNat (popN g), m.2)) (show InN m _ from q1) (by show turnB (nI m.2.1 (idxI g.1)) 1 = true; rw [q2]; decide)]
        unfold popM setG popN
        rw [hw, hlink]
        rfl
      rw [hm]
      have hfl := hl.popped
      have hpm : popM m (idxI g.1) = setG (setW m 0 (nextI (nI m.1 0) (nI m.1 (lk (idxI g.1))) 0)) (idxI g.1) 1 := rfl
      have hlr := Chain.range (n := m.2.1.length) hl.head.2 (fun q hq => by have := (hl.mem q).1 (List.mem_cons_of_mem _ hq); omega) (by have := q1.1; have := q1.2; omega)
      have e0 : nI (popM m (idxI g.1)).1 0 = nextI (nI m.1 0) (nI m.1 (lk (idxI g.1))) 0 := by rw [hpm]; exact setW_self (m := m) (by decide) (by have := hl.fits.1; omega)
      have hne0 : ∀ q : Int, 0 < q → nI (popM m (idxI g.1)).1 q = nI m.1 q := fun q hq => by rw [hpm]; exact setW_ne (m := m) (by decide) (by omega) (by omega)
      have htag : tagI (nI (popM m (idxI g.1)).1 0) = tagI (nI m.1 0) + 1 := by
        rw [e0, tag_next (by omega) (by omega)]
        have : 0 ≤ tagI (nI m.1 0) := by unfold tagI; omega
        omega
      have hgl : (popM m (idxI g.1)).2.1.length = m.2.1.length := List.length_set
      have hfree : Mine k (o (idxI g.1)) := by rw [ho]; trivial
      refine ⟨upd o (idxI g.1) (.fresh k), ?_⟩
      exact {
        chg := ⟨hgl, .inr htag, fun c i hck h8 h0 h2 => hne0 _ (by have := slotP_is c i; omega), fun c p x hck hp hx => hne0 _ (by have := lk_is p; have := hp.1; omega), fun c p hck _ => upd_owns hfree (show Mine k (.fresh k) from rfl) hck p⟩
        list := ⟨l', hfl⟩
        tag := by show tagI (nI (popM m (idxI g.1)).1 0) ≤ _; omega
        stat := fun p hp => by
          show statO _ (nI (setG m (idxI g.1) 1).2.1 p)
          by_cases e : p = idxI g.1
          · subst e
            rw [upd_self, setG_self (by have := hp.1; omega) hp.2]; rfl
          · rw [upd_ne e, setG_ne (by have := q1.1; omega) (by have := hp.1; omega) (fun h => e h.symm)]
            exact hs p hp
        core := by
          show CoreI (popM m (idxI g.1)) _ C k (F ++ [], _)
          rw [List.append_nil]
          refine hc.back (r' := (idxI g.1, 0, r.2.2)) ⟨hgl, rfl, fun p hp => ?_⟩ (fun _ => .inl ⟨rfl, by unfold InN; rw [hgl]; exact q1, upd_self⟩) (fun e => nope e rfl) fun p x h1 h3 => ?_
          · by_cases e : p = idxI g.1
            · subst e
              rw [upd_self, ho]
              exact ⟨fun e => (nomatch e), fun e => (nomatch e)⟩
            · rw [upd_ne e]
          · by_cases e : p = idxI g.1
            · subst e
              rw [upd_self] at h3
              cases h3
            · rw [upd_ne e] at h3
              exact hc.noPush (fun e => nope e rfl) p x h1 h3
        words := fun q h0 _ _ => hne0 q h0
        cells := fun p j hp h1 h3 => hne0 _ (by have := lk_is p; have := hp.1; omega)
        own := fun p hp => by
          by_cases e : p = idxI g.1
          · subst e
            rw [upd_self, ho]
            exact .inr (.inl ⟨rfl, rfl⟩)
          · rw [upd_ne e]
            exact .inl rfl
        log := .inl rfl
        out := .inr (.inr ⟨rfl, ⟨fun _ => .inl ⟨rfl, by unfold InN; rw [hgl]; exact q1, upd_self⟩, fun _ e => absurd rfl e, fun e => nope e rfl⟩⟩) }
    · rw [if_neg hb]
      have hcm : casM m 0 g.1 (popN g) = m := by
        rw [show casM m 0 g.1 (popN g) = loadM m 0 from if_neg (fun e => hb (decide_eq_true e)), e1]
      rw [hcm]
      refine ⟨o, good_stay hl hT hs hc ⟨rfl, fun e => absurd rfl e, fun e => nope e rfl⟩ ?_ (fun e => nope e rfl)⟩
      exact topPop rfl (.inl rfl)
end

section
variable {T : Int} {k C : Nat} {m : Me} {o : OM} {F : List Frm} {f f' g : Frm} {r : Rest} {l : List Int}
theorem good_push {pc : Int} {g : R8} {S : Li} (hk8 : k < 8) (hl : FL m l) (hT : tagI (nI m.1 0) ≤ T) (hT2 : T < 1000000000) (hs : ∀ p, InN m p → statO (o p) (nI m.2.1 p)) (hc : CoreI m o C k (F ++ [((2 : Int), pc, g, S, ())], r)) :
    ∃ o', Good T k C m o F ((2 : Int), pc, g, S, ()) r (lPush m pc g S r) o' := by
  have ht := Stk.topOf hc
  obtain ⟨e1, e2⟩ := load_word (m := m) (p := 0) (by decide) (by decide) hl.fits
  have hglen := hl.fits.2
  obtain ⟨hin, ⟨x, hx⟩, hp⟩ := ht.push rfl
  replace hin : InN m g.1 := hin
  replace hx : o g.1 = .push k x := hx
  have hgx : nI m.2.1 g.1 = x ∧ (x = 1 ∨ x = 2) := by have := hs _ hin; rw [hx] at this; exact this
  rcases hp with hp | hp | ⟨hp, hlk⟩
  · obtain rfl : pc = 0 := hp
    unfold lPush
    rw [if_pos rfl, e1, e2]
    exact ⟨o, good_stay hl hT hs hc ⟨rfl, fun _ => .inl rfl, fun e => nope e rfl⟩ (topPush rfl ⟨hin, ⟨x, hx⟩, .inr (.inl rfl)⟩) fun _ => rfl⟩
  · obtain rfl : pc = 1 := hp
    unfold lPush
    rw [if_neg (by decide), if_pos rfl, atI_link hin.1 (by have := hin.2; omega), store_link hin.1 hin.2 hl.fits]
    have hb := hl.fits.1
    have h1 := hin.1
    have h2 := hin.2
    have hlk := lk_is g.1
    refine ⟨o, good_word (q := lk g.1) (v := idxI g.2.1) hl hT hs (.inr ⟨g.1, rfl, hin, x, hx⟩) ?_ (.inl ⟨_, rfl, ⟨rfl, fun _ => .inl rfl, fun e => nope e rfl⟩, rfl⟩)⟩
    refine hc.set (m' := setW m (lk g.1) (idxI g.2.1)) ⟨rfl, rfl, fun _ _ => Iff.rfl⟩ rfl (topPush rfl ⟨hin, ⟨x, hx⟩, .inr (.inr ⟨rfl, setW_self (by omega) (by omega)⟩)⟩) fun p y h1 h3 => ?_
    obtain ⟨F', f2, e, _, e3⟩ := hc.push p y h1 h3
    have := (List.append_inj' (show F ++ [_] = F' ++ [f2] from e) rfl).2
    rw [List.cons.injEq] at this
    rw [← this.1] at e3
    exact ⟨rfl, e3⟩
  · obtain rfl : pc = 2 := hp
    replace hlk : nI m.1 (lk g.1) = idxI g.2.1 := hlk
    unfold lPush
    rw [if_neg (by decide), if_neg (by decide), if_pos rfl]
    by_cases hb : casB m 0 g.2.1 = true
    · rw [if_pos hb]
      have hw : nI m.1 0 = g.2.1 := (of_decide_eq_true hb).2.2
      have hlen := hl.fits.1
      have h1 := hin.1
      have h2 := hin.2
      have hlki := lk_is g.1
      have hpm : pushM m g.1 = setG (setW m 0 (nextI (nI m.1 0) g.1 0)) g.1 0 := by
        have : setW m (lk g.1) (idxI (nI m.1 0)) = m := setW_same (by omega) (by omega) (by rw [hw]; exact hlk)
        unfold pushM setG setW
        rw [show List.set (α := Int) m.1 (lk g.1).toNat (idxI (nI m.1 0)) = m.1 from congrArg Prod.fst this]
        rfl
      have hm : turnM (casM m 0 g.2.1 (pushN g)) g.1 0 = pushM m g.1 := by
        have hcm : casM m 0 g.2.1 (pushN g) = storeM m 0 (pushN g) := if_pos (of_decide_eq_true hb)
        rw [hcm, store_word (by decide) (by decide) hl.fits, turnM_ok (m := (List.set (α := Int) m.1 (0 : Int).toNat (pushN g), m.2)) hin (by
          show turnB (nI m.2.1 g.1) 0 = true
          rcases hgx with ⟨a, b | b⟩ <;> rw [a, b] <;> decide), hpm]
        unfold pushN setW
        rw [hw]
      rw [hm]
      have hfl := hl.pushed hin.1 hin.2 (by rw [hgx.1]; omega)
      have e0 : nI (pushM m g.1).1 0 = nextI (nI m.1 0) g.1 0 := by rw [hpm]; exact setW_self (m := m) (by decide) (by omega)
      have hne0 : ∀ q : Int, 0 < q → nI (pushM m g.1).1 q = nI m.1 q := fun q hq => by rw [hpm]; exact setW_ne (m := m) (by decide) (by omega) (by omega)
      have htag : tagI (nI (pushM m g.1).1 0) = tagI (nI m.1 0) + 1 := by
        rw [e0, tag_next (by omega) (by omega)]
        have : 0 ≤ tagI (nI m.1 0) := by unfold tagI; omega
        omega
      have hgl : (pushM m g.1).2.1.length = m.2.1.length := List.length_set
      have hmine : Mine k (o g.1) := by rw [hx]; exact rfl
      refine ⟨upd o g.1 .free, ?_⟩
      exact {
        chg := ⟨hgl, .inr htag, fun c i hck h8 h0 h2 => hne0 _ (by have := slotP_is c i; omega), fun c p x hck hp hx => hne0 _ (by have := lk_is p; have := hp.1; omega), fun c p hck _ => upd_owns hmine (show Mine k .free from trivial) hck p⟩
        list := ⟨_, hfl⟩
        tag := by show tagI (nI (pushM m g.1).1 0) ≤ _; omega
        stat := fun p hp => by
          show statO _ (nI (pushM m g.1).2.1 p)
          rw [hpm]
          show statO _ (nI (setG m g.1 0).2.1 p)
          by_cases e : p = g.1
          · subst e
            rw [upd_self, setG_self (by omega) hp.2]; rfl
          · rw [upd_ne e, setG_ne (by omega) (by have := hp.1; omega) (fun h => e h.symm)]
            exact hs p hp
        core := by
          show CoreI (pushM m g.1) _ C k (F ++ [], _)
          rw [List.append_nil]
          refine hc.back (r' := (g.1, 0, r.2.2)) ⟨hgl, rfl, fun p hp => ?_⟩ (fun e => nope e rfl) (fun e => nope e rfl) fun p y h1 h3 => ?_
          · by_cases e : p = g.1
            · subst e
              rw [upd_self, hx]
              exact ⟨fun e => (nomatch e), fun e => (nomatch e)⟩
            · rw [upd_ne e]
          · by_cases e : p = g.1
            · subst e
              rw [upd_self] at h3
              cases h3
            · rw [upd_ne e] at h3
              obtain ⟨F', f2, e', _, e3⟩ := hc.push p y h1 h3
              have := (List.append_inj' (show F ++ [_] = F' ++ [f2] from e') rfl).2
              rw [List.cons.injEq] at this
              rw [← this.1] at e3
              exact e e3.symm
        words := fun q h0 _ _ => hne0 q h0
        cells := fun p j hp h1 h3 => hne0 _ (by have := lk_is p; have := hp.1; omega)
        own := fun p hp => by
          by_cases e : p = g.1
          · subst e
            rw [upd_self, hx]
            exact .inr (.inr (.inr (.inr (.inr ⟨⟨x, rfl⟩, rfl⟩))))
          · rw [upd_ne e]
            exact .inl rfl
        log := .inl rfl
        out := .inr (.inr ⟨rfl, ⟨fun e => e.elim (fun e => nope e rfl) fun e => nope e rfl, fun e => nope e rfl, fun e => nope e rfl⟩⟩) }
    · rw [if_neg hb]
      have hcm : casM m 0 g.2.1 (pushN g) = m := by
        rw [show casM m 0 g.2.1 (pushN g) = loadM m 0 from if_neg (fun e => hb (decide_eq_true e)), e1]
      rw [hcm]
      exact ⟨o, good_stay hl hT hs hc ⟨rfl, fun _ => .inl rfl, fun e => nope e rfl⟩ (topPush rfl ⟨hin, ⟨x, hx⟩, .inl rfl⟩) fun _ => rfl⟩
theorem good_prot {pc : Int} {g : R8} {S : Li} (hk8 : k < 8) (hl : FL m l) (hT : tagI (nI m.1 0) ≤ T) (hs : ∀ p, InN m p → statO (o p) (nI m.2.1 p)) (hc : CoreI m o C k (F ++ [((3 : Int), pc, g, S, ())], r)) :
    ∃ o', Good T k C m o F ((3 : Int), pc, g, S, ()) r (lProt k m pc g S r) o' := by
  have ht := Stk.topOf hc
  obtain ⟨⟨a0, a1, b0, b1⟩, hp⟩ := ht.prot rfl
  replace a0 : (0 : Int) ≤ g.1 := a0
  replace a1 : @LT.lt Int _ g.1 124 := a1
  replace b0 : (0 : Int) ≤ g.2.1 := b0
  replace b1 : @LE.le Int _ g.2.1 2 := b1
  obtain ⟨e1, e2⟩ := load_word a0 a1 hl.fits
  rcases hp with hp | hp | ⟨hp, hslot⟩
  · obtain rfl : pc = 0 := hp
    unfold lProt
    rw [if_pos rfl, e1, e2]
    by_cases hi : idxI (nI m.1 g.1) = 0
    · rw [if_pos hi]
      exact ⟨o, good_back hl hT hs hc rfl ⟨fun e => e.elim (fun e => nope e rfl) fun e => nope e rfl, fun e => nope e rfl, fun _ => ⟨rfl, .inl hi⟩⟩ (fun e => nope e rfl) (fun e => nope e rfl) (.inl rfl)⟩
    · rw [if_neg hi]
      exact ⟨o, good_stay hl hT hs hc ⟨rfl, fun _ => .inl rfl, fun _ => rfl⟩ (topProt rfl ⟨⟨a0, a1, b0, b1⟩, .inr (.inl rfl)⟩) (fun e => nope e rfl)⟩
  · obtain rfl : pc = 1 := hp
    unfold lProt
    have hsl := slotP_is k g.2.1
    have hlen := hl.fits.1
    rw [if_neg (by decide), if_pos rfl, slotP_place hk8 b0 b1, store_word (by omega) (by omega) hl.fits]
    refine ⟨o, good_word (q := slotP k g.2.1) (v := idxI g.2.2.1) hl hT hs (.inl ⟨_, b0, b1, rfl, hk8⟩) ?_ (.inl ⟨_, rfl, ⟨rfl, fun _ => .inl rfl, fun _ => rfl⟩, rfl⟩)⟩
    exact hc.set (m' := setW m (slotP k g.2.1) (idxI g.2.2.1)) ⟨rfl, rfl, fun _ _ => Iff.rfl⟩ rfl (topProt rfl ⟨⟨a0, a1, b0, b1⟩, .inr (.inr ⟨rfl, setW_self (by omega) (by omega)⟩)⟩) fun p y h1 h3 => absurd h3 (hc.noPush (fun e => nope e rfl) p y h1)
  · obtain rfl : pc = 2 := hp
    replace hslot : nI m.1 (slotP k g.2.1) = idxI g.2.2.1 := hslot
    unfold lProt
    rw [if_neg (by decide), if_neg (by decide), if_pos rfl, e1, e2]
    by_cases hi : nI m.1 g.1 = c8 g ∨ idxI (nI m.1 g.1) = 0
    · rw [if_pos hi]
      refine ⟨o, good_back hl hT hs hc rfl ⟨fun e => e.elim (fun e => nope e rfl) fun e => nope e rfl, fun e => nope e rfl, fun _ => ⟨rfl, ?_⟩⟩ (fun e => nope e rfl) (fun e => nope e rfl) (.inl rfl)⟩
      rcases hi with hi | hi
      · right
        show nI m.1 (slotP k g.2.1) = idxI (nI m.1 g.1)
        rw [hi]
        exact hslot
      · exact .inl hi
    · rw [if_neg hi]
      exact ⟨o, good_stay hl hT hs hc ⟨rfl, fun _ => .inl rfl, fun _ => rfl⟩ (topProt rfl ⟨⟨a0, a1, b0, b1⟩, .inr (.inl rfl)⟩) (fun e => nope e rfl)⟩
theorem good_clear {pc : Int} {g : R8} {S : Li} (hk8 : k < 8) (hl : FL m l) (hT : tagI (nI m.1 0) ≤ T) (hs : ∀ p, InN m p → statO (o p) (nI m.2.1 p)) (hc : CoreI m o C k (F ++ [((4 : Int), pc, g, S, ())], r)) :
    ∃ o', Good T k C m o F ((4 : Int), pc, g, S, ()) r (lClear k m pc g S r) o' := by
  have ht := Stk.topOf hc
  have hp : 0 ≤ pc ∧ pc ≤ 2 := ht.clear rfl
  have hsl := slotP_is k pc
  have hlen := hl.fits.1
  unfold lClear
  rw [if_pos (by omega), slotP_place hk8 hp.1 hp.2, store_word (by omega) (by omega) hl.fits]
  have hnp : ∀ p x, InN m p → o p ≠ .push k x := hc.noPush (fun e => nope e rfl)
  by_cases h2 : pc = 2
  · rw [if_pos h2]
    refine ⟨o, good_word (q := slotP k pc) (v := 0) (fs := []) (r' := (0, 0, r.2.2)) hl hT hs (.inl ⟨_, hp.1, hp.2, rfl, hk8⟩) ?_ (.inr ⟨rfl, fun e => e.elim (fun e => nope e rfl) fun e => nope e rfl, fun e => nope e rfl, fun e => nope e rfl⟩)⟩
    rw [List.append_nil]
    exact hc.back (m' := setW m (slotP k pc) 0) (r' := (0, 0, r.2.2)) ⟨rfl, rfl, fun _ _ => Iff.rfl⟩ (fun e => nope e rfl) (fun e => nope e rfl) hnp
  · rw [if_neg h2]
    refine ⟨o, good_word (q := slotP k pc) (v := 0) hl hT hs (.inl ⟨_, hp.1, hp.2, rfl, hk8⟩) ?_ (.inl ⟨_, rfl, ⟨rfl, fun _ => .inl rfl, fun e => nope e rfl⟩, rfl⟩)⟩
    exact hc.set (m' := setW m (slotP k pc) 0) ⟨rfl, rfl, fun _ _ => Iff.rfl⟩ rfl (topClear rfl ⟨by show 0 ≤ pc + 1; omega, by show pc + 1 ≤ 2; omega⟩) fun p y h1 h3 => absurd h3 (hnp p y h1)
end
end Go.Proofs.YtpobngddiifdpaaGreat.V
