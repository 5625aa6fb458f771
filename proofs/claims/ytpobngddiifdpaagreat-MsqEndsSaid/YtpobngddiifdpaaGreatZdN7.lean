/- Queues: putting in, step by step. -/
import Derived.Test.YtpobngddiifdpaaGreatZdN6
set_option linter.unusedSimpArgs false
set_option linter.unusedVariables false
namespace Go.Proofs.YtpobngddiifdpaaGreat.V
open Go Go.RowKit Go.Proofs.YtpobngddiifdpaaGreat.Hz
set_option maxRecDepth 100000

section
variable {m : Me} {p j v : Int}
theorem badB_cell (hj : 1 ≤ j ∧ j ≤ 3) (hp : InN m p) (hg : nI m.2.1 p ≠ 0) (hf : Fits m) (hgood : m.2.2.1 = false) : badB m (lk p + j) = m.2.2.1 := by
  have hk := lk_is p
  have h1 := hp.1
  have h2 := hp.2
  have hlen := hf.1
  have hn : nodeI m.2.1.length (lk p + j) = p := by unfold nodeI; rw [if_pos (by omega)]; omega
  rw [badB_in (by omega) hgood, hn, decide_eq_false hg, Bool.and_false, hgood]
theorem atI_cell (hj : 1 ≤ j ∧ j ≤ 3) (hp : InN m p) (hf : Fits m) : atI p j = lk p + j := by
  have h1 := hp.1
  have h2 := hp.2
  have hlen := hf.2
  rw [atI_is (by omega) (by omega) (by omega) (by omega), lk_is]
theorem load_cell (hj : 1 ≤ j ∧ j ≤ 3) (hp : InN m p) (hg : nI m.2.1 p ≠ 0) (hf : Fits m) (hgood : m.2.2.1 = false) : loadM m (atI p j) = m ∧ loadI m (atI p j) = nI m.1 (lk p + j) := by
  have hk := lk_is p
  have h1 := hp.1
  have h2 := hp.2
  have hlen := hf.1
  rw [atI_cell hj hp hf]
  exact ⟨by unfold loadM; rw [badB_cell hj hp hg hf hgood], if_neg (by omega)⟩
theorem store_cell (hj : 1 ≤ j ∧ j ≤ 3) (hp : InN m p) (hg : nI m.2.1 p ≠ 0) (hf : Fits m) (hgood : m.2.2.1 = false) : storeM m (atI p j) v = setW m (lk p + j) v := by
  have hk := lk_is p
  have h1 := hp.1
  have h2 := hp.2
  have hlen := hf.1
  rw [atI_cell hj hp hf]
  show (if lk p + j < 0 ∨ (m.1.length : Int) ≤ lk p + j then _ else _) = _
  rw [if_neg (by omega), badB_cell hj hp hg hf hgood]
  rfl
theorem cas_cell (hj : 1 ≤ j ∧ j ≤ 3) (hp : InN m p) (hg : nI m.2.1 p ≠ 0) (hf : Fits m) (hgood : m.2.2.1 = false) (w : Int) :
    (nI m.1 (lk p + j) = w ∧ casB m (atI p j) w = true ∧ casM m (atI p j) w v = setW m (lk p + j) v) ∨ (nI m.1 (lk p + j) ≠ w ∧ casB m (atI p j) w = false ∧ casM m (atI p j) w v = m) := by
  have hk := lk_is p
  have h1 := hp.1
  have h2 := hp.2
  have hlen := hf.1
  have ha := atI_cell hj hp hf
  by_cases c : nI m.1 (lk p + j) = w
  · left
    have hyes : 0 ≤ atI p j ∧ atI p j < m.1.length ∧ nI m.1 (atI p j) = w := by rw [ha]; exact ⟨by omega, by omega, c⟩
    exact ⟨c, decide_eq_true hyes, (if_pos hyes).trans (store_cell hj hp hg hf hgood)⟩
  · right
    have hno : ¬ (0 ≤ atI p j ∧ atI p j < m.1.length ∧ nI m.1 (atI p j) = w) := fun e => c (by rw [← ha]; exact e.2.2)
    exact ⟨c, decide_eq_false hno, (if_neg hno).trans (load_cell hj hp hg hf hgood).1⟩
theorem cas_word {a w : Int} (h0 : 0 ≤ a) (h1 : a < 124) (hf : Fits m) :
    (nI m.1 a = w ∧ casB m a w = true ∧ casM m a w v = setW m a v) ∨ (nI m.1 a ≠ w ∧ casB m a w = false ∧ casM m a w v = m) := by
  have hlen := hf.1
  by_cases c : nI m.1 a = w
  · left
    have hyes : 0 ≤ a ∧ a < m.1.length ∧ nI m.1 a = w := ⟨h0, by omega, c⟩
    exact ⟨c, decide_eq_true hyes, (if_pos hyes).trans (store_word h0 h1 hf)⟩
  · right
    have hno : ¬ (0 ≤ a ∧ a < m.1.length ∧ nI m.1 a = w) := fun e => c e.2.2
    exact ⟨c, decide_eq_false hno, (if_neg hno).trans (load_word h0 h1 hf).1⟩
end
/-- What a step tells, and does to the queues. -/
inductive Eff (k : Nat) (N : NQ) (m : Me) (N' : NQ) (m' : Me) (ev : List Evt) : Prop
  | none (h : ev = []) (e : N' = N)
  | enq {q n v : Int} (hq : IsQ q) (h : ev = [((k : Int), 1, q, 0, v, ())]) (e : N' = updQ N q (N q ++ [n])) (hv : vl m' n = v)
  | deq {q x p v : Int} {l : List Int} (hq : IsQ q) (h : ev = [((k : Int), 2, q, 0, v, ())]) (hN : N q = x :: p :: l) (e : N' = updQ N q (p :: l)) (hv : vl m p = v)
  | empty {q x : Int} (hq : IsQ q) (h : ev = [((k : Int), 3, q, 0, 0, ())]) (hN : N q = [x]) (e : N' = N)
/-- Whose a node is behind a step. -/
def Whose (k : Nat) (o o' : OM) (L : Loc) (p : Int) : Prop := o' p = o p ∨ (o p = .fresh k ∧ o' p = .shared) ∨ (o p = .shared ∧ o' p = .gone k ∧ ∃ f', L.fs = [f', frm0 5 p 0 0])
/-- A step of a queue's op: behind it all is as it should be, and nothing but this has taken effect. -/
structure After (T : Int) (o : OM) (s : Sy) (N : NQ) (k : Nat) (L : Loc) : Prop where
  ex : ∃ o' N', MsI (T + 1) o' (L.into s k []) N' ∧ Eff k N s.1 N' L.m L.ev ∧ (∀ q p, IsQ q → p ∈ N q → vl L.m p = vl s.1 p) ∧ (∀ q, IsQ q → (hdW L.m q = hdW s.1 q ∨ idxI (hdW L.m q) = idxI (nx s.1 (idxI (hdW s.1 q)))) ∧ (tlW L.m q = tlW s.1 q ∨ N' = N ∧ idxI (tlW L.m q) = idxI (nx s.1 (idxI (tlW s.1 q))))) ∧ ∀ p, InN s.1 p → Whose k o o' L p
section
variable {T : Int} {o o' : OM} {s : Sy} {N N' : NQ} {k : Nat} {f : Frm} {r : Rest} {L : Loc}
/-- A word is set, or nothing. -/
theorem MsI.goes (h : MsI T o s N) (hT : T < 1000000000) (hk : k < s.2.1.length) (hc : cAt s.2.1 k = ([f], r)) (h8 : ¬ f.1 ≤ 8) (hm : L.m = s.1 ∨ ∃ a v, L.m = setW s.1 a v ∧ 0 < a ∧ ∀ p, 1 ≤ p → a ≠ lk p) (hst : ∀ p, InN s.1 p → o' p = o p ∨ (o p = .fresh k ∧ o' p = .shared) ∨ (o p = .shared ∧ o' p = .gone k)) (hR : rtL L.r = rtL r)
    (hfs : L.fs = [] ∨ (∃ f', L.fs = [f'] ∧ f'.1 = f.1) ∨ ∃ f' g, L.fs = [f', g] ∧ f'.1 = f.1 ∧ TopI L.m o' s.2.1.length k L.r g)
    (hq : QChg k s.1 o N s.2.1 L.m o' N' (List.set (α := Cor) s.2.1 ((k : Nat) : Int).toNat (L.fs, L.r)) ∧ QsI L.m o' N') (htags : ∀ q, IsQ q → tagI (hdW L.m q) ≤ T + 1 ∧ tagI (tlW L.m q) ≤ T + 1)
    (hcore : CoQ L.m o' (List.set (α := Cor) s.2.1 ((k : Nat) : Int).toNat (L.fs, L.r)) N' k (L.fs, L.r)) : MsI (T + 1) o' (L.into s k []) N' := by
  obtain ⟨l, hl⟩ := h.mm.list
  have hcr := h.mm.core k hk
  rw [hc] at hcr
  have hnp := CoreI.noPush (F := []) hcr (fun e => h8 (by rw [e]; decide))
  have hG : L.m.2 = s.1.2 := by
    rcases hm with e | ⟨a, v, e, _⟩
    · rw [e]
    · rw [e]; rfl
  refine h.client hk hc h8 ?_ ?_ (fun p hp => ?_) hR (fun p hp => ?_) (fun p x hp hx => ?_) hfs hq.1 hq.2 htags hcore
  · rcases hm with e | ⟨a, v, e, e1, e2⟩
    · rw [e]; exact ⟨l, hl⟩
    · rw [e]; exact ⟨l, hl.setW e1 fun p hp => e2 p ((hl.mem p).1 hp).1⟩
  · rcases hm with e | ⟨a, v, e, e1, e2⟩
    · rw [e]; have := h.mm.tag; omega
    · rw [e, show nI (setW s.1 a v).1 0 = nI s.1.1 0 from setW_ne (by omega) (by decide) (by omega)]
      have := h.mm.tag; omega
  · have hs := h.mm.stat p hp
    rw [hG]
    rcases hst p hp with e | ⟨e, e'⟩ | ⟨e, e'⟩
    · rw [e]; exact hs
    · rw [e] at hs; rw [e']; exact hs
    · rw [e] at hs; rw [e']; exact hs
  · rcases hst p hp with e | ⟨e, e'⟩ | ⟨e, e'⟩
    · rw [e]
    · rw [e, e']; exact ⟨fun h => (nomatch h), fun h => (nomatch h)⟩
    · rw [e, e']; exact ⟨fun h => (nomatch h), fun h => (nomatch h)⟩
  · rcases hst p hp with e | ⟨e, e'⟩ | ⟨e, e'⟩
    · rw [e] at hx; exact hnp p x hp hx
    · rw [e'] at hx; cases hx
    · rw [e'] at hx; cases hx
/-- Nothing but the core's frames is changed. -/
theorem MsI.stays (h : MsI T o s N) (hT : T < 1000000000) (hk : k < s.2.1.length) (hc : cAt s.2.1 k = ([f], r)) (h8 : ¬ f.1 ≤ 8) {fs : List Frm} {r' : Rest} {ev : List Evt} (hR : rtL r' = rtL r)
    (hfs : fs = [] ∨ (∃ f', fs = [f'] ∧ f'.1 = f.1) ∨ ∃ f' g, fs = [f', g] ∧ f'.1 = f.1 ∧ g.1 ≠ 6 ∧ TopI s.1 o s.2.1.length k r' g)
    (hcore : (∀ f ∈ fs, f.1 ≠ 6) → CoQ s.1 o (List.set (α := Cor) s.2.1 ((k : Nat) : Int).toNat (fs, r')) N k (fs, r')) (hev : Eff k N s.1 N s.1 ev) : After T o s N k ⟨s.1, fs, r', ev⟩ := by
  have n6 : f.1 ≠ 6 := fun e => h8 (by rw [e]; decide)
  have hno : ∀ f ∈ fs, f.1 ≠ 6 := fun x hx => by
    rcases hfs with e | ⟨f', e, e1⟩ | ⟨f', g, e, e1, e2, _⟩
    · rw [e] at hx; cases hx
    · rw [e] at hx; rw [List.mem_singleton.1 hx, e1]; exact n6
    · rw [e] at hx
      rcases List.mem_cons.1 hx with e3 | e3
      · rw [e3, e1]; exact n6
      · rw [List.mem_singleton.1 e3]; exact e2
  refine ⟨o, N, h.goes hT hk hc h8 (.inl rfl) (fun _ _ => .inl rfl) hR ?_ ⟨qchg_same hk h.mm.cores.2 hno, h.qs⟩ (fun q hq => by have := h.tags q hq; exact ⟨by show tagI (hdW s.1 q) ≤ _; omega, by show tagI (tlW s.1 q) ≤ _; omega⟩) (hcore hno), hev, fun _ _ _ _ => rfl, fun _ _ => ⟨.inl rfl, .inl rfl⟩, fun _ _ => .inl rfl⟩
  exact hfs.imp id fun e => e.imp id fun ⟨f', g, e1, e2, _, e3⟩ => ⟨f', g, e1, e2, e3⟩
theorem NewI.weak {m : Me} {pc pc' v n : Int} (h : NewI m o k pc v n) (h3 : 3 ≤ pc' → 3 ≤ pc) (h5 : 5 ≤ pc' → 5 ≤ pc) : NewI m o k pc' v n := ⟨h.inn, h.own, fun e => h.val (h3 e), fun e => h.nxt (h5 e)⟩
theorem live_of {p : Int} (h : MM T o s) (hp : InN s.1 p) (ho : o p = .fresh k) : nI s.1.2.1 p ≠ 0 := by
  have := h.stat p hp
  rw [ho] at this
  rw [show nI s.1.2.1 p = 1 from this]; decide
theorem tag_nx (h : MsI T o s N) (hT : T < 1000000000) {w i : Int} (hw : tagI w ≤ T) (h0 : 0 ≤ i) (h1 : i < 1048576) : tagI (nextI w i 0) = tagI w + 1 := by
  rw [tag_next h0 h1]
  have : 0 ≤ tagI w := by unfold tagI; omega
  omega
/-- The words' tags, if a word of q is set to one of the next tag. -/
theorem tags_tl (h : MsI T o s N) {q v : Int} (hq : IsQ q) (hlen : 128 ≤ s.1.1.length) (ht : tagI v ≤ T + 1) (q2 : Int) (h2 : IsQ q2) : tagI (hdW (setW s.1 (tlP q) v) q2) ≤ T + 1 ∧ tagI (tlW (setW s.1 (tlP q) v) q2) ≤ T + 1 := by
  have a := sp_lt hq
  have b := sp_lt h2
  have := h.tags q2 h2
  unfold hdW tlW at this ⊢
  rw [setW_at (by omega) (by omega), setW_at (by omega) (by omega)]
  constructor <;> split <;> omega
theorem tags_hd (h : MsI T o s N) {q v : Int} (hq : IsQ q) (hlen : 128 ≤ s.1.1.length) (ht : tagI v ≤ T + 1) (q2 : Int) (h2 : IsQ q2) : tagI (hdW (setW s.1 (hdP q) v) q2) ≤ T + 1 ∧ tagI (tlW (setW s.1 (hdP q) v) q2) ≤ T + 1 := by
  have a := sp_lt hq
  have b := sp_lt h2
  have := h.tags q2 h2
  unfold hdW tlW at this ⊢
  rw [setW_at (by omega) (by omega), setW_at (by omega) (by omega)]
  constructor <;> split <;> omega
theorem tags_else (h : MsI T o s N) {a v : Int} (ha : 0 ≤ a ∧ a < 32 ∨ 36 ≤ a) (q2 : Int) (h2 : IsQ q2) : (hdW (setW s.1 a v) q2 = hdW s.1 q2 ∧ tlW (setW s.1 a v) q2 = tlW s.1 q2) ∧ tagI (hdW (setW s.1 a v) q2) ≤ T + 1 ∧ tagI (tlW (setW s.1 a v) q2) ≤ T + 1 := by
  have b := sp_lt h2
  have := h.tags q2 h2
  have e1 : hdW (setW s.1 a v) q2 = hdW s.1 q2 := setW_ne (by omega) (by omega) (by omega)
  have e2 : tlW (setW s.1 a v) q2 = tlW s.1 q2 := setW_ne (by omega) (by omega) (by omega)
  rw [e1, e2]
  exact ⟨⟨rfl, rfl⟩, by omega, by omega⟩
theorem QsI.notFresh (h : QsI s.1 o N) {q p : Int} (hq : IsQ q) (hp : p ∈ N q) : InN s.1 p ∧ o p ≠ .fresh k := by
  obtain ⟨a, b⟩ := h.inn q p hq hp
  exact ⟨a, by rw [b]; exact fun e => nomatch e⟩
/-- The tail is helped on, if it still is this word. -/
theorem MsI.help (h : MsI T o s N) (hT : T < 1000000000) (hk : k < s.2.1.length) (hc : cAt s.2.1 k = ([f], r)) (h8 : ¬ f.1 ≤ 8) {q t n : Int} {f' : Frm} (hq : IsQ q) (hn : NextT s.1 q t n) (hn1 : 0 ≤ n ∧ n < 1048576) (hf' : f'.1 = f.1)
    (hcore : ∀ m', (m' = s.1 ∨ m' = setW s.1 (tlP q) (nextI t n 0)) → CoQ m' o (List.set (α := Cor) s.2.1 ((k : Nat) : Int).toNat ([f'], r)) N k ([f'], r)) : After T o s N k ⟨casM s.1 (tlP q) t (nextI t n 0), [f'], r, []⟩ := by
  obtain ⟨l, hl⟩ := h.mm.list
  have hfit := hl.fits
  have hlen : 128 ≤ s.1.1.length := by have := hfit.1; have := h.mm.more; omega
  have hsp := sp_lt hq
  have n6 : f'.1 ≠ 6 := fun e => h8 (by rw [← hf', e]; decide)
  have hno : ∀ g ∈ [f'], g.1 ≠ 6 := fun g hg => by rw [List.mem_singleton.1 hg]; exact n6
  rcases cas_word (m := s.1) (a := tlP q) (w := t) (v := nextI t n 0) (by omega) (by omega) hfit with ⟨c, _, e⟩ | ⟨c, _, e⟩
  · rw [e]
    have hnx := hn.2.2 c
    have ht : tagI t ≤ T := by have := (h.tags q hq).2; rw [show tlW s.1 q = t from c] at this; exact this
    have htag := tag_nx h hT ht hn1.1 hn1.2
    have htl : tlW s.1 q = t := c
    have hmv := tail_move (k := k) (cs := s.2.1) (fs := [f']) (r := r) (v := nextI t n 0) (n := n) h.qs hq hlen hk h.mm.cores.2 hno (by rw [htl]; exact hnx) hn.2.1 (idx_next hn1.1 hn1.2) (by rw [htl]; exact htag)
    refine ⟨o, N, h.goes hT hk hc h8 (.inr ⟨_, _, rfl, by omega, fun p hp => by have := lk_is p; omega⟩) (fun _ _ => .inl rfl) rfl (.inr (.inl ⟨f', rfl, hf'⟩)) hmv (tags_tl h hq hlen (by rw [htag]; omega)) (hcore _ (.inr rfl)), .none rfl rfl, fun q2 p h2 hp => ?_, fun q2 h2 => ⟨?_, ?_⟩, fun _ _ => .inl rfl⟩
    · obtain ⟨a, b⟩ := h.qs.notFresh (k := k) h2 hp
      exact hmv.1.val p a b
    · rcases hmv.1.hd q2 h2 with e | e
      · exact .inl e
      · left
        have b := sp_lt h2
        refine setW_ne (by omega) (by omega) ?_
        by_cases e2 : q2 = q
        · subst e2; exact fun e => b.2.2.2.2 e.symm
        · exact fun e => (sp_apart hq h2 e2).2.2.1 e.symm
    · by_cases e2 : q2 = q
      · subst e2
        refine .inr ⟨rfl, ?_⟩
        have hs : tlW (setW s.1 (tlP q2) (nextI t n 0)) q2 = nextI t n 0 := setW_self (by omega) (by omega)
        show idxI (tlW (setW s.1 (tlP q2) (nextI t n 0)) q2) = _
        rw [hs, idx_next hn1.1 hn1.2, htl, hnx]
      · left
        have b := sp_lt h2
        exact setW_ne (by omega) (by omega) fun e => (sp_apart hq h2 e2).2.1 e.symm
  · rw [e]
    exact h.stays hT hk hc h8 rfl (.inr (.inl ⟨f', rfl, hf'⟩)) (fun _ => hcore _ (.inl rfl)) (.none rfl rfl)
end
end Go.Proofs.YtpobngddiifdpaaGreat.V
