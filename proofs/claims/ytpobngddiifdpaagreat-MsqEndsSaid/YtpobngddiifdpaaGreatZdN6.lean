/- Queues: the tail moves, a node is linked, the head moves. -/
import Derived.Test.YtpobngddiifdpaaGreatZdN5
set_option linter.unusedSimpArgs false
set_option linter.unusedVariables false
namespace Go.Proofs.YtpobngddiifdpaaGreat.V
open Go Go.RowKit Go.Proofs.YtpobngddiifdpaaGreat.Hz
set_option maxRecDepth 100000

theorem split_uniq {x : Int} : ∀ {A A' B B' : List Int}, (A ++ x :: B).Nodup → A ++ x :: B = A' ++ x :: B' → A = A' ∧ B = B'
  | [], [], _, _, _, h => ⟨rfl, (List.cons.inj h).2⟩
  | [], a :: A', B, B', hn, h => by
    have h := List.cons.inj (show x :: B = a :: (A' ++ x :: B') from h)
    have hn := (List.nodup_cons.1 (show (x :: B).Nodup from hn)).1
    rw [h.2] at hn
    exact absurd (by simp) hn
  | a :: A, [], B, B', hn, h => by
    have h := List.cons.inj (show a :: (A ++ x :: B) = x :: B' from h)
    have hn := (List.nodup_cons.1 (show (a :: (A ++ x :: B)).Nodup from hn)).1
    rw [h.1] at hn
    exact absurd (by simp) hn
  | a :: A, a' :: A', B, B', hn, h => by
    have h := List.cons.inj (show a :: (A ++ x :: B) = a' :: (A' ++ x :: B') from h)
    obtain ⟨e1, e2⟩ := split_uniq (List.nodup_cons.1 (show (a :: (A ++ x :: B)).Nodup from hn)).2 h.2
    exact ⟨by rw [h.1, e1], e2⟩
section
variable {T : Int} {k : Nat} {m : Me} {o : OM} {N : NQ} {cs : List Cor} {q v n x y h0 w : Int} {fs : List Frm} {r : Rest}
theorem tl_next (hQ : QsI m o N) (hq : IsQ q) (hn : idxI (nx m (idxI (tlW m q))) = n) (h0 : n ≠ 0) : ∃ A, N q = A ++ [idxI (tlW m q), n] := by
  have h := hQ.q q hq
  obtain ⟨A, e | ⟨y, e⟩⟩ := h.tail
  · have hc := h.head
    rw [e] at hc
    have := hc.last
    rw [hn] at this
    exact absurd this h0
  · have hc := h.head
    rw [e] at hc
    have := hc.next
    rw [hn] at this
    exact ⟨A, by rw [this]; exact e⟩
theorem sp_apart {q q2 : Int} (h1 : IsQ q) (h2 : IsQ q2) (hne : q2 ≠ q) : hdP q2 ≠ hdP q ∧ tlP q2 ≠ tlP q ∧ hdP q2 ≠ tlP q ∧ tlP q2 ≠ hdP q := by
  unfold hdP tlP
  rcases h1 with e | e <;> rcases h2 with e2 | e2 <;> subst e <;> subst e2 <;> first | (exact absurd rfl hne) | decide
/-- The tail moves to the last node. -/
theorem tail_move (hQ : QsI m o N) (hq : IsQ q) (hlen : 128 ≤ m.1.length) (hk : k < cs.length) (hC : cs.length ≤ 8) (hno : ∀ f ∈ fs, f.1 ≠ 6) (hn : idxI (nx m (idxI (tlW m q))) = n) (hn0 : n ≠ 0) (hv : idxI v = n) (ht : tagI v = tagI (tlW m q) + 1) :
    QChg k m o N cs (setW m (tlP q) v) o N (List.set (α := Cor) cs ((k : Nat) : Int).toNat (fs, r)) ∧ QsI (setW m (tlP q) v) o N := by
  have hsp := sp_lt hq
  obtain ⟨A, hN⟩ := tl_next hQ hq hn hn0
  obtain ⟨r1, r2⟩ := setW_rest (m := m) (a := tlP q) (by omega) (v := v)
  have else_ : ∀ a : Int, 0 ≤ a → a ≠ tlP q → nI (setW m (tlP q) v).1 a = nI m.1 a := fun a h hne => setW_ne (by omega) h (fun e => hne e.symm)
  have self : tlW (setW m (tlP q) v) q = v := setW_self (by omega) (by omega)
  have cell : ∀ p i : Int, 1 ≤ p → 0 ≤ i → nI (setW m (tlP q) v).1 (lk p + i) = nI m.1 (lk p + i) := fun p i hp hi => by have := lk_is p; exact else_ _ (by omega) (by omega)
  have lks : ∀ p, InN m p → nI (setW m (tlP q) v).1 (lk p) = nI m.1 (lk p) := fun p hp => by have := cell p 0 hp.1 (by decide); rw [Int.add_zero] at this; exact this
  have enx : ∀ p, InN m p → nx (setW m (tlP q) v) p = nx m p := fun p hp => cell p 1 hp.1 (by decide)
  have evl : ∀ p, InN m p → vl (setW m (tlP q) v) p = vl m p := fun p hp => cell p 3 hp.1 (by decide)
  have hhd : ∀ q2, IsQ q2 → hdW (setW m (tlP q) v) q2 = hdW m q2 := fun q2 h2 => by
    have h3 := sp_lt h2
    refine else_ _ (by omega) ?_
    by_cases e : q2 = q
    · subst e; exact h3.2.2.2.2
    · exact (sp_apart hq h2 e).2.2.1
  have htl : ∀ q2, IsQ q2 → q2 ≠ q → tlW (setW m (tlP q) v) q2 = tlW m q2 := fun q2 h2 e => by
    have h3 := sp_lt h2
    exact else_ _ (by omega) (sp_apart hq h2 e).2.1
  have hchg : Chg k m o (setW m (tlP q) v) o := ⟨rfl, .inl ⟨r1, fun p hp _ => lks p hp⟩, fun c i _ h8 h0 h2 => r2 c i h8 h0 h2, fun c p x _ hp _ => lks p hp, fun _ p _ _ => same_owns p⟩
  have hcli : Cli k m o (setW m (tlP q) v) o := ⟨hchg, fun p hp _ => by rw [ky_cell]; exact cell p 2 hp.1 (by decide), fun _ _ => .inl rfl⟩
  have hnd := (hQ.q q hq).nodup
  refine ⟨⟨hchg, guard_cli hcli hk hC hno, fun q2 h2 => .inl (hhd q2 h2), fun q2 h2 => ?_, fun p hp _ _ => enx p hp, fun c p _ hp _ => enx p hp, fun p hp _ => evl p hp, fun _ _ _ e => ⟨e, fun _ _ h => h⟩, fun _ _ _ h => .inl h, fun q2 p h2 hb _ => ?_, fun q2 h2 _ hne => ?_, fun q2 p h2 h _ => by rw [hhd q2 h2]; exact h⟩, ?_⟩
  · by_cases e : q2 = q
    · subst e; rw [self]; exact .inr ht
    · exact .inl (htl q2 h2 e)
  · by_cases e : q2 = q
    · subst e
      rw [self, hv]
      obtain ⟨A', B', e1, e2⟩ := hb
      rw [hN] at hnd
      obtain ⟨a1, a2⟩ := split_uniq hnd (hN.symm.trans e1)
      refine ⟨A ++ [idxI (tlW m q2)], [], by rw [hN]; simp, .inr ?_⟩
      rcases e2 with e2 | e2
      · rw [e2]; simp
      · rw [← a1] at e2; simp [e2]
    · rw [htl q2 h2 e]; exact hb
  · by_cases e : q2 = q
    · subst e
      rw [self, hv]
      intro e3
      obtain ⟨l, hl⟩ := hQ.head hq
      rw [hN] at hl hnd
      cases A with
      | nil => exact hne (List.cons.inj hl).1
      | cons a A =>
        have e4 := (List.cons.inj (show a :: (A ++ [idxI (tlW m q2), n]) = idxI (hdW m q2) :: l from hl)).1
        have := (List.nodup_cons.1 (show (a :: (A ++ [idxI (tlW m q2), n])).Nodup from hnd)).1
        exact this (by rw [e4, ← e3]; simp)
    · rw [htl q2 h2 e]; exact hne
  · refine ⟨fun q2 h2 => ?_, hQ.inn, hQ.mem, hQ.apart, fun p c hp e => by rw [enx p hp]; exact hQ.out p c hp e⟩
    have h := hQ.q q2 h2
    refine ⟨?_, h.nodup, ?_⟩
    · rw [hhd q2 h2]
      exact h.head.same fun p hp => by rw [enx p (hQ.inn q2 p h2 hp).1]
    · by_cases e : q2 = q
      · subst e
        rw [self, hv]
        exact ⟨A ++ [idxI (tlW m q2)], .inl (by rw [hN]; simp)⟩
      · rw [htl q2 h2 e]; exact h.tail
def updQ (N : NQ) (q : Int) (l : List Int) : NQ := fun q2 => if q2 = q then l else N q2
theorem updQ_self {l : List Int} : updQ N q l q = l := if_pos rfl
theorem updQ_ne {q2 : Int} {l : List Int} (h : q2 ≠ q) : updQ N q l q2 = N q2 := if_neg h
theorem QsI.other (hQ : QsI m o N) {q2 p : Int} (hq : IsQ q) (h2 : IsQ q2) (hne : q2 ≠ q) (hp : p ∈ N q) : p ∉ N q2 := by
  rcases hq with e | e <;> rcases h2 with e2 | e2 <;> subst e <;> subst e2
  · exact absurd rfl hne
  · exact hQ.apart p hp
  · exact fun h => hQ.apart p h hp
  · exact absurd rfl hne
/-- A node is linked behind the last one. -/
theorem link_node (hQ : QsI m o N) (hq : IsQ q) (hf : Fits m) (hk : k < cs.length) (hC : cs.length ≤ 8) (hno : ∀ f ∈ fs, f.1 ≠ 6) {A : List Int} (hN : N q = A ++ [x]) (htl : idxI (tlW m q) = x) (hn : InN m n) (ho : o n = .fresh k) (hn0 : idxI (nx m n) = 0) (hv : idxI v = n) :
    QChg k m o N cs (setW m (lk x + 1) v) (upd o n .shared) (updQ N q (N q ++ [n])) (List.set (α := Cor) cs ((k : Nat) : Int).toNat (fs, r)) ∧ QsI (setW m (lk x + 1) v) (upd o n .shared) (updQ N q (N q ++ [n])) := by
  have hx := hQ.inn q x hq (by rw [hN]; simp)
  have hxn : x ≠ n := fun e => by have := hx.2; rw [e, ho] at this; cases this
  have hlx := lk_is x
  have hx1 := hx.1.1
  have hx2 := hx.1.2
  have hlen := hf.1
  have hnx0 : idxI (nx m x) = 0 := by
    have := (hQ.q q hq).head
    rw [hN] at this
    exact this.last
  obtain ⟨r1, r2⟩ := setW_rest (m := m) (a := lk x + 1) (by omega) (v := v)
  have low : ∀ a : Int, 0 ≤ a → a < 128 → nI (setW m (lk x + 1) v).1 a = nI m.1 a := fun a h h2 => setW_ne (by omega) h (by omega)
  have cell : ∀ p i : Int, 1 ≤ p → p ≠ x ∨ i ≠ 1 → 0 ≤ i ∧ i ≤ 3 → nI (setW m (lk x + 1) v).1 (lk p + i) = nI m.1 (lk p + i) := fun p i hp hne hi => by
    have hlp := lk_is p
    refine setW_ne (by omega) (by omega) ?_
    rcases hne with e | e
    · exact fun h => cells_apart e hi (by decide) h.symm
    · by_cases e2 : p = x
      · rw [e2]; omega
      · exact fun h => cells_apart e2 hi (by decide) h.symm
  have lks : ∀ p, InN m p → nI (setW m (lk x + 1) v).1 (lk p) = nI m.1 (lk p) := fun p hp => by have := cell p 0 hp.1 (.inr (by decide)) (by decide); rw [Int.add_zero] at this; exact this
  have enx : ∀ p, InN m p → p ≠ x → nx (setW m (lk x + 1) v) p = nx m p := fun p hp hne => cell p 1 hp.1 (.inl hne) (by decide)
  have evl : ∀ p, InN m p → vl (setW m (lk x + 1) v) p = vl m p := fun p hp => cell p 3 hp.1 (.inr (by decide)) (by decide)
  have self : nx (setW m (lk x + 1) v) x = v := setW_self (by omega) (by omega)
  have hhd : ∀ q, IsQ q → hdW (setW m (lk x + 1) v) q = hdW m q ∧ tlW (setW m (lk x + 1) v) q = tlW m q := fun q hq => by
    have := sp_lt hq
    exact ⟨low _ (by omega) (by omega), low _ (by omega) (by omega)⟩
  have hmine : Mine k (o n) := by rw [ho]; exact rfl
  have hchg : Chg k m o (setW m (lk x + 1) v) (upd o n .shared) := ⟨rfl, .inl ⟨r1, fun p hp _ => lks p hp⟩, fun c i _ h8 h0 h2 => r2 c i h8 h0 h2, fun c p x _ hp _ => lks p hp, fun c p hck _ => upd_owns hmine (show Mine k .shared from trivial) hck p⟩
  have hcli : Cli k m o (setW m (lk x + 1) v) (upd o n .shared) := ⟨hchg, fun p hp _ => by rw [ky_cell]; exact cell p 2 hp.1 (.inr (by decide)) (by decide), fun p _ => by
    by_cases e : p = n
    · rw [e, upd_self]; exact .inr (.inl ⟨ho, rfl⟩)
    · rw [upd_ne e]; exact .inl rfl⟩
  have hnN : ∀ q2, IsQ q2 → n ∉ N q2 := fun q2 h2 hm => by have := (hQ.inn q2 n h2 hm).2; rw [ho] at this; cases this
  have sub : ∀ q2 p, p ∈ N q2 → p ∈ updQ N q (N q ++ [n]) q2 := fun q2 p hp => by
    by_cases e : q2 = q
    · subst e; rw [updQ_self]; exact List.mem_append_left _ hp
    · rw [updQ_ne e]; exact hp
  have sup : ∀ q2 p, p ∈ updQ N q (N q ++ [n]) q2 → p ∈ N q2 ∨ (p = n ∧ q2 = q) := fun q2 p hp => by
    by_cases e : q2 = q
    · subst e
      rw [updQ_self] at hp
      rcases List.mem_append.1 hp with hp | hp
      · exact .inl hp
      · exact .inr ⟨List.mem_singleton.1 hp, rfl⟩
    · rw [updQ_ne e] at hp; exact .inl hp
  refine ⟨⟨hchg, guard_cli hcli hk hC hno, fun q2 h2 => .inl (hhd q2 h2).1, fun q2 h2 => .inl (hhd q2 h2).2, fun p hp _ hne => enx p hp (fun e => by rw [e] at hne; exact hne hnx0), fun c p _ hp e => enx p hp (fun e2 => by rw [e2, hx.2] at e; cases e), fun p hp _ => evl p hp, fun p hp hne e => ?_, fun q2 p h2 hp => ?_, fun q2 p h2 hb hp => ?_, fun q2 h2 _ hne => by rw [(hhd q2 h2).2]; exact hne, fun q2 p h2 h _ => by rw [(hhd q2 h2).1]; exact h⟩, ?_⟩
  · have hpn : p ≠ n := fun e2 => hne (by rw [e2]; exact ho)
    rw [upd_ne hpn] at e
    exact ⟨e, fun q2 _ hp => sub q2 p hp⟩
  · rcases sup q2 p hp with h | ⟨h, _⟩
    · exact .inl h
    · exact .inr (by rw [h]; exact ho)
  · rw [(hhd q2 h2).2]
    by_cases e : q2 = q
    · subst e
      rw [updQ_self]
      obtain ⟨A', B', e1, e2⟩ := hb
      exact ⟨A', B' ++ [n], by rw [e1]; simp, e2⟩
    · rw [updQ_ne e]; exact hb
  · refine ⟨fun q2 h2 => ?_, fun q2 p h2 hp => ?_, fun p hp e => ?_, fun p hp => ?_, fun p c hp e => ?_⟩
    · have h := hQ.q q2 h2
      by_cases e : q2 = q
      · subst e
        have hhead := h.head
        rw [hN] at hhead
        rw [updQ_self]
        refine ⟨?_, List.nodup_append.2 ⟨h.nodup, by simp, fun a ha b hb e => hnN q2 h2 (by rw [List.mem_singleton.1 hb] at e; rw [← e]; exact ha)⟩, A, .inr ⟨n, by rw [(hhd q2 h2).2, htl, hN]; simp⟩⟩
        rw [(hhd q2 h2).1, hN, List.append_assoc]
        refine Chn.snoc (m := m) (by rw [self]; exact hv) (by rw [enx n hn (fun e => hxn e.symm)]; exact hn0) hhead fun y hy => ?_
        have hyN : y ∈ N q2 := by rw [hN]; exact List.mem_append_left _ hy
        rw [enx y (hQ.inn q2 y h2 hyN).1 fun e => ?_]
        have hnd := h.nodup
        rw [hN] at hnd
        exact (List.nodup_append.1 hnd).2.2 y hy x (by simp) e
      · rw [updQ_ne e]
        refine ⟨?_, h.nodup, by rw [(hhd q2 h2).2]; exact h.tail⟩
        rw [(hhd q2 h2).1]
        refine h.head.same fun p hp => ?_
        rw [enx p (hQ.inn q2 p h2 hp).1 fun e2 => hQ.other hq h2 e (show x ∈ N q by rw [hN]; simp) (by rw [← e2]; exact hp)]
    · rcases sup q2 p hp with h | ⟨h, _⟩
      · obtain ⟨a, b⟩ := hQ.inn q2 p h2 h
        exact ⟨a, by rw [upd_ne (fun e => by rw [e, ho] at b; cases b)]; exact b⟩
      · rw [h]; exact ⟨hn, upd_self⟩
    · by_cases e2 : p = n
      · rw [e2]; exact ⟨q, hq, by rw [updQ_self]; simp⟩
      · rw [upd_ne e2] at e
        obtain ⟨q2, h2, h3⟩ := hQ.mem p hp e
        exact ⟨q2, h2, sub q2 p h3⟩
    · intro hp2
      rcases sup 0 p hp with h | ⟨h, hq0⟩ <;> rcases sup 1 p hp2 with h' | ⟨h', hq1⟩
      · exact hQ.apart p h h'
      · exact hnN 0 (.inl rfl) (by rw [← h']; exact h)
      · exact hnN 1 (.inr rfl) (by rw [← h]; exact h')
      · rw [← hq1] at hq0; exact nope hq0 rfl
    · by_cases e2 : p = n
      · rw [e2, upd_self] at e; rcases e with e | e <;> cases e
      · rw [upd_ne e2] at e
        rw [enx p hp (fun e3 => by rw [e3, hx.2] at e; rcases e with e | e <;> cases e)]
        exact hQ.out p c hp e
/-- The head moves. -/
theorem head_move (hQ : QsI m o N) (hq : IsQ q) (hlen : 128 ≤ m.1.length) (hk : k < cs.length) (hC : cs.length ≤ 8) (hno : ∀ f ∈ fs, f.1 ≠ 6) (hw : idxI (nx m (idxI (hdW m q))) = w) (hw0 : w ≠ 0) (hne : idxI (tlW m q) ≠ idxI (hdW m q)) (hv : idxI v = w) (ht : tagI v = tagI (hdW m q) + 1) :
    ∃ l, N q = idxI (hdW m q) :: w :: l ∧ QChg k m o N cs (setW m (hdP q) v) (upd o (idxI (hdW m q)) (.gone k)) (updQ N q (w :: l)) (List.set (α := Cor) cs ((k : Nat) : Int).toNat (fs, r)) ∧ QsI (setW m (hdP q) v) (upd o (idxI (hdW m q)) (.gone k)) (updQ N q (w :: l)) := by
  have hsp := sp_lt hq
  obtain ⟨x, hx⟩ : ∃ x, idxI (hdW m q) = x := ⟨_, rfl⟩
  have hI := hQ.q q hq
  obtain ⟨l0, hl0⟩ := hQ.head hq
  have hch := hI.head
  rw [hl0] at hch
  have hch2 := hch.2
  rw [hw] at hch2
  obtain ⟨l, hl⟩ := Chn.cons hch2 hw0
  rw [hl, hx] at hl0
  rw [hl] at hch2
  rw [hx] at hw hne ⊢
  have hxs := hQ.inn q x hq (by rw [hl0]; simp)
  have hnd := hI.nodup
  rw [hl0] at hnd
  have hxl := (List.nodup_cons.1 hnd).1
  refine ⟨l, hl0, ?_⟩
  obtain ⟨r1, r2⟩ := setW_rest (m := m) (a := hdP q) (by omega) (v := v)
  have else_ : ∀ a : Int, 0 ≤ a → a ≠ hdP q → nI (setW m (hdP q) v).1 a = nI m.1 a := fun a h hne => setW_ne (by omega) h (fun e => hne e.symm)
  have self : hdW (setW m (hdP q) v) q = v := setW_self (by omega) (by omega)
  have cell : ∀ p i : Int, 1 ≤ p → 0 ≤ i → nI (setW m (hdP q) v).1 (lk p + i) = nI m.1 (lk p + i) := fun p i hp hi => by have := lk_is p; exact else_ _ (by omega) (by omega)
  have lks : ∀ p, InN m p → nI (setW m (hdP q) v).1 (lk p) = nI m.1 (lk p) := fun p hp => by have := cell p 0 hp.1 (by decide); rw [Int.add_zero] at this; exact this
  have enx : ∀ p, InN m p → nx (setW m (hdP q) v) p = nx m p := fun p hp => cell p 1 hp.1 (by decide)
  have evl : ∀ p, InN m p → vl (setW m (hdP q) v) p = vl m p := fun p hp => cell p 3 hp.1 (by decide)
  have htl : ∀ q2, IsQ q2 → tlW (setW m (hdP q) v) q2 = tlW m q2 := fun q2 h2 => by
    have h3 := sp_lt h2
    refine else_ _ (by omega) ?_
    by_cases e : q2 = q
    · subst e; exact fun e => h3.2.2.2.2 e.symm
    · exact (sp_apart hq h2 e).2.2.2
  have hhd : ∀ q2, IsQ q2 → q2 ≠ q → hdW (setW m (hdP q) v) q2 = hdW m q2 := fun q2 h2 e => by
    have h3 := sp_lt h2
    exact else_ _ (by omega) (sp_apart hq h2 e).1
  have hmine : Mine k (o x) := by rw [hxs.2]; exact trivial
  have hchg : Chg k m o (setW m (hdP q) v) (upd o x (.gone k)) := ⟨rfl, .inl ⟨r1, fun p hp _ => lks p hp⟩, fun c i _ h8 h0 h2 => r2 c i h8 h0 h2, fun c p x _ hp _ => lks p hp, fun c p hck _ => upd_owns hmine (show Mine k (.gone k) from rfl) hck p⟩
  have hcli : Cli k m o (setW m (hdP q) v) (upd o x (.gone k)) := ⟨hchg, fun p hp _ => by rw [ky_cell]; exact cell p 2 hp.1 (by decide), fun p _ => by
    by_cases e : p = x
    · rw [e, upd_self]; exact .inr (.inr ⟨hxs.2, rfl⟩)
    · rw [upd_ne e]; exact .inl rfl⟩
  have sup : ∀ q2 p, p ∈ updQ N q (w :: l) q2 → p ∈ N q2 := fun q2 p hp => by
    by_cases e : q2 = q
    · subst e; rw [updQ_self] at hp; rw [hl0]; exact List.mem_cons_of_mem _ hp
    · rw [updQ_ne e] at hp; exact hp
  have sub : ∀ q2 p, p ≠ x → p ∈ N q2 → p ∈ updQ N q (w :: l) q2 := fun q2 p hpx hp => by
    by_cases e : q2 = q
    · subst e
      rw [updQ_self]
      rw [hl0] at hp
      exact (List.mem_cons.1 hp).resolve_left hpx
    · rw [updQ_ne e]; exact hp
  have noX : ∀ q2, IsQ q2 → x ∉ updQ N q (w :: l) q2 := fun q2 h2 hp => by
    by_cases e : q2 = q
    · subst e; rw [updQ_self] at hp; exact hxl hp
    · rw [updQ_ne e] at hp
      exact hQ.other hq h2 e (by rw [hl0]; simp) hp
  refine ⟨⟨hchg, guard_cli hcli hk hC hno, fun q2 h2 => ?_, fun q2 h2 => .inl (htl q2 h2), fun p hp _ _ => enx p hp, fun c p _ hp _ => enx p hp, fun p hp _ => evl p hp, fun p hp _ e => ?_, fun q2 p _ hp => .inl (sup q2 p hp), fun q2 p h2 hb hp => ?_, fun q2 h2 e hne2 => ?_, fun q2 p h2 h hp => ?_⟩, ?_⟩
  · by_cases e : q2 = q
    · subst e; rw [self]; exact .inr ht
    · exact .inl (hhd q2 h2 e)
  · have hpx : p ≠ x := fun e2 => by rw [e2, upd_self] at e; cases e
    rw [upd_ne hpx] at e
    exact ⟨e, fun q2 _ h => sub q2 p hpx h⟩
  · rw [htl q2 h2]
    by_cases e : q2 = q
    · subst e
      obtain ⟨A', B', e1, e2⟩ := hb
      rw [hl0] at e1
      cases A' with
      | nil => exact absurd (List.cons.inj e1).1.symm hne
      | cons a A' =>
        have e3 := List.cons.inj (show x :: w :: l = a :: (A' ++ idxI (tlW m q2) :: B') from e1)
        rw [updQ_self]
        refine ⟨A', B', e3.2, e2.imp id fun h => ?_⟩
        rcases List.mem_cons.1 h with h | h
        · exfalso
          rw [h, ← e3.1] at hp
          exact noX q2 h2 hp
        · exact h
    · rw [updQ_ne e]; exact hb
  · by_cases e2 : q2 = q
    · subst e2
      rw [self] at e
      rw [e] at ht
      omega
    · rw [htl q2 h2]; exact hne2
  · by_cases e2 : q2 = q
    · subst e2
      rw [← h, hx] at hp
      exact absurd hp (noX q2 h2)
    · rw [hhd q2 h2 e2]; exact h
  · refine ⟨fun q2 h2 => ?_, fun q2 p h2 hp => ?_, fun p hp e => ?_, fun p hp hp2 => hQ.apart p (sup 0 p hp) (sup 1 p hp2), fun p c hp e => ?_⟩
    · have h := hQ.q q2 h2
      by_cases e : q2 = q
      · subst e
        rw [updQ_self]
        refine ⟨?_, (List.nodup_cons.1 hnd).2, ?_⟩
        · rw [self, hv]
          refine Chn.same hch2 fun p hp => ?_
          rw [enx p (hQ.inn q2 p h2 (by rw [hl0]; exact List.mem_cons_of_mem _ hp)).1]
        · rw [htl q2 h2]
          obtain ⟨A, e1⟩ := h.tail
          rw [hl0] at e1
          cases A with
          | nil =>
            exfalso
            rcases e1 with e1 | ⟨y, e1⟩
            · exact hne (List.cons.inj e1).1.symm
            · exact hne (List.cons.inj e1).1.symm
          | cons a A =>
            refine ⟨A, ?_⟩
            rcases e1 with e1 | ⟨y, e1⟩
            · exact .inl (List.cons.inj (show x :: w :: l = a :: (A ++ _) from e1)).2
            · exact .inr ⟨y, (List.cons.inj (show x :: w :: l = a :: (A ++ _) from e1)).2⟩
      · rw [updQ_ne e]
        refine ⟨?_, h.nodup, by rw [htl q2 h2]; exact h.tail⟩
        rw [hhd q2 h2 e]
        exact h.head.same fun p hp => by rw [enx p (hQ.inn q2 p h2 hp).1]
    · obtain ⟨a, b⟩ := hQ.inn q2 p h2 (sup q2 p hp)
      exact ⟨a, by rw [upd_ne (fun e => noX q2 h2 (by rw [← e]; exact hp))]; exact b⟩
    · have hpx : p ≠ x := fun e2 => by rw [e2, upd_self] at e; cases e
      rw [upd_ne hpx] at e
      obtain ⟨q2, h2, h3⟩ := hQ.mem p hp e
      exact ⟨q2, h2, sub q2 p hpx h3⟩
    · rw [enx p hp]
      by_cases e2 : p = x
      · rw [e2, hw]; exact hw0
      · rw [upd_ne e2] at e; exact hQ.out p c hp e
end
end Go.Proofs.YtpobngddiifdpaaGreat.V
