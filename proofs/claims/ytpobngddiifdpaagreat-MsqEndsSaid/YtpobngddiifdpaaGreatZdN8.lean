/- Queues: a step of OEnq. -/
import Derived.Test.YtpobngddiifdpaaGreatZdN7
set_option linter.unusedSimpArgs false
set_option linter.unusedVariables false
namespace Go.Proofs.YtpobngddiifdpaaGreat.V
open Go Go.RowKit Go.Proofs.YtpobngddiifdpaaGreat.Hz
set_option maxRecDepth 100000

section
variable {T : Int} {o : OM} {s : Sy} {N : NQ} {k : Nat} {r : Rest}
/-- What is set stands there; a new node's cells stay. -/
theorem NewI.setW {m : Me} {pc v n a x : Int} (h : NewI m o k pc v n) (ha : 0 ≤ a) (h1 : a ≠ lk n + 1) (h3 : a ≠ lk n + 3) : NewI (V.setW m a x) o k pc v n := by
  have hlk := lk_is n
  have := h.inn.1
  refine ⟨h.inn, h.own, fun e => ?_, fun e => ?_⟩
  · rw [show vl (V.setW m a x) n = vl m n from setW_ne ha (by omega) h3]; exact h.val e
  · rw [show nx (V.setW m a x) n = nx m n from setW_ne ha (by omega) h1]; exact h.nxt e
set_option maxHeartbeats 1000000 in
/-- A step of OEnq. -/
theorem MsI.put {pc q v n t w : Int} {r3 : R3'} {l : Li} (h : MsI T o s N) (hT : T < 1000000000) (hk : k < s.2.1.length) (hc : cAt s.2.1 k = ([((9 : Int), pc, (q, v, n, t, w, r3), l, ())], r)) : IsQ q ∧ After T o s N k (lPut k s.1 pc q v n t w r3 l r) := by
  obtain ⟨fl, hfl⟩ := h.mm.list
  have hfit := hfl.fits
  have hgood := hfl.good
  have hlen : 128 ≤ s.1.1.length := by have := hfit.1; have := h.mm.more; omega
  have hC := h.mm.cores
  have hco := h.core k hk
  rw [hc] at hco
  have h8 : ¬ ((9 : Int), pc, (q, v, n, t, w, r3), l, ()).1 ≤ 8 := by show ¬ (9 : Int) ≤ 8; decide
  have one : ∀ {pc' : Int} {g : R8}, ∀ x ∈ [(((9 : Int), pc', g, l, ()) : Frm)], x.1 ≠ 6 := fun x hx => by
    rw [List.mem_singleton.1 hx]; show ¬ (9 : Int) = 6; decide
  have none : ∀ g ∈ ([] : List Frm), 1 ≤ g.1 ∧ g.1 ≤ 8 := fun g hg => nomatch hg
  cases hco with
  | idle e => cases e
  | deq e' _ _ _ =>
    have := (Prod.mk.inj (List.cons.inj e').1).1
    exact nope (show (9 : Int) = 10 from this) rfl
  | enq e hq hU hI =>
  have e := List.cons.inj e
  obtain ⟨e1, rfl⟩ := e
  cases e1
  refine ⟨hq, ?_⟩
  have hsp := sp_lt hq
  have htlP : 33 + 2 * q = tlP q := rfl
  unfold lPut
  cases hI with
  | p1a _ u => obtain ⟨g, rest, u, _⟩ := u; cases u
  | p6a _ u => obtain ⟨g, u, _⟩ := u; cases u
  | p0 h1 _ =>
    subst h1
    rw [if_pos rfl]
    exact h.stays hT hk hc h8 rfl (.inr (.inr ⟨_, _, rfl, rfl, by show ¬ (7 : Int) = 6; decide, topAlloc rfl (.inl rfl)⟩)) (fun _ => .enq (U := [frm0 7 0 0 0]) rfl hq (fun g hg => by rw [List.mem_singleton.1 hg]; show (1 : Int) ≤ 7 ∧ (7 : Int) ≤ 8; decide) (.p1a rfl ⟨_, [], rfl, rfl⟩)) (.none rfl rfl)
  | p1 h1 _ ht =>
    subst h1
    rw [if_neg (by decide), if_pos rfl]
    by_cases c : r.2.1 ≠ 0
    · rw [if_pos c]
      exact h.stays hT hk hc h8 rfl (.inl rfl) (fun _ => .idle rfl) (.none rfl rfl)
    · rw [if_neg c]
      rcases ht with ⟨_, a, b⟩ | e
      · exact h.stays hT hk hc h8 rfl (.inr (.inl ⟨_, rfl, rfl⟩)) (fun _ => .enq rfl hq none (.p25 (by decide) rfl ⟨a, b, fun e => absurd e (by decide), fun e => absurd e (by decide)⟩)) (.none rfl rfl)
      · exact absurd (by rw [e]; decide) c
  | p25 hp _ hn =>
    have hlive := live_of h.mm hn.inn hn.own
    have hlk := lk_is n
    have hn1 := hn.inn.1
    have hn2 := hn.inn.2
    have hll := hfit.1
    have hp4 : pc = 2 ∨ pc = 3 ∨ pc = 4 ∨ pc = 5 := by
      have key : ∀ x : Int, 2 ≤ x ∧ x ≤ 5 → x = 2 ∨ x = 3 ∨ x = 4 ∨ x = 5 := fun x hx => by omega
      exact key pc hp
    rcases hp4 with h1 | h1 | h1 | h1 <;> subst h1
    · rw [if_neg (by decide), if_neg (by decide), if_pos rfl, store_cell (by decide) hn.inn hlive hfit hgood]
      have hch := fresh_cell (cs := s.2.1) (fs := [((9 : Int), (3 : Int), (q, v, n, t, w, r3), l, ())]) (r := r) (v := v) (j := 3) (.inr rfl) h.qs hk hC.2 one hn.inn hn.own
      have htg := fun q2 h2 => tags_else h (a := lk n + 3) (v := v) (.inr (by omega)) q2 h2
      exact ⟨o, N, h.goes hT hk hc h8 (.inr ⟨_, _, rfl, by omega, fun p hp => by have := lk_is p; omega⟩) (fun _ _ => .inl rfl) rfl (.inr (.inl ⟨_, rfl, rfl⟩)) hch (fun q2 h2 => (htg q2 h2).2) (.enq rfl hq none (.p25 (by decide) rfl ⟨hn.inn, hn.own, fun _ => setW_self (by omega) (by omega), fun e => absurd e (by decide)⟩)), .none rfl rfl, fun q2 p h2 hp => by obtain ⟨a, b⟩ := h.qs.notFresh (k := k) h2 hp; exact hch.1.val p a b, fun q2 h2 => ⟨.inl (htg q2 h2).1.1, .inl (htg q2 h2).1.2⟩, fun _ _ => .inl rfl⟩
    · obtain ⟨e1, e2⟩ := load_cell (j := 1) (by decide) hn.inn hlive hfit hgood
      rw [if_neg (by decide), if_neg (by decide), if_neg (by decide), if_pos rfl, e1]
      exact h.stays hT hk hc h8 rfl (.inr (.inl ⟨_, rfl, rfl⟩)) (fun _ => .enq rfl hq none (.p25 (by decide) rfl (hn.weak (fun _ => by decide) (fun e => absurd e (by decide))))) (.none rfl rfl)
    · rw [if_neg (by decide), if_neg (by decide), if_neg (by decide), if_neg (by decide), if_pos rfl, store_cell (by decide) hn.inn hlive hfit hgood]
      have hch := fresh_cell (cs := s.2.1) (fs := [((9 : Int), (5 : Int), (q, v, n, t, w, r3), l, ())]) (r := r) (v := nextI w 0 0) (j := 1) (.inl rfl) h.qs hk hC.2 one hn.inn hn.own
      have htg := fun q2 h2 => tags_else h (a := lk n + 1) (v := nextI w 0 0) (.inr (by omega)) q2 h2
      refine ⟨o, N, h.goes hT hk hc h8 (.inr ⟨_, _, rfl, by omega, fun p hp => by have := lk_is p; omega⟩) (fun _ _ => .inl rfl) rfl (.inr (.inl ⟨_, rfl, rfl⟩)) hch (fun q2 h2 => (htg q2 h2).2) (.enq rfl hq none (.p25 (by decide) rfl ⟨hn.inn, hn.own, fun _ => ?_, fun _ => ?_⟩)), .none rfl rfl, fun q2 p h2 hp => by obtain ⟨a, b⟩ := h.qs.notFresh (k := k) h2 hp; exact hch.1.val p a b, fun q2 h2 => ⟨.inl (htg q2 h2).1.1, .inl (htg q2 h2).1.2⟩, fun _ _ => .inl rfl⟩
      · exact (setW_ne (by omega) (by omega) (by omega)).trans (hn.val (by decide))
      · rw [show nx (V.setW s.1 (lk n + 1) (nextI w 0 0)) n = nextI w 0 0 from setW_self (by omega) (by omega)]
        exact idx_next (by decide) (by decide)
    · rw [if_neg (by decide), if_neg (by decide), if_neg (by decide), if_neg (by decide), if_neg (by decide), if_pos rfl]
      have e1 : 0 ≤ 33 + 2 * q ∧ 33 + 2 * q < 124 := by rw [htlP]; omega
      exact h.stays hT hk hc h8 rfl (.inr (.inr ⟨_, _, rfl, rfl, by show ¬ (3 : Int) = 6; decide, topProt rfl ⟨⟨e1.1, e1.2, by show (0 : Int) ≤ 0; decide, by show (0 : Int) ≤ 2; decide⟩, .inl rfl⟩⟩)) (fun _ => .enq (U := [frm0 3 (33 + 2 * q) 0 0]) rfl hq (fun g hg => by rw [List.mem_singleton.1 hg]; show (1 : Int) ≤ 3 ∧ (3 : Int) ≤ 8; decide) (.p6a rfl ⟨_, rfl, rfl, rfl, rfl⟩ (hn.weak (fun _ => by decide) (fun _ => by decide)))) (.none rfl rfl)
  | p6 h1 _ hn ht =>
    subst h1
    rw [if_neg (by decide), if_neg (by decide), if_neg (by decide), if_neg (by decide), if_neg (by decide), if_neg (by decide), if_pos rfl]
    exact h.stays hT hk hc h8 rfl (.inr (.inl ⟨_, rfl, rfl⟩)) (fun hno => .enq rfl hq none (.p7 rfl rfl (hn.weak (fun _ => by decide) (fun _ => by decide)) (ht.self hk hno))) (.none rfl rfl)
  | p7 h1 _ hn ht =>
    subst h1
    obtain ⟨e1, e2⟩ := load_cell (j := 1) (by decide) ht.guard.inn (ht.guard.notFree h.mm.stat) hfit hgood
    rw [if_neg (by decide), if_neg (by decide), if_neg (by decide), if_neg (by decide), if_neg (by decide), if_neg (by decide), if_neg (by decide), if_pos rfl, e1, e2]
    by_cases c : idxI (nI s.1.1 (lk (idxI t) + 1)) = 0
    · rw [if_pos c]
      exact h.stays hT hk hc h8 rfl (.inr (.inl ⟨_, rfl, rfl⟩)) (fun hno => .enq rfl hq none (.p9 rfl rfl (hn.weak (fun _ => by decide) (fun _ => by decide)) (ht.self hk hno) c)) (.none rfl rfl)
    · rw [if_neg c]
      exact h.stays hT hk hc h8 rfl (.inr (.inl ⟨_, rfl, rfl⟩)) (fun hno => .enq rfl hq none (.p8 rfl rfl (hn.weak (fun _ => by decide) (fun _ => by decide)) ⟨ht.stale, c, fun _ => rfl⟩)) (.none rfl rfl)
  | p8 h1 _ hn ht =>
    subst h1
    rw [if_neg (by decide), if_neg (by decide), if_neg (by decide), if_neg (by decide), if_neg (by decide), if_neg (by decide), if_neg (by decide), if_neg (by decide), if_pos rfl]
    have hi : 0 ≤ idxI w ∧ idxI w < 1048576 := by unfold idxI; omega
    have hlk := lk_is n
    have hn1 := hn.inn.1
    refine h.help hT hk hc h8 hq ht hi rfl fun m' hm' => .enq rfl hq none (.p25 (by decide) rfl ?_)
    have hn' := hn.weak (pc' := 5) (fun _ => by decide) (fun _ => by decide)
    rcases hm' with e | e <;> rw [e]
    · exact hn'
    · exact hn'.setW (by omega) (by omega) (by omega)
  | p9 h1 _ hn ht hw =>
    subst h1
    have hin := ht.guard.inn
    have hlk := lk_is n
    have hlt := lk_is (idxI t)
    have hn1 := hn.inn.1
    have hn2 := hn.inn.2
    have ht1 := hin.1
    have ht2 := hin.2
    have hll := hfit.1
    have hll2 := hfit.2
    rw [if_neg (by decide), if_neg (by decide), if_neg (by decide), if_neg (by decide), if_neg (by decide), if_neg (by decide), if_neg (by decide), if_neg (by decide), if_neg (by decide), if_pos rfl]
    rcases cas_cell (j := 1) (v := nextI w n 0) (by decide) hin (ht.guard.notFree h.mm.stat) hfit hgood w with ⟨c, cb, cm⟩ | ⟨c, cb, cm⟩
    · rw [cb, if_pos rfl, cm]
      have hnx : nx s.1 (idxI t) = w := c
      have hnx0 : idxI (nx s.1 (idxI t)) = 0 := by rw [hnx]; exact hw
      have hsh : o (idxI t) = .shared := by
        rcases ht.guard.own with e | ⟨d, e⟩ | ⟨d, _, e, _⟩
        · exact e
        · exact absurd hnx0 (h.qs.out _ d hin (.inl e))
        · exact absurd hnx0 (h.qs.out _ d hin (.inr e))
      have hmem := ht.mem hsh
      have hQI := h.qs.q q hq
      obtain ⟨A, hA⟩ := Chn.isLast hnx0 hQI.head (fun y hy => by have := (h.qs.inn q y hq hy).1.1; omega) hmem
      have htl : idxI (tlW s.1 q) = idxI t := by
        obtain ⟨A', B', e1, e2⟩ := ht.past hmem
        have hnd := hQI.nodup
        rcases e2 with e2 | e2
        · exact e2.symm
        · exfalso
          obtain ⟨C, D, e3⟩ := List.append_of_mem e2
          rw [e3] at e1
          have e4 : C ++ idxI t :: (D ++ idxI (tlW s.1 q) :: B') = A ++ idxI t :: [] := by rw [← hA, e1]; simp
          have hnd2 := hnd
          rw [e1, show C ++ idxI t :: D ++ idxI (tlW s.1 q) :: B' = C ++ idxI t :: (D ++ idxI (tlW s.1 q) :: B') by simp] at hnd2
          have := (split_uniq hnd2 e4).2
          exact absurd this (by simp)
      have hch := link_node (cs := s.2.1) (fs := [((9 : Int), (10 : Int), (q, v, n, t, w, r3), l, ())]) (r := r) (v := nextI w n 0) h.qs hq hfit hk hC.2 one hA htl hn.inn hn.own (hn.nxt (by decide)) (idx_next (by omega) (by omega))
      have htg := fun q2 h2 => tags_else h (a := lk (idxI t) + 1) (v := nextI w n 0) (.inr (by omega)) q2 h2
      refine ⟨_, _, h.goes hT hk hc h8 (.inr ⟨_, _, rfl, by omega, fun p hp => by have := lk_is p; omega⟩) (fun p _ => ?_) rfl (.inr (.inl ⟨_, rfl, rfl⟩)) hch (fun q2 h2 => (htg q2 h2).2) (.enq rfl hq none (.p10 rfl rfl hn.inn ⟨?_, by omega, fun _ => ?_⟩)), .enq (n := n) hq rfl rfl ?_, fun q2 p h2 hp => by obtain ⟨a, b⟩ := h.qs.notFresh (k := k) h2 hp; exact hch.1.val p a b, fun q2 h2 => ⟨.inl (htg q2 h2).1.1, .inl (htg q2 h2).1.2⟩, fun p _ => ?_⟩
      · by_cases e : p = n
        · rw [e, upd_self]; exact .inr (.inl ⟨hn.own, rfl⟩)
        · rw [upd_ne e]; exact .inl rfl
      · exact ht.stale.stays (.inl (htg q hq).1.2)
      · rw [show nx (V.setW s.1 (lk (idxI t) + 1) (nextI w n 0)) (idxI t) = nextI w n 0 from setW_self (by omega) (by omega)]
        exact idx_next (by omega) (by omega)
      · exact (setW_ne (by omega) (by omega) (by omega)).trans (hn.val (by decide))
      · by_cases e : p = n
        · rw [e]; exact .inr (.inl ⟨hn.own, upd_self⟩)
        · exact .inl (upd_ne e)
    · rw [cb, if_neg (by decide), cm]
      exact h.stays hT hk hc h8 rfl (.inr (.inl ⟨_, rfl, rfl⟩)) (fun hno => .enq rfl hq none (.p25 (by decide) rfl (hn.weak (fun _ => by decide) (fun _ => by decide)))) (.none rfl rfl)
  | p10 h1 _ hn ht =>
    subst h1
    rw [if_neg (by decide), if_neg (by decide), if_neg (by decide), if_neg (by decide), if_neg (by decide), if_neg (by decide), if_neg (by decide), if_neg (by decide), if_neg (by decide), if_neg (by decide), if_pos rfl]
    have hn1 := hn.1
    have hn2 := hn.2
    have hll2 := hfit.2
    exact h.help hT hk hc h8 hq ht ⟨by omega, by omega⟩ rfl fun m' hm' => .enq rfl hq none (.p11 rfl rfl)
  | p11 h1 _ =>
    subst h1
    rw [if_neg (by decide), if_neg (by decide), if_neg (by decide), if_neg (by decide), if_neg (by decide), if_neg (by decide), if_neg (by decide), if_neg (by decide), if_neg (by decide), if_neg (by decide), if_neg (by decide), if_pos rfl]
    have hk8 : k < 8 := by omega
    have hs := slotP_is k 0
    rw [slotP_place hk8 (by decide) (by decide), store_word (by omega) (by omega) hfit]
    have hch := slot_set (cs := s.2.1) (fs := []) (r := (0, 0, r.2.2)) (v := 0) (k := k) (i := 0) (by decide) h.qs hk hC.2 (fun x hx => nomatch hx)
    have htg := fun q2 h2 => tags_else h (a := slotP k 0) (v := 0) (.inl (by omega)) q2 h2
    exact ⟨o, N, h.goes hT hk hc h8 (.inr ⟨_, _, rfl, by omega, fun p hp => by have := lk_is p; omega⟩) (fun _ _ => .inl rfl) rfl (.inl rfl) hch (fun q2 h2 => (htg q2 h2).2) (.idle rfl), .none rfl rfl, fun q2 p h2 hp => by obtain ⟨a, b⟩ := h.qs.notFresh (k := k) h2 hp; exact hch.1.val p a b, fun q2 h2 => ⟨.inl (htg q2 h2).1.1, .inl (htg q2 h2).1.2⟩, fun _ _ => .inl rfl⟩
end
end Go.Proofs.YtpobngddiifdpaaGreat.V
