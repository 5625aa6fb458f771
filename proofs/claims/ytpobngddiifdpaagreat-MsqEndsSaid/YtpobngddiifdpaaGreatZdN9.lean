/- Queues: a step of ODeq; a step of any core. -/
import Derived.Test.YtpobngddiifdpaaGreatZdN8
set_option linter.unusedSimpArgs false
set_option linter.unusedVariables false
namespace Go.Proofs.YtpobngddiifdpaaGreat.V
open Go Go.RowKit Go.Proofs.YtpobngddiifdpaaGreat.Hz
set_option maxRecDepth 100000

section
variable {T : Int} {o : OM} {s : Sy} {N : NQ} {k : Nat} {r : Rest}
set_option maxHeartbeats 1000000 in
/-- A step of ODeq. -/
theorem MsI.take {pc q v hh t w x e y : Int} {l : Li} (h : MsI T o s N) (hT : T < 1000000000) (hk : k < s.2.1.length) (hc : cAt s.2.1 k = ([((10 : Int), pc, (q, v, hh, t, w, x, e, y, ()), l, ())], r)) : IsQ q ∧ After T o s N k (lTake k s.1 pc q v hh t w x e y l r) := by
  obtain ⟨fl, hfl⟩ := h.mm.list
  have hfit := hfl.fits
  have hgood := hfl.good
  have hlen : 128 ≤ s.1.1.length := by have := hfit.1; have := h.mm.more; omega
  have hC := h.mm.cores
  have hco := h.core k hk
  rw [hc] at hco
  have h8 : ¬ ((10 : Int), pc, (q, v, hh, t, w, x, e, y, ()), l, ()).1 ≤ 8 := by show ¬ (10 : Int) ≤ 8; decide
  have one : ∀ {pc' : Int} {g : R8}, ∀ x ∈ [(((10 : Int), pc', g, l, ()) : Frm)], x.1 ≠ 6 := fun x hx => by
    rw [List.mem_singleton.1 hx]; show ¬ (10 : Int) = 6; decide
  have none : ∀ g ∈ ([] : List Frm), 1 ≤ g.1 ∧ g.1 ≤ 8 := fun g hg => nomatch hg
  cases hco with
  | idle e => cases e
  | enq e' _ _ _ =>
    have := (Prod.mk.inj (List.cons.inj e').1).1
    exact nope (show (10 : Int) = 9 from this) rfl
  | deq e' hq hU hI =>
  have e' := List.cons.inj e'
  obtain ⟨e1, rfl⟩ := e'
  cases e1
  refine ⟨hq, ?_⟩
  have hsp := sp_lt hq
  have hk8 : k < 8 := by omega
  have stay : ∀ {pc' : Int} {g : R8}, DeqI s.1 o (List.set (α := Cor) s.2.1 ((k : Nat) : Int).toNat ([((10 : Int), pc', g, l, ())], r)) N k pc' g.1 g.2.2.1 g.2.2.2.1 g.2.2.2.2.1 g.2.2.2.2.2.1 [] r → g.1 = q → ∀ {ev : List Evt}, Eff k N s.1 N s.1 ev → After T o s N k ⟨s.1, [((10 : Int), pc', g, l, ())], r, ev⟩ := fun {pc' g} hd hg {ev} hev => by
    refine h.stays hT hk hc h8 rfl (.inr (.inl ⟨_, rfl, rfl⟩)) (fun _ => ?_) hev
    obtain ⟨a1, a2, a3, a4, a5, a6, a7, a8, u⟩ := g
    obtain rfl : u = () := rfl
    exact .deq rfl (by rw [show a1 = q from hg]; exact hq) none hd
  unfold lTake
  cases hI with
  | p1a _ u => obtain ⟨g, u, _⟩ := u; cases u
  | p9a _ u => obtain ⟨g, rest, u, _⟩ := u; cases u
  | p0 h1 _ =>
    subst h1
    rw [if_pos rfl]
    have e1 : 0 ≤ 32 + 2 * q ∧ 32 + 2 * q < 124 := by have : 32 + 2 * q = hdP q := rfl; omega
    exact h.stays hT hk hc h8 rfl (.inr (.inr ⟨_, _, rfl, rfl, by show ¬ (3 : Int) = 6; decide, topProt rfl ⟨⟨e1.1, e1.2, by show (0 : Int) ≤ 0; decide, by show (0 : Int) ≤ 2; decide⟩, .inl rfl⟩⟩)) (fun _ => .deq (U := [frm0 3 (32 + 2 * q) 0 0]) rfl hq (fun g hg => by rw [List.mem_singleton.1 hg]; show (1 : Int) ≤ 3 ∧ (3 : Int) ≤ 8; decide) (.p1a rfl ⟨_, rfl, rfl, rfl, rfl⟩)) (.none rfl rfl)
  | p1 h1 _ ht =>
    subst h1
    rw [if_neg (by decide), if_pos rfl]
    exact stay (.p2 rfl rfl (ht.self hk one)) rfl (.none rfl rfl)
  | p2 h1 _ ht =>
    subst h1
    obtain ⟨l1, l2⟩ := load_word (m := s.1) (p := tlP q) (by omega) (by omega) hfit
    rw [if_neg (by decide), if_neg (by decide), if_pos rfl, show 33 + 2 * q = tlP q from rfl, l1, l2]
    exact stay (.p3 rfl rfl (ht.self hk one) (.inl rfl) (fun _ h => h)) rfl (.none rfl rfl)
  | p3 h1 _ ht hs ha =>
    subst h1
    obtain ⟨e1, e2⟩ := load_cell (j := 1) (by decide) ht.guard.inn (ht.guard.notFree h.mm.stat) hfit hgood
    rw [if_neg (by decide), if_neg (by decide), if_neg (by decide), if_pos rfl, e1, e2]
    by_cases c : idxI (nI s.1.1 (lk (idxI hh) + 1)) = 0
    · rw [if_pos c]
      have hnx0 : idxI (nx s.1 (idxI hh)) = 0 := c
      have hin := ht.guard.inn
      have hsh : o (idxI hh) = .shared := by
        rcases ht.guard.own with e | ⟨d, e⟩ | ⟨d, _, e, _⟩
        · exact e
        · exact absurd hnx0 (h.qs.out _ d hin (.inl e))
        · exact absurd hnx0 (h.qs.out _ d hin (.inr e))
      have hmem := ht.mem hsh
      have hQI := h.qs.q q hq
      obtain ⟨A, hA⟩ := Chn.isLast hnx0 hQI.head (fun y hy => by have := (h.qs.inn q y hq hy).1.1; omega) hmem
      have hfst := ht.first hmem
      obtain ⟨l2, hl2⟩ := h.qs.head hq
      rw [hfst] at hl2
      have hN : N q = [idxI hh] := by
        cases A with
        | nil => exact hA
        | cons a A =>
          exfalso
          have hnd := hQI.nodup
          rw [hA] at hl2 hnd
          have e4 := (List.cons.inj (show a :: (A ++ [idxI hh]) = idxI hh :: l2 from hl2)).1
          have := (List.nodup_cons.1 (show (a :: (A ++ [idxI hh])).Nodup from hnd)).1
          exact this (by rw [e4]; simp)
      exact stay (.p9 rfl rfl) rfl (.empty hq rfl hN rfl)
    · rw [if_neg c]
      by_cases d : idxI hh = idxI t
      · rw [if_pos d]
        exact stay (.p4 rfl rfl ⟨hs, c, fun _ => by rw [← d]; rfl⟩) rfl (.none rfl rfl)
      · rw [if_neg d]
        exact stay (.p58 (by decide) rfl ⟨ht.stale, c, fun e => ⟨ha e (fun e => d e.symm), rfl⟩, fun e => absurd e (by decide), fun e => absurd e (by decide), fun e => absurd e (by decide)⟩) rfl (.none rfl rfl)
  | p4 h1 _ ht =>
    subst h1
    rw [if_neg (by decide), if_neg (by decide), if_neg (by decide), if_neg (by decide), if_pos rfl]
    have hi : 0 ≤ idxI w ∧ idxI w < 1048576 := by unfold idxI; omega
    exact h.help hT hk hc h8 hq ht hi rfl fun m' hm' => .deq rfl hq none (.p0 rfl rfl)
  | p58 hp _ ht =>
    have hp4 : pc = 5 ∨ pc = 6 ∨ pc = 7 ∨ pc = 8 := by
      have key : ∀ x : Int, 5 ≤ x ∧ x ≤ 8 → x = 5 ∨ x = 6 ∨ x = 7 ∨ x = 8 := fun x hx => by omega
      exact key pc hp
    have nodes : hdW s.1 q = hh → InN s.1 (idxI w) ∧ o (idxI w) = .shared := fun e0 => by
      obtain ⟨n1, n2⟩ := ht.now e0
      obtain ⟨l1, hl1⟩ := h.qs.head hq
      have hch := (h.qs.q q hq).head
      rw [hl1, e0] at hch
      have h2 := hch.2
      rw [n2] at h2
      obtain ⟨l2, hl2⟩ := Chn.cons h2 ht.ne
      exact h.qs.inn q (idxI w) hq (by rw [hl1, hl2]; simp)
    rcases hp4 with h1 | h1 | h1 | h1 <;> subst h1
    · rw [if_neg (by decide), if_neg (by decide), if_neg (by decide), if_neg (by decide), if_neg (by decide), if_pos rfl]
      have hs := slotP_is k 1
      rw [slotP_place hk8 (by decide) (by decide), store_word (by omega) (by omega) hfit]
      have hch := slot_set (cs := s.2.1) (fs := [((10 : Int), (6 : Int), (q, v, hh, t, w, x, e, y, ()), l, ())]) (r := r) (v := idxI w) (k := k) (i := 1) (by decide) h.qs hk hC.2 one
      have htg := fun q2 h2 => tags_else h (a := slotP k 1) (v := idxI w) (.inl (by omega)) q2 h2
      refine ⟨o, N, h.goes hT hk hc h8 (.inr ⟨_, _, rfl, by omega, fun p hp => by have := lk_is p; omega⟩) (fun _ _ => .inl rfl) rfl (.inr (.inl ⟨_, rfl, rfl⟩)) hch (fun q2 h2 => (htg q2 h2).2) (.deq rfl hq none (.p58 (by decide) rfl ⟨?_, ht.ne, fun e0 => ?_, fun _ => setW_self (by omega) (by omega), fun e => absurd e (by decide), fun e => absurd e (by decide)⟩)), .none rfl rfl, fun q2 p h2 hp => by obtain ⟨a, b⟩ := h.qs.notFresh (k := k) h2 hp; exact hch.1.val p a b, fun q2 h2 => ⟨.inl (htg q2 h2).1.1, .inl (htg q2 h2).1.2⟩, fun _ _ => .inl rfl⟩
      · exact ht.stale.stays (.inl (htg q hq).1.1)
      · have e1 : hdW s.1 q = hh := (htg q hq).1.1.symm.trans e0
        obtain ⟨n1, n2⟩ := ht.now e1
        have hin := (h.qs.headS hq).1
        rw [e1] at hin
        have := lk_is (idxI hh)
        have := hin.1
        refine ⟨?_, ?_⟩
        · show idxI (tlW (V.setW s.1 (slotP k 1) (idxI w)) q) ≠ _
          rw [(htg q hq).1.2]; exact n1
        show idxI (nx (V.setW s.1 (slotP k 1) (idxI w)) (idxI hh)) = _
        rw [show nx (V.setW s.1 (slotP k 1) (idxI w)) (idxI hh) = nx s.1 (idxI hh) from setW_ne (by omega) (by omega) (by omega)]
        exact n2
    · obtain ⟨l1, l2⟩ := load_word (m := s.1) (p := hdP q) (by omega) (by omega) hfit
      rw [if_neg (by decide), if_neg (by decide), if_neg (by decide), if_neg (by decide), if_neg (by decide), if_neg (by decide), if_pos rfl, show 32 + 2 * q = hdP q from rfl, l1, l2]
      by_cases c : nI s.1.1 (hdP q) ≠ hh
      · rw [if_pos c]
        exact stay (.p0 rfl rfl) rfl (.none rfl rfl)
      · rw [if_neg c]
        have e0 : hdW s.1 q = hh := Decidable.not_not.1 c
        obtain ⟨a, b⟩ := nodes e0
        exact stay (.p58 (by decide) rfl ⟨ht.stale, ht.ne, ht.now, fun _ => ht.slot (by decide), fun _ => ⟨ht.slot (by decide), a, .inl b⟩, fun e => absurd e (by decide)⟩) rfl (.none rfl rfl)
    · have hg := ht.guard rfl
      obtain ⟨e1, e2⟩ := load_cell (j := 3) (by decide) hg.inn (hg.notFree h.mm.stat) hfit hgood
      rw [if_neg (by decide), if_neg (by decide), if_neg (by decide), if_neg (by decide), if_neg (by decide), if_neg (by decide), if_neg (by decide), if_pos rfl, e1, e2]
      exact stay (.p58 (by decide) rfl ⟨ht.stale, ht.ne, ht.now, fun _ => ht.slot (by decide), fun e => absurd e (by decide), fun _ _ => rfl⟩) rfl (.none rfl rfl)
    · rw [if_neg (by decide), if_neg (by decide), if_neg (by decide), if_neg (by decide), if_neg (by decide), if_neg (by decide), if_neg (by decide), if_neg (by decide), if_pos rfl, show 32 + 2 * q = hdP q from rfl]
      have hi : 0 ≤ idxI w ∧ idxI w < 1048576 := by unfold idxI; omega
      rcases cas_word (m := s.1) (a := hdP q) (w := hh) (v := nextI hh (idxI w) 0) (by omega) (by omega) hfit with ⟨c, cb, cm⟩ | ⟨c, cb, cm⟩
      · rw [cb, if_pos rfl, cm]
        have e0 : hdW s.1 q = hh := c
        obtain ⟨n1, n2⟩ := ht.now e0
        have hval := ht.val rfl e0
        have htg : tagI (nextI hh (idxI w) 0) = tagI hh + 1 := tag_nx h hT (by have := (h.tags q hq).1; rw [e0] at this; exact this) hi.1 hi.2
        have hno : ∀ g ∈ [(((10 : Int), (9 : Int), (q, v, hh, t, w, x, (0 : Int), y, ()), l, ()) : Frm), frm0 5 (idxI hh) 0 0], g.1 ≠ 6 := fun g hg => by
          rcases List.mem_cons.1 hg with e | e
          · rw [e]; show ¬ (10 : Int) = 6; decide
          · rw [List.mem_singleton.1 e]; show ¬ (5 : Int) = 6; decide
        have hhs := h.qs.headS hq
        obtain ⟨l2, hN, hch⟩ := head_move (k := k) (cs := s.2.1) (fs := [((10 : Int), (9 : Int), (q, v, hh, t, w, x, (0 : Int), y, ()), l, ()), frm0 5 (idxI hh) 0 0]) (r := r) (v := nextI hh (idxI w) 0) (w := idxI w) h.qs hq hlen hk hC.2 hno (by rw [e0]; exact n2) ht.ne (by rw [e0]; exact n1) (idx_next hi.1 hi.2) (by rw [e0]; exact htg)
        rw [e0] at hN hch hhs
        refine ⟨upd o (idxI hh) (.gone k), updQ N q (idxI w :: l2), h.goes hT hk hc h8 (.inr ⟨_, _, rfl, by omega, fun p hp => by have := lk_is p; omega⟩) (fun p _ => ?_) rfl (.inr (.inr ⟨_, _, rfl, rfl, topRetire rfl (.inr ⟨rfl, hhs.1, (upd_self : upd o (idxI hh) (.gone k) (idxI hh) = .gone k)⟩)⟩)) hch (tags_hd h hq hlen (by have := (h.tags q hq).1; rw [e0] at this; rw [htg]; omega)) (.deq (U := [frm0 5 (idxI hh) 0 0]) rfl hq (fun g hg => by rw [List.mem_singleton.1 hg]; show (1 : Int) ≤ 5 ∧ (5 : Int) ≤ 8; decide) (.p9a rfl ⟨_, [], rfl, rfl⟩)), .deq hq rfl hN rfl hval, fun q2 p h2 hp => by obtain ⟨a, b⟩ := h.qs.notFresh (k := k) h2 hp; exact hch.1.val p a b, fun q2 h2 => ⟨?_, ?_⟩, fun p _ => ?_⟩
        · by_cases e : p = idxI hh
          · rw [e, upd_self]; exact .inr (.inr ⟨hhs.2, rfl⟩)
          · rw [upd_ne e]; exact .inl rfl
        · by_cases e2 : q2 = q
          · subst e2
            right
            have hs : hdW (V.setW s.1 (hdP q2) (nextI hh (idxI w) 0)) q2 = nextI hh (idxI w) 0 := setW_self (by omega) (by omega)
            show idxI (hdW (V.setW s.1 (hdP q2) (nextI hh (idxI w) 0)) q2) = _
            rw [hs, idx_next hi.1 hi.2, e0, n2]
          · left
            have b := sp_lt h2
            exact setW_ne (by omega) (by omega) fun e => (sp_apart hq h2 e2).1 e.symm
        · left
          have b := sp_lt h2
          refine setW_ne (by omega) (by omega) ?_
          by_cases e2 : q2 = q
          · subst e2; exact b.2.2.2.2
          · exact fun e => (sp_apart hq h2 e2).2.2.2 e.symm
        · by_cases e : p = idxI hh
          · subst e; exact .inr (.inr ⟨hhs.2, upd_self, _, rfl⟩)
          · exact .inl (upd_ne e)
      · rw [cb, if_neg (by decide), cm]
        exact stay (.p0 rfl rfl) rfl (.none rfl rfl)
  | p9 h1 _ =>
    subst h1
    rw [if_neg (by decide), if_neg (by decide), if_neg (by decide), if_neg (by decide), if_neg (by decide), if_neg (by decide), if_neg (by decide), if_neg (by decide), if_neg (by decide), if_pos rfl]
    have hs := slotP_is k 0
    rw [slotP_place hk8 (by decide) (by decide), store_word (by omega) (by omega) hfit]
    have hch := slot_set (cs := s.2.1) (fs := [((10 : Int), (10 : Int), (q, v, hh, t, w, x, e, y, ()), l, ())]) (r := r) (v := 0) (k := k) (i := 0) (by decide) h.qs hk hC.2 one
    have htg := fun q2 h2 => tags_else h (a := slotP k 0) (v := 0) (.inl (by omega)) q2 h2
    exact ⟨o, N, h.goes hT hk hc h8 (.inr ⟨_, _, rfl, by omega, fun p hp => by have := lk_is p; omega⟩) (fun _ _ => .inl rfl) rfl (.inr (.inl ⟨_, rfl, rfl⟩)) hch (fun q2 h2 => (htg q2 h2).2) (.deq rfl hq none (.p10 rfl rfl)), .none rfl rfl, fun q2 p h2 hp => by obtain ⟨a, b⟩ := h.qs.notFresh (k := k) h2 hp; exact hch.1.val p a b, fun q2 h2 => ⟨.inl (htg q2 h2).1.1, .inl (htg q2 h2).1.2⟩, fun _ _ => .inl rfl⟩
  | p10 h1 _ =>
    subst h1
    rw [if_neg (by decide), if_neg (by decide), if_neg (by decide), if_neg (by decide), if_neg (by decide), if_neg (by decide), if_neg (by decide), if_neg (by decide), if_neg (by decide), if_neg (by decide), if_pos rfl]
    have hs := slotP_is k 1
    rw [slotP_place hk8 (by decide) (by decide), store_word (by omega) (by omega) hfit]
    have hch := slot_set (cs := s.2.1) (fs := []) (r := (x, e, r.2.2)) (v := 0) (k := k) (i := 1) (by decide) h.qs hk hC.2 (fun x hx => nomatch hx)
    have htg := fun q2 h2 => tags_else h (a := slotP k 1) (v := 0) (.inl (by omega)) q2 h2
    exact ⟨o, N, h.goes hT hk hc h8 (.inr ⟨_, _, rfl, by omega, fun p hp => by have := lk_is p; omega⟩) (fun _ _ => .inl rfl) rfl (.inl rfl) hch (fun q2 h2 => (htg q2 h2).2) (.idle rfl), .none rfl rfl, fun q2 p h2 hp => by obtain ⟨a, b⟩ := h.qs.notFresh (k := k) h2 hp; exact hch.1.val p a b, fun q2 h2 => ⟨.inl (htg q2 h2).1.1, .inl (htg q2 h2).1.2⟩, fun _ _ => .inl rfl⟩
end
end Go.Proofs.YtpobngddiifdpaaGreat.V
