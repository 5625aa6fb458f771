/- Queues: a step of the memory's management. -/
import Derived.Test.YtpobngddiifdpaaGreatZdN3
set_option linter.unusedSimpArgs false
set_option linter.unusedVariables false
namespace Go.Proofs.YtpobngddiifdpaaGreat.V
open Go Go.RowKit Go.Proofs.YtpobngddiifdpaaGreat.Hz
set_option maxRecDepth 100000

theorem Before.refl {N : List Int} {b : Int} (h : b ∈ N) : Before N b b := by
  obtain ⟨A, B, e⟩ := List.append_of_mem h
  exact ⟨A, B, e, .inl rfl⟩
/-- The last of a row with something behind its first. -/
theorem snoc_of {f f0 : Frm} {F U : List Frm} (h : F ++ [f] = f0 :: U) (hU : U ≠ []) : ∃ U', F = f0 :: U' ∧ U = U' ++ [f] := by
  cases F with
  | nil =>
    have := (List.cons.inj (show f :: [] = f0 :: U from h)).2
    exact absurd this.symm hU
  | cons a F =>
    have := List.cons.inj (show a :: (F ++ [f]) = f0 :: U from h)
    exact ⟨F, by rw [this.1], this.2.symm⟩
theorem split_head {g f : Frm} {U' rest : List Frm} (h : U' ++ [f] = g :: rest) : (U' = [] ∧ f = g ∧ rest = []) ∨ ∃ U'', U' = g :: U'' := by
  cases U' with
  | nil =>
    have := List.cons.inj (show f :: [] = g :: rest from h)
    exact .inl ⟨rfl, this.1, this.2.symm⟩
  | cons a U' => exact .inr ⟨U', by rw [(List.cons.inj (show a :: (U' ++ [f]) = g :: rest from h)).1]⟩
section
variable {T : Int} {k : Nat} {m : Me} {o o' : OM} {N : NQ} {F : List Frm} {f : Frm} {r : Rest} {cs cs' : List Cor} {q : Int}
theorem PT.begins {w : Int} (hg : Good T k cs.length m o F f r (lMM cs.length k m f r) o') (hQ : QsI m o N) (hq : IsQ q) (hk : k < 8) (hin : InN m (idxI w) ∧ o (idxI w) = .shared) (hmem : idxI w ∈ N q) {sp : Int} (hw : w = nI (lMM cs.length k m f r).m.1 sp) (hs : idxI w = 0 ∨ nI (lMM cs.length k m f r).m.1 (slotP k 0) = idxI w) : PT (lMM cs.length k m f r).m o' cs' N k q sp w :=
  ⟨.inl hw, ⟨hs.resolve_left (by have := hin.1.1; omega), hg.chg.inN.2 hin.1, .inl ((hg.shared hin.1).2 hin.2)⟩, fun _ => hmem⟩
/-- A core's own step, of an op that was called. -/
theorem CoQ.own (h : CoQ m o cs N k (F ++ [f], r)) (hQ : QsI m o N) (hk : k < 8) (hop : 1 ≤ f.1 ∧ f.1 ≤ 8) (hc : CoreI m o cs.length k (F ++ [f], r)) (hg : Good T k cs.length m o F f r (lMM cs.length k m f r) o') : CoQ (lMM cs.length k m f r).m o' cs' N k (F ++ (lMM cs.length k m f r).fs, (lMM cs.length k m f r).r) := by
  have nocall : ∀ f' g', f.1 = 3 → (lMM cs.length k m f r).fs = [f', g'] → Like f f' → False := fun f' g' hf q1 q2 => by
    have hst2 : Stk (lMM cs.length k m f r).m o' cs.length k (lMM cs.length k m f r).r (F ++ (lMM cs.length k m f r).fs).reverse := hg.core.st
    rw [q1, rev_two] at hst2
    have hw : WaitI cs.length _ f' g'.1 := hst2.2.2.1
    exact hw.low (by rw [q2.1]; exact .inr (.inr (.inl hf)))
  have n9 : ∀ n : Int, 8 < n → f.1 = n → False := fun n hn e => by have := hop.2; rw [e] at this; exact absurd this (Int.not_le.2 hn)
  have hops : ∀ (f0 : Frm) (U : List Frm), (∀ g ∈ U ++ [f], 1 ≤ g.1 ∧ g.1 ≤ 8) → ∀ g ∈ U ++ (lMM cs.length k m f r).fs, 1 ≤ g.1 ∧ g.1 ≤ 8 := fun f0 U hU g hgm => by
    rcases List.mem_append.1 hgm with hgm | hgm
    · exact hU g (List.mem_append_left _ hgm)
    · rcases hg.out with ⟨f', q1, q2, _⟩ | ⟨f', g', q1, q2, q3, _⟩ | ⟨q1, _⟩
      · rw [q1, List.mem_singleton] at hgm
        rw [hgm, q2.1]; exact hop
      · rw [q1] at hgm
        rcases List.mem_cons.1 hgm with e | e
        · rw [e, q2.1]; exact hop
        · rw [List.mem_singleton.1 e]; exact q3
      · rw [q1] at hgm; cases hgm
  have newI : ∀ {pc v n : Int}, f.1 = 3 → NewI m o k pc v n → NewI (lMM cs.length k m f r).m o' k pc v n := fun hf hn => by
    refine ⟨hg.chg.inN.2 hn.inn, ?_, fun hp => (hg.nx hn.inn).2.trans (hn.val hp), fun hp => by rw [(hg.nx hn.inn).1]; exact hn.nxt hp⟩
    rcases fresh_stays hc hg hop hn.inn hn.own with e | ⟨e, _⟩
    · exact e
    · rw [hf] at e; exact nope e rfl
  have chain : ∀ (f0 : Frm) (U' rest : List Frm) (g : Frm) (op : Int), F = f0 :: U' → U' ++ [f] = g :: rest → g.1 = op →
      (∃ g rest, U' ++ (lMM cs.length k m f r).fs = g :: rest ∧ g.1 = op) ∨ (U' ++ (lMM cs.length k m f r).fs = [] ∧ f.1 = op ∧ Post k m f (lMM cs.length k m f r).m o' (lMM cs.length k m f r).r) := fun f0 U' rest g op hF hU hop2 => by
    rcases split_head hU with ⟨e1, e2, _⟩ | ⟨U'', e1⟩
    · subst e1 e2
      rcases hg.out with ⟨f', q1, q2, _⟩ | ⟨f', g', q1, q2, q3, _⟩ | ⟨q1, q2⟩
      · exact .inl ⟨f', [], by rw [q1]; rfl, q2.1.trans hop2⟩
      · exact .inl ⟨f', [g'], by rw [q1]; rfl, q2.1.trans hop2⟩
      · exact .inr ⟨by rw [q1]; rfl, hop2, q2⟩
    · exact .inl ⟨g, U'' ++ (lMM cs.length k m f r).fs, by rw [e1]; rfl, hop2⟩
  have prots : ∀ (U' : List Frm) (g : Frm) (sp : Int), U' ++ [f] = [g] → isProt g sp → U' = [] ∧ f.1 = 3 ∧
      ((∃ g, U' ++ (lMM cs.length k m f r).fs = [g] ∧ isProt g sp) ∨ (U' ++ (lMM cs.length k m f r).fs = [] ∧ (lMM cs.length k m f r).r.1 = nI m.1 sp ∧ (idxI (lMM cs.length k m f r).r.1 = 0 ∨ nI (lMM cs.length k m f r).m.1 (slotP k 0) = idxI (lMM cs.length k m f r).r.1))) := fun U' g sp hU hp => by
    rcases split_head hU with ⟨e1, e2, _⟩ | ⟨U'', e1⟩
    · subst e1 e2
      refine ⟨rfl, hp.1, ?_⟩
      rcases hg.out with ⟨f', q1, q2, _⟩ | ⟨f', g', q1, q2, q3, _⟩ | ⟨q1, q2⟩
      · refine .inl ⟨f', by rw [q1]; rfl, q2.1.trans hp.1, ?_, ?_⟩
        · rcases q2.2.1 (by rw [hp.1]; decide) with e3 | e3
          · rw [e3]; exact hp.2.1
          · rw [hp.1] at e3; exact nope e3 rfl
        · rw [q2.2.2 hp.1]; exact hp.2.2
      · exact (nocall f' g' hp.1 q1 q2).elim
      · obtain ⟨p1, p2⟩ := q2.prot hp.1
        rw [hp.2.1] at p1
        rw [hp.2.2] at p2
        exact .inr ⟨by rw [q1]; rfl, p1, p2⟩
    · rw [e1] at hU
      exact absurd (congrArg List.length hU) (by show ¬ (g :: (U'' ++ [f])).length = 1; rw [List.length_cons, List.length_append]; show ¬ U''.length + 1 + 1 = 1; omega)
  have ne : ∀ {U' : List Frm}, U' ++ [f] ≠ [] := fun h => by simp at h
  cases h with
  | idle e => exact absurd e (by simp)
  | @enq pc q v n t w r3 l U e hq hU hI =>
    have e : F ++ [f] = ((9 : Int), pc, (q, v, n, t, w, r3), l, ()) :: U := e
    have hUne : U ≠ [] := fun hu => by
      rw [hu] at e
      exact n9 9 (by decide) (by rw [(one_of e).2])
    obtain ⟨U', hF, hU'⟩ := snoc_of e hUne
    subst hF hU'
    refine .enq (U := U' ++ (lMM cs.length k m f r).fs) rfl hq (hops ((9 : Int), pc, (q, v, n, t, w, r3), l, ()) U' hU) ?_
    show EnqI _ _ _ _ _ _ _ _ _ _ _ _ (lMM cs.length k m f r).r
    cases hI with
    | p0 h1 u => exact absurd u ne
    | p1a h1 u =>
      obtain ⟨g, rest, hu, h7⟩ := u
      rcases chain _ U' rest g 7 rfl hu h7 with h | ⟨h2, h3, h4⟩
      · exact .p1a h1 h
      · exact .p1 h1 h2 (h4.told (.inr h3))
    | p1 h1 u ht => exact absurd u ne
    | p25 h1 u hn => exact absurd u ne
    | p6a h1 u hn =>
      obtain ⟨g, hu, hp⟩ := u
      obtain ⟨e1, hf, h2⟩ := prots U' g _ hu hp
      rcases h2 with h2 | ⟨h2, h3, h4⟩
      · exact .p6a h1 h2 (newI hf hn)
      · refine .p6 h1 h2 (newI hf hn) ⟨?_, fun _ => ?_⟩
        · refine PT.begins hg hQ hq hk ?_ ?_ (h3.trans (hg.hd hq hk).2.symm) h4
          · rw [h3]; exact hQ.tailS hq
          · rw [h3]; exact hQ.tailIn hq
        · rw [h3, (hg.hd hq hk).2]
          exact Before.refl (hQ.tailIn hq)
    | p6 h1 u hn ht => exact absurd u ne
    | p7 h1 u hn ht => exact absurd u ne
    | p8 h1 u hn ht => exact absurd u ne
    | p9 h1 u hn ht hw => exact absurd u ne
    | p10 h1 u hn ht => exact absurd u ne
    | p11 h1 u => exact absurd u ne
  | @deq pc q v h t w x e y l U e' hq hU hI =>
    have e' : F ++ [f] = ((10 : Int), pc, (q, v, h, t, w, x, e, y, ()), l, ()) :: U := e'
    have hUne : U ≠ [] := fun hu => by
      rw [hu] at e'
      exact n9 10 (by decide) (by rw [(one_of e').2])
    obtain ⟨U', hF, hU'⟩ := snoc_of e' hUne
    subst hF hU'
    refine .deq (U := U' ++ (lMM cs.length k m f r).fs) rfl hq (hops ((10 : Int), pc, (q, v, h, t, w, x, e, y, ()), l, ()) U' hU) ?_
    show DeqI _ _ _ _ _ _ _ _ _ _ _ _ (lMM cs.length k m f r).r
    cases hI with
    | p0 h1 u => exact absurd u ne
    | p1a h1 u =>
      obtain ⟨g, hu, hp⟩ := u
      obtain ⟨e1, hf, h2⟩ := prots U' g _ hu hp
      rcases h2 with h2 | ⟨h2, h3, h4⟩
      · exact .p1a h1 h2
      · refine .p1 h1 h2 ⟨PT.begins hg hQ hq hk ?_ ?_ (h3.trans (hg.hd hq hk).1.symm) h4, fun _ => ?_⟩
        · rw [h3]; exact hQ.headS hq
        · rw [h3]
          obtain ⟨l, hl⟩ := hQ.head hq
          rw [hl]; exact List.mem_cons_self ..
        · rw [h3, (hg.hd hq hk).1]
    | p1 h1 u ht => exact absurd u ne
    | p2 h1 u ht => exact absurd u ne
    | p3 h1 u ht hs ha => exact absurd u ne
    | p4 h1 u ht => exact absurd u ne
    | p58 h1 u ht => exact absurd u ne
    | p9a h1 u =>
      obtain ⟨g, rest, hu, h5⟩ := u
      rcases chain _ U' rest g 5 rfl hu h5 with h | ⟨h2, _, _⟩
      · exact .p9a h1 h
      · exact .p9 h1 h2
    | p9 h1 u => exact absurd u ne
    | p10 h1 u => exact absurd u ne
end
section
variable {T : Int} {o : OM} {s : Sy} {N : NQ} {k : Nat}
/-- A step of an op that was called. -/
theorem MsI.step {F : List Frm} {f : Frm} {r : Rest} (h : MsI T o s N) (hT : T < 1000000000) (hk : k < s.2.1.length) (hc : cAt s.2.1 k = (F ++ [f], r)) (hop : 1 ≤ f.1 ∧ f.1 ≤ 8) :
    ∃ o', alS s k = (lMM s.2.1.length k s.1 f r).into s k F ∧ Good T k s.2.1.length s.1 o F f r (lMM s.2.1.length k s.1 f r) o' ∧ MsI (T + 1) o' (alS s k) N := by
  obtain ⟨o', e, hg, hm⟩ := h.mm.step hT hk hc hop
  obtain ⟨l, hl⟩ := h.mm.list
  have hcore := h.mm.core k hk
  rw [hc] at hcore
  have hC := h.mm.cores
  refine ⟨o', e, hg, hm, ?_, fun q hq => ?_, fun c hcc => ?_⟩
  · rw [e]; exact hg.qs h.qs (by omega)
  · rw [e]
    obtain ⟨e1, e2⟩ := hg.hd hq (by omega)
    have := h.tags q hq
    show tagI (hdW (lMM s.2.1.length k s.1 f r).m q) ≤ _ ∧ tagI (tlW (lMM s.2.1.length k s.1 f r).m q) ≤ _
    rw [e1, e2]; omega
  · rw [e] at hcc ⊢
    have hcc : c < s.2.1.length := by rw [show ((lMM s.2.1.length k s.1 f r).into s k F).2.1.length = s.2.1.length from List.length_set] at hcc; exact hcc
    by_cases ck : c = k
    · subst ck
      have hpl := h.core c hk
      rw [hc] at hpl
      rw [show cAt ((lMM s.2.1.length c s.1 f r).into s c F).2.1 c = (F ++ (lMM s.2.1.length c s.1 f r).fs, (lMM s.2.1.length c s.1 f r).r) from cAt_setN hk]
      exact hpl.own h.qs (by omega) hop hcore hg
    · rw [show cAt ((lMM s.2.1.length k s.1 f r).into s k F).2.1 c = cAt s.2.1 c from cAt_neN ck]
      exact (h.core c hcc).stays (hg.qchg h.qs hC.2 hl hk hop hc hcore) h.qs ck hcc (by omega)
end
end Go.Proofs.YtpobngddiifdpaaGreat.V

set_option linter.unusedSimpArgs false
set_option linter.unusedVariables false
namespace Go.Proofs.YtpobngddiifdpaaGreat.V
open Go Go.RowKit Go.Proofs.YtpobngddiifdpaaGreat.Hz
set_option maxRecDepth 100000

/-- A step of a queue's op. -/
theorem MsI.client {T : Int} {o o' : OM} {s : Sy} {N N' : NQ} {k : Nat} {f : Frm} {r : Rest} {L : Loc} (h : MsI T o s N) (hk : k < s.2.1.length) (hc : cAt s.2.1 k = ([f], r)) (h8 : ¬ f.1 ≤ 8) (hl : ∃ l, FL L.m l) (ht : tagI (nI L.m.1 0) ≤ T + 1) (hst : ∀ p, InN s.1 p → statO (o' p) (nI L.m.2.1 p)) (hR : rtL L.r = rtL r)
    (hret : ∀ p, InN s.1 p → (o' p = .ret k ↔ o p = .ret k)) (hpush : ∀ p x, InN s.1 p → o' p ≠ .push k x)
    (hfs : L.fs = [] ∨ (∃ f', L.fs = [f'] ∧ f'.1 = f.1) ∨ ∃ f' g, L.fs = [f', g] ∧ f'.1 = f.1 ∧ TopI L.m o' s.2.1.length k L.r g)
    (hq : QChg k s.1 o N s.2.1 L.m o' N' (List.set (α := Cor) s.2.1 ((k : Nat) : Int).toNat (L.fs, L.r))) (hQ : QsI L.m o' N') (htags : ∀ q, IsQ q → tagI (hdW L.m q) ≤ T + 1 ∧ tagI (tlW L.m q) ≤ T + 1)
    (hcore : CoQ L.m o' (List.set (α := Cor) s.2.1 ((k : Nat) : Int).toNat (L.fs, L.r)) N' k (L.fs, L.r)) : MsI (T + 1) o' (L.into s k []) N' := by
  refine ⟨(h.mm.mono (show T ≤ T + 1 by omega)).client (F := []) hk hc h8 hq.chg hl ht hst hR hret hpush ?_, hQ, htags, fun c hcc => ?_⟩
  · rcases hfs with e | e | ⟨f', g, e1, e2, e3⟩
    · exact .inl e
    · exact .inr (.inl e)
    · refine .inr (.inr ⟨f', g, e1, e2, ?_, e3⟩)
      have := room_le (x := g.1)
      show 0 + 2 + room g.1 ≤ 39
      omega
  · have hcc : c < s.2.1.length := by rw [show (L.into s k []).2.1.length = s.2.1.length from List.length_set] at hcc; exact hcc
    by_cases ck : c = k
    · subst ck
      rw [show cAt (L.into s c []).2.1 c = (L.fs, L.r) from cAt_setN hk]
      exact hcore
    · rw [show cAt (L.into s k []).2.1 c = cAt s.2.1 c from cAt_neN ck]
      have := h.mm.cores
      exact (h.core c hcc).stays hq h.qs ck hcc (by omega)
section
variable {T : Int} {k c : Nat} {m m' : Me} {o o' : OM} {N N' : NQ} {cs cs' : List Cor} {q p v n x : Int} {f : Frm} {fs : List Frm} {r r' : Rest}
/-- Another core's guard stays. -/
theorem guard_cli (hcl : Cli k m o m' o') (hk : k < cs.length) (hC : cs.length ≤ 8) (hno : ∀ f ∈ fs, f.1 ≠ 6) (c : Nat) (i p : Int) (hck : c ≠ k) (hc : c < cs.length) (hi : 0 ≤ i ∧ i ≤ 2) (h : Guard m o cs c i p) : Guard m' o' (List.set (α := Cor) cs ((k : Nat) : Int).toNat (fs, r)) c i p :=
  h.cli hcl hck (by omega) hi List.length_set (fun d hd => cAt_neN hd) fun f hf => by rw [cAt_setN hk] at hf; exact hno f hf
/-- Nothing in the memory is changed. -/
theorem qchg_same (hk : k < cs.length) (hC : cs.length ≤ 8) (hno : ∀ f ∈ fs, f.1 ≠ 6) : QChg k m o N cs m o N (List.set (α := Cor) cs ((k : Nat) : Int).toNat (fs, r)) :=
  ⟨Chg.same9, guard_cli Cli.refl hk hC hno, fun _ _ => .inl rfl, fun _ _ => .inl rfl, fun _ _ _ _ => rfl, fun _ _ _ _ _ => rfl, fun _ _ _ => rfl, fun _ _ _ e => ⟨e, fun _ _ h => h⟩, fun _ _ _ h => .inl h, fun _ _ _ h _ => h, fun _ _ _ h => h, fun _ _ _ h _ => h⟩
/-- Its own guard stays, if it goes on. -/
theorem Guard.self {i : Int} (h : Guard m o cs k i p) (hk : k < cs.length) (hslot : nI m'.1 (slotP k i) = nI m.1 (slotP k i)) (hin : InN m' p) (hown : o' p = o p ∨ (o p = .shared ∧ o' p = .gone k)) (hno : ∀ f ∈ fs, f.1 ≠ 6) : Guard m' o' (List.set (α := Cor) cs ((k : Nat) : Int).toNat (fs, r)) k i p := by
  refine ⟨hslot.trans h.slot, hin, ?_⟩
  rcases hown with e | ⟨_, e⟩
  · rw [e, List.length_set]
    rcases h.own with h1 | h1 | ⟨d, h1, h2, h3⟩
    · exact .inl h1
    · exact .inr (.inl h1)
    · refine .inr (.inr ⟨d, h1, h2, fun f hf h6 => ?_⟩)
      by_cases hdk : d = k
      · subst hdk
        rw [cAt_setN hk] at hf
        exact absurd h6 (hno f hf)
      · rw [cAt_neN hdk] at hf; exact h3 f hf h6
  · exact .inr (.inl ⟨k, e⟩)
theorem PT.self {sp w : Int} (h : PT m o cs N k q sp w) (hk : k < cs.length) (hno : ∀ f ∈ fs, f.1 ≠ 6) : PT m o (List.set (α := Cor) cs ((k : Nat) : Int).toNat (fs, r)) N k q sp w :=
  ⟨h.stale, h.guard.self hk rfl h.guard.inn (.inl rfl) hno, h.mem⟩
theorem PTt.self {w : Int} (h : PTt m o cs N k q w) (hk : k < cs.length) (hno : ∀ f ∈ fs, f.1 ≠ 6) : PTt m o (List.set (α := Cor) cs ((k : Nat) : Int).toNat (fs, r)) N k q w :=
  ⟨h.toPT.self hk hno, h.past⟩

theorem PTh.self {w : Int} (h : PTh m o cs N k q w) (hk : k < cs.length) (hno : ∀ f ∈ fs, f.1 ≠ 6) : PTh m o (List.set (α := Cor) cs ((k : Nat) : Int).toNat (fs, r)) N k q w :=
  ⟨h.toPT.self hk hno, h.first⟩
/-! ### A word is set -/
/-- A cell, 1 or 3, of the core's new node. -/
theorem cells_apart {p q : Int} {i j : Int} (h : p ≠ q) (hi : 0 ≤ i ∧ i ≤ 3) (hj : 0 ≤ j ∧ j ≤ 3) : lk p + i ≠ lk q + j := by
  have := lk_is p
  have := lk_is q
  omega
theorem sp_lt {q : Int} (hq : IsQ q) : 32 ≤ hdP q ∧ hdP q ≤ 35 ∧ 32 ≤ tlP q ∧ tlP q ≤ 35 ∧ hdP q ≠ tlP q := by
  unfold hdP tlP
  rcases hq with e | e <;> subst e <;> decide
/-- What stands elsewhere stays. -/
theorem setW_rest {a : Int} (ha : 32 ≤ a) {v : Int} : nI (setW m a v).1 0 = nI m.1 0 ∧ (∀ (c : Nat) (i : Int), c < 8 → 0 ≤ i → i ≤ 2 → nI (setW m a v).1 (slotP c i) = nI m.1 (slotP c i)) :=
  ⟨setW_ne (by omega) (by omega) (by omega), fun c i hc h0 h2 => by have := slotP_is c i; exact setW_ne (by omega) (by omega) (by omega)⟩
theorem fresh_cell {j : Int} (hj : j = 1 ∨ j = 3) (hQ : QsI m o N) (hk : k < cs.length) (hC : cs.length ≤ 8) (hno : ∀ f ∈ fs, f.1 ≠ 6) (hn : InN m n) (ho : o n = .fresh k) : QChg k m o N cs (setW m (lk n + j) v) o N (List.set (α := Cor) cs ((k : Nat) : Int).toNat (fs, r)) ∧ QsI (setW m (lk n + j) v) o N := by
  have hlk := lk_is n
  have hn1 := hn.1
  obtain ⟨r1, r2⟩ := setW_rest (m := m) (a := lk n + j) (by rcases hj with e | e <;> omega) (v := v)
  have low : ∀ a : Int, 0 ≤ a → a < 128 → nI (setW m (lk n + j) v).1 a = nI m.1 a := fun a h0 h1 => setW_ne (by rcases hj with e | e <;> omega) (by omega) (by rcases hj with e | e <;> omega)
  have cell : ∀ (p i : Int), 1 ≤ p → p ≠ n ∨ i ≠ j → 0 ≤ i ∧ i ≤ 3 → nI (setW m (lk n + j) v).1 (lk p + i) = nI m.1 (lk p + i) := fun p i hp hne hi => by
    have hlp := lk_is p
    refine setW_ne (by rcases hj with e | e <;> omega) (by omega) ?_
    rcases hne with e | e
    · exact fun h => cells_apart e hi (by rcases hj with e | e <;> rw [e] <;> decide) h.symm
    · by_cases e2 : p = n
      · rw [e2]; omega
      · exact fun h => cells_apart e2 hi (by rcases hj with e | e <;> rw [e] <;> decide) h.symm
  have other : ∀ p, InN m p → o p ≠ .fresh k → p ≠ n := fun p _ h e => h (by rw [e]; exact ho)
  have lks : ∀ p, InN m p → nI (setW m (lk n + j) v).1 (lk p) = nI m.1 (lk p) := fun p hp => by
    have := cell p 0 hp.1 (.inr (by rcases hj with e | e <;> omega)) (by decide)
    rw [Int.add_zero] at this; exact this
  have hchg : Chg k m o (setW m (lk n + j) v) o := ⟨rfl, .inl ⟨r1, fun p hp _ => lks p hp⟩, fun c i _ h8 h0 h2 => r2 c i h8 h0 h2, fun c p x _ hp _ => lks p hp, fun _ p _ _ => same_owns p⟩
  have hcli : Cli k m o (setW m (lk n + j) v) o := ⟨hchg, fun p hp _ => by rw [ky_cell]; exact cell p 2 hp.1 (.inr (by rcases hj with e | e <;> omega)) (by decide), fun _ _ => .inl rfl⟩
  have enx : ∀ p, InN m p → p ≠ n → nx (setW m (lk n + j) v) p = nx m p := fun p hp hne => cell p 1 hp.1 (.inl hne) (by decide)
  have evl : ∀ p, InN m p → p ≠ n → vl (setW m (lk n + j) v) p = vl m p := fun p hp hne => cell p 3 hp.1 (.inl hne) (by decide)
  have hhd : ∀ q, IsQ q → hdW (setW m (lk n + j) v) q = hdW m q ∧ tlW (setW m (lk n + j) v) q = tlW m q := fun q hq => by
    have := sp_lt hq
    exact ⟨low _ (by omega) (by omega), low _ (by omega) (by omega)⟩
  refine ⟨⟨hchg, guard_cli hcli hk hC hno, fun q hq => .inl (hhd q hq).1, fun q hq => .inl (hhd q hq).2, fun p hp hne _ => enx p hp (other p hp hne), fun c p hck hp e => enx p hp fun e2 => by rw [e2, ho] at e; exact hck (Own.fresh.inj e).symm, fun p hp hne => evl p hp (other p hp hne), fun _ _ _ e => ⟨e, fun _ _ h => h⟩, fun _ _ _ h => .inl h, fun q p hq h _ => by rw [(hhd q hq).2]; exact h, fun q hq _ h => by rw [(hhd q hq).2]; exact h, fun q p hq h _ => by rw [(hhd q hq).1]; exact h⟩, ?_⟩
  refine ⟨fun q hq => ?_, hQ.inn, hQ.mem, hQ.apart, fun p c hp e => ?_⟩
  · have h := hQ.q q hq
    refine ⟨?_, h.nodup, by rw [(hhd q hq).2]; exact h.tail⟩
    rw [(hhd q hq).1]
    refine h.head.same fun p hp => ?_
    obtain ⟨a, b⟩ := hQ.inn q p hq hp
    rw [enx p a (fun e => by rw [e, ho] at b; cases b)]
  · rw [enx p hp (fun e2 => by rw [e2, ho] at e; rcases e with e | e <;> cases e)]
    exact hQ.out p c hp e
/-- One of its slots is set. -/
theorem slot_set {i : Int} (hi : 0 ≤ i ∧ i ≤ 2) (hQ : QsI m o N) (hk : k < cs.length) (hC : cs.length ≤ 8) (hno : ∀ f ∈ fs, f.1 ≠ 6) : QChg k m o N cs (setW m (slotP k i) v) o N (List.set (α := Cor) cs ((k : Nat) : Int).toNat (fs, r)) ∧ QsI (setW m (slotP k i) v) o N := by
  have hs := slotP_is k i
  have high : ∀ a : Int, 32 ≤ a → nI (setW m (slotP k i) v).1 a = nI m.1 a := fun a h => setW_ne (by omega) (by omega) (by omega)
  have lks : ∀ p, InN m p → nI (setW m (slotP k i) v).1 (lk p) = nI m.1 (lk p) := fun p hp => by have := lk_is p; have := hp.1; exact high _ (by omega)
  have hchg : Chg k m o (setW m (slotP k i) v) o := ⟨rfl, .inl ⟨setW_ne (by omega) (by omega) (by omega), fun p hp _ => lks p hp⟩, fun c j hck h8 h0 h2 => by have := slotP_is c j; exact setW_ne (by omega) (by omega) (by omega), fun c p x _ hp _ => lks p hp, fun _ p _ _ => same_owns p⟩
  have hcli : Cli k m o (setW m (slotP k i) v) o := ⟨hchg, fun p hp _ => by have := ky_is p; have := hp.1; exact high _ (by omega), fun _ _ => .inl rfl⟩
  have enx : ∀ p, InN m p → nx (setW m (slotP k i) v) p = nx m p := fun p hp => by have := lk_is p; have := hp.1; exact high _ (by omega)
  have evl : ∀ p, InN m p → vl (setW m (slotP k i) v) p = vl m p := fun p hp => by have := lk_is p; have := hp.1; exact high _ (by omega)
  have hhd : ∀ q, IsQ q → hdW (setW m (slotP k i) v) q = hdW m q ∧ tlW (setW m (slotP k i) v) q = tlW m q := fun q hq => by
    have := sp_lt hq
    exact ⟨high _ (by omega), high _ (by omega)⟩
  refine ⟨⟨hchg, guard_cli hcli hk hC hno, fun q hq => .inl (hhd q hq).1, fun q hq => .inl (hhd q hq).2, fun p hp _ _ => enx p hp, fun c p _ hp _ => enx p hp, fun p hp _ => evl p hp, fun _ _ _ e => ⟨e, fun _ _ h => h⟩, fun _ _ _ h => .inl h, fun q p hq h _ => by rw [(hhd q hq).2]; exact h, fun q hq _ h => by rw [(hhd q hq).2]; exact h, fun q p hq h _ => by rw [(hhd q hq).1]; exact h⟩, ?_⟩
  refine ⟨fun q hq => ?_, hQ.inn, hQ.mem, hQ.apart, fun p c hp e => ?_⟩
  · have h := hQ.q q hq
    refine ⟨?_, h.nodup, by rw [(hhd q hq).2]; exact h.tail⟩
    rw [(hhd q hq).1]
    exact h.head.same fun p hp => by rw [enx p (hQ.inn q p hq hp).1]
  · rw [enx p hp]; exact hQ.out p c hp e
end
end Go.Proofs.YtpobngddiifdpaaGreat.V
