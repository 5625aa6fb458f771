/- Queues: what a queue's own op changes. -/
import Derived.Test.YtpobngddiifdpaaGreatZcN4
set_option linter.unusedSimpArgs false
set_option linter.unusedVariables false
namespace Go.Proofs.YtpobngddiifdpaaGreat.V
open Go Go.RowKit Go.Proofs.YtpobngddiifdpaaGreat.Hz
set_option maxRecDepth 100000

/-- A step of a queue's op. -/
theorem MsI.client {T : Int} {o o' : OM} {s : Sy} {N N' : NQ} {k : Nat} {f : Frm} {r : Rest} {L : Loc} (h : MsI T o s N) (hk : k < s.2.1.length) (hc : cAt s.2.1 k = ([f], r)) (h8 : ¬ f.1 ≤ 8) (hl : ∃ l, FL L.m l) (ht : tagI (nI L.m.1 0) ≤ T + 1) (hst : ∀ p, InN s.1 p → statO (o' p) (nI L.m.2.1 p)) (hR : rtL L.r = rtL r)
    (hret : ∀ p, InN s.1 p → (o' p = .ret k ↔ o p = .ret k)) (hpush : ∀ p x, InN s.1 p → o' p ≠ .push k x)
    (hfs : L.fs = [] ∨ (∃ f', L.fs = [f'] ∧ f'.1 = f.1) ∨ ∃ f' g, L.fs = [f', g] ∧ f'.1 = f.1 ∧ TopI L.m o' s.2.1.length k L.r g)
    (hq : QChg k s.1 o N s.2.1 L.m o' N' (List.set (α := Cor) s.2.1 ((k : Nat) : Int).toNat (L.fs, L.r))) (hQ : QsI L.m o' N') (htags : ∀ q, IsQ q → tagI (hdW L.m q) ≤ T + 1 ∧ tagI (tlW L.m q) ≤ T + 1)
    (hcore : CoQ L.m o' (List.set (α := Cor) s.2.1 ((k : Nat) : Int).toNat (L.fs, L.r)) N' k (L.fs, L.r)) : MsI (T + 1) o' (L.into s k []) N' := by
  refine ⟨(h.mm.mono (show T ≤ T + 1 by omega)).client (F := []) hk hc h8 hq.chg hl ht hst hR hret hpush ?_, hQ, htags, fun c hcc => ?_⟩
  · rcases hfs with e | e | ⟨f', g, e1, e2, e3⟩
    · exact .inl e
    · exact .inr (.inl e)
    · refine .inr (.inr ⟨f', g, e1, e2, ?_, e3⟩)
      have := room_le (x := g.1)
      show 0 + 2 + room g.1 ≤ 39
      omega
  · have hcc : c < s.2.1.length := by rw [show (L.into s k []).2.1.length = s.2.1.length from List.length_set] at hcc; exact hcc
    by_cases ck : c = k
    · subst ck
      rw [show cAt (L.into s c []).2.1 c = (L.fs, L.r) from cAt_setN hk]
      exact hcore
    · rw [show cAt (L.into s k []).2.1 c = cAt s.2.1 c from cAt_neN ck]
      have := h.mm.cores
      exact (h.core c hcc).stays hq h.qs ck hcc (by omega)
section
variable {T : Int} {k c : Nat} {m m' : Me} {o o' : OM} {N N' : NQ} {cs cs' : List Cor} {q p v n x : Int} {f : Frm} {fs : List Frm} {r r' : Rest}
/-- Another core's guard stays. -/
theorem guard_cli (hcl : Cli k m o m' o') (hk : k < cs.length) (hC : cs.length ≤ 8) (hno : ∀ f ∈ fs, f.1 ≠ 6) (c : Nat) (i p : Int) (hck : c ≠ k) (hc : c < cs.length) (hi : 0 ≤ i ∧ i ≤ 2) (h : Guard m o cs c i p) : Guard m' o' (List.set (α := Cor) cs ((k : Nat) : Int).toNat (fs, r)) c i p :=
  h.cli hcl hck (by omega) hi List.length_set (fun d hd => cAt_neN hd) fun f hf => by rw [cAt_setN hk] at hf; exact hno f hf
/-- Nothing in the memory is changed. -/
theorem qchg_same (hk : k < cs.length) (hC : cs.length ≤ 8) (hno : ∀ f ∈ fs, f.1 ≠ 6) : QChg k m o N cs m o N (List.set (α := Cor) cs ((k : Nat) : Int).toNat (fs, r)) :=
  ⟨Chg.same9, guard_cli Cli.refl hk hC hno, fun _ _ => .inl rfl, fun _ _ => .inl rfl, fun _ _ _ _ => rfl, fun _ _ _ _ _ => rfl, fun _ _ _ => rfl, fun _ _ _ e => ⟨e, fun _ _ h => h⟩, fun _ _ _ h => .inl h, fun _ _ _ h _ => h, fun _ _ _ h => h, fun _ _ _ h _ => h⟩
/-- Its own guard stays, if it goes on. -/
theorem Guard.self {i : Int} (h : Guard m o cs k i p) (hk : k < cs.length) (hslot : nI m'.1 (slotP k i) = nI m.1 (slotP k i)) (hin : InN m' p) (hown : o' p = o p ∨ (o p = .shared ∧ o' p = .gone k)) (hno : ∀ f ∈ fs, f.1 ≠ 6) : Guard m' o' (List.set (α := Cor) cs ((k : Nat) : Int).toNat (fs, r)) k i p := by
  refine ⟨hslot.trans h.slot, hin, ?_⟩
  rcases hown with e | ⟨_, e⟩
  · rw [e, List.length_set]
    rcases h.own with h1 | h1 | ⟨d, h1, h2, h3⟩
    · exact .inl h1
    · exact .inr (.inl h1)
    · refine .inr (.inr ⟨d, h1, h2, fun f hf h6 => ?_⟩)
      by_cases hdk : d = k
      · subst hdk
        rw [cAt_setN hk] at hf
        exact absurd h6 (hno f hf)
      · rw [cAt_neN hdk] at hf; exact h3 f hf h6
  · exact .inr (.inl ⟨k, e⟩)
theorem PT.self {sp w : Int} (h : PT m o cs N k q sp w) (hk : k < cs.length) (hno : ∀ f ∈ fs, f.1 ≠ 6) : PT m o (List.set (α := Cor) cs ((k : Nat) : Int).toNat (fs, r)) N k q sp w :=
  ⟨h.stale, h.guard.self hk rfl h.guard.inn (.inl rfl) hno, h.mem⟩
theorem PTt.self {w : Int} (h : PTt m o cs N k q w) (hk : k < cs.length) (hno : ∀ f ∈ fs, f.1 ≠ 6) : PTt m o (List.set (α := Cor) cs ((k : Nat) : Int).toNat (fs, r)) N k q w :=
  ⟨h.toPT.self hk hno, h.past⟩

theorem PTh.self {w : Int} (h : PTh m o cs N k q w) (hk : k < cs.length) (hno : ∀ f ∈ fs, f.1 ≠ 6) : PTh m o (List.set (α := Cor) cs ((k : Nat) : Int).toNat (fs, r)) N k q w :=
  ⟨h.toPT.self hk hno, h.first⟩
/-! ### A word is set -/
/-- A cell, 1 or 3, of the core's new node. -/
theorem cells_apart {p q : Int} {i j : Int} (h : p ≠ q) (hi : 0 ≤ i ∧ i ≤ 3) (hj : 0 ≤ j ∧ j ≤ 3) : lk p + i ≠ lk q + j := by
  have := lk_is p
  have := lk_is q
  omega
theorem sp_lt {q : Int} (hq : IsQ q) : 32 ≤ hdP q ∧ hdP q ≤ 35 ∧ 32 ≤ tlP q ∧ tlP q ≤ 35 ∧ hdP q ≠ tlP q := by
  unfold hdP tlP
  rcases hq with e | e <;> subst e <;> decide
/-- What stands elsewhere stays. -/
theorem setW_rest {a : Int} (ha : 32 ≤ a) {v : Int} : nI (setW m a v).1 0 = nI m.1 0 ∧ (∀ (c : Nat) (i : Int), c < 8 → 0 ≤ i → i ≤ 2 → nI (setW m a v).1 (slotP c i) = nI m.1 (slotP c i)) :=
  ⟨setW_ne (by omega) (by omega) (by omega), fun c i hc h0 h2 => by have := slotP_is c i; exact setW_ne (by omega) (by omega) (by omega)⟩
theorem fresh_cell {j : Int} (hj : j = 1 ∨ j = 3) (hQ : QsI m o N) (hk : k < cs.length) (hC : cs.length ≤ 8) (hno : ∀ f ∈ fs, f.1 ≠ 6) (hn : InN m n) (ho : o n = .fresh k) : QChg k m o N cs (setW m (lk n + j) v) o N (List.set (α := Cor) cs ((k : Nat) : Int).toNat (fs, r)) ∧ QsI (setW m (lk n + j) v) o N := by
  have hlk := lk_is n
  have hn1 := hn.1
  obtain ⟨r1, r2⟩ := setW_rest (m := m) (a := lk n + j) (by rcases hj with e | e <;> omega) (v := v)
  have low : ∀ a : Int, 0 ≤ a → a < 128 → nI (setW m (lk n + j) v).1 a = nI m.1 a := fun a h0 h1 => setW_ne (by rcases hj with e | e <;> omega) (by omega) (by rcases hj with e | e <;> omega)
  have cell : ∀ (p i : Int), 1 ≤ p → p ≠ n ∨ i ≠ j → 0 ≤ i ∧ i ≤ 3 → nI (setW m (lk n + j) v).1 (lk p + i) = nI m.1 (lk p + i) := fun p i hp hne hi => by
    have hlp := lk_is p
    refine setW_ne (by rcases hj with e | e <;> omega) (by omega) ?_
    rcases hne with e | e
    · exact fun h => cells_apart e hi (by rcases hj with e | e <;> rw [e] <;> decide) h.symm
    · by_cases e2 : p = n
      · rw [e2]; omega
      · exact fun h => cells_apart e2 hi (by rcases hj with e | e <;> rw [e] <;> decide) h.symm
  have other : ∀ p, InN m p → o p ≠ .fresh k → p ≠ n := fun p _ h e => h (by rw [e]; exact ho)
  have lks : ∀ p, InN m p → nI (setW m (lk n + j) v).1 (lk p) = nI m.1 (lk p) := fun p hp => by
    have := cell p 0 hp.1 (.inr (by rcases hj with e | e <;> omega)) (by decide)
    rw [Int.add_zero] at this; exact this
  have hchg : Chg k m o (setW m (lk n + j) v) o := ⟨rfl, .inl ⟨r1, fun p hp _ => lks p hp⟩, fun c i _ h8 h0 h2 => r2 c i h8 h0 h2, fun c p x _ hp _ => lks p hp, fun _ p _ _ => same_owns p⟩
  have hcli : Cli k m o (setW m (lk n + j) v) o := ⟨hchg, fun p hp _ => by rw [ky_cell]; exact cell p 2 hp.1 (.inr (by rcases hj with e | e <;> omega)) (by decide), fun _ _ => .inl rfl⟩
  have enx : ∀ p, InN m p → p ≠ n → nx (setW m (lk n + j) v) p = nx m p := fun p hp hne => cell p 1 hp.1 (.inl hne) (by decide)
  have evl : ∀ p, InN m p → p ≠ n → vl (setW m (lk n + j) v) p = vl m p := fun p hp hne => cell p 3 hp.1 (.inl hne) (by decide)
  have hhd : ∀ q, IsQ q → hdW (setW m (lk n + j) v) q = hdW m q ∧ tlW (setW m (lk n + j) v) q = tlW m q := fun q hq => by
    have := sp_lt hq
    exact ⟨low _ (by omega) (by omega), low _ (by omega) (by omega)⟩
  refine ⟨⟨hchg, guard_cli hcli hk hC hno, fun q hq => .inl (hhd q hq).1, fun q hq => .inl (hhd q hq).2, fun p hp hne _ => enx p hp (other p hp hne), fun c p hck hp e => enx p hp fun e2 => by rw [e2, ho] at e; exact hck (Own.fresh.inj e).symm, fun p hp hne => evl p hp (other p hp hne), fun _ _ _ e => ⟨e, fun _ _ h => h⟩, fun _ _ _ h => .inl h, fun q p hq h _ => by rw [(hhd q hq).2]; exact h, fun q hq _ h => by rw [(hhd q hq).2]; exact h, fun q p hq h _ => by rw [(hhd q hq).1]; exact h⟩, ?_⟩
  refine ⟨fun q hq => ?_, hQ.inn, hQ.mem, hQ.apart, fun p c hp e => ?_⟩
  · have h := hQ.q q hq
    refine ⟨?_, h.nodup, by rw [(hhd q hq).2]; exact h.tail⟩
    rw [(hhd q hq).1]
    refine h.head.same fun p hp => ?_
    obtain ⟨a, b⟩ := hQ.inn q p hq hp
    rw [enx p a (fun e => by rw [e, ho] at b; cases b)]
  · rw [enx p hp (fun e2 => by rw [e2, ho] at e; rcases e with e | e <;> cases e)]
    exact hQ.out p c hp e
/-- One of its slots is set. -/
theorem slot_set {i : Int} (hi : 0 ≤ i ∧ i ≤ 2) (hQ : QsI m o N) (hk : k < cs.length) (hC : cs.length ≤ 8) (hno : ∀ f ∈ fs, f.1 ≠ 6) : QChg k m o N cs (setW m (slotP k i) v) o N (List.set (α := Cor) cs ((k : Nat) : Int).toNat (fs, r)) ∧ QsI (setW m (slotP k i) v) o N := by
  have hs := slotP_is k i
  have high : ∀ a : Int, 32 ≤ a → nI (setW m (slotP k i) v).1 a = nI m.1 a := fun a h => setW_ne (by omega) (by omega) (by omega)
  have lks : ∀ p, InN m p → nI (setW m (slotP k i) v).1 (lk p) = nI m.1 (lk p) := fun p hp => by have := lk_is p; have := hp.1; exact high _ (by omega)
  have hchg : Chg k m o (setW m (slotP k i) v) o := ⟨rfl, .inl ⟨setW_ne (by omega) (by omega) (by omega), fun p hp _ => lks p hp⟩, fun c j hck h8 h0 h2 => by have := slotP_is c j; exact setW_ne (by omega) (by omega) (by omega), fun c p x _ hp _ => lks p hp, fun _ p _ _ => same_owns p⟩
  have hcli : Cli k m o (setW m (slotP k i) v) o := ⟨hchg, fun p hp _ => by have := ky_is p; have := hp.1; exact high _ (by omega), fun _ _ => .inl rfl⟩
  have enx : ∀ p, InN m p → nx (setW m (slotP k i) v) p = nx m p := fun p hp => by have := lk_is p; have := hp.1; exact high _ (by omega)
  have evl : ∀ p, InN m p → vl (setW m (slotP k i) v) p = vl m p := fun p hp => by have := lk_is p; have := hp.1; exact high _ (by omega)
  have hhd : ∀ q, IsQ q → hdW (setW m (slotP k i) v) q = hdW m q ∧ tlW (setW m (slotP k i) v) q = tlW m q := fun q hq => by
    have := sp_lt hq
    exact ⟨high _ (by omega), high _ (by omega)⟩
  refine ⟨⟨hchg, guard_cli hcli hk hC hno, fun q hq => .inl (hhd q hq).1, fun q hq => .inl (hhd q hq).2, fun p hp _ _ => enx p hp, fun c p _ hp _ => enx p hp, fun p hp _ => evl p hp, fun _ _ _ e => ⟨e, fun _ _ h => h⟩, fun _ _ _ h => .inl h, fun q p hq h _ => by rw [(hhd q hq).2]; exact h, fun q hq _ h => by rw [(hhd q hq).2]; exact h, fun q p hq h _ => by rw [(hhd q hq).1]; exact h⟩, ?_⟩
  refine ⟨fun q hq => ?_, hQ.inn, hQ.mem, hQ.apart, fun p c hp e => ?_⟩
  · have h := hQ.q q hq
    refine ⟨?_, h.nodup, by rw [(hhd q hq).2]; exact h.tail⟩
    rw [(hhd q hq).1]
    exact h.head.same fun p hp => by rw [enx p (hQ.inn q p hq hp).1]
  · rw [enx p hp]; exact hQ.out p c hp e
end
end Go.Proofs.YtpobngddiifdpaaGreat.V
