/- Queues: what is known of them and of each core. -/
import Derived.Test.YtpobngddiifdpaaGreatZdN1
import Derived.Test.YtpobngddiifdpaaGreatZdM16
set_option linter.unusedSimpArgs false
set_option linter.unusedVariables false
namespace Go.Proofs.YtpobngddiifdpaaGreat.V
open Go Go.RowKit Go.Proofs.YtpobngddiifdpaaGreat.Hz
set_option maxRecDepth 100000

/-- A node's next word; its value. -/
def nx (m : Me) (p : Int) : Int := nI m.1 (lk p + 1)
def vl (m : Me) (p : Int) : Int := nI m.1 (lk p + 3)
/-- The places of a queue's words. -/
def hdP (q : Int) : Int := 32 + 2 * q
def tlP (q : Int) : Int := 33 + 2 * q
abbrev hdW (m : Me) (q : Int) : Int := nI m.1 (hdP q)
abbrev tlW (m : Me) (q : Int) : Int := nI m.1 (tlP q)
def IsQ (q : Int) : Prop := q = 0 ∨ q = 1
/-- From a node on, the next words lead through these. -/
def Chn (m : Me) : Int → List Int → Prop
  | p, [] => p = 0
  | p, n :: l => p = n ∧ Chn m (idxI (nx m n)) l
structure QI (m : Me) (q : Int) (N : List Int) : Prop where
  head : Chn m (idxI (hdW m q)) N
  nodup : N.Nodup
  tail : ∃ A, N = A ++ [idxI (tlW m q)] ∨ ∃ y, N = A ++ [idxI (tlW m q), y]
/-- One is the other one, or ahead of it. -/
def Before (N : List Int) (a b : Int) : Prop := ∃ A B, N = A ++ b :: B ∧ (a = b ∨ a ∈ A)
/-- A word of now or of before. -/
def StaleQ (m : Me) (sp w : Int) : Prop := w = nI m.1 sp ∨ tagI w < tagI (nI m.1 sp)
abbrev NQ := Int → List Int
structure PT (m : Me) (o : OM) (cs : List Cor) (N : NQ) (k : Nat) (q sp w : Int) : Prop where
  stale : StaleQ m sp w
  guard : Guard m o cs k 0 (idxI w)
  mem : o (idxI w) = .shared → idxI w ∈ N q
structure PTt (m : Me) (o : OM) (cs : List Cor) (N : NQ) (k : Nat) (q w : Int) : Prop extends PT m o cs N k q (tlP q) w where
  past : idxI w ∈ N q → Before (N q) (idxI w) (idxI (tlW m q))
structure PTh (m : Me) (o : OM) (cs : List Cor) (N : NQ) (k : Nat) (q w : Int) : Prop extends PT m o cs N k q (hdP q) w where
  first : idxI w ∈ N q → idxI (hdW m q) = idxI w
/-- If the tail is still this word, the next node is this. -/
def NextT (m : Me) (q t n : Int) : Prop := StaleQ m (tlP q) t ∧ n ≠ 0 ∧ (tlW m q = t → idxI (nx m (idxI t)) = n)
def isProt (g : Frm) (sp : Int) : Prop := g.1 = 3 ∧ g.2.2.1.1 = sp ∧ g.2.2.1.2.1 = 0
/-- OEnq's node. -/
structure NewI (m : Me) (o : OM) (k : Nat) (pc v n : Int) : Prop where
  inn : InN m n
  own : o n = .fresh k
  val : 3 ≤ pc → vl m n = v
  nxt : 5 ≤ pc → idxI (nx m n) = 0
inductive EnqI (m : Me) (o : OM) (cs : List Cor) (N : NQ) (k : Nat) (pc q v n t w : Int) (U : List Frm) (r : Rest) : Prop
  | p0 (h : pc = 0) (u : U = [])
  | p1a (h : pc = 1) (u : ∃ g rest, U = g :: rest ∧ g.1 = 7)
  | p1 (h : pc = 1) (u : U = []) (ht : Told m o k r)
  | p25 (h : 2 ≤ pc ∧ pc ≤ 5) (u : U = []) (hn : NewI m o k pc v n)
  | p6a (h : pc = 6) (u : ∃ g, U = [g] ∧ isProt g (tlP q)) (hn : NewI m o k pc v n)
  | p6 (h : pc = 6) (u : U = []) (hn : NewI m o k pc v n) (ht : PTt m o cs N k q r.1)
  | p7 (h : pc = 7) (u : U = []) (hn : NewI m o k pc v n) (ht : PTt m o cs N k q t)
  | p8 (h : pc = 8) (u : U = []) (hn : NewI m o k pc v n) (ht : NextT m q t (idxI w))
  | p9 (h : pc = 9) (u : U = []) (hn : NewI m o k pc v n) (ht : PTt m o cs N k q t) (hw : idxI w = 0)
  | p10 (h : pc = 10) (u : U = []) (hn : InN m n) (ht : NextT m q t n)
  | p11 (h : pc = 11) (u : U = [])
/-- If the head is still this word, the tail is another node, and the next one is this. -/
structure HeadI (m : Me) (o : OM) (cs : List Cor) (k : Nat) (pc q h w x : Int) : Prop where
  stale : StaleQ m (hdP q) h
  ne : idxI w ≠ 0
  now : hdW m q = h → idxI (tlW m q) ≠ idxI h ∧ idxI (nx m (idxI h)) = idxI w
  slot : 6 ≤ pc → nI m.1 (slotP k 1) = idxI w
  guard : pc = 7 → Guard m o cs k 1 (idxI w)
  val : pc = 8 → hdW m q = h → vl m (idxI w) = x
inductive DeqI (m : Me) (o : OM) (cs : List Cor) (N : NQ) (k : Nat) (pc q h t w x : Int) (U : List Frm) (r : Rest) : Prop
  | p0 (hp : pc = 0) (u : U = [])
  | p1a (hp : pc = 1) (u : ∃ g, U = [g] ∧ isProt g (hdP q))
  | p1 (hp : pc = 1) (u : U = []) (ht : PTh m o cs N k q r.1)
  | p2 (hp : pc = 2) (u : U = []) (ht : PTh m o cs N k q h)
  | p3 (hp : pc = 3) (u : U = []) (ht : PTh m o cs N k q h) (hs : StaleQ m (tlP q) t) (ha : hdW m q = h → idxI t ≠ idxI h → idxI (tlW m q) ≠ idxI h)
  | p4 (hp : pc = 4) (u : U = []) (ht : NextT m q t (idxI w))
  | p58 (hp : 5 ≤ pc ∧ pc ≤ 8) (u : U = []) (ht : HeadI m o cs k pc q h w x)
  | p9a (hp : pc = 9) (u : ∃ g rest, U = g :: rest ∧ g.1 = 5)
  | p9 (hp : pc = 9) (u : U = [])
  | p10 (hp : pc = 10) (u : U = [])
inductive CoQ (m : Me) (o : OM) (cs : List Cor) (N : NQ) (k : Nat) (cr : Cor) : Prop
  | idle (e : cr.1 = [])
  | enq {pc q v n t w : Int} {r3 : R3'} {l : Li} {U : List Frm} (e : cr.1 = ((9 : Int), pc, (q, v, n, t, w, r3), l, ()) :: U) (hq : IsQ q) (hU : ∀ g ∈ U, 1 ≤ g.1 ∧ g.1 ≤ 8) (hI : EnqI m o cs N k pc q v n t w U cr.2)
  | deq {pc q v h t w x e y : Int} {l : Li} {U : List Frm} (e' : cr.1 = ((10 : Int), pc, (q, v, h, t, w, x, e, y, ()), l, ()) :: U) (hq : IsQ q) (hU : ∀ g ∈ U, 1 ≤ g.1 ∧ g.1 ≤ 8) (hI : DeqI m o cs N k pc q h t w x U cr.2)
/-- The queues' nodes. -/
structure QsI (m : Me) (o : OM) (N : NQ) : Prop where
  q : ∀ q, IsQ q → QI m q (N q)
  inn : ∀ q p, IsQ q → p ∈ N q → InN m p ∧ o p = .shared
  mem : ∀ p, InN m p → o p = .shared → ∃ q, IsQ q ∧ p ∈ N q
  apart : ∀ p, p ∈ N 0 → p ∉ N 1
  out : ∀ p c, InN m p → (o p = .gone c ∨ o p = .ret c) → idxI (nx m p) ≠ 0
structure MsI (T : Int) (o : OM) (s : Sy) (N : NQ) : Prop where
  mm : MM T o s
  qs : QsI s.1 o N
  tags : ∀ q, IsQ q → tagI (hdW s.1 q) ≤ T ∧ tagI (tlW s.1 q) ≤ T
  core : ∀ k : Nat, k < s.2.1.length → CoQ s.1 o s.2.1 N k (cAt s.2.1 k)
/-! ### Lists -/
theorem Chn.same {m m' : Me} : ∀ {l : List Int} {p : Int}, Chn m p l → (∀ n ∈ l, idxI (nx m' n) = idxI (nx m n)) → Chn m' p l
  | [], _, h, _ => h
  | n :: l, p, h, hs => ⟨h.1, by rw [hs n (List.mem_cons_self ..)]; exact Chn.same h.2 fun x hx => hs x (List.mem_cons_of_mem _ hx)⟩
/-- The last node leads nowhere. -/
theorem Chn.last {m : Me} : ∀ {A : List Int} {p x : Int}, Chn m p (A ++ [x]) → idxI (nx m x) = 0
  | [], _, _, h => h.2
  | _ :: _, _, _, h => Chn.last h.2
/-- A node leads to the one behind it. -/
theorem Chn.next {m : Me} {x y : Int} : ∀ {A B : List Int} {p : Int}, Chn m p (A ++ x :: y :: B) → idxI (nx m x) = y
  | [], _, _, h => h.2.1
  | _ :: _, _, _, h => Chn.next h.2
theorem Chn.cons {m : Me} {p : Int} {l : List Int} (h : Chn m p l) (hp : p ≠ 0) : ∃ l', l = p :: l' := by
  cases l with
  | nil => exact absurd h hp
  | cons n l => exact ⟨l, by rw [h.1]⟩
/-- A node that leads nowhere is the last one. -/
theorem Chn.isLast {m : Me} {x : Int} (h0 : idxI (nx m x) = 0) : ∀ {l : List Int} {p : Int}, Chn m p l → (∀ y ∈ l, y ≠ 0) → x ∈ l → ∃ A, l = A ++ [x]
  | n :: l, p, h, hn, hx => by
    rcases List.mem_cons.1 hx with e | e
    · subst e
      have h2 := h.2
      rw [h0] at h2
      cases l with
      | nil => exact ⟨[], rfl⟩
      | cons y l => exact absurd h2.1.symm (hn y (by simp))
    · obtain ⟨A, hA⟩ := Chn.isLast h0 h.2 (fun y hy => hn y (List.mem_cons_of_mem _ hy)) e
      exact ⟨n :: A, by rw [hA]; rfl⟩
theorem Chn.snoc {m m' : Me} {x n : Int} (hx : idxI (nx m' x) = n) (hn : idxI (nx m' n) = 0) : ∀ {A : List Int} {p : Int}, Chn m p (A ++ [x]) → (∀ y ∈ A, idxI (nx m' y) = idxI (nx m y)) → Chn m' p (A ++ [x, n])
  | [], p, h, _ => ⟨h.1, hx, hn⟩
  | a :: A, p, h, hs => ⟨h.1, by rw [hs a (List.mem_cons_self ..)]; exact Chn.snoc hx hn h.2 fun y hy => hs y (List.mem_cons_of_mem _ hy)⟩
section
variable {m m' : Me} {o o' : OM} {N N' : NQ} {q p : Int}
theorem QsI.headIn (h : QsI m o N) (hq : IsQ q) (hne : idxI (hdW m q) ≠ 0 ∨ N q ≠ []) : ∃ l, N q = idxI (hdW m q) :: l := by
  have hc := (h.q q hq).head
  cases hN : N q with
  | nil =>
    rw [hN] at hc
    rcases hne with e | e
    · exact absurd hc e
    · exact absurd hN e
  | cons n l => rw [hN] at hc; exact ⟨l, by rw [hc.1]⟩
theorem QI.ne {N : List Int} (h : QI m q N) : N ≠ [] := by
  obtain ⟨A, e | ⟨y, e⟩⟩ := h.tail <;> rw [e] <;> simp
theorem QsI.head (h : QsI m o N) (hq : IsQ q) : ∃ l, N q = idxI (hdW m q) :: l := h.headIn hq (.inr (h.q q hq).ne)
theorem QsI.headS (h : QsI m o N) (hq : IsQ q) : InN m (idxI (hdW m q)) ∧ o (idxI (hdW m q)) = .shared := by
  obtain ⟨l, hl⟩ := h.head hq
  exact h.inn q _ hq (by rw [hl]; exact List.mem_cons_self ..)
theorem QsI.tailIn (h : QsI m o N) (hq : IsQ q) : idxI (tlW m q) ∈ N q := by
  obtain ⟨A, e | ⟨y, e⟩⟩ := (h.q q hq).tail <;> rw [e] <;> simp
theorem QsI.tailS (h : QsI m o N) (hq : IsQ q) : InN m (idxI (tlW m q)) ∧ o (idxI (tlW m q)) = .shared := h.inn q _ hq (h.tailIn hq)
end
end Go.Proofs.YtpobngddiifdpaaGreat.V

set_option linter.unusedSimpArgs false
set_option linter.unusedVariables false
namespace Go.Proofs.YtpobngddiifdpaaGreat.V
open Go Go.RowKit Go.Proofs.YtpobngddiifdpaaGreat.Hz
set_option maxRecDepth 100000

/-- What a step of core k may change. -/
structure QChg (k : Nat) (m : Me) (o : OM) (N : NQ) (cs : List Cor) (m' : Me) (o' : OM) (N' : NQ) (cs' : List Cor) : Prop where
  chg : Chg k m o m' o'
  guard : ∀ (c : Nat) (i p : Int), c ≠ k → c < cs.length → 0 ≤ i ∧ i ≤ 2 → Guard m o cs c i p → Guard m' o' cs' c i p
  hd : ∀ q, IsQ q → hdW m' q = hdW m q ∨ tagI (hdW m' q) = tagI (hdW m q) + 1
  tl : ∀ q, IsQ q → tlW m' q = tlW m q ∨ tagI (tlW m' q) = tagI (tlW m q) + 1
  nxt : ∀ p, InN m p → o p ≠ .fresh k → idxI (nx m p) ≠ 0 → nx m' p = nx m p
  nxf : ∀ (c : Nat) (p : Int), c ≠ k → InN m p → o p = .fresh c → nx m' p = nx m p
  val : ∀ p, InN m p → o p ≠ .fresh k → vl m' p = vl m p
  shr : ∀ p, InN m p → o p ≠ .fresh k → o' p = .shared → o p = .shared ∧ ∀ q, IsQ q → p ∈ N q → p ∈ N' q
  old : ∀ q p, IsQ q → p ∈ N' q → p ∈ N q ∨ o p = .fresh k
  past : ∀ q p, IsQ q → Before (N q) p (idxI (tlW m q)) → p ∈ N' q → Before (N' q) p (idxI (tlW m' q))
  away : ∀ q, IsQ q → hdW m' q = hdW m q → idxI (tlW m q) ≠ idxI (hdW m q) → idxI (tlW m' q) ≠ idxI (hdW m q)
  first : ∀ q p, IsQ q → idxI (hdW m q) = p → p ∈ N' q → idxI (hdW m' q) = p
section
variable {k c : Nat} {m m' : Me} {o o' : OM} {N N' : NQ} {cs cs' : List Cor} {q sp w t n : Int}
theorem StaleQ.stays (h : StaleQ m sp w) (hw : nI m'.1 sp = nI m.1 sp ∨ tagI (nI m'.1 sp) = tagI (nI m.1 sp) + 1) : StaleQ m' sp w := by
  rcases hw with e | e
  · unfold StaleQ; rw [e]; exact h
  · right
    rcases h with h | h
    · rw [h]; omega
    · omega
theorem StaleQ.back (h : StaleQ m sp w) (hw : nI m'.1 sp = nI m.1 sp ∨ tagI (nI m'.1 sp) = tagI (nI m.1 sp) + 1) (e : nI m'.1 sp = w) : nI m.1 sp = w := by
  rcases hw with e2 | e2
  · rw [← e2]; exact e
  · rw [e] at e2
    rcases h with h | h
    · exact h.symm
    · omega
variable (h : QChg k m o N cs m' o' N' cs')
include h
theorem PT.stays (hq : IsQ q) (hsp : sp = hdP q ∨ sp = tlP q) (hck : c ≠ k) (hcl : c < cs.length) (ht : PT m o cs N c q sp w) : PT m' o' cs' N' c q sp w := by
  refine ⟨ht.stale.stays ?_, h.guard c 0 _ hck hcl (by decide) ht.guard, fun e => ?_⟩
  · rcases hsp with e | e <;> rw [e]
    · exact h.hd q hq
    · exact h.tl q hq
  · obtain ⟨a, b⟩ := h.shr _ ht.guard.inn ht.guard.notFresh e
    exact b q hq (ht.mem a)
theorem PTt.stays (hq : IsQ q) (hck : c ≠ k) (hcl : c < cs.length) (ht : PTt m o cs N c q w) : PTt m' o' cs' N' c q w := by
  refine ⟨ht.toPT.stays h hq (.inr rfl) hck hcl, fun hm => ?_⟩
  refine h.past q _ hq (ht.past ?_) hm
  exact (h.old q _ hq hm).resolve_right ht.guard.notFresh
theorem PTh.stays (hq : IsQ q) (hck : c ≠ k) (hcl : c < cs.length) (ht : PTh m o cs N c q w) : PTh m' o' cs' N' c q w := by
  refine ⟨ht.toPT.stays h hq (.inl rfl) hck hcl, fun hm => ?_⟩
  exact h.first q _ hq (ht.first ((h.old q _ hq hm).resolve_right ht.guard.notFresh)) hm
theorem NewI.stays {pc v : Int} (hck : c ≠ k) (hn : NewI m o c pc v n) : NewI m' o' c pc v n := by
  have hne : o n ≠ .fresh k := fun e => by rw [hn.own] at e; exact hck (Own.fresh.inj e)
  exact ⟨h.chg.inN.2 hn.inn, ((h.chg.owns c n hck hn.inn).1).2 hn.own, fun hp => (h.val n hn.inn hne).trans (hn.val hp), fun hp => by rw [h.nxf c n hck hn.inn hn.own]; exact hn.nxt hp⟩
theorem Told.stays {r : Rest} (hck : c ≠ k) (ht : Told m o c r) : Told m' o' c r := ht.imp (fun ⟨a, b, d⟩ => ⟨a, h.chg.inN.2 b, ((h.chg.owns c _ hck b).1).2 d⟩) id
variable (hQ : QsI m o N)
include hQ
theorem NextT.stays (hq : IsQ q) (ht : NextT m q t n) : NextT m' q t n := by
  refine ⟨ht.1.stays (h.tl q hq), ht.2.1, fun e => ?_⟩
  have e0 : tlW m q = t := ht.1.back (h.tl q hq) e
  have h1 := ht.2.2 e0
  obtain ⟨a, b⟩ := hQ.tailS hq
  rw [e0] at a b
  rw [h.nxt _ a (by rw [b]; exact fun e => nomatch e) (by rw [h1]; exact ht.2.1)]
  exact h1
theorem HeadI.stays {pc x hh : Int} (hq : IsQ q) (hck : c ≠ k) (hcl : c < cs.length) (hc8 : c < 8) (ht : HeadI m o cs c pc q hh w x) : HeadI m' o' cs' c pc q hh w x := by
  have back : hdW m' q = hh → hdW m q = hh := fun e => ht.stale.back (h.hd q hq) e
  have nodes : hdW m q = hh → InN m (idxI hh) ∧ o (idxI hh) = .shared ∧ InN m (idxI w) ∧ o (idxI w) = .shared := fun e0 => by
    obtain ⟨n1, n2⟩ := ht.now e0
    obtain ⟨a, b⟩ := hQ.headS hq
    rw [e0] at a b
    obtain ⟨l, hl⟩ := hQ.head hq
    have hch := (hQ.q q hq).head
    rw [hl, e0] at hch
    have h2 := hch.2
    rw [n2] at h2
    obtain ⟨l2, hl2⟩ := Chn.cons h2 ht.ne
    have hw := hQ.inn q (idxI w) hq (by rw [hl, hl2]; simp)
    exact ⟨a, b, hw.1, hw.2⟩
  refine ⟨ht.stale.stays (h.hd q hq), ht.ne, fun e => ?_, fun hp => (h.chg.slots c 1 hck hc8 (by decide) (by decide)).trans (ht.slot hp), fun hp => h.guard c 1 _ hck hcl (by decide) (ht.guard hp), fun hp e => ?_⟩
  · have e0 := back e
    obtain ⟨n1, n2⟩ := ht.now e0
    obtain ⟨a, b, _, _⟩ := nodes e0
    refine ⟨?_, ?_⟩
    · have := h.away q hq (e.trans e0.symm) (by rw [e0]; exact n1)
      rw [e0] at this; exact this
    · rw [h.nxt _ a (by rw [b]; exact fun e => nomatch e) (by rw [n2]; exact ht.ne)]; exact n2
  · have e0 := back e
    obtain ⟨_, _, a, b⟩ := nodes e0
    rw [h.val _ a (by rw [b]; exact fun e => nomatch e)]
    exact ht.val hp e0
theorem CoQ.stays {cr : Cor} (hck : c ≠ k) (hcl : c < cs.length) (hc8 : c < 8) (hc : CoQ m o cs N c cr) : CoQ m' o' cs' N' c cr := by
  cases hc with
  | idle e => exact .idle e
  | enq e hq hU hI =>
    refine .enq e hq hU ?_
    cases hI with
    | p0 h1 u => exact .p0 h1 u
    | p1a h1 u => exact .p1a h1 u
    | p1 h1 u ht => exact .p1 h1 u (ht.stays h hck)
    | p25 h1 u hn => exact .p25 h1 u (hn.stays h hck)
    | p6a h1 u hn => exact .p6a h1 u (hn.stays h hck)
    | p6 h1 u hn ht => exact .p6 h1 u (hn.stays h hck) (ht.stays h hq hck hcl)
    | p7 h1 u hn ht => exact .p7 h1 u (hn.stays h hck) (ht.stays h hq hck hcl)
    | p8 h1 u hn ht => exact .p8 h1 u (hn.stays h hck) (ht.stays h hQ hq)
    | p9 h1 u hn ht hw => exact .p9 h1 u (hn.stays h hck) (ht.stays h hq hck hcl) hw
    | p10 h1 u hn ht => exact .p10 h1 u (h.chg.inN.2 hn) (ht.stays h hQ hq)
    | p11 h1 u => exact .p11 h1 u
  | deq e hq hU hI =>
    refine .deq e hq hU ?_
    cases hI with
    | p0 h1 u => exact .p0 h1 u
    | p1a h1 u => exact .p1a h1 u
    | p1 h1 u ht => exact .p1 h1 u (ht.stays h hq hck hcl)
    | p2 h1 u ht => exact .p2 h1 u (ht.stays h hq hck hcl)
    | p3 h1 u ht hs ha =>
      refine .p3 h1 u (ht.stays h hq hck hcl) (hs.stays (h.tl _ hq)) fun e1 e2 => ?_
      have e0 := ht.stale.back (h.hd _ hq) e1
      have e1' : hdW m' _ = _ := e1
      have := h.away _ hq (e1'.trans (show hdW m _ = _ from e0).symm) (by rw [show hdW m _ = _ from e0]; exact ha e0 e2)
      rw [show hdW m _ = _ from e0] at this
      exact this
    | p4 h1 u ht => exact .p4 h1 u (ht.stays h hQ hq)
    | p58 h1 u ht => exact .p58 h1 u (ht.stays h hQ hq hck hcl hc8)
    | p9a h1 u => exact .p9a h1 u
    | p9 h1 u => exact .p9 h1 u
    | p10 h1 u => exact .p10 h1 u
end
/-! ### A step of the memory's management -/
section
variable {T : Int} {k C : Nat} {m : Me} {o o' : OM} {N : NQ} {F : List Frm} {f : Frm} {r : Rest} {L : Loc} {l : List Int} {cs : List Cor} {q p : Int}
theorem Good.hd (hg : Good T k C m o F f r L o') (hq : IsQ q) (hk : k < 8) : hdW L.m q = hdW m q ∧ tlW L.m q = tlW m q := by
  have key : ∀ sp : Int, 32 ≤ sp → sp < 128 → nI L.m.1 sp = nI m.1 sp := fun sp h1 h2 => hg.words sp (by omega) h2 fun i h3 h4 => by have := slotP_is k i; omega
  unfold hdW tlW hdP tlP
  rcases hq with e | e <;> subst e
  · exact ⟨key _ (by decide) (by decide), key _ (by decide) (by decide)⟩
  · exact ⟨key _ (by decide) (by decide), key _ (by decide) (by decide)⟩
theorem Good.nx (hg : Good T k C m o F f r L o') (hp : InN m p) : V.nx L.m p = V.nx m p ∧ vl L.m p = vl m p := ⟨hg.cells p 1 hp (by decide) (by decide), hg.cells p 3 hp (by decide) (by decide)⟩
theorem Good.shared (hg : Good T k C m o F f r L o') (hp : InN m p) : o' p = .shared ↔ o p = .shared := by
  rcases hg.own p hp with e | ⟨e, e'⟩ | ⟨e, e'⟩ | ⟨e, e'⟩ | ⟨e, e'⟩ | ⟨⟨x, e⟩, e'⟩
  · rw [e]
  all_goals (rw [e, e']; exact ⟨fun h => (nomatch h), fun h => (nomatch h)⟩)
theorem Good.qchg (hg : Good T k cs.length m o F f r (lMM cs.length k m f r) o') (hQ : QsI m o N) (hC : cs.length ≤ 8) (hl : FL m l) (hk : k < cs.length) (hop : 1 ≤ f.1 ∧ f.1 ≤ 8) (hat : cAt cs k = (F ++ [f], r)) (hc : CoreI m o cs.length k (F ++ [f], r)) :
    QChg k m o N cs (lMM cs.length k m f r).m o' N (List.set (α := Cor) cs ((k : Nat) : Int).toNat (F ++ (lMM cs.length k m f r).fs, (lMM cs.length k m f r).r)) := by
  refine ⟨hg.chg, fun c i p hck hcl hi hgd => hgd.step hC hl hk hck hcl hi hop hat hc hg, fun q hq => .inl (hg.hd hq (by omega)).1, fun q hq => .inl (hg.hd hq (by omega)).2, fun p hp _ _ => (hg.nx hp).1, fun _ p _ hp _ => (hg.nx hp).1, fun p hp _ => (hg.nx hp).2, fun p hp _ e => ⟨(hg.shared hp).1 e, fun _ _ h => h⟩, fun _ _ _ h => .inl h, fun q p hq h _ => by rw [(hg.hd hq (by omega)).2]; exact h, fun q hq _ h => by rw [(hg.hd hq (by omega)).2]; exact h, fun q p hq h _ => by rw [(hg.hd hq (by omega)).1]; exact h⟩
theorem Good.qs (hg : Good T k C m o F f r L o') (hQ : QsI m o N) (hk : k < 8) : QsI L.m o' N := by
  refine ⟨fun q hq => ?_, fun q p hq hp => ?_, fun p hp e => ?_, hQ.apart, fun p c hp e => ?_⟩
  · have h := hQ.q q hq
    obtain ⟨e1, e2⟩ := hg.hd hq hk
    refine ⟨?_, h.nodup, by rw [e2]; exact h.tail⟩
    rw [e1]
    exact h.head.same fun n hn => by rw [(hg.nx (hQ.inn q n hq hn).1).1]
  · obtain ⟨a, b⟩ := hQ.inn q p hq hp
    exact ⟨hg.chg.inN.2 a, (hg.shared a).2 b⟩
  · have hp := hg.chg.inN.1 hp
    exact hQ.mem p hp ((hg.shared hp).1 e)
  · have hp := hg.chg.inN.1 hp
    rw [(hg.nx hp).1]
    rcases hg.own p hp with e1 | ⟨_, e1⟩ | ⟨e0, e1⟩ | ⟨_, e1⟩ | ⟨_, e1⟩ | ⟨_, e1⟩
    · rw [e1] at e; exact hQ.out p c hp e
    · rw [e1] at e; rcases e with e | e <;> cases e
    · exact hQ.out p k hp (.inl e0)
    · rw [e1] at e; rcases e with e | e <;> cases e
    · rw [e1] at e; rcases e with e | e <;> cases e
    · rw [e1] at e; rcases e with e | e <;> cases e
end
end Go.Proofs.YtpobngddiifdpaaGreat.V
