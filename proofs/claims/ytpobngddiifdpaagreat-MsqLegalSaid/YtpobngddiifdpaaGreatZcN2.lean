/- Queues: what is known of them and of each core. -/
import Derived.Test.YtpobngddiifdpaaGreatZcN1
import Derived.Test.YtpobngddiifdpaaGreatZcM16
set_option linter.unusedSimpArgs false
set_option linter.unusedVariables false
namespace Go.Proofs.YtpobngddiifdpaaGreat.V
open Go Go.RowKit Go.Proofs.YtpobngddiifdpaaGreat.Hz
set_option maxRecDepth 100000

/-- A node's next word; its value. -/
def nx (m : Me) (p : Int) : Int := nI m.1 (lk p + 1)
def vl (m : Me) (p : Int) : Int := nI m.1 (lk p + 3)
/-- The places of a queue's words. -/
def hdP (q : Int) : Int := 32 + 2 * q
def tlP (q : Int) : Int := 33 + 2 * q
abbrev hdW (m : Me) (q : Int) : Int := nI m.1 (hdP q)
abbrev tlW (m : Me) (q : Int) : Int := nI m.1 (tlP q)
def IsQ (q : Int) : Prop := q = 0 ∨ q = 1
/-- From a node on, the next words lead through these. -/
def Chn (m : Me) : Int → List Int → Prop
  | p, [] => p = 0
  | p, n :: l => p = n ∧ Chn m (idxI (nx m n)) l
structure QI (m : Me) (q : Int) (N : List Int) : Prop where
  head : Chn m (idxI (hdW m q)) N
  nodup : N.Nodup
  tail : ∃ A, N = A ++ [idxI (tlW m q)] ∨ ∃ y, N = A ++ [idxI (tlW m q), y]
/-- One is the other one, or ahead of it. -/
def Before (N : List Int) (a b : Int) : Prop := ∃ A B, N = A ++ b :: B ∧ (a = b ∨ a ∈ A)
/-- A word of now or of before. -/
def StaleQ (m : Me) (sp w : Int) : Prop := w = nI m.1 sp ∨ tagI w < tagI (nI m.1 sp)
abbrev NQ := Int → List Int
structure PT (m : Me) (o : OM) (cs : List Cor) (N : NQ) (k : Nat) (q sp w : Int) : Prop where
  stale : StaleQ m sp w
  guard : Guard m o cs k 0 (idxI w)
  mem : o (idxI w) = .shared → idxI w ∈ N q
structure PTt (m : Me) (o : OM) (cs : List Cor) (N : NQ) (k : Nat) (q w : Int) : Prop extends PT m o cs N k q (tlP q) w where
  past : idxI w ∈ N q → Before (N q) (idxI w) (idxI (tlW m q))
structure PTh (m : Me) (o : OM) (cs : List Cor) (N : NQ) (k : Nat) (q w : Int) : Prop extends PT m o cs N k q (hdP q) w where
  first : idxI w ∈ N q → idxI (hdW m q) = idxI w
/-- If the tail is still this word, the next node is this. -/
def NextT (m : Me) (q t n : Int) : Prop := StaleQ m (tlP q) t ∧ n ≠ 0 ∧ (tlW m q = t → idxI (nx m (idxI t)) = n)
def isProt (g : Frm) (sp : Int) : Prop := g.1 = 3 ∧ g.2.2.1.1 = sp ∧ g.2.2.1.2.1 = 0
/-- OEnq's node. -/
structure NewI (m : Me) (o : OM) (k : Nat) (pc v n : Int) : Prop where
  inn : InN m n
  own : o n = .fresh k
  val : 3 ≤ pc → vl m n = v
  nxt : 5 ≤ pc → idxI (nx m n) = 0
inductive EnqI (m : Me) (o : OM) (cs : List Cor) (N : NQ) (k : Nat) (pc q v n t w : Int) (U : List Frm) (r : Rest) : Prop
  | p0 (h : pc = 0) (u : U = [])
  | p1a (h : pc = 1) (u : ∃ g rest, U = g :: rest ∧ g.1 = 7)
  | p1 (h : pc = 1) (u : U = []) (ht : Told m o k r)
  | p25 (h : 2 ≤ pc ∧ pc ≤ 5) (u : U = []) (hn : NewI m o k pc v n)
  | p6a (h : pc = 6) (u : ∃ g, U = [g] ∧ isProt g (tlP q)) (hn : NewI m o k pc v n)
  | p6 (h : pc = 6) (u : U = []) (hn : NewI m o k pc v n) (ht : PTt m o cs N k q r.1)
  | p7 (h : pc = 7) (u : U = []) (hn : NewI m o k pc v n) (ht : PTt m o cs N k q t)
  | p8 (h : pc = 8) (u : U = []) (hn : NewI m o k pc v n) (ht : NextT m q t (idxI w))
  | p9 (h : pc = 9) (u : U = []) (hn : NewI m o k pc v n) (ht : PTt m o cs N k q t) (hw : idxI w = 0)
  | p10 (h : pc = 10) (u : U = []) (hn : InN m n) (ht : NextT m q t n)
  | p11 (h : pc = 11) (u : U = [])
/-- If the head is still this word, the tail is another node, and the next one is this. -/
structure HeadI (m : Me) (o : OM) (cs : List Cor) (k : Nat) (pc q h w x : Int) : Prop where
  stale : StaleQ m (hdP q) h
  ne : idxI w ≠ 0
  now : hdW m q = h → idxI (tlW m q) ≠ idxI h ∧ idxI (nx m (idxI h)) = idxI w
  slot : 6 ≤ pc → nI m.1 (slotP k 1) = idxI w
  guard : pc = 7 → Guard m o cs k 1 (idxI w)
  val : pc = 8 → hdW m q = h → vl m (idxI w) = x
inductive DeqI (m : Me) (o : OM) (cs : List Cor) (N : NQ) (k : Nat) (pc q h t w x : Int) (U : List Frm) (r : Rest) : Prop
  | p0 (hp : pc = 0) (u : U = [])
  | p1a (hp : pc = 1) (u : ∃ g, U = [g] ∧ isProt g (hdP q))
  | p1 (hp : pc = 1) (u : U = []) (ht : PTh m o cs N k q r.1)
  | p2 (hp : pc = 2) (u : U = []) (ht : PTh m o cs N k q h)
  | p3 (hp : pc = 3) (u : U = []) (ht : PTh m o cs N k q h) (hs : StaleQ m (tlP q) t) (ha : hdW m q = h → idxI t ≠ idxI h → idxI (tlW m q) ≠ idxI h)
  | p4 (hp : pc = 4) (u : U = []) (ht : NextT m q t (idxI w))
  | p58 (hp : 5 ≤ pc ∧ pc ≤ 8) (u : U = []) (ht : HeadI m o cs k pc q h w x)
  | p9a (hp : pc = 9) (u : ∃ g rest, U = g :: rest ∧ g.1 = 5)
  | p9 (hp : pc = 9) (u : U = [])
  | p10 (hp : pc = 10) (u : U = [])
inductive CoQ (m : Me) (o : OM) (cs : List Cor) (N : NQ) (k : Nat) (cr : Cor) : Prop
  | idle (e : cr.1 = [])
  | enq {pc q v n t w : Int} {r3 : R3'} {l : Li} {U : List Frm} (e : cr.1 = ((9 : Int), pc, (q, v, n, t, w, r3), l, ()) :: U) (hq : IsQ q) (hU : ∀ g ∈ U, 1 ≤ g.1 ∧ g.1 ≤ 8) (hI : EnqI m o cs N k pc q v n t w U cr.2)
  | deq {pc q v h t w x e y : Int} {l : Li} {U : List Frm} (e' : cr.1 = ((10 : Int), pc, (q, v, h, t, w, x, e, y, ()), l, ()) :: U) (hq : IsQ q) (hU : ∀ g ∈ U, 1 ≤ g.1 ∧ g.1 ≤ 8) (hI : DeqI m o cs N k pc q h t w x U cr.2)
/-- The queues' nodes. -/
structure QsI (m : Me) (o : OM) (N : NQ) : Prop where
  q : ∀ q, IsQ q → QI m q (N q)
  inn : ∀ q p, IsQ q → p ∈ N q → InN m p ∧ o p = .shared
  mem : ∀ p, InN m p → o p = .shared → ∃ q, IsQ q ∧ p ∈ N q
  apart : ∀ p, p ∈ N 0 → p ∉ N 1
  out : ∀ p c, InN m p → (o p = .gone c ∨ o p = .ret c) → idxI (nx m p) ≠ 0
structure MsI (T : Int) (o : OM) (s : Sy) (N : NQ) : Prop where
  mm : MM T o s
  qs : QsI s.1 o N
  tags : ∀ q, IsQ q → tagI (hdW s.1 q) ≤ T ∧ tagI (tlW s.1 q) ≤ T
  core : ∀ k : Nat, k < s.2.1.length → CoQ s.1 o s.2.1 N k (cAt s.2.1 k)
/-! ### Lists -/
theorem Chn.same {m m' : Me} : ∀ {l : List Int} {p : Int}, Chn m p l → (∀ n ∈ l, idxI (nx m' n) = idxI (nx m n)) → Chn m' p l
  | [], _, h, _ => h
  | n :: l, p, h, hs => ⟨h.1, by rw [hs n (List.mem_cons_self ..)]; exact Chn.same h.2 fun x hx => hs x (List.mem_cons_of_mem _ hx)⟩
/-- The last node leads nowhere. -/
theorem Chn.last {m : Me} : ∀ {A : List Int} {p x : Int}, Chn m p (A ++ [x]) → idxI (nx m x) = 0
  | [], _, _, h => h.2
  | _ :: _, _, _, h => Chn.last h.2
/-- A node leads to the one behind it. -/
theorem Chn.next {m : Me} {x y : Int} : ∀ {A B : List Int} {p : Int}, Chn m p (A ++ x :: y :: B) → idxI (nx m x) = y
  | [], _, _, h => h.2.1
  | _ :: _, _, _, h => Chn.next h.2
theorem Chn.cons {m : Me} {p : Int} {l : List Int} (h : Chn m p l) (hp : p ≠ 0) : ∃ l', l = p :: l' := by
  cases l with
  | nil => exact absurd h hp
  | cons n l => exact ⟨l, by rw [h.1]⟩
/-- A node that leads nowhere is the last one. -/
theorem Chn.isLast {m : Me} {x : Int} (h0 : idxI (nx m x) = 0) : ∀ {l : List Int} {p : Int}, Chn m p l → (∀ y ∈ l, y ≠ 0) → x ∈ l → ∃ A, l = A ++ [x]
  | n :: l, p, h, hn, hx => by
    rcases List.mem_cons.1 hx with e | e
    · subst e
      have h2 := h.2
      rw [h0] at h2
      cases l with
      | nil => exact ⟨[], rfl⟩
      | cons y l => exact absurd h2.1.symm (hn y (by simp))
    · obtain ⟨A, hA⟩ := Chn.isLast h0 h.2 (fun y hy => hn y (List.mem_cons_of_mem _ hy)) e
      exact ⟨n :: A, by rw [hA]; rfl⟩
theorem Chn.snoc {m m' : Me} {x n : Int} (hx : idxI (nx m' x) = n) (hn : idxI (nx m' n) = 0) : ∀ {A : List Int} {p : Int}, Chn m p (A ++ [x]) → (∀ y ∈ A, idxI (nx m' y) = idxI (nx m y)) → Chn m' p (A ++ [x, n])
  | [], p, h, _ => ⟨h.1, hx, hn⟩
  | a :: A, p, h, hs => ⟨h.1, by rw [hs a (List.mem_cons_self ..)]; exact Chn.snoc hx hn h.2 fun y hy => hs y (List.mem_cons_of_mem _ hy)⟩
section
variable {m m' : Me} {o o' : OM} {N N' : NQ} {q p : Int}
theorem QsI.headIn (h : QsI m o N) (hq : IsQ q) (hne : idxI (hdW m q) ≠ 0 ∨ N q ≠ []) : ∃ l, N q = idxI (hdW m q) :: l := by
  have hc := (h.q q hq).head
  cases hN : N q with
  | nil =>
    rw [hN] at hc
    rcases hne with e | e
    · exact absurd hc e
    · exact absurd hN e
  | cons n l => rw [hN] at hc; exact ⟨l, by rw [hc.1]⟩
theorem QI.ne {N : List Int} (h : QI m q N) : N ≠ [] := by
  obtain ⟨A, e | ⟨y, e⟩⟩ := h.tail <;> rw [e] <;> simp
theorem QsI.head (h : QsI m o N) (hq : IsQ q) : ∃ l, N q = idxI (hdW m q) :: l := h.headIn hq (.inr (h.q q hq).ne)
theorem QsI.headS (h : QsI m o N) (hq : IsQ q) : InN m (idxI (hdW m q)) ∧ o (idxI (hdW m q)) = .shared := by
  obtain ⟨l, hl⟩ := h.head hq
  exact h.inn q _ hq (by rw [hl]; exact List.mem_cons_self ..)
theorem QsI.tailIn (h : QsI m o N) (hq : IsQ q) : idxI (tlW m q) ∈ N q := by
  obtain ⟨A, e | ⟨y, e⟩⟩ := (h.q q hq).tail <;> rw [e] <;> simp
theorem QsI.tailS (h : QsI m o N) (hq : IsQ q) : InN m (idxI (tlW m q)) ∧ o (idxI (tlW m q)) = .shared := h.inn q _ hq (h.tailIn hq)
end
end Go.Proofs.YtpobngddiifdpaaGreat.V
