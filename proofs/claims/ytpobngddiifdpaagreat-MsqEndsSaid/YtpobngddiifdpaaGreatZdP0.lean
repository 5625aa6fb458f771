/- Arguments out of what a statement says of them: they read as data. -/
import Derived.Test.YtpobngddiifdpaaGreatZdVRd
import Derived.ChangeArms
import Derived.OpenShut
import Derived.DataReads
set_option linter.unusedSimpArgs false
set_option linter.unusedVariables false
namespace Go.Proofs.YtpobngddiifdpaaGreat.V
open Go Go.RowKit Go.Proofs.YtpobngddiifdpaaGreat.Hz

/-! ### The table's types hang together -/
def chkFs (T : Tab) : Ty → List (Nat × TypeId) → Nat → Bool
  | .nil, [], _ => true
  | .cons a b, (o, f) :: r, off => Nat.beq o off && decide ((T.at f).ty = some a) && chkFs T b r (off + a.size)
  | _, _, _ => false
def arrFs (sz : Nat) (e : TypeId) : Nat → Nat → List (Nat × TypeId)
  | 0, _ => []
  | n + 1, i => (i * sz, e) :: arrFs sz e n (i + 1)
def linkTy (T : Tab) (k : TK) (ty : Ty) : Bool :=
  match k, ty with
  | .int k, .int k' => decide (k = k')
  | .bool, .bool => true
  | .sl e, .sl a => decide ((T.at e).ty = some a)
  | .str fs, ty => chkFs T ty fs 0
  | .arr n e, ty => chkFs T ty (arrFs (T.at e).size e n 0) 0
  | _, _ => false
def Tab.link (T : Tab) : Bool := (List.range T.length).all fun t => (T.at t).ty.all (linkTy T (T.at t).kind)

section
variable {H : Type} {enc : TypeId × Value → H} {P : Program} {T : Tab} {W : World}
theorem link_at (hL : T.link = true) {t : TypeId} {ty : Ty} (h : (T.at t).ty = some ty) : linkTy T (T.at t).kind ty = true := by
  by_cases c : t < T.length
  · have := List.all_eq_true.1 hL t (List.mem_range.2 c)
    rw [h] at this
    simpa using this
  · have e : T.at t = TI.no := by simp [Tab.at, List.getD, c]
    rw [e] at h; cases h
theorem cells_of (hT : T.ok P) {t : TypeId} {ty : Ty} (h : (T.at t).ty = some ty) : P.cellsOf t = ty.size := by
  obtain ⟨h1, h2, _⟩ := tab_ty hT h
  have := tab_size' hT h2
  unfold Program.cellsOf
  rw [this, ← h1]; rfl
abbrev X0 : Nat → Prop := fun _ => False
/-- Numbers are of their kinds. -/
def WFd : (t : Ty) → Den t → Prop
  | .int k, n => (Lit.int k n).wf = true
  | .bool, _ => True
  | .sl t, l => ∀ x ∈ (l : List (Den t)), WFd t x
  | .nil, _ => True
  | .cons a b, x => WFd a x.1 ∧ WFd b x.2
theorem fs_open {cs : List Value} : ∀ {fs : List (Nat × TypeId)} {ty : Ty} {off : Nat}, chkFs T ty fs off = true →
    (∀ o f a, (o, f) ∈ fs → (T.at f).ty = some a → ∃ x : Den a, DC X0 W a ((cs.drop o).take a.size) x ∧ WFd a x) → ∃ x : Den ty, DC X0 W ty ((cs.drop off).take ty.size) x ∧ WFd ty x
  | [], .nil, off, _, _ => ⟨(), by show List.take 0 _ = []; rfl, trivial⟩
  | (o, f) :: r, .cons a b, off, h, hp => by
    simp only [chkFs, Bool.and_eq_true, decide_eq_true_eq] at h
    obtain ⟨⟨h1, h2⟩, h3⟩ := h
    obtain rfl := Nat.eq_of_beq_eq_true h1
    obtain ⟨x, hx, wx⟩ := hp o f a (List.mem_cons_self ..) h2
    obtain ⟨y, hy, wy⟩ := fs_open (fs := r) h3 fun o' f' a' hm => hp o' f' a' (List.mem_cons_of_mem _ hm)
    refine ⟨(x, y), ⟨_, _, ?_, hx, hy⟩, wx, wy⟩
    show List.take (a.size + b.size) _ = _
    rw [List.take_add, List.drop_drop]
  | [], .cons _ _, _, h, _ => by cases h
  | _ :: _, .nil, _, h, _ => by cases h
  | [], .int _, _, h, _ => by cases h
  | _ :: _, .int _, _, h, _ => by cases h
  | [], .bool, _, h, _ => by cases h
  | _ :: _, .bool, _, h, _ => by cases h
  | [], .sl _, _, h, _ => by cases h
  | _ :: _, .sl _, _, h, _ => by cases h
theorem arrFs_mem {sz : Nat} {e : TypeId} : ∀ {n i : Nat} {p : Nat × TypeId}, p ∈ arrFs sz e n i → p.2 = e ∧ ∃ j, i ≤ j ∧ j < i + n ∧ p.1 = j * sz
  | 0, _, _, h => by cases h
  | n + 1, i, p, h => by
    rcases List.mem_cons.1 h with rfl | h
    · exact ⟨rfl, i, Nat.le_refl _, by omega, rfl⟩
    · obtain ⟨h1, j, h2, h3, h4⟩ := arrFs_mem h
      exact ⟨h1, j, by omega, by omega, h4⟩
theorem cell_block {w : World} {a : Addr} {v : Value} (h : w.cell? a = some v) : a.block < w.heap.size := by
  unfold World.cell? at h
  rcases Nat.lt_or_ge a.block w.heap.size with c | c
  · exact c
  · rw [Array.getElem?_eq_none c] at h
    simp at h
theorem opens (hT : T.ok P) (hL : T.link = true) : ∀ (fuel : Nat) {t : TypeId} {cs : List Value} {x : DataW H × List MemPlace} {ty : Ty}, (T.at t).ty = some ty → DataW.trod enc P W 0 (fun _ => true) true fuel t cs = some x → ∃ y : Den ty, DC X0 W ty cs y ∧ WFd ty y
  | 0, _, _, _, _, _, h => by simp [DataW.trod] at h
  | fuel + 1, t, cs, x, ty, hty, h => by
    have hl := link_at hL hty
    obtain ⟨hs1, hs2, _⟩ := tab_ty hT hty
    cases hk : (T.at t).kind with
    | int k =>
      rw [hk] at hl
      cases ty with
      | int k' =>
        simp only [linkTy, decide_eq_true_eq] at hl
        subst hl
        obtain ⟨n, rfl, _, hw⟩ := DataW.trod_int (tab_int hT hk) h
        exact ⟨n, rfl, hw⟩
      | _ => cases hl
    | bool =>
      rw [hk] at hl
      cases ty with
      | bool =>
        obtain ⟨b, rfl, _⟩ := DataW.trod_bool (tab_bool hT hk) h
        exact ⟨b, rfl, trivial⟩
      | _ => cases hl
    | str fs =>
      rw [hk] at hl
      obtain ⟨gs, hu, hgs⟩ := tab_str hT hk
      obtain ⟨xs, n, e, _, hlen, hxl, hf⟩ := DataW.trod_struct hu h
      have e : fuel = n := by omega
      subst e
      rw [cells_of hT hty] at hlen
      have hl : chkFs T ty fs 0 = true := by cases ty <;> exact hl
      obtain ⟨y, hy, wy⟩ := fs_open (W := W) (cs := cs) hl fun o f a hm ha => by
        rw [← hgs] at hm
        obtain ⟨g, hg, e⟩ := List.mem_map.1 hm
        obtain ⟨rfl, rfl⟩ := Prod.mk.inj e
        obtain ⟨i, hi, e⟩ := List.getElem_of_mem hg
        have hgi : gs[i]? = some g := by rw [← Array.getElem?_toList, List.getElem?_eq_getElem hi, e]
        have := hf i g hgi
        rw [cells_of hT ha, List.getElem?_eq_getElem (by rw [hxl]; simpa using hi)] at this
        exact opens hT hL fuel ha this
      rw [List.drop_zero, ← hlen, List.take_length] at hy
      exact ⟨y, hy, wy⟩
    | arr n e =>
      rw [hk] at hl
      have hu := tab_arr hT hk
      obtain ⟨xs, m, em, _, hlen, hxl, hf⟩ := DataW.trod_array hu h
      have em : fuel = m := by omega
      subst em
      rw [cells_of hT hty] at hlen
      have hl : chkFs T ty (arrFs (T.at e).size e n 0) 0 = true := by cases ty <;> exact hl
      obtain ⟨y, hy, wy⟩ := fs_open (W := W) (cs := cs) hl fun o f a hm ha => by
        obtain ⟨hfe, j, _, hj, ho⟩ := arrFs_mem hm
        simp only at hfe ho
        subst hfe ho
        have := hf j (by omega)
        rw [cells_of hT ha, List.getElem?_eq_getElem (by omega)] at this
        rw [(tab_ty hT ha).1]
        exact opens hT hL fuel ha this
      rw [List.drop_zero, ← hlen, List.take_length] at hy
      exact ⟨y, hy, wy⟩
    | sl e =>
      rw [hk] at hl
      cases ty with
      | sl a =>
        simp only [linkTy, decide_eq_true_eq] at hl
        have hce := cells_of hT hl
        rcases DataW.trod_slice (tab_sl hT hk) h with ⟨rfl, _⟩ | ⟨ad, len, cap, elems, rest, n, en, rfl, _, hb, hlc, hm, hlen, hel, hsp, _⟩
        · exact ⟨[], ⟨_, rfl, [], SX.empty, rfl⟩, fun _ h => nomatch h⟩
        · have en : fuel = n := by omega
          subst en
          obtain ⟨hrl, hr⟩ := hsp rfl
          rw [hce] at hel hr
          by_cases hc0 : cap = 0
          · subst hc0
            have : len = 0 := by omega
            subst this
            exact ⟨[], ⟨_, rfl, [], SX.empty, rfl⟩, fun _ h => nomatch h⟩
          · -- something is read: the place is a plain one
            obtain ⟨_, _, hsz⟩ := cloneOk_is (tab_clone hT hk hl)
            have hpos : 0 < a.size := by
              obtain ⟨h1, h2, h3, h4, h5, h6⟩ := hsz
              first | exact h5 | exact h4 | exact h6.1 | (simp_all; omega)
            have hfirst : ∃ c, W.cells? 0 (ad.add 0) a.size = some c := by
              by_cases h0 : 0 < len
              · have := hel 0 h0
                rw [Nat.zero_mul, List.getElem?_eq_getElem (by omega)] at this
                obtain ⟨c, hc, _⟩ := Option.bind_eq_some_iff.1 this
                exact ⟨c, hc⟩
              · have hl0 : len = 0 := by omega
                have := hr 0 (by omega)
                rw [hl0, Nat.zero_add, Nat.zero_mul, List.getElem?_eq_getElem (by omega)] at this
                obtain ⟨c, hc, _⟩ := Option.bind_eq_some_iff.1 this
                exact ⟨c, hc⟩
            obtain ⟨c0, hc0⟩ := hfirst
            obtain ⟨_, hcl, hcc⟩ := World.cells?_some hc0
            have hcell := hcc 0 hpos
            rw [List.getElem?_eq_getElem (by omega)] at hcell
            have hadd : (ad.add 0).add 0 = ad := by
              obtain ⟨b, o, s⟩ := ad
              cases s <;> simp [Addr.add]
            rw [hadd] at hcell
            have hspot := World.cell?_spot hcell
            have hblk := cell_block hcell
            obtain ⟨b, o, s⟩ := ad
            simp only at hspot hblk
            subst hspot
            have key : ∀ k, k ≤ len → ∃ (l : List (Den a)) (cs : List Value), l.length = k ∧ Chunks (DC X0 W a) l cs ∧ Row W b o cs ∧ cs.length = k * a.size ∧ ∀ x ∈ l, WFd a x := by
              intro k
              induction k with
              | zero => exact fun _ => ⟨[], [], rfl, rfl, Row.nil _ _ _, by simp, fun _ h => nomatch h⟩
              | succ k ih =>
                intro hk
                obtain ⟨l, cs, e1, e2, e3, e4, e5⟩ := ih (by omega)
                have := hel k (by omega)
                rw [List.getElem?_eq_getElem (by omega)] at this
                obtain ⟨c, hc, hd⟩ := Option.bind_eq_some_iff.1 this
                obtain ⟨_, hcl, hcc⟩ := World.cells?_some hc
                obtain ⟨y, hy, wy⟩ := opens hT hL fuel hl hd
                refine ⟨l ++ [y], cs ++ c, by simp [e1], e2.append (Chunks.one hy), e3.append ?_, by rw [List.length_append, e4, hcl, Nat.add_mul, Nat.one_mul], fun x hx => by
                  rcases List.mem_append.1 hx with hx | hx
                  · exact e5 x hx
                  · rw [List.mem_singleton] at hx; rw [hx]; exact wy⟩
                intro i v hv
                have hi := (List.getElem?_eq_some_iff.1 hv).1
                have := hcc i (by omega)
                rw [hv] at this
                rw [Addr.add_lit, Addr.add_mid] at this
                rw [e4]
                exact this
            obtain ⟨l, cs, e1, e2, e3, _, e5⟩ := key len (Nat.le_refl _)
            refine ⟨l, ⟨_, rfl, cs, .inl (.inr ⟨b, o, cap, by rw [e1], fun h => h, hblk, by rw [e1]; exact hlc, hm, e3⟩), e2⟩, e5⟩
      | _ => cases hl
    | _ => rw [hk] at hl; cases ty <;> cases hl
end
end Go.Proofs.YtpobngddiifdpaaGreat.V

set_option linter.unusedSimpArgs false
set_option linter.unusedVariables false
namespace Go.Proofs.YtpobngddiifdpaaGreat.V
open Go Go.RowKit Go.Proofs.YtpobngddiifdpaaGreat.Hz
set_option maxRecDepth 100000

abbrev Lp := List (Den (.int .u16))
abbrev vP (l : Lp) : SV := .one (.sl (.int .u16) l false)
theorem wfu16 {x : Int} (h : WFd (.int .u16) x) : 0 ≤ x ∧ x ≤ 65535 := by
  have h : (Lit.int IntKind.u16 x).wf = true := h
  simp [Lit.wf, IntKind.min, IntKind.max, IntKind.signed, IntKind.bits] at h
  omega
/-- A pick. -/
def pick (l : Lp) (i : Nat) : Int := l.getD i (0 : Int)
theorem pick_in {l : Lp} (hw : ∀ x ∈ l, WFd (.int .u16) x) {i : Nat} (hi : i < l.length) : 0 ≤ pick l i ∧ pick l i ≤ 65535 := by
  unfold pick
  rw [List.getD_eq_getElem?_getD, List.getElem?_eq_getElem hi]
  exact wfu16 (hw _ (List.getElem_mem hi))
/-- How many cores. -/
theorem cores_of {a : Int} (h0 : 0 ≤ a) (h1 : a ≤ 255) : ∃ c : Nat, 1 ≤ c ∧ c ≤ 8 ∧ wrap64 (1 + a.tmod 8) = c := by
  have e : a.tmod 8 = a % 8 := Int.tmod_eq_emod_of_nonneg h0
  rw [e]
  refine ⟨(1 + a % 8).toNat, by omega, by omega, ?_⟩
  rw [IntWalk.wrap64_in _ (by omega)]
  omega
theorem nodes_of {a d : Int} (h0 : 0 ≤ a) (h1 : a ≤ 255) (hd : 0 < d) (hd2 : d ≤ 100) : ∃ n : Nat, 1 ≤ n ∧ (n : Int) ≤ d ∧ wrap64 (1 + a.tmod d) = n := by
  have e : a.tmod d = a % d := Int.tmod_eq_emod_of_nonneg h0
  have h2 := Int.emod_nonneg a (show d ≠ 0 by omega)
  have h3 := Int.emod_lt_of_pos a hd
  rw [e]
  refine ⟨(1 + a % d).toNat, by omega, by omega, ?_⟩
  rw [IntWalk.wrap64_in _ (by omega)]
  omega
theorem nodes2_of {a d : Int} (h0 : 0 ≤ a) (h1 : a ≤ 255) (hd : 0 < d) (hd2 : d ≤ 100) : ∃ n : Nat, 2 ≤ n ∧ (n : Int) ≤ d + 1 ∧ wrap64 (2 + a.tmod d) = n := by
  have e : a.tmod d = a % d := Int.tmod_eq_emod_of_nonneg h0
  have h2 := Int.emod_nonneg a (show d ≠ 0 by omega)
  have h3 := Int.emod_lt_of_pos a hd
  rw [e]
  refine ⟨(2 + a % d).toNat, by omega, by omega, ?_⟩
  rw [IntWalk.wrap64_in _ (by omega)]
  omega
/-- The core of a pick. -/
theorem core_of {x : Int} {c : Nat} (x0 : 0 ≤ x) (hc : 1 ≤ c) : ∃ k : Nat, k < c ∧ x.tmod (c : Int) = (k : Int) := by
  rw [Int.tmod_eq_emod_of_nonneg x0]
  have h1 := Int.emod_nonneg x (show (c : Int) ≠ 0 by omega)
  have h2 := Int.emod_lt_of_pos x (show (0 : Int) < c by omega)
  exact ⟨(x % c).toNat, by omega, by omega⟩
end Go.Proofs.YtpobngddiifdpaaGreat.V
