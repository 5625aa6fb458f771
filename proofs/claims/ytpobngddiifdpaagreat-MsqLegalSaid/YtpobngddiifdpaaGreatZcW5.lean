/- What a queue holds by its events: the document. -/
import Derived.Test.YtpobngddiifdpaaGreatZcT0
import Derived.Test.YtpobngddiifdpaaGreatZcN10
set_option linter.unusedSimpArgs false
set_option linter.unusedVariables false
namespace Go.Proofs.YtpobngddiifdpaaGreat.V
open Go Go.RowKit Go.Proofs.YtpobngddiifdpaaGreat.Hz
set_option maxRecDepth 100000

/-- The state at the head of the loop: nothing yet, a row that was appended to, one that was cut. -/
def stPlay (l : List Evt) (q : Int) (y : Nat × Li × Nat) : St :=
  match y.2.2 with
  | 0 => ⟨lay 60 0 [(0, .one (.sl tEv l false)), (1, vI q), (4, .one (.emp tI)), (5, vB false), (6, .one (.emp tI)), (7, vI (y.1 : Int))], [], []⟩
  | 1 => ⟨lay 60 0 [(0, .one (.sl tEv l false)), (1, vI q), (4, .one (.emp tI)), (5, vB false), (6, .one (.row 35)), (7, vI (y.1 : Int))], [(35, .row yInt tI y.2.1)], []⟩
  | _ => ⟨lay 60 0 [(0, .one (.sl tEv l false)), (1, vI q), (4, .one (.emp tI)), (5, vB false), (6, .one (.row 53)), (7, vI (y.1 : Int))], [(53, .row yInt tI y.2.1)], []⟩
theorem s_refPlay (l : List Evt) (q : Int) (hl : l.length ≤ 1000000) : Spec Tryz.prog 32 [.one (.sl tEv l false), vI q] (vItems (playI q [] l)) := by
  obtain ⟨R, hR0⟩ : ∃ R, playI q [] l = R := ⟨_, rfl⟩
  rw [hR0]
  refine spec_introF true tab_ok 0 Tryz.func32 rfl (by kernel_rfl) rfl ?_
  conv => whnf
  refine ⟨[], [0, 1, 4, 5, 6, 7], [35, 53], ?_⟩
  apply Exists.intro
  conv => whnf
  refine loopK (fun y : Nat × Li × Nat => l.length - y.1) (fun y => y.1 ≤ l.length ∧ y.2.1.length ≤ y.1 ∧ playI q y.2.1 (l.drop y.1) = R ∧ (match y.2.2 with | 0 => y.2.1 = [] | _ => True)) (stPlay l q) ?_ (0, [], 0) rfl rfl ⟨Nat.zero_le _, Nat.zero_le _, by show playI q [] (l.drop 0) = R; rw [List.drop_zero]; exact hR0, rfl⟩
  intro ⟨i, out, tag⟩ ih ⟨hi, hol, hR, ht⟩ hih
  simp only at hi hol hR ht hih
  match tag, ht, hih with
  | 0, ht, hih =>
    obtain rfl : out = [] := ht
    conv => whnf
    refine dcase (fun h3 => ?_) (fun h3 => ?_)
    · replace h3 : (i : Int) < l.length := h3
      have hil : i < l.length := by omega
      obtain ⟨e, he⟩ : ∃ e, l[i] = e := ⟨_, rfl⟩
      have hge : List.getD l ((i : Int)).toNat (dflt tEv) = e := by
        rw [Int.toNat_natCast, List.getD_eq_getElem?_getD, List.getElem?_eq_getElem hil, he]; rfl
      have b1 : (0 : Int) ≤ (i : Int) ∧ (i : Int) < (l.length : Int) := ⟨by omega, h3⟩
      rw [List.drop_eq_getElem_cons hil, he] at hR
      replace hR : (match playE q [] e with | none => none | some out => playI q out (l.drop (i + 1))) = R := hR
      unfold playE at hR
      conv => whnf
      refine ⟨b1, ?_⟩
      conv => whnf
      rw [hge]
      refine dcase (fun c1 => ?_) (fun c1 => ?_)
      · rw [if_pos (show e.2.2.1 ≠ q from c1)] at hR
        conv => whnf
        intro z hz
        replace hz : z = ((i + 1 : Nat) : Int) := by rw [hz, IntWalk.wrap64_in _ (by omega)]; omega
        subst hz
        conv => whnf
        exact hih (i + 1, [], 0) ⟨by show i + 1 ≤ l.length; omega, by show ([] : Li).length ≤ i + 1; exact Nat.zero_le _, hR, rfl⟩ (by show l.length - (i + 1) < _; omega)
      rw [if_neg (show ¬ e.2.2.1 ≠ q from c1)] at hR
      conv => whnf
      refine ⟨b1, ?_⟩
      conv => whnf
      rw [hge]
      conv => whnf
      refine dcase (fun c2 => ?_) (fun c2 => ?_)
      · rw [if_pos (show e.2.1 = 1 from c2)] at hR
        conv => whnf
        refine ⟨b1, ?_⟩
        conv => whnf
        rw [hge]
        conv => whnf
        refine ⟨le_most (by show 1 ≤ 1000000; decide), ?_⟩
        conv => whnf
        intro z hz
        replace hz : z = ((i + 1 : Nat) : Int) := by rw [hz, IntWalk.wrap64_in _ (by omega)]; omega
        subst hz
        conv => whnf
        exact hih (i + 1, [] ++ [e.2.2.2.2.1], 1) ⟨by show i + 1 ≤ l.length; omega, by show ([] ++ [e.2.2.2.2.1] : Li).length ≤ i + 1; exact Nat.succ_le_succ (Nat.zero_le _), hR, trivial⟩ (by show l.length - (i + 1) < _; omega)
      rw [if_neg (show ¬ e.2.1 = 1 from c2)] at hR
      conv => whnf
      refine dcase (fun c3 => ?_) (fun c3 => ?_)
      · rw [if_pos (show e.2.1 = 2 from c3)] at hR
        subst hR
        conv => whnf
        refine ⟨p_hazelref08_Play_10, g_hazelref08_Play_10, by kernel_rfl, ?st1, ?_, ?_⟩
        rotate_left
        · conv => whnf
        conv => whnf
        first | exact .inl rfl | exact .inr rfl
      rw [if_neg (show ¬ e.2.1 = 2 from c3)] at hR
      conv => whnf
      refine dcase (fun c5 => ?_) (fun c5 => ?_)
      · rw [if_pos (show e.2.1 = 3 from c5)] at hR
        conv => whnf
        intro z hz
        replace hz : z = ((i + 1 : Nat) : Int) := by rw [hz, IntWalk.wrap64_in _ (by omega)]; omega
        subst hz
        conv => whnf
        exact hih (i + 1, [], 0) ⟨by show i + 1 ≤ l.length; omega, by show ([] : Li).length ≤ i + 1; exact Nat.zero_le _, hR, rfl⟩ (by show l.length - (i + 1) < _; omega)
      rw [if_neg (show ¬ e.2.1 = 3 from c5)] at hR
      conv => whnf
      intro z hz
      replace hz : z = ((i + 1 : Nat) : Int) := by rw [hz, IntWalk.wrap64_in _ (by omega)]; omega
      subst hz
      conv => whnf
      exact hih (i + 1, [], 0) ⟨by show i + 1 ≤ l.length; omega, by show ([] : Li).length ≤ i + 1; exact Nat.zero_le _, hR, rfl⟩ (by show l.length - (i + 1) < _; omega)
    have hil : l.length ≤ i := by
      replace h3 : ¬ (i : Int) < l.length := h3
      omega
    rw [List.drop_eq_nil_of_le hil] at hR
    replace hR : some ([] : Li) = R := hR
    subst hR
    conv => whnf
    first | exact .inl rfl | exact .inr rfl
  | 1, ht, hih =>
    conv => whnf
    refine dcase (fun h3 => ?_) (fun h3 => ?_)
    · replace h3 : (i : Int) < l.length := h3
      have hil : i < l.length := by omega
      obtain ⟨e, he⟩ : ∃ e, l[i] = e := ⟨_, rfl⟩
      have hge : List.getD l ((i : Int)).toNat (dflt tEv) = e := by
        rw [Int.toNat_natCast, List.getD_eq_getElem?_getD, List.getElem?_eq_getElem hil, he]; rfl
      have b1 : (0 : Int) ≤ (i : Int) ∧ (i : Int) < (l.length : Int) := ⟨by omega, h3⟩
      rw [List.drop_eq_getElem_cons hil, he] at hR
      replace hR : (match playE q out e with | none => none | some out => playI q out (l.drop (i + 1))) = R := hR
      unfold playE at hR
      conv => whnf
      refine ⟨b1, ?_⟩
      conv => whnf
      rw [hge]
      refine dcase (fun c1 => ?_) (fun c1 => ?_)
      · rw [if_pos (show e.2.2.1 ≠ q from c1)] at hR
        conv => whnf
        intro z hz
        replace hz : z = ((i + 1 : Nat) : Int) := by rw [hz, IntWalk.wrap64_in _ (by omega)]; omega
        subst hz
        conv => whnf
        exact hih (i + 1, out, 1) ⟨by show i + 1 ≤ l.length; omega, by show (out : Li).length ≤ i + 1; omega, hR, trivial⟩ (by show l.length - (i + 1) < _; omega)
      rw [if_neg (show ¬ e.2.2.1 ≠ q from c1)] at hR
      conv => whnf
      refine ⟨b1, ?_⟩
      conv => whnf
      rw [hge]
      conv => whnf
      refine dcase (fun c2 => ?_) (fun c2 => ?_)
      · rw [if_pos (show e.2.1 = 1 from c2)] at hR
        conv => whnf
        refine ⟨b1, ?_⟩
        conv => whnf
        rw [hge]
        conv => whnf
        refine ⟨le_most (by show out.length + 1 ≤ _; omega), ?_⟩
        conv => whnf
        intro z hz
        replace hz : z = ((i + 1 : Nat) : Int) := by rw [hz, IntWalk.wrap64_in _ (by omega)]; omega
        subst hz
        conv => whnf
        exact hih (i + 1, out ++ [e.2.2.2.2.1], 1) ⟨by show i + 1 ≤ l.length; omega, by show (out ++ [e.2.2.2.2.1] : Li).length ≤ i + 1; rw [List.length_append]; show out.length + 1 ≤ _; omega, hR, trivial⟩ (by show l.length - (i + 1) < _; omega)
      rw [if_neg (show ¬ e.2.1 = 1 from c2)] at hR
      conv => whnf
      refine dcase (fun c3 => ?_) (fun c3 => ?_)
      · rw [if_pos (show e.2.1 = 2 from c3)] at hR
        cases out with
        | nil =>
          subst hR
          conv => whnf
          refine ⟨p_hazelref08_Play_10, g_hazelref08_Play_10, by kernel_rfl, ?st2, ?_, ?_⟩
          rotate_left
          · conv => whnf
          conv => whnf
          first | exact .inl rfl | exact .inr rfl
        | cons x r =>
          have hxl : ((x :: r).length : Int) ≠ 0 := by rw [List.length_cons]; omega
          have hx0 : (0 : Int) ≤ 0 ∧ (0 : Int) < ((x :: r).length : Int) := ⟨Int.le_refl _, by rw [List.length_cons]; omega⟩
          have hx1 : (0 : Int).toNat < (x :: r).length := Nat.succ_pos _
          by_cases c4 : x = e.2.2.2.2.1
          · replace hR : (match (if x = e.2.2.2.2.1 then some r else none) with | none => none | some out => playI q out (l.drop (i + 1))) = R := hR
            rw [if_pos c4] at hR
            conv => whnf
            refine ⟨p_hazelref08_Play_10, g_hazelref08_Play_10, by kernel_rfl, ?st3, ?_, ?_⟩
            rotate_left
            · conv => whnf
              repeat' (first | ((refine dcase (fun h => absurd h hxl) (fun _ => ?_); conv => whnf)) | (refine ⟨hx0, ?_⟩; conv => whnf) | (refine ⟨hx1, ?_⟩; conv => whnf) | (refine ⟨b1, ?_⟩; conv => whnf) | (refine And.intro ?_ ?_ <;> conv => whnf) | exact rfl)
            conv => whnf
            rw [hge]
            refine dcase (fun h => absurd c4 h) (fun _ => ?_)
            conv => whnf
            refine ⟨Nat.succ_le_succ (Nat.zero_le _), ?_⟩
            conv => whnf
            intro z hz
            replace hz : z = ((i + 1 : Nat) : Int) := by rw [hz, IntWalk.wrap64_in _ (by omega)]; omega
            subst hz
            conv => whnf
            exact hih (i + 1, r, 2) ⟨by show i + 1 ≤ l.length; omega, by show r.length ≤ i + 1; have : (x :: r).length = r.length + 1 := rfl; omega, hR, trivial⟩ (by show l.length - (i + 1) < _; omega)
          · replace hR : (match (if x = e.2.2.2.2.1 then some r else none) with | none => none | some out => playI q out (l.drop (i + 1))) = R := hR
            rw [if_neg c4] at hR
            subst hR
            conv => whnf
            refine ⟨p_hazelref08_Play_10, g_hazelref08_Play_10, by kernel_rfl, ?st4, ?_, ?_⟩
            rotate_left
            · conv => whnf
              repeat' (first | ((refine dcase (fun h => absurd h hxl) (fun _ => ?_); conv => whnf)) | (refine ⟨hx0, ?_⟩; conv => whnf) | (refine ⟨hx1, ?_⟩; conv => whnf) | (refine ⟨b1, ?_⟩; conv => whnf) | (refine And.intro ?_ ?_ <;> conv => whnf) | exact rfl)
            conv => whnf
            rw [hge]
            refine dcase (fun _ => ?_) (fun h => absurd c4 h)
            conv => whnf
            first | exact .inl rfl | exact .inr rfl
      rw [if_neg (show ¬ e.2.1 = 2 from c3)] at hR
      conv => whnf
      refine dcase (fun c5 => ?_) (fun c5 => ?_)
      · rw [if_pos (show e.2.1 = 3 from c5)] at hR
        cases out with
        | nil =>
          conv => whnf
          intro z hz
          replace hz : z = ((i + 1 : Nat) : Int) := by rw [hz, IntWalk.wrap64_in _ (by omega)]; omega
          subst hz
          conv => whnf
          exact hih (i + 1, [], 1) ⟨by show i + 1 ≤ l.length; omega, Nat.zero_le _, hR, trivial⟩ (by show l.length - (i + 1) < _; omega)
        | cons x r =>
          subst hR
          conv => whnf
          refine dcase (fun _ => ?_) (fun h => absurd (show (0 : Int) < ((x :: r).length : Int) by rw [List.length_cons]; omega) h)
          conv => whnf
          first | exact .inl rfl | exact .inr rfl
      rw [if_neg (show ¬ e.2.1 = 3 from c5)] at hR
      conv => whnf
      intro z hz
      replace hz : z = ((i + 1 : Nat) : Int) := by rw [hz, IntWalk.wrap64_in _ (by omega)]; omega
      subst hz
      conv => whnf
      exact hih (i + 1, out, 1) ⟨by show i + 1 ≤ l.length; omega, by show (out : Li).length ≤ i + 1; omega, hR, trivial⟩ (by show l.length - (i + 1) < _; omega)
    have hil : l.length ≤ i := by
      replace h3 : ¬ (i : Int) < l.length := h3
      omega
    rw [List.drop_eq_nil_of_le hil] at hR
    replace hR : some out = R := hR
    subst hR
    conv => whnf
    first | exact .inl rfl | exact .inr rfl
  | n + 2, ht, hih =>
    conv => whnf
    refine dcase (fun h3 => ?_) (fun h3 => ?_)
    · replace h3 : (i : Int) < l.length := h3
      have hil : i < l.length := by omega
      obtain ⟨e, he⟩ : ∃ e, l[i] = e := ⟨_, rfl⟩
      have hge : List.getD l ((i : Int)).toNat (dflt tEv) = e := by
        rw [Int.toNat_natCast, List.getD_eq_getElem?_getD, List.getElem?_eq_getElem hil, he]; rfl
      have b1 : (0 : Int) ≤ (i : Int) ∧ (i : Int) < (l.length : Int) := ⟨by omega, h3⟩
      rw [List.drop_eq_getElem_cons hil, he] at hR
      replace hR : (match playE q out e with | none => none | some out => playI q out (l.drop (i + 1))) = R := hR
      unfold playE at hR
      conv => whnf
      refine ⟨b1, ?_⟩
      conv => whnf
      rw [hge]
      refine dcase (fun c1 => ?_) (fun c1 => ?_)
      · rw [if_pos (show e.2.2.1 ≠ q from c1)] at hR
        conv => whnf
        intro z hz
        replace hz : z = ((i + 1 : Nat) : Int) := by rw [hz, IntWalk.wrap64_in _ (by omega)]; omega
        subst hz
        conv => whnf
        exact hih (i + 1, out, 2) ⟨by show i + 1 ≤ l.length; omega, by show (out : Li).length ≤ i + 1; omega, hR, trivial⟩ (by show l.length - (i + 1) < _; omega)
      rw [if_neg (show ¬ e.2.2.1 ≠ q from c1)] at hR
      conv => whnf
      refine ⟨b1, ?_⟩
      conv => whnf
      rw [hge]
      conv => whnf
      refine dcase (fun c2 => ?_) (fun c2 => ?_)
      · rw [if_pos (show e.2.1 = 1 from c2)] at hR
        conv => whnf
        refine ⟨b1, ?_⟩
        conv => whnf
        rw [hge]
        conv => whnf
        refine ⟨le_most (by show out.length + 1 ≤ _; omega), ?_⟩
        conv => whnf
        intro z hz
        replace hz : z = ((i + 1 : Nat) : Int) := by rw [hz, IntWalk.wrap64_in _ (by omega)]; omega
        subst hz
        conv => whnf
        exact hih (i + 1, out ++ [e.2.2.2.2.1], 1) ⟨by show i + 1 ≤ l.length; omega, by show (out ++ [e.2.2.2.2.1] : Li).length ≤ i + 1; rw [List.length_append]; show out.length + 1 ≤ _; omega, hR, trivial⟩ (by show l.length - (i + 1) < _; omega)
      rw [if_neg (show ¬ e.2.1 = 1 from c2)] at hR
      conv => whnf
      refine dcase (fun c3 => ?_) (fun c3 => ?_)
      · rw [if_pos (show e.2.1 = 2 from c3)] at hR
        cases out with
        | nil =>
          subst hR
          conv => whnf
          refine ⟨p_hazelref08_Play_10, g_hazelref08_Play_10, by kernel_rfl, ?st5, ?_, ?_⟩
          rotate_left
          · conv => whnf
          conv => whnf
          first | exact .inl rfl | exact .inr rfl
        | cons x r =>
          have hxl : ((x :: r).length : Int) ≠ 0 := by rw [List.length_cons]; omega
          have hx0 : (0 : Int) ≤ 0 ∧ (0 : Int) < ((x :: r).length : Int) := ⟨Int.le_refl _, by rw [List.length_cons]; omega⟩
          have hx1 : (0 : Int).toNat < (x :: r).length := Nat.succ_pos _
          by_cases c4 : x = e.2.2.2.2.1
          · replace hR : (match (if x = e.2.2.2.2.1 then some r else none) with | none => none | some out => playI q out (l.drop (i + 1))) = R := hR
            rw [if_pos c4] at hR
            conv => whnf
            refine ⟨p_hazelref08_Play_10, g_hazelref08_Play_10, by kernel_rfl, ?st6, ?_, ?_⟩
            rotate_left
            · conv => whnf
              repeat' (first | ((refine dcase (fun h => absurd h hxl) (fun _ => ?_); conv => whnf)) | (refine ⟨hx0, ?_⟩; conv => whnf) | (refine ⟨hx1, ?_⟩; conv => whnf) | (refine ⟨b1, ?_⟩; conv => whnf) | (refine And.intro ?_ ?_ <;> conv => whnf) | exact rfl)
            conv => whnf
            rw [hge]
            refine dcase (fun h => absurd c4 h) (fun _ => ?_)
            conv => whnf
            refine ⟨Nat.succ_le_succ (Nat.zero_le _), ?_⟩
            conv => whnf
            intro z hz
            replace hz : z = ((i + 1 : Nat) : Int) := by rw [hz, IntWalk.wrap64_in _ (by omega)]; omega
            subst hz
            conv => whnf
            exact hih (i + 1, r, 2) ⟨by show i + 1 ≤ l.length; omega, by show r.length ≤ i + 1; have : (x :: r).length = r.length + 1 := rfl; omega, hR, trivial⟩ (by show l.length - (i + 1) < _; omega)
          · replace hR : (match (if x = e.2.2.2.2.1 then some r else none) with | none => none | some out => playI q out (l.drop (i + 1))) = R := hR
            rw [if_neg c4] at hR
            subst hR
            conv => whnf
            refine ⟨p_hazelref08_Play_10, g_hazelref08_Play_10, by kernel_rfl, ?st7, ?_, ?_⟩
            rotate_left
            · conv => whnf
              repeat' (first | ((refine dcase (fun h => absurd h hxl) (fun _ => ?_); conv => whnf)) | (refine ⟨hx0, ?_⟩; conv => whnf) | (refine ⟨hx1, ?_⟩; conv => whnf) | (refine ⟨b1, ?_⟩; conv => whnf) | (refine And.intro ?_ ?_ <;> conv => whnf) | exact rfl)
            conv => whnf
            rw [hge]
            refine dcase (fun _ => ?_) (fun h => absurd c4 h)
            conv => whnf
            first | exact .inl rfl | exact .inr rfl
      rw [if_neg (show ¬ e.2.1 = 2 from c3)] at hR
      conv => whnf
      refine dcase (fun c5 => ?_) (fun c5 => ?_)
      · rw [if_pos (show e.2.1 = 3 from c5)] at hR
        cases out with
        | nil =>
          conv => whnf
          intro z hz
          replace hz : z = ((i + 1 : Nat) : Int) := by rw [hz, IntWalk.wrap64_in _ (by omega)]; omega
          subst hz
          conv => whnf
          exact hih (i + 1, [], 2) ⟨by show i + 1 ≤ l.length; omega, Nat.zero_le _, hR, trivial⟩ (by show l.length - (i + 1) < _; omega)
        | cons x r =>
          subst hR
          conv => whnf
          refine dcase (fun _ => ?_) (fun h => absurd (show (0 : Int) < ((x :: r).length : Int) by rw [List.length_cons]; omega) h)
          conv => whnf
          first | exact .inl rfl | exact .inr rfl
      rw [if_neg (show ¬ e.2.1 = 3 from c5)] at hR
      conv => whnf
      intro z hz
      replace hz : z = ((i + 1 : Nat) : Int) := by rw [hz, IntWalk.wrap64_in _ (by omega)]; omega
      subst hz
      conv => whnf
      exact hih (i + 1, out, 2) ⟨by show i + 1 ≤ l.length; omega, by show (out : Li).length ≤ i + 1; omega, hR, trivial⟩ (by show l.length - (i + 1) < _; omega)
    have hil : l.length ≤ i := by
      replace h3 : ¬ (i : Int) < l.length := h3
      omega
    rw [List.drop_eq_nil_of_le hil] at hR
    replace hR : some out = R := hR
    subst hR
    conv => whnf
    first | exact .inl rfl | exact .inr rfl
end Go.Proofs.YtpobngddiifdpaaGreat.V
