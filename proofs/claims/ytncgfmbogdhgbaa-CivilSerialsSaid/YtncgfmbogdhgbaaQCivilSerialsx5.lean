-- Written by a program of this session (wip/tools/print2.py) for one law: Lean checks it.
import Derived.Test.YtncgfmbogdhgbaaQCivilSerialsx0
import Derived.Test.YtncgfmbogdhgbaaQCivilSerialsx4
namespace Go.Proofs.Ytncgfmbogdhgbaa.QCivilSerials
open Go.RowKit Go.Proofs.YtncgfmbogdhgbaaW.PrintWords Go.Proofs.YtncgfmbogdhgbaaW.PrintLast Go.Proofs.YtncgfmbogdhgbaaW.PrintMore
attribute [local go_sem] max2_int min2_int max_two min_two max_three min_three max_four min_four   -- for this text's walks alone
set_option linter.unusedVariables false
set_option linter.unusedSimpArgs false

/-! ### civil_Days: function 15 -/
def civil_Days.j0 : Nat → Int → Bool → Option (Int)
  | 0, _, _ => none
  | k + 1, x1, x10 => if x10 = true then (some 30) else (if x1 < 1 then (some 0) else (if x1 > 12 then (some 0) else (some 31)))
def civil_Days.f (k : Nat) (a0 : Int) (a1 : Int) : Option (Int) := if a1 = 2 then ((civil_Leap.f a0).bind fun t108 => (if t108 = true then (some 29) else (some 28))) else (if a1 = 4 then (civil_Days.j0 k a1 (a1 == 4)) else (if a1 = 6 then (civil_Days.j0 k a1 (a1 == 6)) else (if a1 = 9 then (civil_Days.j0 k a1 (a1 == 9)) else (civil_Days.j0 k a1 (a1 == 11)))))
theorem civil_Days.mono_l : ∀ k, (∀ y0 y1, LeO (civil_Days.j0 k y0 y1) (civil_Days.j0 (k + 1) y0 y1))
  | 0 => fun _ _ r h => by simp [civil_Days.j0] at h
  | k + 1 => by
    have ih0 := civil_Days.mono_l k
    · intro y0 y1
      unfold civil_Days.j0
      repeat' first
      | (with_reducible exact ih0 _ _)
      | (with_reducible exact LeO.refl _)
      | (with_reducible exact LeO.none _)
      | (with_reducible refine LeO.ite ?_ ?_)
      | (with_reducible refine LeO.bind ?_ (fun _ => ?_))
      | exact ih0 _ _
      | exact LeO.none _
      | refine LeO.ite ?_ ?_
      | refine LeO.bind ?_ (fun _ => ?_)
theorem civil_Days.mono : ∀ a0 a1 k, LeO (civil_Days.f k a0 a1) (civil_Days.f (k + 1) a0 a1) := by
  intro a0 a1 k
  have ih0 := civil_Days.mono_l k
  unfold civil_Days.f
  repeat' first
      | (with_reducible exact ih0 _ _)
      | (with_reducible exact LeO.refl _)
      | (with_reducible exact LeO.none _)
      | (with_reducible refine LeO.ite ?_ ?_)
      | (with_reducible refine LeO.bind ?_ (fun _ => ?_))
      | exact ih0 _ _
      | exact LeO.none _
      | refine LeO.ite ?_ ?_
      | refine LeO.bind ?_ (fun _ => ?_)
set_option maxHeartbeats 8000000 in
set_option maxRecDepth 100000 in
theorem civil_Days.calls (k : Nat) (a0 : Int) (a1 : Int) (r : Int) (w : World) (h : civil_Days.f k a0 a1 = some r) :
    Calls Try.prog 15 #[.int .i64 a0, .int .i64 a1] w fun e w' => e = .returned (.int .i64 r) ∧ Drawn0 w w' := by
  have H : (if a1 = 2 then ((civil_Leap.f a0).bind fun t108 => (if t108 = true then (some 29) else (some 28))) else (if a1 = 4 then (civil_Days.j0 k a1 (a1 == 4)) else (if a1 = 6 then (civil_Days.j0 k a1 (a1 == 6)) else (if a1 = 9 then (civil_Days.j0 k a1 (a1 == 9)) else (civil_Days.j0 k a1 (a1 == 11)))))) = some r := h
  clear h
  by_cases c3 : a1 = 2
  · rw [if_pos c3] at H
    have c3b0 : (a1 == 2) = true := beq_iff_eq.mpr c3
    have c3b1 : (a1 != 2) = false := bne_eq_false_iff_eq.mpr c3
    clear c3
    replace H := Option.bind_eq_some_iff.mp H
    obtain ⟨t108, A40, H⟩ := H
    replace H : (if t108 = true then (some 29) else (some 28)) = some r := H
    have A4 := Aside0.mk A40
    clear A40
    by_cases c5 : t108 = true
    · subst c5
      have H1 : (some 29) = some r := by rw [if_pos rfl] at H; exact H
      clear H
      have H := H1
      clear H1
      obtain rfl := Option.some.inj H
      go_enter Try.func15, Try.ntmps15
      go_wp2_with (first | ((with_reducible refine gate_callee (f := 17) rfl ?_); refine goesL_ (some 9) rfl rfl Try.func17 (by kernel_rfl) rfl #[.int .i64 a0] rfl (by (try simp only [List.map_toArray, List.map_cons, List.map_nil]); first | done | rfl | (simp only [List.length_drop, List.length_take]; rfl)) ?_; (with_reducible refine (civil_Leap.calls a0 true _ A4.out).mono ?_); rintro e w' ⟨rfl, ⟨nd, rfl⟩⟩; refine ⟨_, rfl, ?_⟩))
      go_ret
      exact ⟨by first | rfl | (simp; done) | (simp [*]; done), by repeat (first | exact Drawn0.refl _ | apply Drawn0.step)⟩
    · replace c5 := Bool.eq_false_iff.mpr c5
      subst c5
      have H1 : (some 28) = some r := by rw [if_neg (show ¬ (false = true) by decide)] at H; exact H
      clear H
      have H := H1
      clear H1
      obtain rfl := Option.some.inj H
      go_enter Try.func15, Try.ntmps15
      go_wp2_with (first | ((with_reducible refine gate_callee (f := 17) rfl ?_); refine goesL_ (some 9) rfl rfl Try.func17 (by kernel_rfl) rfl #[.int .i64 a0] rfl (by (try simp only [List.map_toArray, List.map_cons, List.map_nil]); first | done | rfl | (simp only [List.length_drop, List.length_take]; rfl)) ?_; (with_reducible refine (civil_Leap.calls a0 false _ A4.out).mono ?_); rintro e w' ⟨rfl, ⟨nd, rfl⟩⟩; refine ⟨_, rfl, ?_⟩))
      go_ret
      exact ⟨by first | rfl | (simp; done) | (simp [*]; done), by repeat (first | exact Drawn0.refl _ | apply Drawn0.step)⟩
  · rw [if_neg c3] at H
    have c3b0 : (a1 == 2) = false := beq_eq_false_iff_ne.mpr c3
    have c3b1 : (a1 != 2) = true := bne_iff_ne.mpr c3
    have HC6 := Aside0.mk H
    clear H
    go_enter Try.func15, Try.ntmps15
    go_upto_if 10 with (fail)
    go_cut [10] (fun v10 wc => ∃ (kq : Nat) (x10_5 : Bool), v10 = .bool x10_5 ∧ Aside0 (civil_Days.j0 kq a1 x10_5 = some r) ∧ Aside0 (kq ≤ k) ∧ Drawn0 w wc)
    case first =>
      have H := HC6.out
      clear HC6
      by_cases c7 : a1 = 4
      · rw [if_pos c7] at H
        have c7b0 : (a1 == 4) = true := beq_iff_eq.mpr c7
        have c7b1 : (a1 != 4) = false := bne_eq_false_iff_eq.mpr c7
        clear c7
        (first | rw [c7b0] | (simp only [i64_w, i32_w]; rw [c7b0]) | skip)
        have H' := Aside0.mk H
        clear H
        go_wp2
        go_meet
        case rel => exact ⟨_, ((a1 == 4)), (by first | rfl | (simp; done) | (simp [*]; done)), H', ⟨by first | omega | exact Nat.le_refl _⟩, by repeat (first | exact Drawn0.refl _ | apply Drawn0.step)⟩
      · rw [if_neg c7] at H
        have c7b0 : (a1 == 4) = false := beq_eq_false_iff_ne.mpr c7
        have c7b1 : (a1 != 4) = true := bne_iff_ne.mpr c7
        (first | rw [c7b0] | (simp only [i64_w, i32_w]; rw [c7b0]) | skip)
        by_cases c8 : a1 = 6
        · rw [if_pos c8] at H
          have c8b0 : (a1 == 6) = true := beq_iff_eq.mpr c8
          have c8b1 : (a1 != 6) = false := bne_eq_false_iff_eq.mpr c8
          clear c8
          have H' := Aside0.mk H
          clear H
          go_wp2
          go_meet
          case rel => exact ⟨_, ((a1 == 6)), (by first | rfl | (simp; done) | (simp [*]; done)), H', ⟨by first | omega | exact Nat.le_refl _⟩, by repeat (first | exact Drawn0.refl _ | apply Drawn0.step)⟩
        · rw [if_neg c8] at H
          have c8b0 : (a1 == 6) = false := beq_eq_false_iff_ne.mpr c8
          have c8b1 : (a1 != 6) = true := bne_iff_ne.mpr c8
          by_cases c9 : a1 = 9
          · rw [if_pos c9] at H
            have c9b0 : (a1 == 9) = true := beq_iff_eq.mpr c9
            have c9b1 : (a1 != 9) = false := bne_eq_false_iff_eq.mpr c9
            clear c9
            have H' := Aside0.mk H
            clear H
            go_wp2
            go_meet
            case rel => exact ⟨_, ((a1 == 9)), (by first | rfl | (simp; done) | (simp [*]; done)), H', ⟨by first | omega | exact Nat.le_refl _⟩, by repeat (first | exact Drawn0.refl _ | apply Drawn0.step)⟩
          · rw [if_neg c9] at H
            have c9b0 : (a1 == 9) = false := beq_eq_false_iff_ne.mpr c9
            have c9b1 : (a1 != 9) = true := bne_iff_ne.mpr c9
            have H' := Aside0.mk H
            clear H
            go_wp2
            go_meet
            case rel => exact ⟨_, ((a1 == 11)), (by first | rfl | (simp; done) | (simp [*]; done)), H', ⟨by first | omega | exact Nat.le_refl _⟩, by repeat (first | exact Drawn0.refl _ | apply Drawn0.step)⟩
    case rest =>
      clear HC6
      try clear c1
      try clear p2
      try clear c3
      try clear c3b0
      try clear c3b1
      try clear c5
      try clear c7
      try clear c7b0
      try clear c7b1
      try clear c8
      try clear c8b0
      try clear c8b1
      try clear c9
      try clear c9b0
      try clear c9b1
      obtain ⟨kq, x10_5, rfl, HA, HJ5, ⟨mc5, rfl⟩⟩ := hcut
      cases kq with
      | zero => exact absurd HA.out (by simp [civil_Days.j0])
      | succ kj5 =>
        have H := HA.out
        clear HA
        simp only [civil_Days.j0] at H
        by_cases c10 : x10_5 = true
        · subst c10
          have H1 : (some 30) = some r := by rw [if_pos rfl] at H; exact H
          clear H
          have H := H1
          clear H1
          obtain rfl := Option.some.inj H
          go_wp2
          go_ret
          exact ⟨by first | rfl | (simp; done) | (simp [*]; done), by repeat (first | exact Drawn0.refl _ | apply Drawn0.step)⟩
        · replace c10 := Bool.eq_false_iff.mpr c10
          subst c10
          have H1 : (if a1 < 1 then (some 0) else (if a1 > 12 then (some 0) else (some 31))) = some r := by rw [if_neg (show ¬ (false = true) by decide)] at H; exact H
          clear H
          have H := H1
          clear H1
          by_cases c11 : a1 < 1
          · rw [if_pos c11] at H
            have c11b0 : decide (a1 < 1) = true := decide_eq_true c11
            clear c11
            obtain rfl := Option.some.inj H
            go_wp2
            go_ret
            exact ⟨by first | rfl | (simp; done) | (simp [*]; done), by repeat (first | exact Drawn0.refl _ | apply Drawn0.step)⟩
          · rw [if_neg c11] at H
            have c11b0 : decide (a1 < 1) = false := decide_eq_false c11
            clear c11
            by_cases c12 : a1 > 12
            · rw [if_pos c12] at H
              have c12b0 : decide (12 < a1) = true := decide_eq_true c12
              clear c12
              obtain rfl := Option.some.inj H
              go_wp2
              go_ret
              exact ⟨by first | rfl | (simp; done) | (simp [*]; done), by repeat (first | exact Drawn0.refl _ | apply Drawn0.step)⟩
            · rw [if_neg c12] at H
              have c12b0 : decide (12 < a1) = false := decide_eq_false c12
              clear c12
              obtain rfl := Option.some.inj H
              go_wp2
              go_ret
              exact ⟨by first | rfl | (simp; done) | (simp [*]; done), by repeat (first | exact Drawn0.refl _ | apply Drawn0.step)⟩

/-! ### civil_day: function 20 -/
def civil_day.l0 : Nat → Int → Int → Int → Option (Int × Int × Int)
  | 0, _, _, _ => none
  | k + 1, x111000, x111001, x111002 => (civil_Days.f k x111000 x111001).bind fun t111 => (if x111002 > t111 then ((civil_Days.f k x111000 x111001).bind fun t112 => (civil_day.l0 k x111000 (wrap64 (x111001 + 1)) (wrap64 (x111002 - t112)))) else (some (x111000, x111001, x111002)))
def civil_day.f (k : Nat) (a0 : Int) : Option (Int × Int × Int) := civil_day.l0 k (wrap64 ((wrap64 ((wrap64 ((wrap64 ((wrap64 (400 * (wrap64 (Int.tdiv a0 146097)))) + (wrap64 (100 * (mn (wrap64 (Int.tdiv (Int.tmod a0 146097) 36524)) 3))))) + (wrap64 (4 * (wrap64 (Int.tdiv (wrap64 ((Int.tmod a0 146097) - (wrap64 ((mn (wrap64 (Int.tdiv (Int.tmod a0 146097) 36524)) 3) * 36524)))) 1461)))))) + (mn (wrap64 (Int.tdiv (Int.tmod (wrap64 ((Int.tmod a0 146097) - (wrap64 ((mn (wrap64 (Int.tdiv (Int.tmod a0 146097) 36524)) 3) * 36524)))) 1461) 365)) 3))) + 1)) 1 (wrap64 ((wrap64 ((Int.tmod (wrap64 ((Int.tmod a0 146097) - (wrap64 ((mn (wrap64 (Int.tdiv (Int.tmod a0 146097) 36524)) 3) * 36524)))) 1461) - (wrap64 (365 * (mn (wrap64 (Int.tdiv (Int.tmod (wrap64 ((Int.tmod a0 146097) - (wrap64 ((mn (wrap64 (Int.tdiv (Int.tmod a0 146097) 36524)) 3) * 36524)))) 1461) 365)) 3))))) + 1))
theorem civil_day.mono_l : ∀ k, (∀ y0 y1 y2, LeO (civil_day.l0 k y0 y1 y2) (civil_day.l0 (k + 1) y0 y1 y2))
  | 0 => fun _ _ _ r h => by simp [civil_day.l0] at h
  | k + 1 => by
    have ih0 := civil_day.mono_l k
    · intro y0 y1 y2
      unfold civil_day.l0
      repeat' first
      | (with_reducible exact ih0 _ _ _)
      | (with_reducible exact civil_Days.mono _ _ _)
      | (with_reducible exact LeO.refl _)
      | (with_reducible exact LeO.none _)
      | (with_reducible refine LeO.ite ?_ ?_)
      | (with_reducible refine LeO.bind ?_ (fun _ => ?_))
      | exact ih0 _ _ _
      | exact civil_Days.mono _ _ _
      | exact LeO.none _
      | refine LeO.ite ?_ ?_
      | refine LeO.bind ?_ (fun _ => ?_)
theorem civil_day.mono : ∀ a0 k, LeO (civil_day.f k a0) (civil_day.f (k + 1) a0) := by
  intro a0 k
  have ih0 := civil_day.mono_l k
  unfold civil_day.f
  repeat' first
      | (with_reducible exact ih0 _ _ _)
      | (with_reducible exact civil_Days.mono _ _ _)
      | (with_reducible exact LeO.refl _)
      | (with_reducible exact LeO.none _)
      | (with_reducible refine LeO.ite ?_ ?_)
      | (with_reducible refine LeO.bind ?_ (fun _ => ?_))
      | exact ih0 _ _ _
      | exact civil_Days.mono _ _ _
      | exact LeO.none _
      | refine LeO.ite ?_ ?_
      | refine LeO.bind ?_ (fun _ => ?_)
def civil_day.T8 : Bool × List (List Nat × List Nat) := (true, [([], []), ([0], [0]), ([], []), ([2], [2]), ([], []), ([4], [4]), ([3, 5], [3, 5]), ([1, 6], [1, 6])])
def civil_day.B8 : List Nat := [0, 1, 0, 4, 0, 16, 60, 127]
theorem civil_day.tab8 : rtab .any (opsOf Try.f20 8) = civil_day.T8 := by kernel_rfl
theorem civil_day.bits8 : waitsOk civil_day.T8.2 civil_day.B8 = true := by kernel_rfl
def civil_day.T9 : Bool × List (List Nat × List Nat) := (true, [([], []), ([0], [0]), ([], []), ([2], [2]), ([], []), ([4], [4]), ([3, 5], [3, 5]), ([1, 6], [1, 6]), ([0, 1, 2, 3, 4, 5, 6, 7], []), ([8, 7, 6, 0, 1, 2, 3, 4, 5, 6, 7], [7, 8])])
def civil_day.B9 : List Nat := [0, 1, 0, 4, 0, 16, 60, 127, 255, 511]
theorem civil_day.tab9 : rtab .any (opsOf Try.f20 9) = civil_day.T9 := by kernel_rfl
theorem civil_day.bits9 : waitsOk civil_day.T9.2 civil_day.B9 = true := by kernel_rfl
set_option maxHeartbeats 8000000 in
set_option maxRecDepth 100000 in
theorem civil_day.calls (k : Nat) (a0 : Int) (r1 : Int) (r2 : Int) (r3 : Int) (w : World) (h : civil_day.f k a0 = some (r1, r2, r3)) :
    Calls Try.prog 20 #[.int .i64 a0] w fun e w' => e = .returned (.agg #[.int .i64 r1, .int .i64 r2, .int .i64 r3]) ∧ Below w.heap.size w w' := by
  have hu24 := Try.underlying24
  have HB := Aside0.mk (Below.refl w.heap.size w)
  have H : (civil_day.l0 k (wrap64 ((wrap64 ((wrap64 ((wrap64 ((wrap64 (400 * (wrap64 (Int.tdiv a0 146097)))) + (wrap64 (100 * (mn (wrap64 (Int.tdiv (Int.tmod a0 146097) 36524)) 3))))) + (wrap64 (4 * (wrap64 (Int.tdiv (wrap64 ((Int.tmod a0 146097) - (wrap64 ((mn (wrap64 (Int.tdiv (Int.tmod a0 146097) 36524)) 3) * 36524)))) 1461)))))) + (mn (wrap64 (Int.tdiv (Int.tmod (wrap64 ((Int.tmod a0 146097) - (wrap64 ((mn (wrap64 (Int.tdiv (Int.tmod a0 146097) 36524)) 3) * 36524)))) 1461) 365)) 3))) + 1)) 1 (wrap64 ((wrap64 ((Int.tmod (wrap64 ((Int.tmod a0 146097) - (wrap64 ((mn (wrap64 (Int.tdiv (Int.tmod a0 146097) 36524)) 3) * 36524)))) 1461) - (wrap64 (365 * (mn (wrap64 (Int.tdiv (Int.tmod (wrap64 ((Int.tmod a0 146097) - (wrap64 ((mn (wrap64 (Int.tdiv (Int.tmod a0 146097) 36524)) 3) * 36524)))) 1461) 365)) 3))))) + 1))) = some (r1, r2, r3) := h
  clear h
  obtain ⟨ji2, hji2⟩ : ∃ j_ : Int, (mn (wrap64 (Int.tdiv (Int.tmod a0 146097) 36524)) 3) = j_ := ⟨_, rfl⟩
  replace H : (civil_day.l0 k (wrap64 ((wrap64 ((wrap64 ((wrap64 ((wrap64 (400 * (wrap64 (Int.tdiv a0 146097)))) + (wrap64 (100 * (ji2))))) + (wrap64 (4 * (wrap64 (Int.tdiv (wrap64 ((Int.tmod a0 146097) - (wrap64 ((ji2) * 36524)))) 1461)))))) + (mn (wrap64 (Int.tdiv (Int.tmod (wrap64 ((Int.tmod a0 146097) - (wrap64 ((ji2) * 36524)))) 1461) 365)) 3))) + 1)) 1 (wrap64 ((wrap64 ((Int.tmod (wrap64 ((Int.tmod a0 146097) - (wrap64 ((ji2) * 36524)))) 1461) - (wrap64 (365 * (mn (wrap64 (Int.tdiv (Int.tmod (wrap64 ((Int.tmod a0 146097) - (wrap64 ((ji2) * 36524)))) 1461) 365)) 3))))) + 1))) = some (r1, r2, r3) := by first | (rw [hji2] at H; exact H) | (simp only [hji2] at H ⊢; exact H)
  (try (have hji2h : ji2 ≤ 3 := by (rw [← hji2]; unfold mn; (repeat' split) <;> omega)))
  (try (have hji2g : ji2 ≤ 64 := by omega))
  have hji2_ : (if 3 < (wrap64 (Int.tdiv (Int.tmod a0 146097) 36524)) then 3 else (wrap64 (Int.tdiv (Int.tmod a0 146097) 36524))) = ji2 := hji2
  obtain ⟨ji3, hji3⟩ : ∃ j_ : Int, (mn (wrap64 (Int.tdiv (Int.tmod (wrap64 ((Int.tmod a0 146097) - (wrap64 ((ji2) * 36524)))) 1461) 365)) 3) = j_ := ⟨_, rfl⟩
  replace H : (civil_day.l0 k (wrap64 ((wrap64 ((wrap64 ((wrap64 ((wrap64 (400 * (wrap64 (Int.tdiv a0 146097)))) + (wrap64 (100 * (ji2))))) + (wrap64 (4 * (wrap64 (Int.tdiv (wrap64 ((Int.tmod a0 146097) - (wrap64 ((ji2) * 36524)))) 1461)))))) + (ji3))) + 1)) 1 (wrap64 ((wrap64 ((Int.tmod (wrap64 ((Int.tmod a0 146097) - (wrap64 ((ji2) * 36524)))) 1461) - (wrap64 (365 * (ji3))))) + 1))) = some (r1, r2, r3) := by first | (rw [hji3] at H; exact H) | (simp only [hji3] at H ⊢; exact H)
  have hji3_ : (if 3 < (wrap64 (Int.tdiv (Int.tmod (wrap64 ((Int.tmod a0 146097) - (wrap64 ((ji2) * 36524)))) 1461) 365)) then 3 else (wrap64 (Int.tdiv (Int.tmod (wrap64 ((Int.tmod a0 146097) - (wrap64 ((ji2) * 36524)))) 1461) 365))) = ji3 := hji3
  have H' := Aside0.mk H
  clear H
  go_enter Try.func20, Try.ntmps20
  go_wp2_with (first | ((with_reducible refine gate_dst (N := 2) rfl ?_); refine box_event ?hg (N := 2) ?hd (cs := #[.int .i64 0, .int .i64 0, .int .i64 0]) (t := 24) ?hr ?_; (case hd => rfl); (case hg => rfl); (case hr => first | (go_simp; done) | (go_simp; rfl)); intro gb109 hg w4 hbox hb; have n0_ := Aside0.mk (below_step (by repeat (first | (with_reducible first | exact HB.out | apply below_alloc | apply pw_below_drewN | apply below_drew1) | exact HB.out)) hb); have n1_ := Aside0.mk (hbox); have n2_ := Aside0.mk ((by rw [hg]; exact (below_size (by repeat (first | (with_reducible first | exact HB.out | apply below_alloc | apply pw_below_drewN | apply below_drew1) | exact HB.out))) : w.heap.size ≤ gb109)); have n3_ := Aside0.mk ((by rw [hg]; exact (below_size (by repeat (first | (with_reducible first | exact HB.out | apply below_alloc | apply pw_below_drewN | apply below_drew1) | exact HB.out))) : w.heap.size ≤ gb109)); clear HB; have HB := n0_; have BK109 := n1_; have GW109 := n2_; have GE109 := n3_; clear n0_ n1_ n2_ n3_; clear hb hbox hg) | ((with_reducible refine gate_dst (N := 6) rfl ?_); refine box_event ?hg (N := 6) ?hd (cs := #[.int .i64 0, .int .i64 0, .int .i64 0]) (t := 24) ?hr ?_; (case hd => rfl); (case hg => rfl); (case hr => first | (go_simp; done) | (go_simp; rfl)); intro gb110 hg w5 hbox hb; have n0_ := Aside0.mk (blk_below (g := gb109) (o := .cells #[.int .i64 0, .int .i64 0, .int .i64 0] 24 (0, 0)) (by (with_reducible repeat (first | refine blk_drewN ?_ _ | refine blk_drew ?_ | refine blk_alloc ?_ _)); exact BK109.out) hb); have n1_ := Aside0.mk (below_step (by repeat (first | (with_reducible first | exact HB.out | apply below_alloc | apply pw_below_drewN | apply below_drew1 | refine below_set ?_ GE109.out) | exact HB.out)) hb); have n2_ := Aside0.mk (hbox); have n3_ := Aside0.mk ((by rw [hg]; exact (below_size (by repeat (first | (with_reducible first | exact HB.out | apply below_alloc | apply pw_below_drewN | apply below_drew1 | refine below_set ?_ GE109.out) | exact HB.out))) : w.heap.size ≤ gb110)); have n4_ := Aside0.mk ((by rw [hg]; exact (below_size (by repeat (first | (with_reducible first | exact HB.out | apply below_alloc | apply pw_below_drewN | apply below_drew1 | refine below_set ?_ GE109.out) | exact HB.out))) : w.heap.size ≤ gb110)); have n5_ := Aside0.mk ((by rw [hg]; exact Nat.ne_of_lt (blk_lt (g := gb109) (o := .cells #[.int .i64 0, .int .i64 0, .int .i64 0] 24 (0, 0)) (by (with_reducible repeat (first | refine blk_drewN ?_ _ | refine blk_drew ?_ | refine blk_alloc ?_ _)); exact BK109.out)) : gb109 ≠ gb110)); have n6_ := Aside0.mk ((by rw [hg]; exact Nat.ne_of_gt (blk_lt (g := gb109) (o := .cells #[.int .i64 0, .int .i64 0, .int .i64 0] 24 (0, 0)) (by (with_reducible repeat (first | refine blk_drewN ?_ _ | refine blk_drew ?_ | refine blk_alloc ?_ _)); exact BK109.out)) : gb110 ≠ gb109)); clear BK109; clear HB; have BK109 := n0_; have HB := n1_; have BK110 := n2_; have GW110 := n3_; have GE110 := n4_; have NB109_110 := n5_; have NB110_109 := n6_; clear n0_ n1_ n2_ n3_ n4_ n5_ n6_; clear hb hbox hg; have hnb6 := NB110_109.out; have hnc6 := NB109_110.out; have hcz7_0 : w5.cell? ⟨gb110, 0, none⟩ = some (.int .i64 0) := (blk_cell BK110.out 0).trans rfl; have hcz7_1 : w5.cell? ⟨gb110, 1, none⟩ = some (.int .i64 0) := (blk_cell BK110.out 1).trans rfl; have hcz7_2 : w5.cell? ⟨gb110, 2, none⟩ = some (.int .i64 0) := (blk_cell BK110.out 2).trans rfl; have hfz7_0 := blk_frozen BK110.out 0; have hfz7_1 := blk_frozen BK110.out 1; have hfz7_2 := blk_frozen BK110.out 2))
  go_loopg [] k (fun kq w' => ∃ (x111001_1 : Int) (x111002_1 : Int), Aside0 (civil_day.l0 kq (wrap64 ((wrap64 ((wrap64 ((wrap64 ((wrap64 (400 * (wrap64 (Int.tdiv a0 146097)))) + (wrap64 (100 * (ji2))))) + (wrap64 (4 * (wrap64 (Int.tdiv (wrap64 ((Int.tmod a0 146097) - (wrap64 ((ji2) * 36524)))) 1461)))))) + (ji3))) + 1)) x111001_1 x111002_1 = some (r1, r2, r3)) ∧ Aside0 (kq ≤ k) ∧ Aside0 (w'.heap[gb109]? = some (.cells #[.int .i64 0, .int .i64 0, .int .i64 0] 24 (0, 0))) ∧ Aside0 (w'.heap[gb110]? = some (.cells #[.int .i64 (wrap64 ((wrap64 ((wrap64 ((wrap64 ((wrap64 (400 * (wrap64 (Int.tdiv a0 146097)))) + (wrap64 (100 * (ji2))))) + (wrap64 (4 * (wrap64 (Int.tdiv (wrap64 ((Int.tmod a0 146097) - (wrap64 ((ji2) * 36524)))) 1461)))))) + (ji3))) + 1)), .int .i64 x111001_1, .int .i64 x111002_1] 24 (0, 0))) ∧ Aside0 (Below w.heap.size w w'))
  case atStart => exact ⟨(1), (wrap64 ((wrap64 ((Int.tmod (wrap64 ((Int.tmod a0 146097) - (wrap64 ((ji2) * 36524)))) 1461) - (wrap64 (365 * (ji3))))) + 1)), H', ⟨Nat.le_refl _⟩, ⟨by (with_reducible repeat (first | refine blk_drewN ?_ _ | refine blk_drew ?_ | refine blk_alloc ?_ _)); refine blk_far ?_ NB109_110.out _; (with_reducible repeat (first | refine blk_drewN ?_ _ | refine blk_drew ?_ | refine blk_alloc ?_ _)); refine blk_far ?_ NB109_110.out _; (with_reducible repeat (first | refine blk_drewN ?_ _ | refine blk_drew ?_ | refine blk_alloc ?_ _)); refine blk_far ?_ NB109_110.out _; (with_reducible repeat (first | refine blk_drewN ?_ _ | refine blk_drew ?_ | refine blk_alloc ?_ _)); exact BK109.out⟩, ⟨by (with_reducible repeat (first | refine blk_drewN ?_ _ | refine blk_drew ?_ | refine blk_alloc ?_ _)); refine blk_put (cs := #[.int .i64 (wrap64 ((wrap64 ((wrap64 ((wrap64 ((wrap64 (400 * (wrap64 (Int.tdiv a0 146097)))) + (wrap64 (100 * (ji2))))) + (wrap64 (4 * (wrap64 (Int.tdiv (wrap64 ((Int.tmod a0 146097) - (wrap64 ((ji2) * 36524)))) 1461)))))) + (ji3))) + 1)), .int .i64 1, .int .i64 0]) ?_ 2 _ rfl; (with_reducible repeat (first | refine blk_drewN ?_ _ | refine blk_drew ?_ | refine blk_alloc ?_ _)); refine blk_put (cs := #[.int .i64 (wrap64 ((wrap64 ((wrap64 ((wrap64 ((wrap64 (400 * (wrap64 (Int.tdiv a0 146097)))) + (wrap64 (100 * (ji2))))) + (wrap64 (4 * (wrap64 (Int.tdiv (wrap64 ((Int.tmod a0 146097) - (wrap64 ((ji2) * 36524)))) 1461)))))) + (ji3))) + 1)), .int .i64 0, .int .i64 0]) ?_ 1 _ rfl; (with_reducible repeat (first | refine blk_drewN ?_ _ | refine blk_drew ?_ | refine blk_alloc ?_ _)); refine blk_put (cs := #[.int .i64 0, .int .i64 0, .int .i64 0]) ?_ 0 _ rfl; (with_reducible repeat (first | refine blk_drewN ?_ _ | refine blk_drew ?_ | refine blk_alloc ?_ _)); exact BK110.out⟩, ⟨by repeat (first | (with_reducible first | exact HB.out | apply below_alloc | apply pw_below_drewN | apply below_drew1 | refine below_set ?_ GE109.out | refine below_set ?_ GE110.out) | exact HB.out)⟩⟩
  case round =>
    clear H'
    try clear c2
    try clear p2
    try clear c6
    try clear p6
    try clear hcz7_0
    try clear hcz7_1
    try clear hcz7_2
    try clear hfz7_0
    try clear hfz7_1
    try clear hfz7_2
    obtain ⟨x111001_1, x111002_1, HA, HK1, BK109, BK110, HB⟩ := hrel
    cases gk with
    | zero => exact absurd HA.out (by simp [civil_day.l0])
    | succ k1 =>
      have H := HA.out
      clear HA
      simp only [civil_day.l0] at H
      replace H := Option.bind_eq_some_iff.mp H
      obtain ⟨t111, A80, H⟩ := H
      replace H : (if x111002_1 > t111 then ((civil_Days.f k1 (wrap64 ((wrap64 ((wrap64 ((wrap64 ((wrap64 (400 * (wrap64 (Int.tdiv a0 146097)))) + (wrap64 (100 * (ji2))))) + (wrap64 (4 * (wrap64 (Int.tdiv (wrap64 ((Int.tmod a0 146097) - (wrap64 ((ji2) * 36524)))) 1461)))))) + (ji3))) + 1)) x111001_1).bind fun t112 => (civil_day.l0 k1 (wrap64 ((wrap64 ((wrap64 ((wrap64 ((wrap64 (400 * (wrap64 (Int.tdiv a0 146097)))) + (wrap64 (100 * (ji2))))) + (wrap64 (4 * (wrap64 (Int.tdiv (wrap64 ((Int.tmod a0 146097) - (wrap64 ((ji2) * 36524)))) 1461)))))) + (ji3))) + 1)) (wrap64 (x111001_1 + 1)) (wrap64 (x111002_1 - t112)))) else (some ((wrap64 ((wrap64 ((wrap64 ((wrap64 ((wrap64 (400 * (wrap64 (Int.tdiv a0 146097)))) + (wrap64 (100 * (ji2))))) + (wrap64 (4 * (wrap64 (Int.tdiv (wrap64 ((Int.tmod a0 146097) - (wrap64 ((ji2) * 36524)))) 1461)))))) + (ji3))) + 1)), x111001_1, x111002_1))) = some (r1, r2, r3) := H
      have A8 := Aside0.mk A80
      clear A80
      by_cases c9 : x111002_1 > t111
      · rw [if_pos c9] at H
        have c9b0 : decide (t111 < x111002_1) = true := decide_eq_true c9
        clear c9
        replace H := Option.bind_eq_some_iff.mp H
        obtain ⟨t112, A100, H⟩ := H
        replace H : (civil_day.l0 k1 (wrap64 ((wrap64 ((wrap64 ((wrap64 ((wrap64 (400 * (wrap64 (Int.tdiv a0 146097)))) + (wrap64 (100 * (ji2))))) + (wrap64 (4 * (wrap64 (Int.tdiv (wrap64 ((Int.tmod a0 146097) - (wrap64 ((ji2) * 36524)))) 1461)))))) + (ji3))) + 1)) (wrap64 (x111001_1 + 1)) (wrap64 (x111002_1 - t112))) = some (r1, r2, r3) := H
        have A10 := Aside0.mk A100
        clear A100
        have H' := Aside0.mk H
        clear H
        try go_wp2
        have n0_ := Aside0.mk (blk_drew BK109.out)
        have n1_ := Aside0.mk (blk_drew BK110.out)
        have n2_ := Aside0.mk (below_drew1 HB.out)
        clear BK109
        clear BK110
        clear HB
        have BK109 := n0_
        have BK110 := n1_
        have HB := n2_
        clear n0_ n1_ n2_
        refine start_ (n := 8) (S := fun w' => w'.cell? ⟨gb110, 0, none⟩ = some (.int .i64 (wrap64 ((wrap64 ((wrap64 ((wrap64 ((wrap64 (400 * (wrap64 (Int.tdiv a0 146097)))) + (wrap64 (100 * (ji2))))) + (wrap64 (4 * (wrap64 (Int.tdiv (wrap64 ((Int.tmod a0 146097) - (wrap64 ((ji2) * 36524)))) 1461)))))) + (ji3))) + 1))) ∧ w'.cell? ⟨gb110, 1, none⟩ = some (.int .i64 x111001_1) ∧ w'.cell? ⟨gb110, 2, none⟩ = some (.int .i64 x111002_1)) (ds := []) #[false, false, false, false, false, false, false, false] (by kernel_rfl) rfl rfl ⟨(blk_cell BK110.out 0).trans rfl, (blk_cell BK110.out 1).trans rfl, (blk_cell BK110.out 2).trans rfl⟩ (fun hHeld => ?_); refine with_tabW civil_day.tab8 civil_day.bits8 (fun HT_ HW_ => ?_)
        generalize wr.drew = w11 at BK109 BK110 HB hHeld ⊢
        refine pure_ (i := 0) (N := some 43) (v := ?_) (a' := ?_) #[true, false, false, false, false, false, false, false] rfl rfl (any_of HT_.out (by kernel_rfl)) (fun _ _ _ h => h) (Or.inl ⟨by rfl, ?_⟩) ?_ ?_
        rotate_left
        · intro w'
          go_simp
          with_reducible rfl
        rotate_left
        · simp only [Act.put, List.setIfInBounds_toArray, List.set_cons_zero, List.set_cons_succ, i64_w, i32_w]
          rfl
        refine pure_ (i := 2) (N := some 45) (v := ?_) (a' := ?_) #[true, false, true, false, false, false, false, false] rfl rfl (any_of HT_.out (by kernel_rfl)) (fun _ _ _ h => h) (Or.inl ⟨by rfl, ?_⟩) ?_ ?_
        rotate_left
        · intro w'
          go_simp
          with_reducible rfl
        rotate_left
        · simp only [Act.put, List.setIfInBounds_toArray, List.set_cons_zero, List.set_cons_succ, i64_w, i32_w]
          rfl
        refine pure_ (i := 4) (N := some 47) (v := ?_) (a' := ?_) #[true, false, true, false, true, false, false, false] rfl rfl (any_of HT_.out (by kernel_rfl)) (fun _ _ _ h => h) (Or.inl ⟨by rfl, ?_⟩) ?_ ?_
        rotate_left
        · intro w'
          go_simp
          with_reducible rfl
        rotate_left
        · simp only [Act.put, List.setIfInBounds_toArray, List.set_cons_zero, List.set_cons_succ, i64_w, i32_w]
          rfl
        refine take_ (i := 1) (N := some 44) (v := ?_) (a' := ?_) #[true, true, true, false, true, false, false, false] rfl rfl (take_ofW HT_.out HW_.out (by kernel_rfl)) (fun _ _ _ h => h) (Or.inl ⟨by rfl, ?_⟩) hHeld ?_ ?_
        rotate_left
        · rintro w' ⟨s0, s1, s2⟩
          go_simp
          with_reducible rfl
        rotate_left
        · simp only [Act.put, List.setIfInBounds_toArray, List.set_cons_zero, List.set_cons_succ, i64_w, i32_w]
          rfl
        refine take_ (i := 3) (N := some 46) (v := ?_) (a' := ?_) #[true, true, true, true, true, false, false, false] rfl rfl (take_ofW HT_.out HW_.out (by kernel_rfl)) (fun _ _ _ h => h) (Or.inl ⟨by rfl, ?_⟩) hHeld ?_ ?_
        rotate_left
        · rintro w' ⟨s0, s1, s2⟩
          go_simp
          with_reducible rfl
        rotate_left
        · simp only [Act.put, List.setIfInBounds_toArray, List.set_cons_zero, List.set_cons_succ, i64_w, i32_w]
          rfl
        refine take_ (i := 5) (N := some 48) (v := ?_) (a' := ?_) #[true, true, true, true, true, true, false, false] rfl rfl (take_ofW HT_.out HW_.out (by kernel_rfl)) (fun _ _ _ h => h) (Or.inl ⟨by rfl, ?_⟩) hHeld ?_ ?_
        rotate_left
        · rintro w' ⟨s0, s1, s2⟩
          go_simp
          with_reducible rfl
        rotate_left
        · simp only [Act.put, List.setIfInBounds_toArray, List.set_cons_zero, List.set_cons_succ, i64_w, i32_w]
          rfl
        refine one_ (i := 6) (N := some 49) #[true, true, true, true, true, true, true, false] rfl rfl (one_of HT_.out (by kernel_rfl)) (by decide) (fun K hK => ?_)
        refine goes_ Try.func15 (by kernel_rfl) rfl #[.int .i64 (wrap64 ((wrap64 ((wrap64 ((wrap64 ((wrap64 (400 * (wrap64 (Int.tdiv a0 146097)))) + (wrap64 (100 * (ji2))))) + (wrap64 (4 * (wrap64 (Int.tdiv (wrap64 ((Int.tmod a0 146097) - (wrap64 ((ji2) * 36524)))) 1461)))))) + (ji3))) + 1)), .int .i64 x111001_1] (by rfl) rfl rfl (by (try simp only [List.map_toArray, List.map_cons, List.map_nil]); first | done | (simp only [hji2, hji3]; rfl) | rfl | (simp only [List.length_drop, List.length_take]; rfl)) ?_
        with_reducible refine (civil_Days.calls k1 (wrap64 ((wrap64 ((wrap64 ((wrap64 ((wrap64 (400 * (wrap64 (Int.tdiv a0 146097)))) + (wrap64 (100 * (ji2))))) + (wrap64 (4 * (wrap64 (Int.tdiv (wrap64 ((Int.tmod a0 146097) - (wrap64 ((ji2) * 36524)))) 1461)))))) + (ji3))) + 1)) x111001_1 t111 _ A8.out).mono ?_
        rintro e w' ⟨rfl, ⟨nd, rfl⟩⟩
        refine ⟨_, rfl, ?_⟩
        refine hK.out _ _ ⟨(blk_cell BK110.out 0).trans rfl, (blk_cell BK110.out 1).trans rfl, (blk_cell BK110.out 2).trans rfl⟩ (fun hHeld => ?_)
        clear hK K
        refine norm_ (a' := ?_) ?_ ?_
        rotate_left
        · show Act.put _ (some 49) _ = _
          simp only [Act.put, List.setIfInBounds_toArray, List.set_cons_zero, List.set_cons_succ, i64_w, i32_w]
          rfl
        refine pure_ (i := 7) (N := some 50) (v := ?_) (a' := ?_) #[true, true, true, true, true, true, true, true] rfl rfl (any_of HT_.out (by kernel_rfl)) (fun _ _ _ h => h) (Or.inl ⟨by rfl, ?_⟩) ?_ ?_
        rotate_left
        · intro w'
          go_simp
          with_reducible rfl
        rotate_left
        · simp only [Act.put, List.setIfInBounds_toArray, List.set_cons_zero, List.set_cons_succ, i64_w, i32_w]
          rfl
        refine done_ (done_of HT_.out (by kernel_rfl)) ?_
        try go_wp2
        (try (rw [drewN_self w11]; generalize hq_ : World.drewN w11 _ = w11; have n0_ : Aside0 (w11.heap[gb109]? = some (.cells #[.int .i64 0, .int .i64 0, .int .i64 0] 24 (0, 0))) := ⟨by rw [← hq_]; exact (by (with_reducible repeat (first | refine blk_drewN ?_ _ | refine blk_drew ?_ | refine blk_alloc ?_ _)); exact BK109.out)⟩; have n1_ : Aside0 (w11.heap[gb110]? = some (.cells #[.int .i64 (wrap64 ((wrap64 ((wrap64 ((wrap64 ((wrap64 (400 * (wrap64 (Int.tdiv a0 146097)))) + (wrap64 (100 * (ji2))))) + (wrap64 (4 * (wrap64 (Int.tdiv (wrap64 ((Int.tmod a0 146097) - (wrap64 ((ji2) * 36524)))) 1461)))))) + (ji3))) + 1)), .int .i64 x111001_1, .int .i64 x111002_1] 24 (0, 0))) := ⟨by rw [← hq_]; exact (by (with_reducible repeat (first | refine blk_drewN ?_ _ | refine blk_drew ?_ | refine blk_alloc ?_ _)); exact BK110.out)⟩; have n2_ : Aside0 (Below w.heap.size w w11) := ⟨by rw [← hq_]; exact (by repeat (first | (with_reducible first | exact HB.out | apply below_alloc | apply pw_below_drewN | apply below_drew1 | refine below_set ?_ GE109.out | refine below_set ?_ GE110.out) | exact HB.out))⟩; clear BK109 BK110 HB hq_; have BK109 := n0_; have BK110 := n1_; have HB := n2_; clear n0_ n1_ n2_))
        have n0_ := Aside0.mk (blk_drew BK109.out)
        have n1_ := Aside0.mk (blk_drew BK110.out)
        have n2_ := Aside0.mk (below_drew1 HB.out)
        clear BK109
        clear BK110
        clear HB
        have BK109 := n0_
        have BK110 := n1_
        have HB := n2_
        clear n0_ n1_ n2_
        refine start_ (n := 10) (S := fun w' => w'.cell? ⟨gb110, 0, none⟩ = some (.int .i64 (wrap64 ((wrap64 ((wrap64 ((wrap64 ((wrap64 (400 * (wrap64 (Int.tdiv a0 146097)))) + (wrap64 (100 * (ji2))))) + (wrap64 (4 * (wrap64 (Int.tdiv (wrap64 ((Int.tmod a0 146097) - (wrap64 ((ji2) * 36524)))) 1461)))))) + (ji3))) + 1))) ∧ w'.cell? ⟨gb110, 1, none⟩ = some (.int .i64 x111001_1) ∧ w'.cell? ⟨gb110, 2, none⟩ = some (.int .i64 x111002_1)) (ds := [9]) #[false, false, false, false, false, false, false, false, false, false] (by kernel_rfl) rfl rfl ⟨(blk_cell BK110.out 0).trans rfl, (blk_cell BK110.out 1).trans rfl, (blk_cell BK110.out 2).trans rfl⟩ (fun hHeld => ?_); refine with_tabW civil_day.tab9 civil_day.bits9 (fun HT_ HW_ => ?_)
        generalize w11.drew = w12 at BK109 BK110 HB hHeld ⊢
        refine pure_ (i := 0) (N := some 51) (v := ?_) (a' := ?_) #[true, false, false, false, false, false, false, false, false, false] rfl rfl (any_of HT_.out (by kernel_rfl)) (fun _ _ _ h => h) (Or.inl ⟨by rfl, ?_⟩) ?_ ?_
        rotate_left
        · intro w'
          go_simp
          with_reducible rfl
        rotate_left
        · simp only [Act.put, List.setIfInBounds_toArray, List.set_cons_zero, List.set_cons_succ, i64_w, i32_w]
          rfl
        refine pure_ (i := 2) (N := some 53) (v := ?_) (a' := ?_) #[true, false, true, false, false, false, false, false, false, false] rfl rfl (any_of HT_.out (by kernel_rfl)) (fun _ _ _ h => h) (Or.inl ⟨by rfl, ?_⟩) ?_ ?_
        rotate_left
        · intro w'
          go_simp
          with_reducible rfl
        rotate_left
        · simp only [Act.put, List.setIfInBounds_toArray, List.set_cons_zero, List.set_cons_succ, i64_w, i32_w]
          rfl
        refine pure_ (i := 4) (N := some 55) (v := ?_) (a' := ?_) #[true, false, true, false, true, false, false, false, false, false] rfl rfl (any_of HT_.out (by kernel_rfl)) (fun _ _ _ h => h) (Or.inl ⟨by rfl, ?_⟩) ?_ ?_
        rotate_left
        · intro w'
          go_simp
          with_reducible rfl
        rotate_left
        · simp only [Act.put, List.setIfInBounds_toArray, List.set_cons_zero, List.set_cons_succ, i64_w, i32_w]
          rfl
        refine take_ (i := 1) (N := some 52) (v := ?_) (a' := ?_) #[true, true, true, false, true, false, false, false, false, false] rfl rfl (take_ofW HT_.out HW_.out (by kernel_rfl)) (fun _ _ _ h => h) (Or.inl ⟨by rfl, ?_⟩) hHeld ?_ ?_
        rotate_left
        · rintro w' ⟨s0, s1, s2⟩
          go_simp
          with_reducible rfl
        rotate_left
        · simp only [Act.put, List.setIfInBounds_toArray, List.set_cons_zero, List.set_cons_succ, i64_w, i32_w]
          rfl
        refine take_ (i := 3) (N := some 54) (v := ?_) (a' := ?_) #[true, true, true, true, true, false, false, false, false, false] rfl rfl (take_ofW HT_.out HW_.out (by kernel_rfl)) (fun _ _ _ h => h) (Or.inl ⟨by rfl, ?_⟩) hHeld ?_ ?_
        rotate_left
        · rintro w' ⟨s0, s1, s2⟩
          go_simp
          with_reducible rfl
        rotate_left
        · simp only [Act.put, List.setIfInBounds_toArray, List.set_cons_zero, List.set_cons_succ, i64_w, i32_w]
          rfl
        refine take_ (i := 5) (N := some 56) (v := ?_) (a' := ?_) #[true, true, true, true, true, true, false, false, false, false] rfl rfl (take_ofW HT_.out HW_.out (by kernel_rfl)) (fun _ _ _ h => h) (Or.inl ⟨by rfl, ?_⟩) hHeld ?_ ?_
        rotate_left
        · rintro w' ⟨s0, s1, s2⟩
          go_simp
          with_reducible rfl
        rotate_left
        · simp only [Act.put, List.setIfInBounds_toArray, List.set_cons_zero, List.set_cons_succ, i64_w, i32_w]
          rfl
        refine one_ (i := 6) (N := some 57) #[true, true, true, true, true, true, true, false, false, false] rfl rfl (one_of HT_.out (by kernel_rfl)) (by decide) (fun K hK => ?_)
        refine goes_ Try.func15 (by kernel_rfl) rfl #[.int .i64 (wrap64 ((wrap64 ((wrap64 ((wrap64 ((wrap64 (400 * (wrap64 (Int.tdiv a0 146097)))) + (wrap64 (100 * (ji2))))) + (wrap64 (4 * (wrap64 (Int.tdiv (wrap64 ((Int.tmod a0 146097) - (wrap64 ((ji2) * 36524)))) 1461)))))) + (ji3))) + 1)), .int .i64 x111001_1] (by rfl) rfl rfl (by (try simp only [List.map_toArray, List.map_cons, List.map_nil]); first | done | (simp only [hji2, hji3]; rfl) | rfl | (simp only [List.length_drop, List.length_take]; rfl)) ?_
        with_reducible refine (civil_Days.calls k1 (wrap64 ((wrap64 ((wrap64 ((wrap64 ((wrap64 (400 * (wrap64 (Int.tdiv a0 146097)))) + (wrap64 (100 * (ji2))))) + (wrap64 (4 * (wrap64 (Int.tdiv (wrap64 ((Int.tmod a0 146097) - (wrap64 ((ji2) * 36524)))) 1461)))))) + (ji3))) + 1)) x111001_1 t112 _ A10.out).mono ?_
        rintro e w' ⟨rfl, ⟨nd, rfl⟩⟩
        refine ⟨_, rfl, ?_⟩
        refine hK.out _ _ ⟨(blk_cell BK110.out 0).trans rfl, (blk_cell BK110.out 1).trans rfl, (blk_cell BK110.out 2).trans rfl⟩ (fun hHeld => ?_)
        clear hK K
        refine norm_ (a' := ?_) ?_ ?_
        rotate_left
        · show Act.put _ (some 57) _ = _
          simp only [Act.put, List.setIfInBounds_toArray, List.set_cons_zero, List.set_cons_succ, i64_w, i32_w]
          rfl
        refine pure_ (i := 7) (N := some 58) (v := ?_) (a' := ?_) #[true, true, true, true, true, true, true, true, false, false] rfl rfl (any_of HT_.out (by kernel_rfl)) (fun _ _ _ h => h) (Or.inl ⟨by rfl, ?_⟩) ?_ ?_
        rotate_left
        · intro w'
          go_simp
          with_reducible rfl
        rotate_left
        · simp only [Act.put, List.setIfInBounds_toArray, List.set_cons_zero, List.set_cons_succ, i64_w, i32_w]
          rfl
        refine pure_ (i := 8) (N := some 59) (v := ?_) (a' := ?_) #[true, true, true, true, true, true, true, true, true, false] rfl rfl (any_of HT_.out (by kernel_rfl)) (fun _ _ _ h => h) (Or.inl ⟨by rfl, ?_⟩) ?_ ?_
        rotate_left
        · intro w'
          go_simp
          with_reducible rfl
        rotate_left
        · simp only [Act.put, List.setIfInBounds_toArray, List.set_cons_zero, List.set_cons_succ, i64_w, i32_w]
          rfl
        refine last_ (i := 9) (N := none) #[true, true, true, true, true, true, true, true, true, true] rfl rfl (one_of HT_.out (by kernel_rfl)) (by decide) (fun K hK => ?_)
        have hs13 : w12.cell? ⟨gb110, 2, none⟩ = some (.int .i64 x111002_1) := (blk_cell BK110.out 2).trans rfl
        have hfs13 := blk_frozen BK110.out 2
        have hns13_0 := NB109_110.out
        have hms13_0 := NB110_109.out
        refine skip_ (w1 := ?_) (by rfl) rfl ?_ ?_
        rotate_left
        · go_simp
          rfl
        refine hK.out _ _ ?_
        clear hK K
        refine done_ (done_of HT_.out (by kernel_rfl)) ?_
        have hnb14 := NB110_109.out
        have hnc14 := NB109_110.out
        have hcz15_0 : w12.cell? ⟨gb110, 0, none⟩ = some (.int .i64 (wrap64 ((wrap64 ((wrap64 ((wrap64 ((wrap64 (400 * (wrap64 (Int.tdiv a0 146097)))) + (wrap64 (100 * (ji2))))) + (wrap64 (4 * (wrap64 (Int.tdiv (wrap64 ((Int.tmod a0 146097) - (wrap64 ((ji2) * 36524)))) 1461)))))) + (ji3))) + 1))) := (blk_cell BK110.out 0).trans rfl
        have hcz15_1 : w12.cell? ⟨gb110, 1, none⟩ = some (.int .i64 x111001_1) := (blk_cell BK110.out 1).trans rfl
        have hcz15_2 : w12.cell? ⟨gb110, 2, none⟩ = some (.int .i64 x111002_1) := (blk_cell BK110.out 2).trans rfl
        have hfz15_0 := blk_frozen BK110.out 0
        have hfz15_1 := blk_frozen BK110.out 1
        have hfz15_2 := blk_frozen BK110.out 2
        try go_wp2
        go_roundg k1
        case measure => have := HK1.out; omega
        case rel => exact ⟨(wrap64 (x111001_1 + 1)), (wrap64 (x111002_1 - t112)), H', ⟨by have := HK1.out; omega⟩, ⟨by (with_reducible repeat (first | refine blk_drewN ?_ _ | refine blk_drew ?_ | refine blk_alloc ?_ _)); refine blk_far ?_ NB109_110.out _; (with_reducible repeat (first | refine blk_drewN ?_ _ | refine blk_drew ?_ | refine blk_alloc ?_ _)); refine blk_far ?_ NB109_110.out _; (with_reducible repeat (first | refine blk_drewN ?_ _ | refine blk_drew ?_ | refine blk_alloc ?_ _)); exact BK109.out⟩, ⟨by (with_reducible repeat (first | refine blk_drewN ?_ _ | refine blk_drew ?_ | refine blk_alloc ?_ _)); refine blk_put (cs := #[.int .i64 (wrap64 ((wrap64 ((wrap64 ((wrap64 ((wrap64 (400 * (wrap64 (Int.tdiv a0 146097)))) + (wrap64 (100 * (ji2))))) + (wrap64 (4 * (wrap64 (Int.tdiv (wrap64 ((Int.tmod a0 146097) - (wrap64 ((ji2) * 36524)))) 1461)))))) + (ji3))) + 1)), .int .i64 x111001_1, .int .i64 (wrap64 (x111002_1 - t112))]) ?_ 1 _ rfl; (with_reducible repeat (first | refine blk_drewN ?_ _ | refine blk_drew ?_ | refine blk_alloc ?_ _)); refine blk_put (cs := #[.int .i64 (wrap64 ((wrap64 ((wrap64 ((wrap64 ((wrap64 (400 * (wrap64 (Int.tdiv a0 146097)))) + (wrap64 (100 * (ji2))))) + (wrap64 (4 * (wrap64 (Int.tdiv (wrap64 ((Int.tmod a0 146097) - (wrap64 ((ji2) * 36524)))) 1461)))))) + (ji3))) + 1)), .int .i64 x111001_1, .int .i64 x111002_1]) ?_ 2 _ rfl; (with_reducible repeat (first | refine blk_drewN ?_ _ | refine blk_drew ?_ | refine blk_alloc ?_ _)); exact BK110.out⟩, ⟨by repeat (first | (with_reducible first | exact HB.out | apply below_alloc | apply pw_below_drewN | apply below_drew1 | refine below_set ?_ GE109.out | refine below_set ?_ GE110.out) | exact HB.out)⟩⟩
      · rw [if_neg c9] at H
        have c9b0 : decide (t111 < x111002_1) = false := decide_eq_false c9
        clear c9
        simp only [Option.some.injEq, Prod.mk.injEq] at H
        obtain ⟨rfl, rfl, rfl⟩ := H
        try go_wp2
        have n0_ := Aside0.mk (blk_drew BK109.out)
        have n1_ := Aside0.mk (blk_drew BK110.out)
        have n2_ := Aside0.mk (below_drew1 HB.out)
        clear BK109
        clear BK110
        clear HB
        have BK109 := n0_
        have BK110 := n1_
        have HB := n2_
        clear n0_ n1_ n2_
        refine start_ (n := 8) (S := fun w' => w'.cell? ⟨gb110, 0, none⟩ = some (.int .i64 (wrap64 ((wrap64 ((wrap64 ((wrap64 ((wrap64 (400 * (wrap64 (Int.tdiv a0 146097)))) + (wrap64 (100 * (ji2))))) + (wrap64 (4 * (wrap64 (Int.tdiv (wrap64 ((Int.tmod a0 146097) - (wrap64 ((ji2) * 36524)))) 1461)))))) + (ji3))) + 1))) ∧ w'.cell? ⟨gb110, 1, none⟩ = some (.int .i64 x111001_1) ∧ w'.cell? ⟨gb110, 2, none⟩ = some (.int .i64 x111002_1)) (ds := []) #[false, false, false, false, false, false, false, false] (by kernel_rfl) rfl rfl ⟨(blk_cell BK110.out 0).trans rfl, (blk_cell BK110.out 1).trans rfl, (blk_cell BK110.out 2).trans rfl⟩ (fun hHeld => ?_); refine with_tabW civil_day.tab8 civil_day.bits8 (fun HT_ HW_ => ?_)
        generalize wr.drew = w16 at BK109 BK110 HB hHeld ⊢
        refine pure_ (i := 0) (N := some 43) (v := ?_) (a' := ?_) #[true, false, false, false, false, false, false, false] rfl rfl (any_of HT_.out (by kernel_rfl)) (fun _ _ _ h => h) (Or.inl ⟨by rfl, ?_⟩) ?_ ?_
        rotate_left
        · intro w'
          go_simp
          with_reducible rfl
        rotate_left
        · simp only [Act.put, List.setIfInBounds_toArray, List.set_cons_zero, List.set_cons_succ, i64_w, i32_w]
          rfl
        refine pure_ (i := 2) (N := some 45) (v := ?_) (a' := ?_) #[true, false, true, false, false, false, false, false] rfl rfl (any_of HT_.out (by kernel_rfl)) (fun _ _ _ h => h) (Or.inl ⟨by rfl, ?_⟩) ?_ ?_
        rotate_left
        · intro w'
          go_simp
          with_reducible rfl
        rotate_left
        · simp only [Act.put, List.setIfInBounds_toArray, List.set_cons_zero, List.set_cons_succ, i64_w, i32_w]
          rfl
        refine pure_ (i := 4) (N := some 47) (v := ?_) (a' := ?_) #[true, false, true, false, true, false, false, false] rfl rfl (any_of HT_.out (by kernel_rfl)) (fun _ _ _ h => h) (Or.inl ⟨by rfl, ?_⟩) ?_ ?_
        rotate_left
        · intro w'
          go_simp
          with_reducible rfl
        rotate_left
        · simp only [Act.put, List.setIfInBounds_toArray, List.set_cons_zero, List.set_cons_succ, i64_w, i32_w]
          rfl
        refine take_ (i := 1) (N := some 44) (v := ?_) (a' := ?_) #[true, true, true, false, true, false, false, false] rfl rfl (take_ofW HT_.out HW_.out (by kernel_rfl)) (fun _ _ _ h => h) (Or.inl ⟨by rfl, ?_⟩) hHeld ?_ ?_
        rotate_left
        · rintro w' ⟨s0, s1, s2⟩
          go_simp
          with_reducible rfl
        rotate_left
        · simp only [Act.put, List.setIfInBounds_toArray, List.set_cons_zero, List.set_cons_succ, i64_w, i32_w]
          rfl
        refine take_ (i := 3) (N := some 46) (v := ?_) (a' := ?_) #[true, true, true, true, true, false, false, false] rfl rfl (take_ofW HT_.out HW_.out (by kernel_rfl)) (fun _ _ _ h => h) (Or.inl ⟨by rfl, ?_⟩) hHeld ?_ ?_
        rotate_left
        · rintro w' ⟨s0, s1, s2⟩
          go_simp
          with_reducible rfl
        rotate_left
        · simp only [Act.put, List.setIfInBounds_toArray, List.set_cons_zero, List.set_cons_succ, i64_w, i32_w]
          rfl
        refine take_ (i := 5) (N := some 48) (v := ?_) (a' := ?_) #[true, true, true, true, true, true, false, false] rfl rfl (take_ofW HT_.out HW_.out (by kernel_rfl)) (fun _ _ _ h => h) (Or.inl ⟨by rfl, ?_⟩) hHeld ?_ ?_
        rotate_left
        · rintro w' ⟨s0, s1, s2⟩
          go_simp
          with_reducible rfl
        rotate_left
        · simp only [Act.put, List.setIfInBounds_toArray, List.set_cons_zero, List.set_cons_succ, i64_w, i32_w]
          rfl
        refine one_ (i := 6) (N := some 49) #[true, true, true, true, true, true, true, false] rfl rfl (one_of HT_.out (by kernel_rfl)) (by decide) (fun K hK => ?_)
        refine goes_ Try.func15 (by kernel_rfl) rfl #[.int .i64 (wrap64 ((wrap64 ((wrap64 ((wrap64 ((wrap64 (400 * (wrap64 (Int.tdiv a0 146097)))) + (wrap64 (100 * (ji2))))) + (wrap64 (4 * (wrap64 (Int.tdiv (wrap64 ((Int.tmod a0 146097) - (wrap64 ((ji2) * 36524)))) 1461)))))) + (ji3))) + 1)), .int .i64 x111001_1] (by rfl) rfl rfl (by (try simp only [List.map_toArray, List.map_cons, List.map_nil]); first | done | (simp only [hji2, hji3]; rfl) | rfl | (simp only [List.length_drop, List.length_take]; rfl)) ?_
        with_reducible refine (civil_Days.calls k1 (wrap64 ((wrap64 ((wrap64 ((wrap64 ((wrap64 (400 * (wrap64 (Int.tdiv a0 146097)))) + (wrap64 (100 * (ji2))))) + (wrap64 (4 * (wrap64 (Int.tdiv (wrap64 ((Int.tmod a0 146097) - (wrap64 ((ji2) * 36524)))) 1461)))))) + (ji3))) + 1)) x111001_1 t111 _ A8.out).mono ?_
        rintro e w' ⟨rfl, ⟨nd, rfl⟩⟩
        refine ⟨_, rfl, ?_⟩
        refine hK.out _ _ ⟨(blk_cell BK110.out 0).trans rfl, (blk_cell BK110.out 1).trans rfl, (blk_cell BK110.out 2).trans rfl⟩ (fun hHeld => ?_)
        clear hK K
        refine norm_ (a' := ?_) ?_ ?_
        rotate_left
        · show Act.put _ (some 49) _ = _
          simp only [Act.put, List.setIfInBounds_toArray, List.set_cons_zero, List.set_cons_succ, i64_w, i32_w]
          rfl
        refine pure_ (i := 7) (N := some 50) (v := ?_) (a' := ?_) #[true, true, true, true, true, true, true, true] rfl rfl (any_of HT_.out (by kernel_rfl)) (fun _ _ _ h => h) (Or.inl ⟨by rfl, ?_⟩) ?_ ?_
        rotate_left
        · intro w'
          go_simp
          with_reducible rfl
        rotate_left
        · simp only [Act.put, List.setIfInBounds_toArray, List.set_cons_zero, List.set_cons_succ, i64_w, i32_w]
          rfl
        refine done_ (done_of HT_.out (by kernel_rfl)) ?_
        have hnb17 := NB110_109.out
        have hnc17 := NB109_110.out
        have hcz18_0 : w16.cell? ⟨gb110, 0, none⟩ = some (.int .i64 (wrap64 ((wrap64 ((wrap64 ((wrap64 ((wrap64 (400 * (wrap64 (Int.tdiv a0 146097)))) + (wrap64 (100 * (ji2))))) + (wrap64 (4 * (wrap64 (Int.tdiv (wrap64 ((Int.tmod a0 146097) - (wrap64 ((ji2) * 36524)))) 1461)))))) + (ji3))) + 1))) := (blk_cell BK110.out 0).trans rfl
        have hcz18_1 : w16.cell? ⟨gb110, 1, none⟩ = some (.int .i64 x111001_1) := (blk_cell BK110.out 1).trans rfl
        have hcz18_2 : w16.cell? ⟨gb110, 2, none⟩ = some (.int .i64 x111002_1) := (blk_cell BK110.out 2).trans rfl
        have hfz18_0 := blk_frozen BK110.out 0
        have hfz18_1 := blk_frozen BK110.out 1
        have hfz18_2 := blk_frozen BK110.out 2
        have hcz19_0 : w16.cell? ⟨gb109, 0, none⟩ = some (.int .i64 0) := (blk_cell BK109.out 0).trans rfl
        have hcz19_1 : w16.cell? ⟨gb109, 1, none⟩ = some (.int .i64 0) := (blk_cell BK109.out 1).trans rfl
        have hcz19_2 : w16.cell? ⟨gb109, 2, none⟩ = some (.int .i64 0) := (blk_cell BK109.out 2).trans rfl
        have hfz19_0 := blk_frozen BK109.out 0
        have hfz19_1 := blk_frozen BK109.out 1
        have hfz19_2 := blk_frozen BK109.out 2
        try go_wp2
        refine bodyPost_ret (results_cell_row rfl _ _ gb109 24 #[.int .i64 (wrap64 ((wrap64 ((wrap64 ((wrap64 ((wrap64 (400 * (wrap64 (Int.tdiv a0 146097)))) + (wrap64 (100 * (ji2))))) + (wrap64 (4 * (wrap64 (Int.tdiv (wrap64 ((Int.tmod a0 146097) - (wrap64 ((ji2) * 36524)))) 1461)))))) + (ji3))) + 1)), .int .i64 x111001_1, .int .i64 x111002_1] (0, 0) _ rfl (by (with_reducible repeat (first | refine blk_drewN ?_ _ | refine blk_drew ?_ | refine blk_alloc ?_ _)); refine blk_put (cs := #[.int .i64 (wrap64 ((wrap64 ((wrap64 ((wrap64 ((wrap64 (400 * (wrap64 (Int.tdiv a0 146097)))) + (wrap64 (100 * (ji2))))) + (wrap64 (4 * (wrap64 (Int.tdiv (wrap64 ((Int.tmod a0 146097) - (wrap64 ((ji2) * 36524)))) 1461)))))) + (ji3))) + 1)), .int .i64 x111001_1, .int .i64 0]) ?_ 2 _ rfl; (with_reducible repeat (first | refine blk_drewN ?_ _ | refine blk_drew ?_ | refine blk_alloc ?_ _)); refine blk_put (cs := #[.int .i64 (wrap64 ((wrap64 ((wrap64 ((wrap64 ((wrap64 (400 * (wrap64 (Int.tdiv a0 146097)))) + (wrap64 (100 * (ji2))))) + (wrap64 (4 * (wrap64 (Int.tdiv (wrap64 ((Int.tmod a0 146097) - (wrap64 ((ji2) * 36524)))) 1461)))))) + (ji3))) + 1)), .int .i64 0, .int .i64 0]) ?_ 1 _ rfl; (with_reducible repeat (first | refine blk_drewN ?_ _ | refine blk_drew ?_ | refine blk_alloc ?_ _)); refine blk_put (cs := #[.int .i64 0, .int .i64 0, .int .i64 0]) ?_ 0 _ rfl; (with_reducible repeat (first | refine blk_drewN ?_ _ | refine blk_drew ?_ | refine blk_alloc ?_ _)); exact BK109.out) Try.underlying24 rfl (by kernel_rfl)) rfl ?_
        exact ⟨by first | rfl | (simp [errW_none, errW_some] <;> rfl) | (simp only [← hji2, ← hji3]; first | rfl | (simp [errW_none, errW_some] <;> rfl)) | (simp [*, errW_none, errW_some] <;> rfl), by repeat (first | (with_reducible first | exact HB.out | apply below_alloc | apply pw_below_drewN | apply below_drew1 | refine below_set ?_ GE109.out | refine below_set ?_ GE110.out) | exact HB.out)⟩

/-! ### civil_ahead: function 23 -/
def civil_ahead.f (a0 : Int) : Option (Int) := some (wrap64 ((wrap64 ((wrap64 ((wrap64 ((wrap64 (a0 - 1)) * 365)) + (wrap64 (Int.tdiv (wrap64 (a0 - 1)) 4)))) - (wrap64 (Int.tdiv (wrap64 (a0 - 1)) 100)))) + (wrap64 (Int.tdiv (wrap64 (a0 - 1)) 400))))
set_option maxHeartbeats 8000000 in
set_option maxRecDepth 100000 in
theorem civil_ahead.calls (a0 : Int) (r : Int) (w : World) (h : civil_ahead.f a0 = some r) :
    Calls Try.prog 23 #[.int .i64 a0] w fun e w' => e = .returned (.int .i64 r) ∧ Drawn0 w w' := by
  have H : (some (wrap64 ((wrap64 ((wrap64 ((wrap64 ((wrap64 (a0 - 1)) * 365)) + (wrap64 (Int.tdiv (wrap64 (a0 - 1)) 4)))) - (wrap64 (Int.tdiv (wrap64 (a0 - 1)) 100)))) + (wrap64 (Int.tdiv (wrap64 (a0 - 1)) 400))))) = some r := h
  clear h
  obtain rfl := Option.some.inj H
  go_enter Try.func23, Try.ntmps23
  go_wp2
  go_ret
  exact ⟨by first | rfl | (simp; done) | (simp [*]; done), by repeat (first | exact Drawn0.refl _ | apply Drawn0.step)⟩

/-! ### civil_count: function 21 -/
def civil_count.f (a0 : Int) (a1 : Int) : Option (Int) := if a1 = 1 then ((civil_ahead.f 1904).bind fun t113 => (some (wrap64 (t113 + a0)))) else (if a0 > 60 then ((civil_ahead.f 1900).bind fun t114 => (some (wrap64 ((wrap64 (t114 + (wrap64 (a0 - 1)))) - 1)))) else ((civil_ahead.f 1900).bind fun t115 => (some (wrap64 ((wrap64 (t115 + a0)) - 1)))))
set_option maxHeartbeats 8000000 in
set_option maxRecDepth 100000 in
theorem civil_count.calls (a0 : Int) (a1 : Int) (r : Int) (w : World) (h : civil_count.f a0 a1 = some r) :
    Calls Try.prog 21 #[.int .i64 a0, .int .i64 a1] w fun e w' => e = .returned (.int .i64 r) ∧ Drawn0 w w' := by
  have H : (if a1 = 1 then ((civil_ahead.f 1904).bind fun t113 => (some (wrap64 (t113 + a0)))) else (if a0 > 60 then ((civil_ahead.f 1900).bind fun t114 => (some (wrap64 ((wrap64 (t114 + (wrap64 (a0 - 1)))) - 1)))) else ((civil_ahead.f 1900).bind fun t115 => (some (wrap64 ((wrap64 (t115 + a0)) - 1)))))) = some r := h
  clear h
  by_cases c3 : a1 = 1
  · rw [if_pos c3] at H
    have c3b0 : (a1 == 1) = true := beq_iff_eq.mpr c3
    have c3b1 : (a1 != 1) = false := bne_eq_false_iff_eq.mpr c3
    clear c3
    replace H := Option.bind_eq_some_iff.mp H
    obtain ⟨t113, A40, H⟩ := H
    replace H : (some (wrap64 (t113 + a0))) = some r := H
    have A4 := Aside0.mk A40
    clear A40
    obtain rfl := Option.some.inj H
    go_enter Try.func21, Try.ntmps21
    go_wp2_with (first | ((with_reducible refine gate_callee (f := 23) rfl ?_); refine goesL_ (some 7) rfl rfl Try.func23 (by kernel_rfl) rfl #[.int .i64 1904] rfl (by (try simp only [List.map_toArray, List.map_cons, List.map_nil]); first | done | rfl | (simp only [List.length_drop, List.length_take]; rfl)) ?_; (with_reducible refine (civil_ahead.calls 1904 t113 _ A4.out).mono ?_); rintro e w' ⟨rfl, ⟨nd, rfl⟩⟩; refine ⟨_, rfl, ?_⟩))
    go_ret
    exact ⟨by first | rfl | (simp; done) | (simp [*]; done), by repeat (first | exact Drawn0.refl _ | apply Drawn0.step)⟩
  · rw [if_neg c3] at H
    have c3b0 : (a1 == 1) = false := beq_eq_false_iff_ne.mpr c3
    have c3b1 : (a1 != 1) = true := bne_iff_ne.mpr c3
    by_cases c5 : a0 > 60
    · rw [if_pos c5] at H
      have c5b0 : decide (60 < a0) = true := decide_eq_true c5
      clear c5
      replace H := Option.bind_eq_some_iff.mp H
      obtain ⟨t114, A60, H⟩ := H
      replace H : (some (wrap64 ((wrap64 (t114 + (wrap64 (a0 - 1)))) - 1))) = some r := H
      have A6 := Aside0.mk A60
      clear A60
      obtain rfl := Option.some.inj H
      go_enter Try.func21, Try.ntmps21
      go_wp2_with (first | ((with_reducible refine gate_callee (f := 23) rfl ?_); refine goesL_ (some 14) rfl rfl Try.func23 (by kernel_rfl) rfl #[.int .i64 1900] rfl (by (try simp only [List.map_toArray, List.map_cons, List.map_nil]); first | done | rfl | (simp only [List.length_drop, List.length_take]; rfl)) ?_; (with_reducible refine (civil_ahead.calls 1900 t114 _ A6.out).mono ?_); rintro e w' ⟨rfl, ⟨nd, rfl⟩⟩; refine ⟨_, rfl, ?_⟩))
      go_ret
      exact ⟨by first | rfl | (simp; done) | (simp [*]; done), by repeat (first | exact Drawn0.refl _ | apply Drawn0.step)⟩
    · rw [if_neg c5] at H
      have c5b0 : decide (60 < a0) = false := decide_eq_false c5
      clear c5
      replace H := Option.bind_eq_some_iff.mp H
      obtain ⟨t115, A70, H⟩ := H
      replace H : (some (wrap64 ((wrap64 (t115 + a0)) - 1))) = some r := H
      have A7 := Aside0.mk A70
      clear A70
      obtain rfl := Option.some.inj H
      go_enter Try.func21, Try.ntmps21
      go_wp2_with (first | ((with_reducible refine gate_callee (f := 23) rfl ?_); refine goesL_ (some 14) rfl rfl Try.func23 (by kernel_rfl) rfl #[.int .i64 1900] rfl (by (try simp only [List.map_toArray, List.map_cons, List.map_nil]); first | done | rfl | (simp only [List.length_drop, List.length_take]; rfl)) ?_; (with_reducible refine (civil_ahead.calls 1900 t115 _ A7.out).mono ?_); rintro e w' ⟨rfl, ⟨nd, rfl⟩⟩; refine ⟨_, rfl, ?_⟩))
      go_ret
      exact ⟨by first | rfl | (simp; done) | (simp [*]; done), by repeat (first | exact Drawn0.refl _ | apply Drawn0.step)⟩

/-! ### civil_Of: function 8 -/
def civil_Of.j0 : Nat → Int → Int → Bool → Option (Int × Int × Int × Bool)
  | 0, _, _, _ => none
  | k + 1, x0, x1, x15 => if x15 = true then (some (0, 0, 0, false)) else ((civil_odd.f x0 x1).bind fun bt118 => (if bt118.2.2.2 = true then (some (bt118.1, bt118.2.1, bt118.2.2.1, true)) else ((civil_count.f x0 x1).bind fun t123 => ((civil_day.f k t123).bind fun bt124 => (some (bt124.1, bt124.2.1, bt124.2.2, true))))))
def civil_Of.f (k : Nat) (a0 : Int) (a1 : Int) : Option (Int × Int × Int × Bool) := if a0 < 0 then (civil_Of.j0 k a0 a1 true) else ((civil_last.f a1).bind fun t117 => (civil_Of.j0 k a0 a1 (decide (a0 > t117))))
theorem civil_Of.mono_l : ∀ k, (∀ y0 y1 y2, LeO (civil_Of.j0 k y0 y1 y2) (civil_Of.j0 (k + 1) y0 y1 y2))
  | 0 => fun _ _ _ r h => by simp [civil_Of.j0] at h
  | k + 1 => by
    have ih0 := civil_Of.mono_l k
    · intro y0 y1 y2
      unfold civil_Of.j0
      repeat' first
      | (with_reducible exact ih0 _ _ _)
      | (with_reducible exact civil_day.mono _ _)
      | (with_reducible exact LeO.refl _)
      | (with_reducible exact LeO.none _)
      | (with_reducible refine LeO.ite ?_ ?_)
      | (with_reducible refine LeO.bind ?_ (fun _ => ?_))
      | exact ih0 _ _ _
      | exact civil_day.mono _ _
      | exact LeO.none _
      | refine LeO.ite ?_ ?_
      | refine LeO.bind ?_ (fun _ => ?_)
theorem civil_Of.mono : ∀ a0 a1 k, LeO (civil_Of.f k a0 a1) (civil_Of.f (k + 1) a0 a1) := by
  intro a0 a1 k
  have ih0 := civil_Of.mono_l k
  unfold civil_Of.f
  repeat' first
      | (with_reducible exact ih0 _ _ _)
      | (with_reducible exact civil_day.mono _ _)
      | (with_reducible exact LeO.refl _)
      | (with_reducible exact LeO.none _)
      | (with_reducible refine LeO.ite ?_ ?_)
      | (with_reducible refine LeO.bind ?_ (fun _ => ?_))
      | exact ih0 _ _ _
      | exact civil_day.mono _ _
      | exact LeO.none _
      | refine LeO.ite ?_ ?_
      | refine LeO.bind ?_ (fun _ => ?_)
set_option maxHeartbeats 8000000 in
set_option maxRecDepth 100000 in
theorem civil_Of.calls (k : Nat) (a0 : Int) (a1 : Int) (r1 : Int) (r2 : Int) (r3 : Int) (r4 : Bool) (w : World) (h : civil_Of.f k a0 a1 = some (r1, r2, r3, r4)) :
    Calls Try.prog 8 #[.int .i64 a0, .int .i64 a1] w fun e w' => e = .returned (.tuple #[.agg #[.int .i64 r1, .int .i64 r2, .int .i64 r3], .bool r4]) ∧ Below w.heap.size w w' := by
  have hu24 := Try.underlying24
  have HB := Aside0.mk (Below.refl w.heap.size w)
  have H : (if a0 < 0 then (civil_Of.j0 k a0 a1 true) else ((civil_last.f a1).bind fun t117 => (civil_Of.j0 k a0 a1 (decide (a0 > t117))))) = some (r1, r2, r3, r4) := h
  clear h
  have HC3 := Aside0.mk H
  clear H
  go_enter Try.func8, Try.ntmps8
  go_upto_region 1 with (first | ((with_reducible refine gate_dst (N := 4) rfl ?_); refine box_event ?hg (N := 4) ?hd (cs := #[.int .i64 0, .int .i64 0, .int .i64 0]) (t := 24) ?hr ?_; (case hd => rfl); (case hg => rfl); (case hr => first | (go_simp; done) | (go_simp; rfl)); intro gb116 hg w4 hbox hb; have n0_ := Aside0.mk (below_step (by repeat (first | (with_reducible first | exact HB.out | apply below_alloc | apply pw_below_drewN | apply below_drew1) | exact HB.out)) hb); have n1_ := Aside0.mk (hbox); have n2_ := Aside0.mk ((by rw [hg]; exact (below_size (by repeat (first | (with_reducible first | exact HB.out | apply below_alloc | apply pw_below_drewN | apply below_drew1) | exact HB.out))) : w.heap.size ≤ gb116)); have n3_ := Aside0.mk ((by rw [hg]; exact (below_size (by repeat (first | (with_reducible first | exact HB.out | apply below_alloc | apply pw_below_drewN | apply below_drew1) | exact HB.out))) : w.heap.size ≤ gb116)); clear HB; have HB := n0_; have BK116 := n1_; have GW116 := n2_; have GE116 := n3_; clear n0_ n1_ n2_ n3_; clear hb hbox hg))
  (try simp only [Act.put, List.setIfInBounds_toArray, List.set_cons_zero, List.set_cons_succ])
  go_cut [15] (fun v15 wc => ∃ (kq : Nat) (x15_2 : Bool), v15 = .bool x15_2 ∧ Aside0 (civil_Of.j0 kq a0 a1 x15_2 = some (r1, r2, r3, r4)) ∧ Aside0 (kq ≤ k) ∧ Aside0 (wc.heap[gb116]? = some (.cells #[.int .i64 0, .int .i64 0, .int .i64 0] 24 (0, 0))) ∧ Aside0 (Below w.heap.size w wc))
  case first =>
    have H := HC3.out
    clear HC3
    by_cases c5 : a0 < 0
    · rw [if_pos c5] at H
      have c5b0 : decide (a0 < 0) = true := decide_eq_true c5
      clear c5
      (first | rw [c5b0] | (simp only [i64_w, i32_w]; rw [c5b0]) | skip)
      have H' := Aside0.mk H
      clear H
      go_wp2
      go_meet
      case rel => exact ⟨_, (true), (by first | rfl | (simp; done) | (simp [*]; done)), H', ⟨by first | omega | exact Nat.le_refl _⟩, ⟨by (with_reducible repeat (first | refine blk_drewN ?_ _ | refine blk_drew ?_ | refine blk_alloc ?_ _)); exact BK116.out⟩, ⟨by repeat (first | (with_reducible first | exact HB.out | apply below_alloc | apply pw_below_drewN | apply below_drew1 | refine below_set ?_ GE116.out) | exact HB.out)⟩⟩
    · rw [if_neg c5] at H
      have c5b0 : decide (a0 < 0) = false := decide_eq_false c5
      clear c5
      (first | rw [c5b0] | (simp only [i64_w, i32_w]; rw [c5b0]) | skip)
      replace H := Option.bind_eq_some_iff.mp H
      obtain ⟨t117, A60, H⟩ := H
      replace H : (civil_Of.j0 k a0 a1 (decide (a0 > t117))) = some (r1, r2, r3, r4) := H
      have A6 := Aside0.mk A60
      clear A60
      have H' := Aside0.mk H
      clear H
      go_wp2_with (first | (go_at_call 18; (with_reducible refine (civil_last.calls a1 t117 _ A6.out).mono ?_); rintro e w' ⟨rfl, ⟨nd, rfl⟩⟩))
      go_meet
      case rel => exact ⟨_, (decide (a0 > t117)), (by first | rfl | (simp; done) | (simp [*]; done)), H', ⟨by first | omega | exact Nat.le_refl _⟩, ⟨by (with_reducible repeat (first | refine blk_drewN ?_ _ | refine blk_drew ?_ | refine blk_alloc ?_ _)); exact BK116.out⟩, ⟨by repeat (first | (with_reducible first | exact HB.out | apply below_alloc | apply pw_below_drewN | apply below_drew1 | refine below_set ?_ GE116.out) | exact HB.out)⟩⟩
  case rest =>
    clear HC3
    try clear p2
    try clear c5
    try clear c5b0
    obtain ⟨kq, x15_2, rfl, HA, HJ2, BK116, HB⟩ := hcut
    cases kq with
    | zero => exact absurd HA.out (by simp [civil_Of.j0])
    | succ kj2 =>
      have H := HA.out
      clear HA
      simp only [civil_Of.j0] at H
      by_cases c7 : x15_2 = true
      · subst c7
        have H1 : (some (0, 0, 0, false)) = some (r1, r2, r3, r4) := by rw [if_pos rfl] at H; exact H
        clear H
        have H := H1
        clear H1
        simp only [Option.some.injEq, Prod.mk.injEq] at H
        obtain ⟨rfl, rfl, rfl, rfl⟩ := H
        have hcz8_0 : wc.cell? ⟨gb116, 0, none⟩ = some (.int .i64 0) := (blk_cell BK116.out 0).trans rfl
        have hcz8_1 : wc.cell? ⟨gb116, 1, none⟩ = some (.int .i64 0) := (blk_cell BK116.out 1).trans rfl
        have hcz8_2 : wc.cell? ⟨gb116, 2, none⟩ = some (.int .i64 0) := (blk_cell BK116.out 2).trans rfl
        have hfz8_0 := blk_frozen BK116.out 0
        have hfz8_1 := blk_frozen BK116.out 1
        have hfz8_2 := blk_frozen BK116.out 2
        go_wp2
        refine bodyPost_ret (results_ct rfl _ _ gb116 24 #[.int .i64 0, .int .i64 0, .int .i64 0] (0, 0) _ rfl (by (with_reducible repeat (first | refine blk_drewN ?_ _ | refine blk_drew ?_ | refine blk_alloc ?_ _)); refine blk_put (cs := #[.int .i64 0, .int .i64 0, .int .i64 0]) ?_ 2 _ rfl; (with_reducible repeat (first | refine blk_drewN ?_ _ | refine blk_drew ?_ | refine blk_alloc ?_ _)); refine blk_put (cs := #[.int .i64 0, .int .i64 0, .int .i64 0]) ?_ 1 _ rfl; (with_reducible repeat (first | refine blk_drewN ?_ _ | refine blk_drew ?_ | refine blk_alloc ?_ _)); refine blk_put (cs := #[.int .i64 0, .int .i64 0, .int .i64 0]) ?_ 0 _ rfl; (with_reducible repeat (first | refine blk_drewN ?_ _ | refine blk_drew ?_ | refine blk_alloc ?_ _)); exact BK116.out) Try.underlying24 rfl (by kernel_rfl)) rfl ?_
        exact ⟨by first | rfl | (simp [errW_none, errW_some] <;> rfl) | (simp [*, errW_none, errW_some] <;> rfl), by repeat (first | (with_reducible first | exact HB.out | apply below_alloc | apply pw_below_drewN | apply below_drew1 | refine below_set ?_ GE116.out) | exact HB.out)⟩
      · replace c7 := Bool.eq_false_iff.mpr c7
        subst c7
        have H1 : ((civil_odd.f a0 a1).bind fun bt118 => (if bt118.2.2.2 = true then (some (bt118.1, bt118.2.1, bt118.2.2.1, true)) else ((civil_count.f a0 a1).bind fun t123 => ((civil_day.f kj2 t123).bind fun bt124 => (some (bt124.1, bt124.2.1, bt124.2.2, true)))))) = some (r1, r2, r3, r4) := by rw [if_neg (show ¬ (false = true) by decide)] at H; exact H
        clear H
        have H := H1
        clear H1
        replace H := Option.bind_eq_some_iff.mp H
        obtain ⟨⟨t118, t119, t120, t121⟩, A90, H⟩ := H
        replace H : (if t121 = true then (some (t118, t119, t120, true)) else ((civil_count.f a0 a1).bind fun t123 => ((civil_day.f kj2 t123).bind fun bt124 => (some (bt124.1, bt124.2.1, bt124.2.2, true))))) = some (r1, r2, r3, r4) := H
        have A9 := Aside0.mk A90
        clear A90
        by_cases c10 : t121 = true
        · subst c10
          have H1 : (some (t118, t119, t120, true)) = some (r1, r2, r3, r4) := by rw [if_pos rfl] at H; exact H
          clear H
          have H := H1
          clear H1
          simp only [Option.some.injEq, Prod.mk.injEq] at H
          obtain ⟨rfl, rfl, rfl, rfl⟩ := H
          go_wp2_with (first | ((with_reducible refine gate_callee (f := 19) rfl ?_); refine goesL_ (some 20) rfl rfl Try.func19 (by kernel_rfl) rfl #[.int .i64 a0, .int .i64 a1] rfl (by (try simp only [List.map_toArray, List.map_cons, List.map_nil]); first | done | rfl | (simp only [List.length_drop, List.length_take]; rfl)) ?_; (with_reducible refine (civil_odd.calls a0 a1 t118 t119 t120 true _ A9.out).mono ?_); rintro e w11 ⟨rfl, hb⟩; refine ⟨_, rfl, ?_⟩; have n0_ := Aside0.mk (blk_below (g := gb116) (o := .cells #[.int .i64 0, .int .i64 0, .int .i64 0] 24 (0, 0)) (by (with_reducible repeat (first | refine blk_drewN ?_ _ | refine blk_drew ?_ | refine blk_alloc ?_ _)); exact BK116.out) hb); have n1_ := Aside0.mk (below_step (by repeat (first | (with_reducible first | exact HB.out | apply below_alloc | apply pw_below_drewN | apply below_drew1 | refine below_set ?_ GE116.out) | exact HB.out)) hb); clear BK116; clear HB; have BK116 := n0_; have HB := n1_; clear n0_ n1_; (try clear hb); (try clear hb2); (try clear hk); (try clear hi)) | ((with_reducible refine gate_dst (N := 6) rfl ?_); refine box_event ?hg (N := 6) ?hd (cs := #[.int .i64 0, .int .i64 0, .int .i64 0]) (t := 24) ?hr ?_; (case hd => rfl); (case hg => rfl); (case hr => first | (go_simp; done) | (go_simp; rfl)); intro gb122 hg w12 hbox hb; have n0_ := Aside0.mk (blk_below (g := gb116) (o := .cells #[.int .i64 0, .int .i64 0, .int .i64 0] 24 (0, 0)) (by (with_reducible repeat (first | refine blk_drewN ?_ _ | refine blk_drew ?_ | refine blk_alloc ?_ _)); exact BK116.out) hb); have n1_ := Aside0.mk (below_step (by repeat (first | (with_reducible first | exact HB.out | apply below_alloc | apply pw_below_drewN | apply below_drew1 | refine below_set ?_ GE116.out) | exact HB.out)) hb); have n2_ := Aside0.mk (hbox); have n3_ := Aside0.mk ((by rw [hg]; exact (below_size (by repeat (first | (with_reducible first | exact HB.out | apply below_alloc | apply pw_below_drewN | apply below_drew1 | refine below_set ?_ GE116.out) | exact HB.out))) : w.heap.size ≤ gb122)); have n4_ := Aside0.mk ((by rw [hg]; exact (below_size (by repeat (first | (with_reducible first | exact HB.out | apply below_alloc | apply pw_below_drewN | apply below_drew1 | refine below_set ?_ GE116.out) | exact HB.out))) : w.heap.size ≤ gb122)); have n5_ := Aside0.mk ((by rw [hg]; exact Nat.ne_of_lt (blk_lt (g := gb116) (o := .cells #[.int .i64 0, .int .i64 0, .int .i64 0] 24 (0, 0)) (by (with_reducible repeat (first | refine blk_drewN ?_ _ | refine blk_drew ?_ | refine blk_alloc ?_ _)); exact BK116.out)) : gb116 ≠ gb122)); have n6_ := Aside0.mk ((by rw [hg]; exact Nat.ne_of_gt (blk_lt (g := gb116) (o := .cells #[.int .i64 0, .int .i64 0, .int .i64 0] 24 (0, 0)) (by (with_reducible repeat (first | refine blk_drewN ?_ _ | refine blk_drew ?_ | refine blk_alloc ?_ _)); exact BK116.out)) : gb122 ≠ gb116)); clear BK116; clear HB; have BK116 := n0_; have HB := n1_; have BK122 := n2_; have GW122 := n3_; have GE122 := n4_; have NB116_122 := n5_; have NB122_116 := n6_; clear n0_ n1_ n2_ n3_ n4_ n5_ n6_; clear hb hbox hg; have hnb13 := NB122_116.out; have hnc13 := NB116_122.out; have hcz14_0 : w12.cell? ⟨gb122, 0, none⟩ = some (.int .i64 0) := (blk_cell BK122.out 0).trans rfl; have hcz14_1 : w12.cell? ⟨gb122, 1, none⟩ = some (.int .i64 0) := (blk_cell BK122.out 1).trans rfl; have hcz14_2 : w12.cell? ⟨gb122, 2, none⟩ = some (.int .i64 0) := (blk_cell BK122.out 2).trans rfl; have hfz14_0 := blk_frozen BK122.out 0; have hfz14_1 := blk_frozen BK122.out 1; have hfz14_2 := blk_frozen BK122.out 2; have hcz15_0 : w12.cell? ⟨gb116, 0, none⟩ = some (.int .i64 0) := (blk_cell BK116.out 0).trans rfl; have hcz15_1 : w12.cell? ⟨gb116, 1, none⟩ = some (.int .i64 0) := (blk_cell BK116.out 1).trans rfl; have hcz15_2 : w12.cell? ⟨gb116, 2, none⟩ = some (.int .i64 0) := (blk_cell BK116.out 2).trans rfl; have hfz15_0 := blk_frozen BK116.out 0; have hfz15_1 := blk_frozen BK116.out 1; have hfz15_2 := blk_frozen BK116.out 2))
          refine bodyPost_ret (results_ct rfl _ _ gb116 24 #[.int .i64 t118, .int .i64 t119, .int .i64 t120] (0, 0) _ rfl (by (with_reducible repeat (first | refine blk_drewN ?_ _ | refine blk_drew ?_ | refine blk_alloc ?_ _)); refine blk_put (cs := #[.int .i64 t118, .int .i64 t119, .int .i64 0]) ?_ 2 _ rfl; (with_reducible repeat (first | refine blk_drewN ?_ _ | refine blk_drew ?_ | refine blk_alloc ?_ _)); refine blk_put (cs := #[.int .i64 t118, .int .i64 0, .int .i64 0]) ?_ 1 _ rfl; (with_reducible repeat (first | refine blk_drewN ?_ _ | refine blk_drew ?_ | refine blk_alloc ?_ _)); refine blk_put (cs := #[.int .i64 0, .int .i64 0, .int .i64 0]) ?_ 0 _ rfl; (with_reducible repeat (first | refine blk_drewN ?_ _ | refine blk_drew ?_ | refine blk_alloc ?_ _)); refine blk_far ?_ NB116_122.out _; (with_reducible repeat (first | refine blk_drewN ?_ _ | refine blk_drew ?_ | refine blk_alloc ?_ _)); refine blk_far ?_ NB116_122.out _; (with_reducible repeat (first | refine blk_drewN ?_ _ | refine blk_drew ?_ | refine blk_alloc ?_ _)); refine blk_far ?_ NB116_122.out _; (with_reducible repeat (first | refine blk_drewN ?_ _ | refine blk_drew ?_ | refine blk_alloc ?_ _)); exact BK116.out) Try.underlying24 rfl (by kernel_rfl)) rfl ?_
          exact ⟨by first | rfl | (simp [errW_none, errW_some] <;> rfl) | (simp [*, errW_none, errW_some] <;> rfl), by repeat (first | (with_reducible first | exact HB.out | apply below_alloc | apply pw_below_drewN | apply below_drew1 | refine below_set ?_ GE116.out | refine below_set ?_ GE122.out) | exact HB.out)⟩
        · replace c10 := Bool.eq_false_iff.mpr c10
          subst c10
          have H1 : ((civil_count.f a0 a1).bind fun t123 => ((civil_day.f kj2 t123).bind fun bt124 => (some (bt124.1, bt124.2.1, bt124.2.2, true)))) = some (r1, r2, r3, r4) := by rw [if_neg (show ¬ (false = true) by decide)] at H; exact H
          clear H
          have H := H1
          clear H1
          replace H := Option.bind_eq_some_iff.mp H
          obtain ⟨t123, A160, H⟩ := H
          replace H : ((civil_day.f kj2 t123).bind fun bt124 => (some (bt124.1, bt124.2.1, bt124.2.2, true))) = some (r1, r2, r3, r4) := H
          have A16 := Aside0.mk A160
          clear A160
          replace H := Option.bind_eq_some_iff.mp H
          obtain ⟨⟨t124, t125, t126⟩, A170, H⟩ := H
          replace H : (some (t124, t125, t126, true)) = some (r1, r2, r3, r4) := H
          have A17 := Aside0.mk A170
          clear A170
          simp only [Option.some.injEq, Prod.mk.injEq] at H
          obtain ⟨rfl, rfl, rfl, rfl⟩ := H
          go_wp2_with (first | ((with_reducible refine gate_callee (f := 19) rfl ?_); refine goesL_ (some 20) rfl rfl Try.func19 (by kernel_rfl) rfl #[.int .i64 a0, .int .i64 a1] rfl (by (try simp only [List.map_toArray, List.map_cons, List.map_nil]); first | done | rfl | (simp only [List.length_drop, List.length_take]; rfl)) ?_; (with_reducible refine (civil_odd.calls a0 a1 t118 t119 t120 false _ A9.out).mono ?_); rintro e w18 ⟨rfl, hb⟩; refine ⟨_, rfl, ?_⟩; have n0_ := Aside0.mk (blk_below (g := gb116) (o := .cells #[.int .i64 0, .int .i64 0, .int .i64 0] 24 (0, 0)) (by (with_reducible repeat (first | refine blk_drewN ?_ _ | refine blk_drew ?_ | refine blk_alloc ?_ _)); exact BK116.out) hb); have n1_ := Aside0.mk (below_step (by repeat (first | (with_reducible first | exact HB.out | apply below_alloc | apply pw_below_drewN | apply below_drew1 | refine below_set ?_ GE116.out) | exact HB.out)) hb); clear BK116; clear HB; have BK116 := n0_; have HB := n1_; clear n0_ n1_; (try clear hb); (try clear hb2); (try clear hk); (try clear hi)) | ((with_reducible refine gate_dst (N := 6) rfl ?_); refine box_event ?hg (N := 6) ?hd (cs := #[.int .i64 0, .int .i64 0, .int .i64 0]) (t := 24) ?hr ?_; (case hd => rfl); (case hg => rfl); (case hr => first | (go_simp; done) | (go_simp; rfl)); intro gb122 hg w19 hbox hb; have n0_ := Aside0.mk (blk_below (g := gb116) (o := .cells #[.int .i64 0, .int .i64 0, .int .i64 0] 24 (0, 0)) (by (with_reducible repeat (first | refine blk_drewN ?_ _ | refine blk_drew ?_ | refine blk_alloc ?_ _)); exact BK116.out) hb); have n1_ := Aside0.mk (below_step (by repeat (first | (with_reducible first | exact HB.out | apply below_alloc | apply pw_below_drewN | apply below_drew1 | refine below_set ?_ GE116.out) | exact HB.out)) hb); have n2_ := Aside0.mk (hbox); have n3_ := Aside0.mk ((by rw [hg]; exact (below_size (by repeat (first | (with_reducible first | exact HB.out | apply below_alloc | apply pw_below_drewN | apply below_drew1 | refine below_set ?_ GE116.out) | exact HB.out))) : w.heap.size ≤ gb122)); have n4_ := Aside0.mk ((by rw [hg]; exact (below_size (by repeat (first | (with_reducible first | exact HB.out | apply below_alloc | apply pw_below_drewN | apply below_drew1 | refine below_set ?_ GE116.out) | exact HB.out))) : w.heap.size ≤ gb122)); have n5_ := Aside0.mk ((by rw [hg]; exact Nat.ne_of_lt (blk_lt (g := gb116) (o := .cells #[.int .i64 0, .int .i64 0, .int .i64 0] 24 (0, 0)) (by (with_reducible repeat (first | refine blk_drewN ?_ _ | refine blk_drew ?_ | refine blk_alloc ?_ _)); exact BK116.out)) : gb116 ≠ gb122)); have n6_ := Aside0.mk ((by rw [hg]; exact Nat.ne_of_gt (blk_lt (g := gb116) (o := .cells #[.int .i64 0, .int .i64 0, .int .i64 0] 24 (0, 0)) (by (with_reducible repeat (first | refine blk_drewN ?_ _ | refine blk_drew ?_ | refine blk_alloc ?_ _)); exact BK116.out)) : gb122 ≠ gb116)); clear BK116; clear HB; have BK116 := n0_; have HB := n1_; have BK122 := n2_; have GW122 := n3_; have GE122 := n4_; have NB116_122 := n5_; have NB122_116 := n6_; clear n0_ n1_ n2_ n3_ n4_ n5_ n6_; clear hb hbox hg; have hnb20 := NB122_116.out; have hnc20 := NB116_122.out; have hcz21_0 : w19.cell? ⟨gb122, 0, none⟩ = some (.int .i64 0) := (blk_cell BK122.out 0).trans rfl; have hcz21_1 : w19.cell? ⟨gb122, 1, none⟩ = some (.int .i64 0) := (blk_cell BK122.out 1).trans rfl; have hcz21_2 : w19.cell? ⟨gb122, 2, none⟩ = some (.int .i64 0) := (blk_cell BK122.out 2).trans rfl; have hfz21_0 := blk_frozen BK122.out 0; have hfz21_1 := blk_frozen BK122.out 1; have hfz21_2 := blk_frozen BK122.out 2) | ((with_reducible refine gate_callee (f := 21) rfl ?_); refine goesL_ (some 27) rfl rfl Try.func21 (by kernel_rfl) rfl #[.int .i64 a0, .int .i64 a1] rfl (by (try simp only [List.map_toArray, List.map_cons, List.map_nil]); first | done | rfl | (simp only [List.length_drop, List.length_take]; rfl)) ?_; (with_reducible refine (civil_count.calls a0 a1 t123 _ A16.out).mono ?_); rintro e w' ⟨rfl, ⟨nd, rfl⟩⟩; refine ⟨_, rfl, ?_⟩) | ((with_reducible refine gate_callee (f := 20) rfl ?_); refine goesL_ (some 28) rfl rfl Try.func20 (by kernel_rfl) rfl #[.int .i64 t123] rfl (by (try simp only [List.map_toArray, List.map_cons, List.map_nil]); first | done | rfl | (simp only [List.length_drop, List.length_take]; rfl)) ?_; (with_reducible refine (civil_day.calls kj2 t123 t124 t125 t126 _ A17.out).mono ?_); rintro e w22 ⟨rfl, hb⟩; refine ⟨_, rfl, ?_⟩; have n0_ := Aside0.mk (blk_below (g := gb116) (o := .cells #[.int .i64 0, .int .i64 0, .int .i64 0] 24 (0, 0)) (by (with_reducible repeat (first | refine blk_drewN ?_ _ | refine blk_drew ?_ | refine blk_alloc ?_ _)); refine blk_far ?_ NB116_122.out _; (with_reducible repeat (first | refine blk_drewN ?_ _ | refine blk_drew ?_ | refine blk_alloc ?_ _)); refine blk_far ?_ NB116_122.out _; (with_reducible repeat (first | refine blk_drewN ?_ _ | refine blk_drew ?_ | refine blk_alloc ?_ _)); refine blk_far ?_ NB116_122.out _; (with_reducible repeat (first | refine blk_drewN ?_ _ | refine blk_drew ?_ | refine blk_alloc ?_ _)); exact BK116.out) hb); have n1_ := Aside0.mk (blk_below (g := gb122) (o := .cells #[.int .i64 t118, .int .i64 t119, .int .i64 t120] 24 (0, 0)) (by (with_reducible repeat (first | refine blk_drewN ?_ _ | refine blk_drew ?_ | refine blk_alloc ?_ _)); refine blk_put (cs := #[.int .i64 t118, .int .i64 t119, .int .i64 0]) ?_ 2 _ rfl; (with_reducible repeat (first | refine blk_drewN ?_ _ | refine blk_drew ?_ | refine blk_alloc ?_ _)); refine blk_put (cs := #[.int .i64 t118, .int .i64 0, .int .i64 0]) ?_ 1 _ rfl; (with_reducible repeat (first | refine blk_drewN ?_ _ | refine blk_drew ?_ | refine blk_alloc ?_ _)); refine blk_put (cs := #[.int .i64 0, .int .i64 0, .int .i64 0]) ?_ 0 _ rfl; (with_reducible repeat (first | refine blk_drewN ?_ _ | refine blk_drew ?_ | refine blk_alloc ?_ _)); exact BK122.out) hb); have n2_ := Aside0.mk (below_step (by repeat (first | (with_reducible first | exact HB.out | apply below_alloc | apply pw_below_drewN | apply below_drew1 | refine below_set ?_ GE116.out | refine below_set ?_ GE122.out) | exact HB.out)) hb); clear BK116; clear BK122; clear HB; have BK116 := n0_; have BK122 := n1_; have HB := n2_; clear n0_ n1_ n2_; (try clear hb); (try clear hb2); (try clear hk); (try clear hi); have hcz23_0 : w22.cell? ⟨gb116, 0, none⟩ = some (.int .i64 0) := (blk_cell BK116.out 0).trans rfl; have hcz23_1 : w22.cell? ⟨gb116, 1, none⟩ = some (.int .i64 0) := (blk_cell BK116.out 1).trans rfl; have hcz23_2 : w22.cell? ⟨gb116, 2, none⟩ = some (.int .i64 0) := (blk_cell BK116.out 2).trans rfl; have hfz23_0 := blk_frozen BK116.out 0; have hfz23_1 := blk_frozen BK116.out 1; have hfz23_2 := blk_frozen BK116.out 2))
          refine bodyPost_ret (results_ct rfl _ _ gb116 24 #[.int .i64 t124, .int .i64 t125, .int .i64 t126] (0, 0) _ rfl (by (with_reducible repeat (first | refine blk_drewN ?_ _ | refine blk_drew ?_ | refine blk_alloc ?_ _)); refine blk_put (cs := #[.int .i64 t124, .int .i64 t125, .int .i64 0]) ?_ 2 _ rfl; (with_reducible repeat (first | refine blk_drewN ?_ _ | refine blk_drew ?_ | refine blk_alloc ?_ _)); refine blk_put (cs := #[.int .i64 t124, .int .i64 0, .int .i64 0]) ?_ 1 _ rfl; (with_reducible repeat (first | refine blk_drewN ?_ _ | refine blk_drew ?_ | refine blk_alloc ?_ _)); refine blk_put (cs := #[.int .i64 0, .int .i64 0, .int .i64 0]) ?_ 0 _ rfl; (with_reducible repeat (first | refine blk_drewN ?_ _ | refine blk_drew ?_ | refine blk_alloc ?_ _)); exact BK116.out) Try.underlying24 rfl (by kernel_rfl)) rfl ?_
          exact ⟨by first | rfl | (simp [errW_none, errW_some] <;> rfl) | (simp [*, errW_none, errW_some] <;> rfl), by repeat (first | (with_reducible first | exact HB.out | apply below_alloc | apply pw_below_drewN | apply below_drew1 | refine below_set ?_ GE116.out | refine below_set ?_ GE122.out) | exact HB.out)⟩

end Go.Proofs.Ytncgfmbogdhgbaa.QCivilSerials
