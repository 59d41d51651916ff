-- Written by a program of this session (wip/tools/print2.py) for one law: Lean checks it.
import Derived.Test.YtpefkehcibdjgaaDoorQTcdx0
import Derived.Test.YtpefkehcibdjgaaDoorQTcdx3
namespace Go.Proofs.YtpefkehcibdjgaaDoor.QTcd
open Go.RowKit Go.Proofs.YtpefkehcibdjgaaDoor.H Go.Proofs.YtpefkehcibdjgaaDoorW.PrintWords Go.Proofs.YtpefkehcibdjgaaDoorW.PrintLast Go.Proofs.YtpefkehcibdjgaaDoorW.PrintMore
attribute [local go_sem] max2_int min2_int max_two min_two max_three min_three max_four min_four   -- for this text's walks alone
set_option linter.unusedVariables false
set_option linter.unusedSimpArgs false

/-! ### token_lettered: function 46 -/
mutual
def token_lettered.l0 : Nat → ByteArray → List ByteArray → Int → Int → Option (Int × ByteArray × Int × Int × Int)
  | 0, _, _, _, _ => none
  | k + 1, x0, x8, x9, x10 => if x10 < x9 then (if 0 ≤ x10 then (if x10 < (x8.length : Int) then ((token_word.f x0 (rdOf ByteArray.empty x8 x10)).bind fun t151 => (if t151 = true then (some (15, rdOf ByteArray.empty x8 x10, 1, 0, ((rdOf ByteArray.empty x8 x10).size : Int))) else (token_lettered.l0 k x0 x8 x9 (wrap64 (x10 + 1))))) else (none)) else (none)) else ((token_word.f x0 (⟨#[71, 101, 110, 101, 114, 97, 108]⟩ : ByteArray)).bind fun t152 => (if t152 = true then (some (16, (⟨#[71, 101, 110, 101, 114, 97, 108]⟩ : ByteArray), 1, 0, 7)) else (if 0 < (x0.size : Int) then ((token_small.f (bt x0 0)).bind fun t153 => (if t153 = 101 then (if (x0.size : Int) > 1 then (if 1 < (x0.size : Int) then (if (bt x0 1) = 43 then (token_lettered.j1 k x0 t153 true) else (token_lettered.j1 k x0 t153 ((bt x0 1) == 45))) else (none)) else (token_lettered.j1 k x0 t153 false)) else (token_lettered.j1 k x0 t153 false))) else (none))))
def token_lettered.j1 : Nat → ByteArray → Int → Bool → Option (Int × ByteArray × Int × Int × Int)
  | 0, _, _, _ => none
  | k + 1, x0, x6, x44 => if x44 = true then (if 1 ≤ 2 then (if 2 ≤ (x0.size : Int) then (some (13, x0.extract 1 2, 1, 0, 2)) else (none)) else (none)) else ((strings_IndexByte.f (⟨#[121, 109, 100, 104, 115]⟩ : ByteArray) x6).bind fun t154 => (if t154 < 0 then (some (0, (⟨#[]⟩ : ByteArray), 0, 0, 0)) else (token_lettered.l1 k x0 x6 1)))
def token_lettered.l1 : Nat → ByteArray → Int → Int → Option (Int × ByteArray × Int × Int × Int)
  | 0, _, _, _ => none
  | k + 1, x0, x6, x7 => if x7 < (x0.size : Int) then (if 0 ≤ x7 then ((token_small.f (bt x0 x7)).bind fun t155 => (if t155 = x6 then (token_lettered.l1 k x0 x6 (wrap64 (x7 + 1))) else (some (14, strOfNums (([x6] : List Int)), x7, 0, x7)))) else (none)) else (some (14, strOfNums (([x6] : List Int)), x7, 0, x7))
end
def token_lettered.f (k : Nat) (a0 : ByteArray) : Option (Int × ByteArray × Int × Int × Int) := (some (([(⟨#[65, 77, 47, 80, 77]⟩ : ByteArray), (⟨#[65, 47, 80]⟩ : ByteArray)] : List ByteArray) : List ByteArray)).bind fun y147 => (token_lettered.l0 k a0 y147 (y147.length : Int) 0)
theorem token_lettered.mono_l : ∀ k, (∀ y0 y1 y2 y3, LeO (token_lettered.l0 k y0 y1 y2 y3) (token_lettered.l0 (k + 1) y0 y1 y2 y3)) ∧ (∀ y0 y1 y2, LeO (token_lettered.j1 k y0 y1 y2) (token_lettered.j1 (k + 1) y0 y1 y2)) ∧ (∀ y0 y1 y2, LeO (token_lettered.l1 k y0 y1 y2) (token_lettered.l1 (k + 1) y0 y1 y2))
  | 0 => ⟨fun _ _ _ _ r h => by simp [token_lettered.l0] at h, fun _ _ _ r h => by simp [token_lettered.j1] at h, fun _ _ _ r h => by simp [token_lettered.l1] at h⟩
  | k + 1 => by
    obtain ⟨ih0, ih1, ih2⟩ := token_lettered.mono_l k
    refine ⟨?_, ?_, ?_⟩
    · intro y0 y1 y2 y3
      unfold token_lettered.l0
      repeat' first
      | (with_reducible exact ih0 _ _ _ _)
      | (with_reducible exact ih1 _ _ _)
      | (with_reducible exact ih2 _ _ _)
      | (with_reducible exact LeO.refl _)
      | (with_reducible exact LeO.none _)
      | (with_reducible refine LeO.ite ?_ ?_)
      | (with_reducible refine LeO.bind ?_ (fun _ => ?_))
      | exact ih0 _ _ _ _
      | exact ih1 _ _ _
      | exact ih2 _ _ _
      | exact LeO.none _
      | refine LeO.ite ?_ ?_
      | refine LeO.bind ?_ (fun _ => ?_)
    · intro y0 y1 y2
      unfold token_lettered.j1
      repeat' first
      | (with_reducible exact ih0 _ _ _ _)
      | (with_reducible exact ih1 _ _ _)
      | (with_reducible exact ih2 _ _ _)
      | (with_reducible exact LeO.refl _)
      | (with_reducible exact LeO.none _)
      | (with_reducible refine LeO.ite ?_ ?_)
      | (with_reducible refine LeO.bind ?_ (fun _ => ?_))
      | exact ih0 _ _ _ _
      | exact ih1 _ _ _
      | exact ih2 _ _ _
      | exact LeO.none _
      | refine LeO.ite ?_ ?_
      | refine LeO.bind ?_ (fun _ => ?_)
    · intro y0 y1 y2
      unfold token_lettered.l1
      repeat' first
      | (with_reducible exact ih0 _ _ _ _)
      | (with_reducible exact ih1 _ _ _)
      | (with_reducible exact ih2 _ _ _)
      | (with_reducible exact LeO.refl _)
      | (with_reducible exact LeO.none _)
      | (with_reducible refine LeO.ite ?_ ?_)
      | (with_reducible refine LeO.bind ?_ (fun _ => ?_))
      | exact ih0 _ _ _ _
      | exact ih1 _ _ _
      | exact ih2 _ _ _
      | exact LeO.none _
      | refine LeO.ite ?_ ?_
      | refine LeO.bind ?_ (fun _ => ?_)
theorem token_lettered.mono : ∀ a0 k, LeO (token_lettered.f k a0) (token_lettered.f (k + 1) a0) := by
  intro a0 k
  obtain ⟨ih0, ih1, ih2⟩ := token_lettered.mono_l k
  unfold token_lettered.f
  repeat' first
      | (with_reducible exact ih0 _ _ _ _)
      | (with_reducible exact ih1 _ _ _)
      | (with_reducible exact ih2 _ _ _)
      | (with_reducible exact LeO.refl _)
      | (with_reducible exact LeO.none _)
      | (with_reducible refine LeO.ite ?_ ?_)
      | (with_reducible refine LeO.bind ?_ (fun _ => ?_))
      | exact ih0 _ _ _ _
      | exact ih1 _ _ _
      | exact ih2 _ _ _
      | exact LeO.none _
      | refine LeO.ite ?_ ?_
      | refine LeO.bind ?_ (fun _ => ?_)
set_option maxHeartbeats 8000000 in
set_option maxRecDepth 100000 in
theorem token_lettered.calls (k : Nat) (a0 : ByteArray) (r1 : Int) (r2 : ByteArray) (r3 : Int) (r4 : Int) (r5 : Int) (w : World) (h : token_lettered.f k a0 = some (r1, r2, r3, r4, r5)) (hLd : Laid w) :
    Calls Tryd.prog 46 #[.string a0] w fun e w' => e = .returned (.tuple #[.agg #[.int .i64 r1, .string r2, .int .i64 r3, .int .i64 r4], .int .i64 r5]) ∧ Below w.heap.size w w' := by
  have hu31 := Tryd.underlying31
  have HB := Aside0.mk (Below.refl w.heap.size w)
  have HLd := Aside0.mk hLd
  clear hLd
  have H : ((some (([(⟨#[65, 77, 47, 80, 77]⟩ : ByteArray), (⟨#[65, 47, 80]⟩ : ByteArray)] : List ByteArray) : List ByteArray)).bind fun y147 => (token_lettered.l0 k a0 y147 (y147.length : Int) 0)) = some (r1, r2, r3, r4, r5) := h
  clear h
  obtain ⟨y147, hy147⟩ : ∃ y_ : List ByteArray, y_ = (([(⟨#[65, 77, 47, 80, 77]⟩ : ByteArray), (⟨#[65, 47, 80]⟩ : ByteArray)] : List ByteArray)) := ⟨_, rfl⟩
  replace H : (token_lettered.l0 k a0 y147 (y147.length : Int) 0) = some (r1, r2, r3, r4, r5) := by first | (rw [hy147]; with_reducible exact H) | (have H2_ := (Option.bind_some _ _).symm.trans H; rw [hy147]; with_reducible exact H2_) | (have H2_ := (Option.bind_some _ _).symm.trans H; with_reducible exact H2_) | with_reducible exact H | (rw [hy147]; exact H) | exact H
  have Ny147 := Aside0.mk hy147
  clear hy147
  have H' := Aside0.mk H
  clear H
  go_enter Tryd.func46, Tryd.ntmps46
  go_wp2_with (first | ((with_reducible refine gate_dst (N := 2) rfl ?_); (try (refine gate_guard (by rfl) ?_; dsimp only)); refine box_event ?hg (N := 2) ?hd (cs := #[.int .i64 0, .string (⟨#[]⟩ : ByteArray), .int .i64 0, .int .i64 0]) (t := 31) ?hr ?_; (case hd => rfl); (case hg => rfl); (case hr => first | (go_simp; done) | (go_simp; rfl)); intro gb146 hg w2 hbox hb; have n0_ := Aside0.mk (below_step bw hb); have n1_ := Aside0.mk (hbox); have n2_ := Aside0.mk ((by rw [hg]; exact (below_size bw) : w.heap.size ≤ gb146)); have n3_ := Aside0.mk ((by rw [hg]; exact (below_size bw) : w.heap.size ≤ gb146)); clear HB; have HB := n0_; have BK146 := n1_; have GW146 := n2_; have GE146 := n3_; clear n0_ n1_ n2_ n3_; clear hb hbox hg) | ((with_reducible refine gate_dst (N := 8) rfl ?_); (try (refine gate_guard (by rfl) ?_; dsimp only)); refine Kd.R_lit Kd.string _ 9 ?hg (N := 8) ?hd (xs := ([(⟨#[65, 77, 47, 80, 77]⟩ : ByteArray), (⟨#[65, 47, 80]⟩ : ByteArray)] : List ByteArray)) (inner := [.string (⟨#[65, 77, 47, 80, 77]⟩ : ByteArray), .string (⟨#[65, 47, 80]⟩ : ByteArray)]) (ok := fun _ => True) (okp := fun _ => True) ?hr ?hp (fun _ hk => hk) trivial (Below.refl _ _) (Nat.le_refl _) (by simp) ?_; (case hd => rfl); (case hg => rfl); (case hr => first | (go_simp; done) | (go_simp; rfl)); (case hp => exact (Reps.one (show Kd.M Kd.string _ _ _ (⟨#[65, 77, 47, 80, 77]⟩ : ByteArray) [.string (⟨#[65, 77, 47, 80, 77]⟩ : ByteArray)] from rfl) (Reps.one (show Kd.M Kd.string _ _ _ (⟨#[65, 47, 80]⟩ : ByteArray) [.string (⟨#[65, 47, 80]⟩ : ByteArray)] from rfl) (Reps.none _ _)))); intro v148 w3 ho4 hb hg_ hnew_; clear hg_ hnew_; (first | rw [← Ny147.out] at ho4 | (simp only [Int.reduceToNat] at ho4; rw [← Ny147.out] at ho4)); have n0_ := Aside0.mk (Kd.R_lower ho4 (below_size bw)); have n1_ := Aside0.mk (blk_below (bk BK146) hb); have n2_ := Aside0.mk (below_step bw hb); clear BK146; clear HB; have HO149 := n0_; have BK146 := n1_; have HB := n2_; clear n0_ n1_ n2_; clear hb ho4; obtain ⟨Ao5, co5, eo5⟩ := Kd.R_slice HO149.out; subst eo5))
  go_loopg [10] k (fun kq v10 w' => ∃ (x10_1 : Int) (x147000_1 : Int) (x147001_1 : ByteArray) (x147002_1 : Int) (x147003_1 : Int), v10 = .int .i64 x10_1 ∧ Aside0 (token_lettered.l0 kq a0 y147 (y147.length : Int) x10_1 = some (r1, r2, r3, r4, r5)) ∧ Aside0 (kq ≤ k) ∧ Aside0 (Kd.R Kd.string 9 w' w.heap.size (fun _ => True) (.slice Ao5 y147.length co5) y147) ∧ Aside0 (w'.heap[gb146]? = some (.cells #[.int .i64 x147000_1, .string x147001_1, .int .i64 x147002_1, .int .i64 x147003_1] 31 (0, 0))) ∧ Aside0 (Below w.heap.size w w'))
  case atStart => exact ⟨(0), (0), ((⟨#[]⟩ : ByteArray)), (0), (0), (by first | rfl | (simp; done) | (simp [*]; done)), H', ⟨Nat.le_refl _⟩, ⟨by (with_reducible repeat (first | apply Kd.R_alloc | apply Kd.R_drewN | apply Kd.R_drew)); exact HO149.out⟩, ⟨by (with_reducible repeat (first | refine blk_drewN ?_ _ | refine blk_drew ?_ | refine blk_alloc ?_ _)); exact BK146.out⟩, ⟨bw⟩⟩
  case round =>
    clear H'
    try clear p2
    try clear c4
    obtain ⟨x10_1, x147000_1, x147001_1, x147002_1, x147003_1, rfl, HA, HK1, HO_8, BK146, HB⟩ := hrel
    cases gk with
    | zero => exact absurd HA.out (by simp [token_lettered.l0])
    | succ k1 =>
      have H := HA.out
      clear HA
      simp only [token_lettered.l0] at H
      by_cases c6 : x10_1 < (y147.length : Int)
      · rw [if_pos c6] at H
        have c6b0 : decide (x10_1 < (y147.length : Int)) = true := decide_eq_true c6
        clear c6
        by_cases c7 : 0 ≤ x10_1
        · rw [if_pos c7] at H
          have c7b0 : decide (0 ≤ x10_1) = true := decide_eq_true c7
          clear c7
          by_cases c8 : x10_1 < (y147.length : Int)
          · rw [if_pos c8] at H
            have c8b0 : decide (x10_1 < (y147.length : Int)) = true := decide_eq_true c8
            clear c8
            replace H := Option.bind_eq_some_iff.mp H
            obtain ⟨t151, A90, H⟩ := H
            replace H : (if t151 = true then (some (15, rdOf ByteArray.empty y147 x10_1, 1, 0, ((rdOf ByteArray.empty y147 x10_1).size : Int))) else (token_lettered.l0 k1 a0 y147 (y147.length : Int) (wrap64 (x10_1 + 1)))) = some (r1, r2, r3, r4, r5) := H
            have A9 := Aside0.mk A90
            clear A90
            by_cases c10 : t151 = true
            · subst c10
              have H1 : (some (15, rdOf ByteArray.empty y147 x10_1, 1, 0, ((rdOf ByteArray.empty y147 x10_1).size : Int))) = some (r1, r2, r3, r4, r5) := by rw [if_pos rfl] at H; exact H
              clear H
              have H := H1
              clear H1
              simp only [Option.some.injEq, Prod.mk.injEq] at H
              obtain ⟨rfl, rfl, rfl, rfl, rfl⟩ := H
              have p150 : 0 ≤ (x10_1 : Int) := ode
              have q150 : x10_1 < (y147.length : Int) := ode
              obtain ⟨ad150, e150, hx150_0⟩ := Kd.at_string (Kd.R_reads' HO_8.out).2.2 x10_1 p150 q150
              cases e150
              replace p150 := eq_true p150
              replace q150 := eq_true q150
              go_wp2_with (first | ((with_reducible refine gate_callee (f := 65) rfl ?_); refine goesL_ (some 16) rfl rfl Tryd.func65 (by kernel_rfl) rfl #[.string a0, .string (rdOf ByteArray.empty y147 x10_1)] rfl (by (try simp only [List.map_toArray, List.map_cons, List.map_nil]); first | done | rfl | (simp only [List.length_drop, List.length_take]; rfl)) ?_; (with_reducible refine (token_word.calls a0 (rdOf ByteArray.empty y147 x10_1) true _ A9.out ?side1).mono ?_); (case side1 => exact Laid.below HLd.out bw); rintro e w11 ⟨rfl, hb⟩; refine ⟨_, rfl, ?_⟩; have n0_ := Aside0.mk (Kd.R_below (kr HO_8) hb); have n1_ := Aside0.mk (blk_below (bk BK146) hb); have n2_ := Aside0.mk (below_step bw hb); clear HO_8; clear BK146; clear HB; have HO_8 := n0_; have BK146 := n1_; have HB := n2_; clear n0_ n1_ n2_; (try clear hb); (try clear hb2); (try clear hk); (try clear hi); obtain ⟨hcz12_0, hcz12_1, hcz12_2, hcz12_3, hfz12_0, hfz12_1, hfz12_2, hfz12_3⟩ := cells4 BK146))
              refine bodyPost_ret (results_ct rfl _ _ gb146 31 #[.int .i64 15, .string (rdOf ByteArray.empty y147 x10_1), .int .i64 1, .int .i64 0] (0, 0) _ rfl (bp BK146) Tryd.underlying31 rfl (by kernel_rfl)) rfl ?_
              exact ⟨by first | rfl | (simp [errW_none, errW_some] <;> rfl) | (simp [*, errW_none, errW_some] <;> rfl), bw⟩
            · replace c10 := Bool.eq_false_iff.mpr c10
              subst c10
              have H1 : (token_lettered.l0 k1 a0 y147 (y147.length : Int) (wrap64 (x10_1 + 1))) = some (r1, r2, r3, r4, r5) := by rw [if_neg (show ¬ (false = true) by decide)] at H; exact H
              clear H
              have H := H1
              clear H1
              have H' := Aside0.mk H
              clear H
              have p150 : 0 ≤ (x10_1 : Int) := ode
              have q150 : x10_1 < (y147.length : Int) := ode
              obtain ⟨ad150, e150, hx150_0⟩ := Kd.at_string (Kd.R_reads' HO_8.out).2.2 x10_1 p150 q150
              cases e150
              replace p150 := eq_true p150
              replace q150 := eq_true q150
              go_wp2_with (first | ((with_reducible refine gate_callee (f := 65) rfl ?_); refine goesL_ (some 16) rfl rfl Tryd.func65 (by kernel_rfl) rfl #[.string a0, .string (rdOf ByteArray.empty y147 x10_1)] rfl (by (try simp only [List.map_toArray, List.map_cons, List.map_nil]); first | done | rfl | (simp only [List.length_drop, List.length_take]; rfl)) ?_; (with_reducible refine (token_word.calls a0 (rdOf ByteArray.empty y147 x10_1) false _ A9.out ?side1).mono ?_); (case side1 => exact Laid.below HLd.out bw); rintro e w13 ⟨rfl, hb⟩; refine ⟨_, rfl, ?_⟩; have n0_ := Aside0.mk (Kd.R_below (kr HO_8) hb); have n1_ := Aside0.mk (blk_below (bk BK146) hb); have n2_ := Aside0.mk (below_step bw hb); clear HO_8; clear BK146; clear HB; have HO_8 := n0_; have BK146 := n1_; have HB := n2_; clear n0_ n1_ n2_; (try clear hb); (try clear hb2); (try clear hk); (try clear hi)))
              go_roundg k1
              case measure => have := HK1.out; omega
              case rel => exact ⟨(wrap64 (x10_1 + 1)), (x147000_1), (x147001_1), (x147002_1), (x147003_1), (by first | rfl | (simp; done) | (simp [*]; done)), H', ⟨by have := HK1.out; omega⟩, ⟨by (with_reducible repeat (first | apply Kd.R_alloc | apply Kd.R_drewN | apply Kd.R_drew)); exact HO_8.out⟩, ⟨by (with_reducible repeat (first | refine blk_drewN ?_ _ | refine blk_drew ?_ | refine blk_alloc ?_ _)); exact BK146.out⟩, ⟨bw⟩⟩
          · rw [if_neg c8] at H
            exact absurd H (by simp)
        · rw [if_neg c7] at H
          exact absurd H (by simp)
      · rw [if_neg c6] at H
        have c6b0 : decide (x10_1 < (y147.length : Int)) = false := decide_eq_false c6
        clear c6
        replace H := Option.bind_eq_some_iff.mp H
        obtain ⟨t152, A140, H⟩ := H
        replace H : (if t152 = true then (some (16, (⟨#[71, 101, 110, 101, 114, 97, 108]⟩ : ByteArray), 1, 0, 7)) else (if 0 < (a0.size : Int) then ((token_small.f (bt a0 0)).bind fun t153 => (if t153 = 101 then (if (a0.size : Int) > 1 then (if 1 < (a0.size : Int) then (if (bt a0 1) = 43 then (token_lettered.j1 k1 a0 t153 true) else (token_lettered.j1 k1 a0 t153 ((bt a0 1) == 45))) else (none)) else (token_lettered.j1 k1 a0 t153 false)) else (token_lettered.j1 k1 a0 t153 false))) else (none))) = some (r1, r2, r3, r4, r5) := H
        have A14 := Aside0.mk A140
        clear A140
        by_cases c15 : t152 = true
        · subst c15
          have H1 : (some (16, (⟨#[71, 101, 110, 101, 114, 97, 108]⟩ : ByteArray), 1, 0, 7)) = some (r1, r2, r3, r4, r5) := by rw [if_pos rfl] at H; exact H
          clear H
          have H := H1
          clear H1
          simp only [Option.some.injEq, Prod.mk.injEq] at H
          obtain ⟨rfl, rfl, rfl, rfl, rfl⟩ := H
          go_wp2_with (first | ((with_reducible refine gate_callee (f := 65) rfl ?_); refine goesL_ (some 23) rfl rfl Tryd.func65 (by kernel_rfl) rfl #[.string a0, .string (⟨#[71, 101, 110, 101, 114, 97, 108]⟩ : ByteArray)] rfl (by (try simp only [List.map_toArray, List.map_cons, List.map_nil]); first | done | rfl | (simp only [List.length_drop, List.length_take]; rfl)) ?_; (with_reducible refine (token_word.calls a0 (⟨#[71, 101, 110, 101, 114, 97, 108]⟩ : ByteArray) true _ A14.out ?side1).mono ?_); (case side1 => exact Laid.below HLd.out bw); rintro e w16 ⟨rfl, hb⟩; refine ⟨_, rfl, ?_⟩; have n0_ := Aside0.mk (Kd.R_below (kr HO_8) hb); have n1_ := Aside0.mk (blk_below (bk BK146) hb); have n2_ := Aside0.mk (below_step bw hb); clear HO_8; clear BK146; clear HB; have HO_8 := n0_; have BK146 := n1_; have HB := n2_; clear n0_ n1_ n2_; (try clear hb); (try clear hb2); (try clear hk); (try clear hi); obtain ⟨hcz17_0, hcz17_1, hcz17_2, hcz17_3, hfz17_0, hfz17_1, hfz17_2, hfz17_3⟩ := cells4 BK146))
          refine bodyPost_ret (results_ct rfl _ _ gb146 31 #[.int .i64 16, .string (⟨#[71, 101, 110, 101, 114, 97, 108]⟩ : ByteArray), .int .i64 1, .int .i64 0] (0, 0) _ rfl (bp BK146) Tryd.underlying31 rfl (by kernel_rfl)) rfl ?_
          exact ⟨by first | rfl | (simp [errW_none, errW_some] <;> rfl) | (simp [*, errW_none, errW_some] <;> rfl), bw⟩
        · replace c15 := Bool.eq_false_iff.mpr c15
          subst c15
          have H1 : (if 0 < (a0.size : Int) then ((token_small.f (bt a0 0)).bind fun t153 => (if t153 = 101 then (if (a0.size : Int) > 1 then (if 1 < (a0.size : Int) then (if (bt a0 1) = 43 then (token_lettered.j1 k1 a0 t153 true) else (token_lettered.j1 k1 a0 t153 ((bt a0 1) == 45))) else (none)) else (token_lettered.j1 k1 a0 t153 false)) else (token_lettered.j1 k1 a0 t153 false))) else (none)) = some (r1, r2, r3, r4, r5) := by rw [if_neg (show ¬ (false = true) by decide)] at H; exact H
          clear H
          have H := H1
          clear H1
          by_cases c18 : 0 < (a0.size : Int)
          · rw [if_pos c18] at H
            have c18b0 : decide (0 < (a0.size : Int)) = true := decide_eq_true c18
            have c18b1 : decide (0 < a0.size) = true := decide_eq_true (by omega)
            clear c18
            replace H := Option.bind_eq_some_iff.mp H
            obtain ⟨t153, A200, H⟩ := H
            replace H : (if t153 = 101 then (if (a0.size : Int) > 1 then (if 1 < (a0.size : Int) then (if (bt a0 1) = 43 then (token_lettered.j1 k1 a0 t153 true) else (token_lettered.j1 k1 a0 t153 ((bt a0 1) == 45))) else (none)) else (token_lettered.j1 k1 a0 t153 false)) else (token_lettered.j1 k1 a0 t153 false)) = some (r1, r2, r3, r4, r5) := H
            have A20 := Aside0.mk A200
            clear A200
            have HC21 := Aside0.mk H
            clear H
            go_upto_region 10 with (first | ((with_reducible refine gate_callee (f := 65) rfl ?_); refine goesL_ (some 23) rfl rfl Tryd.func65 (by kernel_rfl) rfl #[.string a0, .string (⟨#[71, 101, 110, 101, 114, 97, 108]⟩ : ByteArray)] rfl (by (try simp only [List.map_toArray, List.map_cons, List.map_nil]); first | done | rfl | (simp only [List.length_drop, List.length_take]; rfl)) ?_; (with_reducible refine (token_word.calls a0 (⟨#[71, 101, 110, 101, 114, 97, 108]⟩ : ByteArray) false _ A14.out ?side1).mono ?_); (case side1 => exact Laid.below HLd.out bw); rintro e w22 ⟨rfl, hb⟩; refine ⟨_, rfl, ?_⟩; have n0_ := Aside0.mk (Kd.R_below (kr HO_8) hb); have n1_ := Aside0.mk (blk_below (bk BK146) hb); have n2_ := Aside0.mk (below_step bw hb); clear HO_8; clear BK146; clear HB; have HO_8 := n0_; have BK146 := n1_; have HB := n2_; clear n0_ n1_ n2_; (try clear hb); (try clear hb2); (try clear hk); (try clear hi); have p19 : 0 ≤ (0 : Int) := (by omega); have q19 : 0 < a0.size := (by have : (0 : Int) < (a0.size : Int) := ode; omega); have hx19 : ∀ h : 0 < a0.size, ((a0[0]'h).toNat : Int) = bt a0 0 := bt_at a0 0; clear p19; have qi19 : (0 < (a0.size : Int)) = True := eq_true ode; replace q19 := eq_true q19) | ((with_reducible refine gate_callee (f := 66) rfl ?_); refine goesL_ (some 27) rfl rfl Tryd.func66 (by kernel_rfl) rfl #[.int .u8 (bt a0 0)] rfl (by (try simp only [List.map_toArray, List.map_cons, List.map_nil]); first | done | rfl | (simp only [List.length_drop, List.length_take]; rfl)) ?_; (with_reducible refine (token_small.calls (bt a0 0) t153 _ A20.out).mono ?_); rintro e w' ⟨rfl, ⟨nd, rfl⟩⟩; refine ⟨_, rfl, ?_⟩))
            (try simp only [Act.put, List.setIfInBounds_toArray, List.set_cons_zero, List.set_cons_succ])
            go_cut [44] (fun v44 wc => ∃ (kq : Nat) (x44_20 : Bool), v44 = .bool x44_20 ∧ Aside0 (token_lettered.j1 kq a0 t153 x44_20 = some (r1, r2, r3, r4, r5)) ∧ Aside0 (kq ≤ k1) ∧ Aside0 (wc.heap[gb146]? = some (.cells #[.int .i64 x147000_1, .string x147001_1, .int .i64 x147002_1, .int .i64 x147003_1] 31 (0, 0))) ∧ Aside0 (Below w.heap.size w wc))
            case first =>
              have H := HC21.out
              clear HC21
              by_cases c23 : t153 = 101
              · rw [if_pos c23] at H
                have c23b0 : (t153 == 101) = true := beq_iff_eq.mpr c23
                have c23b1 : (t153 != 101) = false := bne_eq_false_iff_eq.mpr c23
                clear c23
                (first | rw [c23b0] | (simp only [i64_w, i32_w]; rw [c23b0]) | skip)
                by_cases c24 : (a0.size : Int) > 1
                · rw [if_pos c24] at H
                  have c24b0 : decide (1 < (a0.size : Int)) = true := decide_eq_true c24
                  have c24b1 : decide (1 < a0.size) = true := decide_eq_true (by omega)
                  clear c24
                  by_cases c25 : 1 < (a0.size : Int)
                  · rw [if_pos c25] at H
                    have c25b0 : decide (1 < (a0.size : Int)) = true := decide_eq_true c25
                    have c25b1 : decide (1 < a0.size) = true := decide_eq_true (by omega)
                    clear c25
                    by_cases c27 : (bt a0 1) = 43
                    · rw [if_pos c27] at H
                      have c27b0 : ((bt a0 1) == 43) = true := beq_iff_eq.mpr c27
                      have c27b1 : ((bt a0 1) != 43) = false := bne_eq_false_iff_eq.mpr c27
                      clear c27
                      have H' := Aside0.mk H
                      clear H
                      have p26 : 0 ≤ (1 : Int) := (by omega)
                      have q26 : 1 < a0.size := (by have : (1 : Int) < (a0.size : Int) := ode; omega)
                      have hx26 : ∀ h : 1 < a0.size, ((a0[1]'h).toNat : Int) = bt a0 1 := bt_at a0 1
                      clear p26
                      have qi26 : (1 < (a0.size : Int)) = True := eq_true ode
                      replace q26 := eq_true q26
                      go_wp2
                      go_meet
                      case rel => exact ⟨_, (true), (by first | rfl | (simp; done) | (simp [*]; done)), H', ⟨by have := HK1.out; first | omega | exact Nat.le_refl _⟩, ⟨by (with_reducible repeat (first | refine blk_drewN ?_ _ | refine blk_drew ?_ | refine blk_alloc ?_ _)); exact BK146.out⟩, ⟨bw⟩⟩
                    · rw [if_neg c27] at H
                      have c27b0 : ((bt a0 1) == 43) = false := beq_eq_false_iff_ne.mpr c27
                      have c27b1 : ((bt a0 1) != 43) = true := bne_iff_ne.mpr c27
                      have H' := Aside0.mk H
                      clear H
                      have p26 : 0 ≤ (1 : Int) := (by omega)
                      have q26 : 1 < a0.size := (by have : (1 : Int) < (a0.size : Int) := ode; omega)
                      have hx26 : ∀ h : 1 < a0.size, ((a0[1]'h).toNat : Int) = bt a0 1 := bt_at a0 1
                      clear p26
                      have qi26 : (1 < (a0.size : Int)) = True := eq_true ode
                      replace q26 := eq_true q26
                      have p28 : 0 ≤ (1 : Int) := (by omega)
                      have q28 : 1 < a0.size := (by have : (1 : Int) < (a0.size : Int) := ode; omega)
                      have hx28 : ∀ h : 1 < a0.size, ((a0[1]'h).toNat : Int) = bt a0 1 := bt_at a0 1
                      clear p28
                      have qi28 : (1 < (a0.size : Int)) = True := eq_true ode
                      replace q28 := eq_true q28
                      go_wp2
                      go_meet
                      case rel => exact ⟨_, (((bt a0 1) == 45)), (by first | rfl | (simp; done) | (simp [*]; done)), H', ⟨by have := HK1.out; first | omega | exact Nat.le_refl _⟩, ⟨by (with_reducible repeat (first | refine blk_drewN ?_ _ | refine blk_drew ?_ | refine blk_alloc ?_ _)); exact BK146.out⟩, ⟨bw⟩⟩
                  · rw [if_neg c25] at H
                    exact absurd H (by simp)
                · rw [if_neg c24] at H
                  have c24b0 : decide (1 < (a0.size : Int)) = false := decide_eq_false c24
                  have c24b1 : decide (1 < a0.size) = false := decide_eq_false (by omega)
                  clear c24
                  have H' := Aside0.mk H
                  clear H
                  go_wp2
                  go_meet
                  case rel => exact ⟨_, (false), (by first | rfl | (simp; done) | (simp [*]; done)), H', ⟨by have := HK1.out; first | omega | exact Nat.le_refl _⟩, ⟨by (with_reducible repeat (first | refine blk_drewN ?_ _ | refine blk_drew ?_ | refine blk_alloc ?_ _)); exact BK146.out⟩, ⟨bw⟩⟩
              · rw [if_neg c23] at H
                have c23b0 : (t153 == 101) = false := beq_eq_false_iff_ne.mpr c23
                have c23b1 : (t153 != 101) = true := bne_iff_ne.mpr c23
                (first | rw [c23b0] | (simp only [i64_w, i32_w]; rw [c23b0]) | skip)
                have H' := Aside0.mk H
                clear H
                go_wp2
                go_meet
                case rel => exact ⟨_, (false), (by first | rfl | (simp; done) | (simp [*]; done)), H', ⟨by have := HK1.out; first | omega | exact Nat.le_refl _⟩, ⟨by (with_reducible repeat (first | refine blk_drewN ?_ _ | refine blk_drew ?_ | refine blk_alloc ?_ _)); exact BK146.out⟩, ⟨bw⟩⟩
            case rest =>
              clear HC21
              try clear c1
              try clear p1
              try clear q1
              try clear hx1
              try clear qi1
              try clear c2
              try clear p2
              try clear q2
              try clear hx2
              try clear qi2
              try clear c4
              try clear c6
              try clear c6b0
              try clear p6
              try clear c7
              try clear c7b0
              try clear c8
              try clear c8b0
              try clear c10
              try clear c15
              try clear p15
              try clear q15
              try clear hx15
              try clear c18
              try clear c18b0
              try clear c18b1
              try clear p19
              try clear q19
              try clear hx19
              try clear qi19
              try clear c23
              try clear c23b0
              try clear c23b1
              try clear c24
              try clear c24b0
              try clear c24b1
              try clear c25
              try clear c25b0
              try clear c25b1
              try clear p26
              try clear q26
              try clear hx26
              try clear qi26
              try clear c27
              try clear c27b0
              try clear c27b1
              try clear p28
              try clear q28
              try clear hx28
              try clear qi28
              try clear hcz12_0
              try clear hcz12_1
              try clear hcz12_2
              try clear hcz12_3
              try clear hcz17_0
              try clear hcz17_1
              try clear hcz17_2
              try clear hcz17_3
              try clear hfz12_0
              try clear hfz12_1
              try clear hfz12_2
              try clear hfz12_3
              try clear hfz17_0
              try clear hfz17_1
              try clear hfz17_2
              try clear hfz17_3
              try clear hx150_0
              try clear p150
              try clear p19
              try clear p2
              try clear p26
              try clear p28
              try clear q150
              try clear q19
              try clear q26
              try clear q28
              obtain ⟨kq, x44_20, rfl, HA, HJ20, BK146, HB⟩ := hcut
              cases kq with
              | zero => exact absurd HA.out (by simp [token_lettered.j1])
              | succ kj20 =>
                have H := HA.out
                clear HA
                simp only [token_lettered.j1] at H
                by_cases c29 : x44_20 = true
                · subst c29
                  have H1 : (if 1 ≤ 2 then (if 2 ≤ (a0.size : Int) then (some (13, a0.extract 1 2, 1, 0, 2)) else (none)) else (none)) = some (r1, r2, r3, r4, r5) := by rw [if_pos rfl] at H; exact H
                  clear H
                  have H := H1
                  clear H1
                  by_cases c30 : 1 ≤ 2
                  · rw [if_pos c30] at H
                    have c30b0 := eq_true c30
                    have c30b1 : decide (1 ≤ 2) = true := decide_eq_true c30
                    clear c30
                    by_cases c31 : 2 ≤ (a0.size : Int)
                    · rw [if_pos c31] at H
                      have c31b0 := eq_true c31
                      have c31b1 : decide (2 ≤ (a0.size : Int)) = true := decide_eq_true c31
                      clear c31
                      simp only [Option.some.injEq, Prod.mk.injEq] at H
                      obtain ⟨rfl, rfl, rfl, rfl, rfl⟩ := H
                      have hcz32_0 : wc.cell? ⟨gb146, 0, none⟩ = some (.int .i64 x147000_1) := (blk_cell BK146.out 0).trans rfl
                      have hcz32_1 : wc.cell? ⟨gb146, 1, none⟩ = some (.string x147001_1) := (blk_cell BK146.out 1).trans rfl
                      have hcz32_2 : wc.cell? ⟨gb146, 2, none⟩ = some (.int .i64 x147002_1) := (blk_cell BK146.out 2).trans rfl
                      have hcz32_3 : wc.cell? ⟨gb146, 3, none⟩ = some (.int .i64 x147003_1) := (blk_cell BK146.out 3).trans rfl
                      have hfz32_0 := blk_frozen BK146.out 0
                      have hfz32_1 := blk_frozen BK146.out 1
                      have hfz32_2 := blk_frozen BK146.out 2
                      have hfz32_3 := blk_frozen BK146.out 3
                      go_wp2
                      refine bodyPost_ret (results_ct rfl _ _ gb146 31 #[.int .i64 13, .string (a0.extract 1 2), .int .i64 1, .int .i64 0] (0, 0) _ rfl (bp BK146) Tryd.underlying31 rfl (by kernel_rfl)) rfl ?_
                      exact ⟨by first | rfl | (simp [errW_none, errW_some] <;> rfl) | (simp [*, errW_none, errW_some] <;> rfl), bw⟩
                    · rw [if_neg c31] at H
                      exact absurd H (by simp)
                  · rw [if_neg c30] at H
                    exact absurd H (by simp)
                · replace c29 := Bool.eq_false_iff.mpr c29
                  subst c29
                  have H1 : ((strings_IndexByte.f (⟨#[121, 109, 100, 104, 115]⟩ : ByteArray) t153).bind fun t154 => (if t154 < 0 then (some (0, (⟨#[]⟩ : ByteArray), 0, 0, 0)) else (token_lettered.l1 kj20 a0 t153 1))) = some (r1, r2, r3, r4, r5) := by rw [if_neg (show ¬ (false = true) by decide)] at H; exact H
                  clear H
                  have H := H1
                  clear H1
                  replace H := Option.bind_eq_some_iff.mp H
                  obtain ⟨t154, A330, H⟩ := H
                  replace H : (if t154 < 0 then (some (0, (⟨#[]⟩ : ByteArray), 0, 0, 0)) else (token_lettered.l1 kj20 a0 t153 1)) = some (r1, r2, r3, r4, r5) := H
                  have A33 := Aside0.mk A330
                  clear A330
                  by_cases c34 : t154 < 0
                  · rw [if_pos c34] at H
                    have c34b0 : decide (t154 < 0) = true := decide_eq_true c34
                    clear c34
                    simp only [Option.some.injEq, Prod.mk.injEq] at H
                    obtain ⟨rfl, rfl, rfl, rfl, rfl⟩ := H
                    go_wp2_with (first | ((with_reducible refine gate_callee (f := 47) rfl ?_); refine goesL_ (some 49) rfl rfl Tryd.func47 (by kernel_rfl) rfl #[.string (⟨#[121, 109, 100, 104, 115]⟩ : ByteArray), .int .u8 t153] rfl (by (try simp only [List.map_toArray, List.map_cons, List.map_nil]); first | done | rfl | (simp only [List.length_drop, List.length_take]; rfl)) ?_; (with_reducible refine (strings_IndexByte.calls (⟨#[121, 109, 100, 104, 115]⟩ : ByteArray) t153 t154 _ A33.out).mono ?_); rintro e w' ⟨rfl, ⟨nd, rfl⟩⟩; refine ⟨_, rfl, ?_⟩; (try (rw [drewN_self wc]; generalize hq_ : World.drewN wc _ = wc; have n0_ : Aside0 (wc.heap[gb146]? = some (.cells #[.int .i64 x147000_1, .string x147001_1, .int .i64 x147002_1, .int .i64 x147003_1] 31 (0, 0))) := ⟨by rw [← hq_]; exact (bk BK146)⟩; have n1_ : Aside0 (Below w.heap.size w wc) := ⟨by rw [← hq_]; exact bw⟩; clear BK146 HB hq_; have BK146 := n0_; have HB := n1_; clear n0_ n1_)); obtain ⟨hcz35_0, hcz35_1, hcz35_2, hcz35_3, hfz35_0, hfz35_1, hfz35_2, hfz35_3⟩ := cells4 BK146))
                    refine bodyPost_ret (results_ct rfl _ _ gb146 31 #[.int .i64 0, .string (⟨#[]⟩ : ByteArray), .int .i64 0, .int .i64 0] (0, 0) _ rfl (bp BK146) Tryd.underlying31 rfl (by kernel_rfl)) rfl ?_
                    exact ⟨by first | rfl | (simp [errW_none, errW_some] <;> rfl) | (simp [*, errW_none, errW_some] <;> rfl), bw⟩
                  · rw [if_neg c34] at H
                    have c34b0 : decide (t154 < 0) = false := decide_eq_false c34
                    clear c34
                    have H' := Aside0.mk H
                    clear H
                    go_wp2_with (first | ((with_reducible refine gate_callee (f := 47) rfl ?_); refine goesL_ (some 49) rfl rfl Tryd.func47 (by kernel_rfl) rfl #[.string (⟨#[121, 109, 100, 104, 115]⟩ : ByteArray), .int .u8 t153] rfl (by (try simp only [List.map_toArray, List.map_cons, List.map_nil]); first | done | rfl | (simp only [List.length_drop, List.length_take]; rfl)) ?_; (with_reducible refine (strings_IndexByte.calls (⟨#[121, 109, 100, 104, 115]⟩ : ByteArray) t153 t154 _ A33.out).mono ?_); rintro e w' ⟨rfl, ⟨nd, rfl⟩⟩; refine ⟨_, rfl, ?_⟩))
                    go_loopg [7] kj20 (fun kq v7 w' => ∃ (x7_3 : Int), v7 = .int .i64 x7_3 ∧ Aside0 (token_lettered.l1 kq a0 t153 x7_3 = some (r1, r2, r3, r4, r5)) ∧ Aside0 (kq ≤ kj20) ∧ Aside0 (w'.heap[gb146]? = some (.cells #[.int .i64 x147000_1, .string x147001_1, .int .i64 x147002_1, .int .i64 x147003_1] 31 (0, 0))) ∧ Aside0 (Below w.heap.size w w'))
                    case atStart => exact ⟨(1), (by first | rfl | (simp; done) | (simp [*]; done)), H', ⟨Nat.le_refl _⟩, ⟨by (with_reducible repeat (first | refine blk_drewN ?_ _ | refine blk_drew ?_ | refine blk_alloc ?_ _)); exact BK146.out⟩, ⟨bw⟩⟩
                    case round =>
                      clear H'
                      try clear c1
                      try clear p1
                      try clear q1
                      try clear hx1
                      try clear qi1
                      try clear c2
                      try clear p2
                      try clear q2
                      try clear hx2
                      try clear qi2
                      try clear c3
                      try clear c4
                      try clear c6
                      try clear c6b0
                      try clear p6
                      try clear c7
                      try clear c7b0
                      try clear c8
                      try clear c8b0
                      try clear c10
                      try clear c15
                      try clear p15
                      try clear q15
                      try clear hx15
                      try clear c18
                      try clear c18b0
                      try clear c18b1
                      try clear p19
                      try clear q19
                      try clear hx19
                      try clear qi19
                      try clear c23
                      try clear c23b0
                      try clear c23b1
                      try clear c24
                      try clear c24b0
                      try clear c24b1
                      try clear c25
                      try clear c25b0
                      try clear c25b1
                      try clear p26
                      try clear q26
                      try clear hx26
                      try clear qi26
                      try clear c27
                      try clear c27b0
                      try clear c27b1
                      try clear p28
                      try clear q28
                      try clear hx28
                      try clear qi28
                      try clear c29
                      try clear c30
                      try clear c30b0
                      try clear c30b1
                      try clear c31
                      try clear c31b0
                      try clear c31b1
                      try clear c34
                      try clear c34b0
                      try clear hcz12_0
                      try clear hcz12_1
                      try clear hcz12_2
                      try clear hcz12_3
                      try clear hcz17_0
                      try clear hcz17_1
                      try clear hcz17_2
                      try clear hcz17_3
                      try clear hcz32_0
                      try clear hcz32_1
                      try clear hcz32_2
                      try clear hcz32_3
                      try clear hcz35_0
                      try clear hcz35_1
                      try clear hcz35_2
                      try clear hcz35_3
                      try clear hfz12_0
                      try clear hfz12_1
                      try clear hfz12_2
                      try clear hfz12_3
                      try clear hfz17_0
                      try clear hfz17_1
                      try clear hfz17_2
                      try clear hfz17_3
                      try clear hfz32_0
                      try clear hfz32_1
                      try clear hfz32_2
                      try clear hfz32_3
                      try clear hfz35_0
                      try clear hfz35_1
                      try clear hfz35_2
                      try clear hfz35_3
                      try clear hx150_0
                      try clear p1
                      try clear p15
                      try clear p150
                      try clear p19
                      try clear p2
                      try clear p26
                      try clear p28
                      try clear p6
                      try clear q1
                      try clear q15
                      try clear q150
                      try clear q19
                      try clear q2
                      try clear q26
                      try clear q28
                      obtain ⟨x7_3, rfl, HA, HK3, BK146, HB⟩ := hrel
                      cases gk with
                      | zero => exact absurd HA.out (by simp [token_lettered.l1])
                      | succ k3 =>
                        have H := HA.out
                        clear HA
                        simp only [token_lettered.l1] at H
                        by_cases c36 : x7_3 < (a0.size : Int)
                        · rw [if_pos c36] at H
                          have c36b0 : decide (x7_3 < (a0.size : Int)) = true := decide_eq_true c36
                          clear c36
                          by_cases c37 : 0 ≤ x7_3
                          · rw [if_pos c37] at H
                            have c37b0 : decide (0 ≤ x7_3) = true := decide_eq_true c37
                            clear c37
                            replace H := Option.bind_eq_some_iff.mp H
                            obtain ⟨t155, A390, H⟩ := H
                            replace H : (if t155 = t153 then (token_lettered.l1 k3 a0 t153 (wrap64 (x7_3 + 1))) else (some (14, strOfNums (([t153] : List Int)), x7_3, 0, x7_3))) = some (r1, r2, r3, r4, r5) := H
                            have A39 := Aside0.mk A390
                            clear A390
                            by_cases c40 : t155 = t153
                            · rw [if_pos c40] at H
                              have c40b0 : (t155 == t153) = true := beq_iff_eq.mpr c40
                              have c40b1 : (t155 != t153) = false := bne_eq_false_iff_eq.mpr c40
                              clear c40
                              have H' := Aside0.mk H
                              clear H
                              have p38 : 0 ≤ (x7_3 : Int) := ode
                              have q38 : x7_3 < (a0.size : Int) := ode
                              have hx38 := bt_at a0 x7_3
                              replace p38 := eq_true p38
                              replace q38 := eq_true q38
                              go_wp2_with (first | (go_at_call 66; (with_reducible refine (token_small.calls (bt a0 x7_3) t155 _ A39.out).mono ?_); rintro e w' ⟨rfl, ⟨nd, rfl⟩⟩))
                              go_roundg k3
                              case measure => have := HK1.out; have := HJ20.out; have := HK3.out; omega
                              case rel => exact ⟨(wrap64 (x7_3 + 1)), (by first | rfl | (simp; done) | (simp [*]; done)), H', ⟨by have := HK1.out; have := HJ20.out; have := HK3.out; omega⟩, ⟨by (with_reducible repeat (first | refine blk_drewN ?_ _ | refine blk_drew ?_ | refine blk_alloc ?_ _)); exact BK146.out⟩, ⟨bw⟩⟩
                            · rw [if_neg c40] at H
                              have c40b0 : (t155 == t153) = false := beq_eq_false_iff_ne.mpr c40
                              have c40b1 : (t155 != t153) = true := bne_iff_ne.mpr c40
                              obtain ⟨y156, hy156⟩ : ∃ y_ : List Int, y_ = (([t153] : List Int)) := ⟨_, rfl⟩
                              replace H : (some (14, strOfNums y156, x7_3, 0, x7_3)) = some (r1, r2, r3, r4, r5) := by first | (rw [hy156]; with_reducible exact H) | (have H2_ := (Option.bind_some _ _).symm.trans H; rw [hy156]; with_reducible exact H2_) | (have H2_ := (Option.bind_some _ _).symm.trans H; with_reducible exact H2_) | with_reducible exact H | (rw [hy156]; exact H) | exact H
                              have Ny156 := Aside0.mk hy156
                              clear hy156
                              simp only [Option.some.injEq, Prod.mk.injEq] at H
                              obtain ⟨rfl, rfl, rfl, rfl, rfl⟩ := H
                              have p38 : 0 ≤ (x7_3 : Int) := ode
                              have q38 : x7_3 < (a0.size : Int) := ode
                              have hx38 := bt_at a0 x7_3
                              replace p38 := eq_true p38
                              replace q38 := eq_true q38
                              go_wp2_with (first | (go_at_call 66; (with_reducible refine (token_small.calls (bt a0 x7_3) t155 _ A39.out).mono ?_); rintro e w' ⟨rfl, ⟨nd, rfl⟩⟩; (try (rw [drewN_self wr]; generalize hq_ : World.drewN wr _ = wr; have n0_ : Aside0 (wr.heap[gb146]? = some (.cells #[.int .i64 x147000_1, .string x147001_1, .int .i64 x147002_1, .int .i64 x147003_1] 31 (0, 0))) := ⟨by rw [← hq_]; exact (bk BK146)⟩; have n1_ : Aside0 (Below w.heap.size w wr) := ⟨by rw [← hq_]; exact bw⟩; clear BK146 HB hq_; have BK146 := n0_; have HB := n1_; clear n0_ n1_))) | ((with_reducible refine gate_dst (N := 67) rfl ?_); (try (refine gate_guard (by rfl) ?_; dsimp only)); refine Kd.R_lit (Kd.int .u8) _ 5 ?hg (N := 67) ?hd (xs := ([t153] : List Int)) (inner := [.int .u8 t153]) (ok := fun _ => True) (okp := fun _ => True) ?hr ?hp (fun _ hk => hk) trivial (Below.refl _ _) (Nat.le_refl _) (by simp) ?_; (case hd => rfl); (case hg => rfl); (case hr => first | (go_simp; done) | (go_simp; rfl)); (case hp => exact (Reps.one (show Kd.M (Kd.int .u8) _ _ _ t153 [.int .u8 t153] from rfl) (Reps.none _ _))); intro v157 w41 ho42 hb hg_ hnew_; clear hg_ hnew_; (first | rw [← Ny156.out] at ho42 | (simp only [Int.reduceToNat] at ho42; rw [← Ny156.out] at ho42)); have n0_ := Aside0.mk (Kd.R_lower ho42 (below_size bw)); have n1_ := Aside0.mk (blk_below (bk BK146) hb); have n2_ := Aside0.mk (below_step bw hb); clear BK146; clear HB; have HO158 := n0_; have BK146 := n1_; have HB := n2_; clear n0_ n1_ n2_; clear hb ho42; have hcv43 := own_string (P := Tryd.prog) Tryd.underlying42 Tryd.underlying5 Tryd.underlying9 (Kd.own_of_R HO158.out); obtain ⟨hcz44_0, hcz44_1, hcz44_2, hcz44_3, hfz44_0, hfz44_1, hfz44_2, hfz44_3⟩ := cells4 BK146))
                              refine bodyPost_ret (results_ct rfl _ _ gb146 31 #[.int .i64 14, .string (strOfNums y156), .int .i64 x7_3, .int .i64 0] (0, 0) _ rfl (bp BK146) Tryd.underlying31 rfl (by kernel_rfl)) rfl ?_
                              exact ⟨by first | rfl | (simp [errW_none, errW_some] <;> rfl) | (simp [*, errW_none, errW_some] <;> rfl), bw⟩
                          · rw [if_neg c37] at H
                            exact absurd H (by simp)
                        · rw [if_neg c36] at H
                          have c36b0 : decide (x7_3 < (a0.size : Int)) = false := decide_eq_false c36
                          clear c36
                          obtain ⟨y159, hy159⟩ : ∃ y_ : List Int, y_ = (([t153] : List Int)) := ⟨_, rfl⟩
                          replace H : (some (14, strOfNums y159, x7_3, 0, x7_3)) = some (r1, r2, r3, r4, r5) := by first | (rw [hy159]; with_reducible exact H) | (have H2_ := (Option.bind_some _ _).symm.trans H; rw [hy159]; with_reducible exact H2_) | (have H2_ := (Option.bind_some _ _).symm.trans H; with_reducible exact H2_) | with_reducible exact H | (rw [hy159]; exact H) | exact H
                          have Ny159 := Aside0.mk hy159
                          clear hy159
                          simp only [Option.some.injEq, Prod.mk.injEq] at H
                          obtain ⟨rfl, rfl, rfl, rfl, rfl⟩ := H
                          go_wp2_with (first | ((with_reducible refine gate_dst (N := 67) rfl ?_); (try (refine gate_guard (by rfl) ?_; dsimp only)); refine Kd.R_lit (Kd.int .u8) _ 5 ?hg (N := 67) ?hd (xs := ([t153] : List Int)) (inner := [.int .u8 t153]) (ok := fun _ => True) (okp := fun _ => True) ?hr ?hp (fun _ hk => hk) trivial (Below.refl _ _) (Nat.le_refl _) (by simp) ?_; (case hd => rfl); (case hg => rfl); (case hr => first | (go_simp; done) | (go_simp; rfl)); (case hp => exact (Reps.one (show Kd.M (Kd.int .u8) _ _ _ t153 [.int .u8 t153] from rfl) (Reps.none _ _))); intro v160 w45 ho46 hb hg_ hnew_; clear hg_ hnew_; (first | rw [← Ny159.out] at ho46 | (simp only [Int.reduceToNat] at ho46; rw [← Ny159.out] at ho46)); have n0_ := Aside0.mk (Kd.R_lower ho46 (below_size bw)); have n1_ := Aside0.mk (blk_below (bk BK146) hb); have n2_ := Aside0.mk (below_step bw hb); clear BK146; clear HB; have HO161 := n0_; have BK146 := n1_; have HB := n2_; clear n0_ n1_ n2_; clear hb ho46; have hcv47 := own_string (P := Tryd.prog) Tryd.underlying42 Tryd.underlying5 Tryd.underlying9 (Kd.own_of_R HO161.out); obtain ⟨hcz48_0, hcz48_1, hcz48_2, hcz48_3, hfz48_0, hfz48_1, hfz48_2, hfz48_3⟩ := cells4 BK146))
                          refine bodyPost_ret (results_ct rfl _ _ gb146 31 #[.int .i64 14, .string (strOfNums y159), .int .i64 x7_3, .int .i64 0] (0, 0) _ rfl (bp BK146) Tryd.underlying31 rfl (by kernel_rfl)) rfl ?_
                          exact ⟨by first | rfl | (simp [errW_none, errW_some] <;> rfl) | (simp [*, errW_none, errW_some] <;> rfl), bw⟩
          · rw [if_neg c18] at H
            exact absurd H (by simp)

/-! ### token_first: function 29 -/
def token_first.f (k : Nat) (a0 : ByteArray) : Option (Int × ByteArray × Int × Int × Int × Int × Int) := (token_begun.f k a0).bind fun bt163 => (if bt163.2.2.2.2.2.2.2 = true then (some (bt163.1, bt163.2.1, bt163.2.2.1, bt163.2.2.2.1, bt163.2.2.2.2.1, bt163.2.2.2.2.2.1, bt163.2.2.2.2.2.2.1)) else (if 0 < (a0.size : Int) then ((token_single.f (bt a0 0)).bind fun bt172 => (if bt172.2 = true then (if 0 ≤ 1 then (if 1 ≤ (a0.size : Int) then (some (bt172.1, a0.extract 0 1, 1, 0, 1, 0, 0)) else (none)) else (none)) else ((token_lettered.f k a0).bind fun bt174 => (if bt174.2.2.2.2 > 0 then (some (bt174.1, bt174.2.1, bt174.2.2.1, bt174.2.2.2.1, bt174.2.2.2.2, 0, 0)) else ((runes_First.f a0).bind fun bt180 => (if bt180.2.2 = true then (if (bt a0 0) < 128 then ((strings_IndexByte.f (⟨#[36, 45, 43, 40, 41, 58, 33, 94, 38, 39, 126, 123, 125, 60, 62, 61, 32, 49, 50, 51, 52, 53, 54, 55, 56, 57]⟩ : ByteArray) (bt a0 0)).bind fun t183 => (if t183 < 0 then (some (0, (⟨#[]⟩ : ByteArray), 0, 0, 0, 0, 9)) else (if 0 ≤ bt180.2.1 then (if bt180.2.1 ≤ (a0.size : Int) then (some (17, a0.extract 0 (bt180.2.1 : Int).toNat, 1, 0, bt180.2.1, 0, 0)) else (none)) else (none)))) else (if 0 ≤ bt180.2.1 then (if bt180.2.1 ≤ (a0.size : Int) then (some (17, a0.extract 0 (bt180.2.1 : Int).toNat, 1, 0, bt180.2.1, 0, 0)) else (none)) else (none))) else (some (0, (⟨#[]⟩ : ByteArray), 0, 0, 0, 0, 4)))))))) else (none)))
theorem token_first.mono : ∀ a0 k, LeO (token_first.f k a0) (token_first.f (k + 1) a0) := by
  intro a0 k
  unfold token_first.f
  repeat' first
      | (with_reducible exact token_begun.mono _ _)
      | (with_reducible exact token_lettered.mono _ _)
      | (with_reducible exact LeO.refl _)
      | (with_reducible exact LeO.none _)
      | (with_reducible refine LeO.ite ?_ ?_)
      | (with_reducible refine LeO.bind ?_ (fun _ => ?_))
      | exact token_begun.mono _ _
      | exact token_lettered.mono _ _
      | exact LeO.none _
      | refine LeO.ite ?_ ?_
      | refine LeO.bind ?_ (fun _ => ?_)
set_option maxHeartbeats 8000000 in
set_option maxRecDepth 100000 in
theorem token_first.calls (k : Nat) (a0 : ByteArray) (r1 : Int) (r2 : ByteArray) (r3 : Int) (r4 : Int) (r5 : Int) (r6 : Int) (r7 : Int) (w : World) (h : token_first.f k a0 = some (r1, r2, r3, r4, r5, r6, r7)) (hLd : Laid w) :
    Calls Tryd.prog 29 #[.string a0] w fun e w' => e = .returned (.tuple #[.agg #[.int .i64 r1, .string r2, .int .i64 r3, .int .i64 r4], .int .i64 r5, .int .i64 r6, .int .i64 r7]) ∧ Below w.heap.size w w' := by
  have hu31 := Tryd.underlying31
  have HB := Aside0.mk (Below.refl w.heap.size w)
  have HLd := Aside0.mk hLd
  clear hLd
  have H : ((token_begun.f k a0).bind fun bt163 => (if bt163.2.2.2.2.2.2.2 = true then (some (bt163.1, bt163.2.1, bt163.2.2.1, bt163.2.2.2.1, bt163.2.2.2.2.1, bt163.2.2.2.2.2.1, bt163.2.2.2.2.2.2.1)) else (if 0 < (a0.size : Int) then ((token_single.f (bt a0 0)).bind fun bt172 => (if bt172.2 = true then (if 0 ≤ 1 then (if 1 ≤ (a0.size : Int) then (some (bt172.1, a0.extract 0 1, 1, 0, 1, 0, 0)) else (none)) else (none)) else ((token_lettered.f k a0).bind fun bt174 => (if bt174.2.2.2.2 > 0 then (some (bt174.1, bt174.2.1, bt174.2.2.1, bt174.2.2.2.1, bt174.2.2.2.2, 0, 0)) else ((runes_First.f a0).bind fun bt180 => (if bt180.2.2 = true then (if (bt a0 0) < 128 then ((strings_IndexByte.f (⟨#[36, 45, 43, 40, 41, 58, 33, 94, 38, 39, 126, 123, 125, 60, 62, 61, 32, 49, 50, 51, 52, 53, 54, 55, 56, 57]⟩ : ByteArray) (bt a0 0)).bind fun t183 => (if t183 < 0 then (some (0, (⟨#[]⟩ : ByteArray), 0, 0, 0, 0, 9)) else (if 0 ≤ bt180.2.1 then (if bt180.2.1 ≤ (a0.size : Int) then (some (17, a0.extract 0 (bt180.2.1 : Int).toNat, 1, 0, bt180.2.1, 0, 0)) else (none)) else (none)))) else (if 0 ≤ bt180.2.1 then (if bt180.2.1 ≤ (a0.size : Int) then (some (17, a0.extract 0 (bt180.2.1 : Int).toNat, 1, 0, bt180.2.1, 0, 0)) else (none)) else (none))) else (some (0, (⟨#[]⟩ : ByteArray), 0, 0, 0, 0, 4)))))))) else (none)))) = some (r1, r2, r3, r4, r5, r6, r7) := h
  clear h
  replace H := Option.bind_eq_some_iff.mp H
  obtain ⟨⟨t163, t164, t165, t166, t167, t168, t169, t170⟩, A20, H⟩ := H
  replace H : (if t170 = true then (some (t163, t164, t165, t166, t167, t168, t169)) else (if 0 < (a0.size : Int) then ((token_single.f (bt a0 0)).bind fun bt172 => (if bt172.2 = true then (if 0 ≤ 1 then (if 1 ≤ (a0.size : Int) then (some (bt172.1, a0.extract 0 1, 1, 0, 1, 0, 0)) else (none)) else (none)) else ((token_lettered.f k a0).bind fun bt174 => (if bt174.2.2.2.2 > 0 then (some (bt174.1, bt174.2.1, bt174.2.2.1, bt174.2.2.2.1, bt174.2.2.2.2, 0, 0)) else ((runes_First.f a0).bind fun bt180 => (if bt180.2.2 = true then (if (bt a0 0) < 128 then ((strings_IndexByte.f (⟨#[36, 45, 43, 40, 41, 58, 33, 94, 38, 39, 126, 123, 125, 60, 62, 61, 32, 49, 50, 51, 52, 53, 54, 55, 56, 57]⟩ : ByteArray) (bt a0 0)).bind fun t183 => (if t183 < 0 then (some (0, (⟨#[]⟩ : ByteArray), 0, 0, 0, 0, 9)) else (if 0 ≤ bt180.2.1 then (if bt180.2.1 ≤ (a0.size : Int) then (some (17, a0.extract 0 (bt180.2.1 : Int).toNat, 1, 0, bt180.2.1, 0, 0)) else (none)) else (none)))) else (if 0 ≤ bt180.2.1 then (if bt180.2.1 ≤ (a0.size : Int) then (some (17, a0.extract 0 (bt180.2.1 : Int).toNat, 1, 0, bt180.2.1, 0, 0)) else (none)) else (none))) else (some (0, (⟨#[]⟩ : ByteArray), 0, 0, 0, 0, 4)))))))) else (none))) = some (r1, r2, r3, r4, r5, r6, r7) := H
  have A2 := Aside0.mk A20
  clear A20
  by_cases c3 : t170 = true
  · subst c3
    have H1 : (some (t163, t164, t165, t166, t167, t168, t169)) = some (r1, r2, r3, r4, r5, r6, r7) := by rw [if_pos rfl] at H; exact H
    clear H
    have H := H1
    clear H1
    simp only [Option.some.injEq, Prod.mk.injEq] at H
    obtain ⟨rfl, rfl, rfl, rfl, rfl, rfl, rfl⟩ := H
    go_enter Tryd.func29, Tryd.ntmps29
    go_wp2_with (first | ((with_reducible refine gate_dst (N := 2) rfl ?_); refine box_event ?hg (N := 2) ?hd (cs := #[.int .i64 0, .string (⟨#[]⟩ : ByteArray), .int .i64 0, .int .i64 0]) (t := 31) ?hr ?_; (case hd => rfl); (case hg => rfl); (case hr => first | (go_simp; done) | (go_simp; rfl)); intro gb162 hg w4 hbox hb; have n0_ := Aside0.mk (below_step bw hb); have n1_ := Aside0.mk (hbox); have n2_ := Aside0.mk ((by rw [hg]; exact (below_size bw) : w.heap.size ≤ gb162)); have n3_ := Aside0.mk ((by rw [hg]; exact (below_size bw) : w.heap.size ≤ gb162)); clear HB; have HB := n0_; have BK162 := n1_; have GW162 := n2_; have GE162 := n3_; clear n0_ n1_ n2_ n3_; clear hb hbox hg) | ((with_reducible refine gate_callee (f := 44) rfl ?_); refine goesL_ (some 20) rfl rfl Tryd.func44 (by kernel_rfl) rfl #[.string a0] rfl (by (try simp only [List.map_toArray, List.map_cons, List.map_nil]); first | done | rfl | (simp only [List.length_drop, List.length_take]; rfl)) ?_; (with_reducible refine (token_begun.calls k a0 t163 t164 t165 t166 t167 t168 t169 true _ A2.out).mono ?_); rintro e w5 ⟨rfl, hb⟩; refine ⟨_, rfl, ?_⟩; have n0_ := Aside0.mk (blk_below (bk BK162) hb); have n1_ := Aside0.mk (below_step bw hb); clear BK162; clear HB; have BK162 := n0_; have HB := n1_; clear n0_ n1_; (try clear hb); (try clear hb2); (try clear hk); (try clear hi)) | ((with_reducible refine gate_dst (N := 6) rfl ?_); refine box_event ?hg (N := 6) ?hd (cs := #[.int .i64 0, .string (⟨#[]⟩ : ByteArray), .int .i64 0, .int .i64 0]) (t := 31) ?hr ?_; (case hd => rfl); (case hg => rfl); (case hr => first | (go_simp; done) | (go_simp; rfl)); intro gb171 hg w6 hbox hb; have n0_ := Aside0.mk (blk_below (bk BK162) hb); have n1_ := Aside0.mk (below_step bw hb); have n2_ := Aside0.mk (hbox); have n3_ := Aside0.mk ((by rw [hg]; exact (below_size bw) : w.heap.size ≤ gb171)); have n4_ := Aside0.mk ((by rw [hg]; exact (below_size bw) : w.heap.size ≤ gb171)); have n5_ := Aside0.mk ((by rw [hg]; exact Nat.ne_of_lt (blk_lt (bk BK162)) : gb162 ≠ gb171)); have n6_ := Aside0.mk ((by rw [hg]; exact Nat.ne_of_gt (blk_lt (bk BK162)) : gb171 ≠ gb162)); clear BK162; clear HB; have BK162 := n0_; have HB := n1_; have BK171 := n2_; have GW171 := n3_; have GE171 := n4_; have NB162_171 := n5_; have NB171_162 := n6_; clear n0_ n1_ n2_ n3_ n4_ n5_ n6_; clear hb hbox hg; have hnb7 := NB171_162.out; have hnc7 := NB162_171.out; obtain ⟨hcz8_0, hcz8_1, hcz8_2, hcz8_3, hfz8_0, hfz8_1, hfz8_2, hfz8_3⟩ := cells4 BK171; obtain ⟨hcz9_0, hcz9_1, hcz9_2, hcz9_3, hfz9_0, hfz9_1, hfz9_2, hfz9_3⟩ := cells4 BK162))
    refine bodyPost_ret (results_list (rs := [.cell 2 31, .tmp 3, .tmp 4, .tmp 5]) rfl (by simp) (.cell gb162 31 #[.int .i64 t163, .string t164, .int .i64 t165, .int .i64 t166] (0, 0) _ rfl (bpf BK162) Tryd.underlying31 rfl (by kernel_rfl) (.tmp (.tmp (.tmp .nil))))) rfl ?_
    exact ⟨by first | rfl | (simp [errW_none, errW_some] <;> rfl) | (simp [*, errW_none, errW_some] <;> rfl), bw⟩
  · replace c3 := Bool.eq_false_iff.mpr c3
    subst c3
    have H1 : (if 0 < (a0.size : Int) then ((token_single.f (bt a0 0)).bind fun bt172 => (if bt172.2 = true then (if 0 ≤ 1 then (if 1 ≤ (a0.size : Int) then (some (bt172.1, a0.extract 0 1, 1, 0, 1, 0, 0)) else (none)) else (none)) else ((token_lettered.f k a0).bind fun bt174 => (if bt174.2.2.2.2 > 0 then (some (bt174.1, bt174.2.1, bt174.2.2.1, bt174.2.2.2.1, bt174.2.2.2.2, 0, 0)) else ((runes_First.f a0).bind fun bt180 => (if bt180.2.2 = true then (if (bt a0 0) < 128 then ((strings_IndexByte.f (⟨#[36, 45, 43, 40, 41, 58, 33, 94, 38, 39, 126, 123, 125, 60, 62, 61, 32, 49, 50, 51, 52, 53, 54, 55, 56, 57]⟩ : ByteArray) (bt a0 0)).bind fun t183 => (if t183 < 0 then (some (0, (⟨#[]⟩ : ByteArray), 0, 0, 0, 0, 9)) else (if 0 ≤ bt180.2.1 then (if bt180.2.1 ≤ (a0.size : Int) then (some (17, a0.extract 0 (bt180.2.1 : Int).toNat, 1, 0, bt180.2.1, 0, 0)) else (none)) else (none)))) else (if 0 ≤ bt180.2.1 then (if bt180.2.1 ≤ (a0.size : Int) then (some (17, a0.extract 0 (bt180.2.1 : Int).toNat, 1, 0, bt180.2.1, 0, 0)) else (none)) else (none))) else (some (0, (⟨#[]⟩ : ByteArray), 0, 0, 0, 0, 4)))))))) else (none)) = some (r1, r2, r3, r4, r5, r6, r7) := by rw [if_neg (show ¬ (false = true) by decide)] at H; exact H
    clear H
    have H := H1
    clear H1
    by_cases c10 : 0 < (a0.size : Int)
    · rw [if_pos c10] at H
      have c10b0 : decide (0 < (a0.size : Int)) = true := decide_eq_true c10
      have c10b1 : decide (0 < a0.size) = true := decide_eq_true (by omega)
      clear c10
      replace H := Option.bind_eq_some_iff.mp H
      obtain ⟨⟨t172, t173⟩, A120, H⟩ := H
      replace H : (if t173 = true then (if 0 ≤ 1 then (if 1 ≤ (a0.size : Int) then (some (t172, a0.extract 0 1, 1, 0, 1, 0, 0)) else (none)) else (none)) else ((token_lettered.f k a0).bind fun bt174 => (if bt174.2.2.2.2 > 0 then (some (bt174.1, bt174.2.1, bt174.2.2.1, bt174.2.2.2.1, bt174.2.2.2.2, 0, 0)) else ((runes_First.f a0).bind fun bt180 => (if bt180.2.2 = true then (if (bt a0 0) < 128 then ((strings_IndexByte.f (⟨#[36, 45, 43, 40, 41, 58, 33, 94, 38, 39, 126, 123, 125, 60, 62, 61, 32, 49, 50, 51, 52, 53, 54, 55, 56, 57]⟩ : ByteArray) (bt a0 0)).bind fun t183 => (if t183 < 0 then (some (0, (⟨#[]⟩ : ByteArray), 0, 0, 0, 0, 9)) else (if 0 ≤ bt180.2.1 then (if bt180.2.1 ≤ (a0.size : Int) then (some (17, a0.extract 0 (bt180.2.1 : Int).toNat, 1, 0, bt180.2.1, 0, 0)) else (none)) else (none)))) else (if 0 ≤ bt180.2.1 then (if bt180.2.1 ≤ (a0.size : Int) then (some (17, a0.extract 0 (bt180.2.1 : Int).toNat, 1, 0, bt180.2.1, 0, 0)) else (none)) else (none))) else (some (0, (⟨#[]⟩ : ByteArray), 0, 0, 0, 0, 4))))))) = some (r1, r2, r3, r4, r5, r6, r7) := H
      have A12 := Aside0.mk A120
      clear A120
      by_cases c13 : t173 = true
      · subst c13
        have H1 : (if 0 ≤ 1 then (if 1 ≤ (a0.size : Int) then (some (t172, a0.extract 0 1, 1, 0, 1, 0, 0)) else (none)) else (none)) = some (r1, r2, r3, r4, r5, r6, r7) := by rw [if_pos rfl] at H; exact H
        clear H
        have H := H1
        clear H1
        by_cases c14 : 0 ≤ 1
        · rw [if_pos c14] at H
          have c14b0 := eq_true c14
          have c14b1 : decide (0 ≤ 1) = true := decide_eq_true c14
          clear c14
          by_cases c15 : 1 ≤ (a0.size : Int)
          · rw [if_pos c15] at H
            have c15b0 := eq_true c15
            have c15b1 : decide (1 ≤ (a0.size : Int)) = true := decide_eq_true c15
            clear c15
            simp only [Option.some.injEq, Prod.mk.injEq] at H
            obtain ⟨rfl, rfl, rfl, rfl, rfl, rfl, rfl⟩ := H
            go_enter Tryd.func29, Tryd.ntmps29
            go_wp2_with (first | ((with_reducible refine gate_dst (N := 2) rfl ?_); refine box_event ?hg (N := 2) ?hd (cs := #[.int .i64 0, .string (⟨#[]⟩ : ByteArray), .int .i64 0, .int .i64 0]) (t := 31) ?hr ?_; (case hd => rfl); (case hg => rfl); (case hr => first | (go_simp; done) | (go_simp; rfl)); intro gb162 hg w16 hbox hb; have n0_ := Aside0.mk (below_step bw hb); have n1_ := Aside0.mk (hbox); have n2_ := Aside0.mk ((by rw [hg]; exact (below_size bw) : w.heap.size ≤ gb162)); have n3_ := Aside0.mk ((by rw [hg]; exact (below_size bw) : w.heap.size ≤ gb162)); clear HB; have HB := n0_; have BK162 := n1_; have GW162 := n2_; have GE162 := n3_; clear n0_ n1_ n2_ n3_; clear hb hbox hg) | ((with_reducible refine gate_callee (f := 44) rfl ?_); refine goesL_ (some 20) rfl rfl Tryd.func44 (by kernel_rfl) rfl #[.string a0] rfl (by (try simp only [List.map_toArray, List.map_cons, List.map_nil]); first | done | rfl | (simp only [List.length_drop, List.length_take]; rfl)) ?_; (with_reducible refine (token_begun.calls k a0 t163 t164 t165 t166 t167 t168 t169 false _ A2.out).mono ?_); rintro e w17 ⟨rfl, hb⟩; refine ⟨_, rfl, ?_⟩; have n0_ := Aside0.mk (blk_below (bk BK162) hb); have n1_ := Aside0.mk (below_step bw hb); clear BK162; clear HB; have BK162 := n0_; have HB := n1_; clear n0_ n1_; (try clear hb); (try clear hb2); (try clear hk); (try clear hi)) | ((with_reducible refine gate_dst (N := 6) rfl ?_); refine box_event ?hg (N := 6) ?hd (cs := #[.int .i64 0, .string (⟨#[]⟩ : ByteArray), .int .i64 0, .int .i64 0]) (t := 31) ?hr ?_; (case hd => rfl); (case hg => rfl); (case hr => first | (go_simp; done) | (go_simp; rfl)); intro gb171 hg w18 hbox hb; have n0_ := Aside0.mk (blk_below (bk BK162) hb); have n1_ := Aside0.mk (below_step bw hb); have n2_ := Aside0.mk (hbox); have n3_ := Aside0.mk ((by rw [hg]; exact (below_size bw) : w.heap.size ≤ gb171)); have n4_ := Aside0.mk ((by rw [hg]; exact (below_size bw) : w.heap.size ≤ gb171)); have n5_ := Aside0.mk ((by rw [hg]; exact Nat.ne_of_lt (blk_lt (bk BK162)) : gb162 ≠ gb171)); have n6_ := Aside0.mk ((by rw [hg]; exact Nat.ne_of_gt (blk_lt (bk BK162)) : gb171 ≠ gb162)); clear BK162; clear HB; have BK162 := n0_; have HB := n1_; have BK171 := n2_; have GW171 := n3_; have GE171 := n4_; have NB162_171 := n5_; have NB171_162 := n6_; clear n0_ n1_ n2_ n3_ n4_ n5_ n6_; clear hb hbox hg; have hnb19 := NB171_162.out; have hnc19 := NB162_171.out; obtain ⟨hcz20_0, hcz20_1, hcz20_2, hcz20_3, hfz20_0, hfz20_1, hfz20_2, hfz20_3⟩ := cells4 BK171; have p11 : 0 ≤ (0 : Int) := (by omega); have q11 : 0 < a0.size := (by have : (0 : Int) < (a0.size : Int) := ode; omega); have hx11 : ∀ h : 0 < a0.size, ((a0[0]'h).toNat : Int) = bt a0 0 := bt_at a0 0; clear p11; have qi11 : (0 < (a0.size : Int)) = True := eq_true ode; replace q11 := eq_true q11) | ((with_reducible refine gate_callee (f := 45) rfl ?_); refine goesL_ (some 34) rfl rfl Tryd.func45 (by kernel_rfl) rfl #[.int .u8 (bt a0 0)] rfl (by (try simp only [List.map_toArray, List.map_cons, List.map_nil]); first | done | rfl | (simp only [List.length_drop, List.length_take]; rfl)) ?_; (with_reducible refine (token_single.calls (bt a0 0) t172 true _ A12.out).mono ?_); rintro e w21 ⟨rfl, hb⟩; refine ⟨_, rfl, ?_⟩; have n0_ := Aside0.mk (blk_below (g := gb162) (o := .cells #[.int .i64 0, .string (⟨#[]⟩ : ByteArray), .int .i64 0, .int .i64 0] 31 (0, 0)) (by (with_reducible repeat (first | refine blk_drewN ?_ _ | refine blk_drew ?_ | refine blk_alloc ?_ _)); refine blk_far ?_ NB162_171.out _; (with_reducible repeat (first | refine blk_drewN ?_ _ | refine blk_drew ?_ | refine blk_alloc ?_ _)); refine blk_far ?_ NB162_171.out _; (with_reducible repeat (first | refine blk_drewN ?_ _ | refine blk_drew ?_ | refine blk_alloc ?_ _)); refine blk_far ?_ NB162_171.out _; (with_reducible repeat (first | refine blk_drewN ?_ _ | refine blk_drew ?_ | refine blk_alloc ?_ _)); refine blk_far ?_ NB162_171.out _; (with_reducible repeat (first | refine blk_drewN ?_ _ | refine blk_drew ?_ | refine blk_alloc ?_ _)); exact BK162.out) hb); have n1_ := Aside0.mk (blk_below (g := gb171) (o := .cells #[.int .i64 t163, .string t164, .int .i64 t165, .int .i64 t166] 31 (0, 0)) (bp BK171) hb); have n2_ := Aside0.mk (below_step bw hb); clear BK162; clear BK171; clear HB; have BK162 := n0_; have BK171 := n1_; have HB := n2_; clear n0_ n1_ n2_; (try clear hb); (try clear hb2); (try clear hk); (try clear hi); obtain ⟨hcz22_0, hcz22_1, hcz22_2, hcz22_3, hfz22_0, hfz22_1, hfz22_2, hfz22_3⟩ := cells4 BK162))
            refine bodyPost_ret (results_list (rs := [.cell 2 31, .tmp 3, .tmp 4, .tmp 5]) rfl (by simp) (.cell gb162 31 #[.int .i64 t172, .string (a0.extract 0 1), .int .i64 1, .int .i64 0] (0, 0) _ rfl (bp BK162) Tryd.underlying31 rfl (by kernel_rfl) (.tmp (.tmp (.tmp .nil))))) rfl ?_
            exact ⟨by first | rfl | (simp [errW_none, errW_some] <;> rfl) | (simp [*, errW_none, errW_some] <;> rfl), bw⟩
          · rw [if_neg c15] at H
            exact absurd H (by simp)
        · rw [if_neg c14] at H
          exact absurd H (by simp)
      · replace c13 := Bool.eq_false_iff.mpr c13
        subst c13
        have H1 : ((token_lettered.f k a0).bind fun bt174 => (if bt174.2.2.2.2 > 0 then (some (bt174.1, bt174.2.1, bt174.2.2.1, bt174.2.2.2.1, bt174.2.2.2.2, 0, 0)) else ((runes_First.f a0).bind fun bt180 => (if bt180.2.2 = true then (if (bt a0 0) < 128 then ((strings_IndexByte.f (⟨#[36, 45, 43, 40, 41, 58, 33, 94, 38, 39, 126, 123, 125, 60, 62, 61, 32, 49, 50, 51, 52, 53, 54, 55, 56, 57]⟩ : ByteArray) (bt a0 0)).bind fun t183 => (if t183 < 0 then (some (0, (⟨#[]⟩ : ByteArray), 0, 0, 0, 0, 9)) else (if 0 ≤ bt180.2.1 then (if bt180.2.1 ≤ (a0.size : Int) then (some (17, a0.extract 0 (bt180.2.1 : Int).toNat, 1, 0, bt180.2.1, 0, 0)) else (none)) else (none)))) else (if 0 ≤ bt180.2.1 then (if bt180.2.1 ≤ (a0.size : Int) then (some (17, a0.extract 0 (bt180.2.1 : Int).toNat, 1, 0, bt180.2.1, 0, 0)) else (none)) else (none))) else (some (0, (⟨#[]⟩ : ByteArray), 0, 0, 0, 0, 4)))))) = some (r1, r2, r3, r4, r5, r6, r7) := by rw [if_neg (show ¬ (false = true) by decide)] at H; exact H
        clear H
        have H := H1
        clear H1
        replace H := Option.bind_eq_some_iff.mp H
        obtain ⟨⟨t174, t175, t176, t177, t178⟩, A230, H⟩ := H
        replace H : (if t178 > 0 then (some (t174, t175, t176, t177, t178, 0, 0)) else ((runes_First.f a0).bind fun bt180 => (if bt180.2.2 = true then (if (bt a0 0) < 128 then ((strings_IndexByte.f (⟨#[36, 45, 43, 40, 41, 58, 33, 94, 38, 39, 126, 123, 125, 60, 62, 61, 32, 49, 50, 51, 52, 53, 54, 55, 56, 57]⟩ : ByteArray) (bt a0 0)).bind fun t183 => (if t183 < 0 then (some (0, (⟨#[]⟩ : ByteArray), 0, 0, 0, 0, 9)) else (if 0 ≤ bt180.2.1 then (if bt180.2.1 ≤ (a0.size : Int) then (some (17, a0.extract 0 (bt180.2.1 : Int).toNat, 1, 0, bt180.2.1, 0, 0)) else (none)) else (none)))) else (if 0 ≤ bt180.2.1 then (if bt180.2.1 ≤ (a0.size : Int) then (some (17, a0.extract 0 (bt180.2.1 : Int).toNat, 1, 0, bt180.2.1, 0, 0)) else (none)) else (none))) else (some (0, (⟨#[]⟩ : ByteArray), 0, 0, 0, 0, 4))))) = some (r1, r2, r3, r4, r5, r6, r7) := H
        have A23 := Aside0.mk A230
        clear A230
        by_cases c24 : t178 > 0
        · rw [if_pos c24] at H
          have c24b0 : decide (0 < t178) = true := decide_eq_true c24
          clear c24
          simp only [Option.some.injEq, Prod.mk.injEq] at H
          obtain ⟨rfl, rfl, rfl, rfl, rfl, rfl, rfl⟩ := H
          go_enter Tryd.func29, Tryd.ntmps29
          go_wp2_with (first | ((with_reducible refine gate_dst (N := 2) rfl ?_); refine box_event ?hg (N := 2) ?hd (cs := #[.int .i64 0, .string (⟨#[]⟩ : ByteArray), .int .i64 0, .int .i64 0]) (t := 31) ?hr ?_; (case hd => rfl); (case hg => rfl); (case hr => first | (go_simp; done) | (go_simp; rfl)); intro gb162 hg w25 hbox hb; have n0_ := Aside0.mk (below_step bw hb); have n1_ := Aside0.mk (hbox); have n2_ := Aside0.mk ((by rw [hg]; exact (below_size bw) : w.heap.size ≤ gb162)); have n3_ := Aside0.mk ((by rw [hg]; exact (below_size bw) : w.heap.size ≤ gb162)); clear HB; have HB := n0_; have BK162 := n1_; have GW162 := n2_; have GE162 := n3_; clear n0_ n1_ n2_ n3_; clear hb hbox hg) | ((with_reducible refine gate_callee (f := 44) rfl ?_); refine goesL_ (some 20) rfl rfl Tryd.func44 (by kernel_rfl) rfl #[.string a0] rfl (by (try simp only [List.map_toArray, List.map_cons, List.map_nil]); first | done | rfl | (simp only [List.length_drop, List.length_take]; rfl)) ?_; (with_reducible refine (token_begun.calls k a0 t163 t164 t165 t166 t167 t168 t169 false _ A2.out).mono ?_); rintro e w26 ⟨rfl, hb⟩; refine ⟨_, rfl, ?_⟩; have n0_ := Aside0.mk (blk_below (bk BK162) hb); have n1_ := Aside0.mk (below_step bw hb); clear BK162; clear HB; have BK162 := n0_; have HB := n1_; clear n0_ n1_; (try clear hb); (try clear hb2); (try clear hk); (try clear hi)) | ((with_reducible refine gate_dst (N := 6) rfl ?_); refine box_event ?hg (N := 6) ?hd (cs := #[.int .i64 0, .string (⟨#[]⟩ : ByteArray), .int .i64 0, .int .i64 0]) (t := 31) ?hr ?_; (case hd => rfl); (case hg => rfl); (case hr => first | (go_simp; done) | (go_simp; rfl)); intro gb171 hg w27 hbox hb; have n0_ := Aside0.mk (blk_below (bk BK162) hb); have n1_ := Aside0.mk (below_step bw hb); have n2_ := Aside0.mk (hbox); have n3_ := Aside0.mk ((by rw [hg]; exact (below_size bw) : w.heap.size ≤ gb171)); have n4_ := Aside0.mk ((by rw [hg]; exact (below_size bw) : w.heap.size ≤ gb171)); have n5_ := Aside0.mk ((by rw [hg]; exact Nat.ne_of_lt (blk_lt (bk BK162)) : gb162 ≠ gb171)); have n6_ := Aside0.mk ((by rw [hg]; exact Nat.ne_of_gt (blk_lt (bk BK162)) : gb171 ≠ gb162)); clear BK162; clear HB; have BK162 := n0_; have HB := n1_; have BK171 := n2_; have GW171 := n3_; have GE171 := n4_; have NB162_171 := n5_; have NB171_162 := n6_; clear n0_ n1_ n2_ n3_ n4_ n5_ n6_; clear hb hbox hg; have hnb28 := NB171_162.out; have hnc28 := NB162_171.out; obtain ⟨hcz29_0, hcz29_1, hcz29_2, hcz29_3, hfz29_0, hfz29_1, hfz29_2, hfz29_3⟩ := cells4 BK171; have p11 : 0 ≤ (0 : Int) := (by omega); have q11 : 0 < a0.size := (by have : (0 : Int) < (a0.size : Int) := ode; omega); have hx11 : ∀ h : 0 < a0.size, ((a0[0]'h).toNat : Int) = bt a0 0 := bt_at a0 0; clear p11; have qi11 : (0 < (a0.size : Int)) = True := eq_true ode; replace q11 := eq_true q11) | ((with_reducible refine gate_callee (f := 45) rfl ?_); refine goesL_ (some 34) rfl rfl Tryd.func45 (by kernel_rfl) rfl #[.int .u8 (bt a0 0)] rfl (by (try simp only [List.map_toArray, List.map_cons, List.map_nil]); first | done | rfl | (simp only [List.length_drop, List.length_take]; rfl)) ?_; (with_reducible refine (token_single.calls (bt a0 0) t172 false _ A12.out).mono ?_); rintro e w30 ⟨rfl, hb⟩; refine ⟨_, rfl, ?_⟩; have n0_ := Aside0.mk (blk_below (g := gb162) (o := .cells #[.int .i64 0, .string (⟨#[]⟩ : ByteArray), .int .i64 0, .int .i64 0] 31 (0, 0)) (by (with_reducible repeat (first | refine blk_drewN ?_ _ | refine blk_drew ?_ | refine blk_alloc ?_ _)); refine blk_far ?_ NB162_171.out _; (with_reducible repeat (first | refine blk_drewN ?_ _ | refine blk_drew ?_ | refine blk_alloc ?_ _)); refine blk_far ?_ NB162_171.out _; (with_reducible repeat (first | refine blk_drewN ?_ _ | refine blk_drew ?_ | refine blk_alloc ?_ _)); refine blk_far ?_ NB162_171.out _; (with_reducible repeat (first | refine blk_drewN ?_ _ | refine blk_drew ?_ | refine blk_alloc ?_ _)); refine blk_far ?_ NB162_171.out _; (with_reducible repeat (first | refine blk_drewN ?_ _ | refine blk_drew ?_ | refine blk_alloc ?_ _)); exact BK162.out) hb); have n1_ := Aside0.mk (blk_below (g := gb171) (o := .cells #[.int .i64 t163, .string t164, .int .i64 t165, .int .i64 t166] 31 (0, 0)) (bp BK171) hb); have n2_ := Aside0.mk (below_step bw hb); clear BK162; clear BK171; clear HB; have BK162 := n0_; have BK171 := n1_; have HB := n2_; clear n0_ n1_ n2_; (try clear hb); (try clear hb2); (try clear hk); (try clear hi)) | ((with_reducible refine gate_callee (f := 46) rfl ?_); refine goesL_ (some 44) rfl rfl Tryd.func46 (by kernel_rfl) rfl #[.string a0] rfl (by (try simp only [List.map_toArray, List.map_cons, List.map_nil]); first | done | rfl | (simp only [List.length_drop, List.length_take]; rfl)) ?_; (with_reducible refine (token_lettered.calls k a0 t174 t175 t176 t177 t178 _ A23.out ?side1).mono ?_); (case side1 => exact Laid.below HLd.out bw); rintro e w31 ⟨rfl, hb⟩; refine ⟨_, rfl, ?_⟩; have n0_ := Aside0.mk (blk_below (bk BK162) hb); have n1_ := Aside0.mk (blk_below (bk BK171) hb); have n2_ := Aside0.mk (below_step bw hb); clear BK162; clear BK171; clear HB; have BK162 := n0_; have BK171 := n1_; have HB := n2_; clear n0_ n1_ n2_; (try clear hb); (try clear hb2); (try clear hk); (try clear hi)) | ((with_reducible refine gate_dst (N := 13) rfl ?_); refine box_event ?hg (N := 13) ?hd (cs := #[.int .i64 0, .string (⟨#[]⟩ : ByteArray), .int .i64 0, .int .i64 0]) (t := 31) ?hr ?_; (case hd => rfl); (case hg => rfl); (case hr => first | (go_simp; done) | (go_simp; rfl)); intro gb179 hg w32 hbox hb; have n0_ := Aside0.mk (blk_below (bk BK162) hb); have n1_ := Aside0.mk (blk_below (bk BK171) hb); have n2_ := Aside0.mk (below_step bw hb); have n3_ := Aside0.mk (hbox); have n4_ := Aside0.mk ((by rw [hg]; exact (below_size bw) : w.heap.size ≤ gb179)); have n5_ := Aside0.mk ((by rw [hg]; exact (below_size bw) : w.heap.size ≤ gb179)); have n6_ := Aside0.mk ((by rw [hg]; exact Nat.ne_of_lt (blk_lt (bk BK162)) : gb162 ≠ gb179)); have n7_ := Aside0.mk ((by rw [hg]; exact Nat.ne_of_gt (blk_lt (bk BK162)) : gb179 ≠ gb162)); have n8_ := Aside0.mk ((by rw [hg]; exact Nat.ne_of_lt (blk_lt (bk BK171)) : gb171 ≠ gb179)); have n9_ := Aside0.mk ((by rw [hg]; exact Nat.ne_of_gt (blk_lt (bk BK171)) : gb179 ≠ gb171)); clear BK162; clear BK171; clear HB; have BK162 := n0_; have BK171 := n1_; have HB := n2_; have BK179 := n3_; have GW179 := n4_; have GE179 := n5_; have NB162_179 := n6_; have NB179_162 := n7_; have NB171_179 := n8_; have NB179_171 := n9_; clear n0_ n1_ n2_ n3_ n4_ n5_ n6_ n7_ n8_ n9_; clear hb hbox hg; have hnb33 := NB179_162.out; have hnc33 := NB162_179.out; have hnb34 := NB179_171.out; have hnc34 := NB171_179.out; obtain ⟨hcz35_0, hcz35_1, hcz35_2, hcz35_3, hfz35_0, hfz35_1, hfz35_2, hfz35_3⟩ := cells4 BK179; obtain ⟨hcz36_0, hcz36_1, hcz36_2, hcz36_3, hfz36_0, hfz36_1, hfz36_2, hfz36_3⟩ := cells4 BK162))
          refine bodyPost_ret (results_list (rs := [.cell 2 31, .tmp 3, .tmp 4, .tmp 5]) rfl (by simp) (.cell gb162 31 #[.int .i64 t174, .string t175, .int .i64 t176, .int .i64 t177] (0, 0) _ rfl (bpf BK162) Tryd.underlying31 rfl (by kernel_rfl) (.tmp (.tmp (.tmp .nil))))) rfl ?_
          exact ⟨by first | rfl | (simp [errW_none, errW_some] <;> rfl) | (simp [*, errW_none, errW_some] <;> rfl), bw⟩
        · rw [if_neg c24] at H
          have c24b0 : decide (0 < t178) = false := decide_eq_false c24
          clear c24
          replace H := Option.bind_eq_some_iff.mp H
          obtain ⟨⟨t180, t181, t182⟩, A370, H⟩ := H
          replace H : (if t182 = true then (if (bt a0 0) < 128 then ((strings_IndexByte.f (⟨#[36, 45, 43, 40, 41, 58, 33, 94, 38, 39, 126, 123, 125, 60, 62, 61, 32, 49, 50, 51, 52, 53, 54, 55, 56, 57]⟩ : ByteArray) (bt a0 0)).bind fun t183 => (if t183 < 0 then (some (0, (⟨#[]⟩ : ByteArray), 0, 0, 0, 0, 9)) else (if 0 ≤ t181 then (if t181 ≤ (a0.size : Int) then (some (17, a0.extract 0 (t181 : Int).toNat, 1, 0, t181, 0, 0)) else (none)) else (none)))) else (if 0 ≤ t181 then (if t181 ≤ (a0.size : Int) then (some (17, a0.extract 0 (t181 : Int).toNat, 1, 0, t181, 0, 0)) else (none)) else (none))) else (some (0, (⟨#[]⟩ : ByteArray), 0, 0, 0, 0, 4))) = some (r1, r2, r3, r4, r5, r6, r7) := H
          have A37 := Aside0.mk A370
          clear A370
          by_cases c38 : t182 = true
          · subst c38
            have H1 : (if (bt a0 0) < 128 then ((strings_IndexByte.f (⟨#[36, 45, 43, 40, 41, 58, 33, 94, 38, 39, 126, 123, 125, 60, 62, 61, 32, 49, 50, 51, 52, 53, 54, 55, 56, 57]⟩ : ByteArray) (bt a0 0)).bind fun t183 => (if t183 < 0 then (some (0, (⟨#[]⟩ : ByteArray), 0, 0, 0, 0, 9)) else (if 0 ≤ t181 then (if t181 ≤ (a0.size : Int) then (some (17, a0.extract 0 (t181 : Int).toNat, 1, 0, t181, 0, 0)) else (none)) else (none)))) else (if 0 ≤ t181 then (if t181 ≤ (a0.size : Int) then (some (17, a0.extract 0 (t181 : Int).toNat, 1, 0, t181, 0, 0)) else (none)) else (none))) = some (r1, r2, r3, r4, r5, r6, r7) := by rw [if_pos rfl] at H; exact H
            clear H
            have H := H1
            clear H1
            by_cases c40 : (bt a0 0) < 128
            · rw [if_pos c40] at H
              have c40b0 : decide ((bt a0 0) < 128) = true := decide_eq_true c40
              clear c40
              replace H := Option.bind_eq_some_iff.mp H
              obtain ⟨t183, A420, H⟩ := H
              replace H : (if t183 < 0 then (some (0, (⟨#[]⟩ : ByteArray), 0, 0, 0, 0, 9)) else (if 0 ≤ t181 then (if t181 ≤ (a0.size : Int) then (some (17, a0.extract 0 (t181 : Int).toNat, 1, 0, t181, 0, 0)) else (none)) else (none))) = some (r1, r2, r3, r4, r5, r6, r7) := H
              have A42 := Aside0.mk A420
              clear A420
              by_cases c43 : t183 < 0
              · rw [if_pos c43] at H
                have c43b0 : decide (t183 < 0) = true := decide_eq_true c43
                clear c43
                simp only [Option.some.injEq, Prod.mk.injEq] at H
                obtain ⟨rfl, rfl, rfl, rfl, rfl, rfl, rfl⟩ := H
                go_enter Tryd.func29, Tryd.ntmps29
                go_wp2_with (first | ((with_reducible refine gate_dst (N := 2) rfl ?_); refine box_event ?hg (N := 2) ?hd (cs := #[.int .i64 0, .string (⟨#[]⟩ : ByteArray), .int .i64 0, .int .i64 0]) (t := 31) ?hr ?_; (case hd => rfl); (case hg => rfl); (case hr => first | (go_simp; done) | (go_simp; rfl)); intro gb162 hg w44 hbox hb; have n0_ := Aside0.mk (below_step bw hb); have n1_ := Aside0.mk (hbox); have n2_ := Aside0.mk ((by rw [hg]; exact (below_size bw) : w.heap.size ≤ gb162)); have n3_ := Aside0.mk ((by rw [hg]; exact (below_size bw) : w.heap.size ≤ gb162)); clear HB; have HB := n0_; have BK162 := n1_; have GW162 := n2_; have GE162 := n3_; clear n0_ n1_ n2_ n3_; clear hb hbox hg) | ((with_reducible refine gate_callee (f := 44) rfl ?_); refine goesL_ (some 20) rfl rfl Tryd.func44 (by kernel_rfl) rfl #[.string a0] rfl (by (try simp only [List.map_toArray, List.map_cons, List.map_nil]); first | done | rfl | (simp only [List.length_drop, List.length_take]; rfl)) ?_; (with_reducible refine (token_begun.calls k a0 t163 t164 t165 t166 t167 t168 t169 false _ A2.out).mono ?_); rintro e w45 ⟨rfl, hb⟩; refine ⟨_, rfl, ?_⟩; have n0_ := Aside0.mk (blk_below (bk BK162) hb); have n1_ := Aside0.mk (below_step bw hb); clear BK162; clear HB; have BK162 := n0_; have HB := n1_; clear n0_ n1_; (try clear hb); (try clear hb2); (try clear hk); (try clear hi)) | ((with_reducible refine gate_dst (N := 6) rfl ?_); refine box_event ?hg (N := 6) ?hd (cs := #[.int .i64 0, .string (⟨#[]⟩ : ByteArray), .int .i64 0, .int .i64 0]) (t := 31) ?hr ?_; (case hd => rfl); (case hg => rfl); (case hr => first | (go_simp; done) | (go_simp; rfl)); intro gb171 hg w46 hbox hb; have n0_ := Aside0.mk (blk_below (bk BK162) hb); have n1_ := Aside0.mk (below_step bw hb); have n2_ := Aside0.mk (hbox); have n3_ := Aside0.mk ((by rw [hg]; exact (below_size bw) : w.heap.size ≤ gb171)); have n4_ := Aside0.mk ((by rw [hg]; exact (below_size bw) : w.heap.size ≤ gb171)); have n5_ := Aside0.mk ((by rw [hg]; exact Nat.ne_of_lt (blk_lt (bk BK162)) : gb162 ≠ gb171)); have n6_ := Aside0.mk ((by rw [hg]; exact Nat.ne_of_gt (blk_lt (bk BK162)) : gb171 ≠ gb162)); clear BK162; clear HB; have BK162 := n0_; have HB := n1_; have BK171 := n2_; have GW171 := n3_; have GE171 := n4_; have NB162_171 := n5_; have NB171_162 := n6_; clear n0_ n1_ n2_ n3_ n4_ n5_ n6_; clear hb hbox hg; have hnb47 := NB171_162.out; have hnc47 := NB162_171.out; obtain ⟨hcz48_0, hcz48_1, hcz48_2, hcz48_3, hfz48_0, hfz48_1, hfz48_2, hfz48_3⟩ := cells4 BK171; have p11 : 0 ≤ (0 : Int) := (by omega); have q11 : 0 < a0.size := (by have : (0 : Int) < (a0.size : Int) := ode; omega); have hx11 : ∀ h : 0 < a0.size, ((a0[0]'h).toNat : Int) = bt a0 0 := bt_at a0 0; clear p11; have qi11 : (0 < (a0.size : Int)) = True := eq_true ode; replace q11 := eq_true q11) | ((with_reducible refine gate_callee (f := 45) rfl ?_); refine goesL_ (some 34) rfl rfl Tryd.func45 (by kernel_rfl) rfl #[.int .u8 (bt a0 0)] rfl (by (try simp only [List.map_toArray, List.map_cons, List.map_nil]); first | done | rfl | (simp only [List.length_drop, List.length_take]; rfl)) ?_; (with_reducible refine (token_single.calls (bt a0 0) t172 false _ A12.out).mono ?_); rintro e w49 ⟨rfl, hb⟩; refine ⟨_, rfl, ?_⟩; have n0_ := Aside0.mk (blk_below (g := gb162) (o := .cells #[.int .i64 0, .string (⟨#[]⟩ : ByteArray), .int .i64 0, .int .i64 0] 31 (0, 0)) (by (with_reducible repeat (first | refine blk_drewN ?_ _ | refine blk_drew ?_ | refine blk_alloc ?_ _)); refine blk_far ?_ NB162_171.out _; (with_reducible repeat (first | refine blk_drewN ?_ _ | refine blk_drew ?_ | refine blk_alloc ?_ _)); refine blk_far ?_ NB162_171.out _; (with_reducible repeat (first | refine blk_drewN ?_ _ | refine blk_drew ?_ | refine blk_alloc ?_ _)); refine blk_far ?_ NB162_171.out _; (with_reducible repeat (first | refine blk_drewN ?_ _ | refine blk_drew ?_ | refine blk_alloc ?_ _)); refine blk_far ?_ NB162_171.out _; (with_reducible repeat (first | refine blk_drewN ?_ _ | refine blk_drew ?_ | refine blk_alloc ?_ _)); exact BK162.out) hb); have n1_ := Aside0.mk (blk_below (g := gb171) (o := .cells #[.int .i64 t163, .string t164, .int .i64 t165, .int .i64 t166] 31 (0, 0)) (bp BK171) hb); have n2_ := Aside0.mk (below_step bw hb); clear BK162; clear BK171; clear HB; have BK162 := n0_; have BK171 := n1_; have HB := n2_; clear n0_ n1_ n2_; (try clear hb); (try clear hb2); (try clear hk); (try clear hi)) | ((with_reducible refine gate_callee (f := 46) rfl ?_); refine goesL_ (some 44) rfl rfl Tryd.func46 (by kernel_rfl) rfl #[.string a0] rfl (by (try simp only [List.map_toArray, List.map_cons, List.map_nil]); first | done | rfl | (simp only [List.length_drop, List.length_take]; rfl)) ?_; (with_reducible refine (token_lettered.calls k a0 t174 t175 t176 t177 t178 _ A23.out ?side1).mono ?_); (case side1 => exact Laid.below HLd.out bw); rintro e w50 ⟨rfl, hb⟩; refine ⟨_, rfl, ?_⟩; have n0_ := Aside0.mk (blk_below (bk BK162) hb); have n1_ := Aside0.mk (blk_below (bk BK171) hb); have n2_ := Aside0.mk (below_step bw hb); clear BK162; clear BK171; clear HB; have BK162 := n0_; have BK171 := n1_; have HB := n2_; clear n0_ n1_ n2_; (try clear hb); (try clear hb2); (try clear hk); (try clear hi)) | ((with_reducible refine gate_dst (N := 13) rfl ?_); refine box_event ?hg (N := 13) ?hd (cs := #[.int .i64 0, .string (⟨#[]⟩ : ByteArray), .int .i64 0, .int .i64 0]) (t := 31) ?hr ?_; (case hd => rfl); (case hg => rfl); (case hr => first | (go_simp; done) | (go_simp; rfl)); intro gb179 hg w51 hbox hb; have n0_ := Aside0.mk (blk_below (bk BK162) hb); have n1_ := Aside0.mk (blk_below (bk BK171) hb); have n2_ := Aside0.mk (below_step bw hb); have n3_ := Aside0.mk (hbox); have n4_ := Aside0.mk ((by rw [hg]; exact (below_size bw) : w.heap.size ≤ gb179)); have n5_ := Aside0.mk ((by rw [hg]; exact (below_size bw) : w.heap.size ≤ gb179)); have n6_ := Aside0.mk ((by rw [hg]; exact Nat.ne_of_lt (blk_lt (bk BK162)) : gb162 ≠ gb179)); have n7_ := Aside0.mk ((by rw [hg]; exact Nat.ne_of_gt (blk_lt (bk BK162)) : gb179 ≠ gb162)); have n8_ := Aside0.mk ((by rw [hg]; exact Nat.ne_of_lt (blk_lt (bk BK171)) : gb171 ≠ gb179)); have n9_ := Aside0.mk ((by rw [hg]; exact Nat.ne_of_gt (blk_lt (bk BK171)) : gb179 ≠ gb171)); clear BK162; clear BK171; clear HB; have BK162 := n0_; have BK171 := n1_; have HB := n2_; have BK179 := n3_; have GW179 := n4_; have GE179 := n5_; have NB162_179 := n6_; have NB179_162 := n7_; have NB171_179 := n8_; have NB179_171 := n9_; clear n0_ n1_ n2_ n3_ n4_ n5_ n6_ n7_ n8_ n9_; clear hb hbox hg; have hnb52 := NB179_162.out; have hnc52 := NB162_179.out; have hnb53 := NB179_171.out; have hnc53 := NB171_179.out; obtain ⟨hcz54_0, hcz54_1, hcz54_2, hcz54_3, hfz54_0, hfz54_1, hfz54_2, hfz54_3⟩ := cells4 BK179) | ((with_reducible refine gate_callee (f := 19) rfl ?_); refine goesL_ (some 53) rfl rfl Tryd.func19 (by kernel_rfl) rfl #[.string a0] rfl (by (try simp only [List.map_toArray, List.map_cons, List.map_nil]); first | done | rfl | (simp only [List.length_drop, List.length_take]; rfl)) ?_; (with_reducible refine (runes_First.calls a0 t180 t181 true _ A37.out).mono ?_); rintro e w55 ⟨rfl, hb⟩; refine ⟨_, rfl, ?_⟩; have n0_ := Aside0.mk (blk_below (g := gb162) (o := .cells #[.int .i64 0, .string (⟨#[]⟩ : ByteArray), .int .i64 0, .int .i64 0] 31 (0, 0)) (by (with_reducible repeat (first | refine blk_drewN ?_ _ | refine blk_drew ?_ | refine blk_alloc ?_ _)); refine blk_far ?_ NB162_179.out _; (with_reducible repeat (first | refine blk_drewN ?_ _ | refine blk_drew ?_ | refine blk_alloc ?_ _)); refine blk_far ?_ NB162_179.out _; (with_reducible repeat (first | refine blk_drewN ?_ _ | refine blk_drew ?_ | refine blk_alloc ?_ _)); refine blk_far ?_ NB162_179.out _; (with_reducible repeat (first | refine blk_drewN ?_ _ | refine blk_drew ?_ | refine blk_alloc ?_ _)); refine blk_far ?_ NB162_179.out _; (with_reducible repeat (first | refine blk_drewN ?_ _ | refine blk_drew ?_ | refine blk_alloc ?_ _)); exact BK162.out) hb); have n1_ := Aside0.mk (blk_below (g := gb171) (o := .cells #[.int .i64 t163, .string t164, .int .i64 t165, .int .i64 t166] 31 (0, 0)) (by (with_reducible repeat (first | refine blk_drewN ?_ _ | refine blk_drew ?_ | refine blk_alloc ?_ _)); refine blk_far ?_ NB171_179.out _; (with_reducible repeat (first | refine blk_drewN ?_ _ | refine blk_drew ?_ | refine blk_alloc ?_ _)); refine blk_far ?_ NB171_179.out _; (with_reducible repeat (first | refine blk_drewN ?_ _ | refine blk_drew ?_ | refine blk_alloc ?_ _)); refine blk_far ?_ NB171_179.out _; (with_reducible repeat (first | refine blk_drewN ?_ _ | refine blk_drew ?_ | refine blk_alloc ?_ _)); refine blk_far ?_ NB171_179.out _; (with_reducible repeat (first | refine blk_drewN ?_ _ | refine blk_drew ?_ | refine blk_alloc ?_ _)); exact BK171.out) hb); have n2_ := Aside0.mk (blk_below (g := gb179) (o := .cells #[.int .i64 t174, .string t175, .int .i64 t176, .int .i64 t177] 31 (0, 0)) (bp BK179) hb); have n3_ := Aside0.mk (below_step bw hb); clear BK162; clear BK171; clear BK179; clear HB; have BK162 := n0_; have BK171 := n1_; have BK179 := n2_; have HB := n3_; clear n0_ n1_ n2_ n3_; (try clear hb); (try clear hb2); (try clear hk); (try clear hi); have p39 : 0 ≤ (0 : Int) := (by omega); have q39 : 0 < a0.size := (by have : (0 : Int) < (a0.size : Int) := ode; omega); have hx39 : ∀ h : 0 < a0.size, ((a0[0]'h).toNat : Int) = bt a0 0 := bt_at a0 0; clear p39; have qi39 : (0 < (a0.size : Int)) = True := eq_true ode; replace q39 := eq_true q39; have p41 : 0 ≤ (0 : Int) := (by omega); have q41 : 0 < a0.size := (by have : (0 : Int) < (a0.size : Int) := ode; omega); have hx41 : ∀ h : 0 < a0.size, ((a0[0]'h).toNat : Int) = bt a0 0 := bt_at a0 0; clear p41; have qi41 : (0 < (a0.size : Int)) = True := eq_true ode; replace q41 := eq_true q41) | (go_at_call 47; (with_reducible refine (strings_IndexByte.calls (⟨#[36, 45, 43, 40, 41, 58, 33, 94, 38, 39, 126, 123, 125, 60, 62, 61, 32, 49, 50, 51, 52, 53, 54, 55, 56, 57]⟩ : ByteArray) (bt a0 0) t183 _ A42.out).mono ?_); rintro e w' ⟨rfl, ⟨nd, rfl⟩⟩; (try (rw [drewN_self w55]; generalize hq_ : World.drewN w55 _ = w55; have n0_ : Aside0 (w55.heap[gb162]? = some (.cells #[.int .i64 0, .string (⟨#[]⟩ : ByteArray), .int .i64 0, .int .i64 0] 31 (0, 0))) := ⟨by rw [← hq_]; exact (bk BK162)⟩; have n1_ : Aside0 (w55.heap[gb171]? = some (.cells #[.int .i64 t163, .string t164, .int .i64 t165, .int .i64 t166] 31 (0, 0))) := ⟨by rw [← hq_]; exact (bk BK171)⟩; have n2_ : Aside0 (w55.heap[gb179]? = some (.cells #[.int .i64 t174, .string t175, .int .i64 t176, .int .i64 t177] 31 (0, 0))) := ⟨by rw [← hq_]; exact (bk BK179)⟩; have n3_ : Aside0 (Below w.heap.size w w55) := ⟨by rw [← hq_]; exact bw⟩; clear BK162 BK171 BK179 HB hq_; have BK162 := n0_; have BK171 := n1_; have BK179 := n2_; have HB := n3_; clear n0_ n1_ n2_ n3_)); obtain ⟨hcz56_0, hcz56_1, hcz56_2, hcz56_3, hfz56_0, hfz56_1, hfz56_2, hfz56_3⟩ := cells4 BK162))
                refine bodyPost_ret (results_list (rs := [.cell 2 31, .tmp 3, .tmp 4, .tmp 5]) rfl (by simp) (.cell gb162 31 #[.int .i64 0, .string (⟨#[]⟩ : ByteArray), .int .i64 0, .int .i64 0] (0, 0) _ rfl (bp BK162) Tryd.underlying31 rfl (by kernel_rfl) (.tmp (.tmp (.tmp .nil))))) rfl ?_
                exact ⟨by first | rfl | (simp [errW_none, errW_some] <;> rfl) | (simp [*, errW_none, errW_some] <;> rfl), bw⟩
              · rw [if_neg c43] at H
                have c43b0 : decide (t183 < 0) = false := decide_eq_false c43
                clear c43
                by_cases c57 : 0 ≤ t181
                · rw [if_pos c57] at H
                  have c57b0 := eq_true c57
                  have c57b1 : decide (0 ≤ t181) = true := decide_eq_true c57
                  clear c57
                  by_cases c58 : t181 ≤ (a0.size : Int)
                  · rw [if_pos c58] at H
                    have c58b0 := eq_true c58
                    have c58b1 : decide (t181 ≤ (a0.size : Int)) = true := decide_eq_true c58
                    clear c58
                    simp only [Option.some.injEq, Prod.mk.injEq] at H
                    obtain ⟨rfl, rfl, rfl, rfl, rfl, rfl, rfl⟩ := H
                    go_enter Tryd.func29, Tryd.ntmps29
                    go_wp2_with (first | ((with_reducible refine gate_dst (N := 2) rfl ?_); refine box_event ?hg (N := 2) ?hd (cs := #[.int .i64 0, .string (⟨#[]⟩ : ByteArray), .int .i64 0, .int .i64 0]) (t := 31) ?hr ?_; (case hd => rfl); (case hg => rfl); (case hr => first | (go_simp; done) | (go_simp; rfl)); intro gb162 hg w59 hbox hb; have n0_ := Aside0.mk (below_step bw hb); have n1_ := Aside0.mk (hbox); have n2_ := Aside0.mk ((by rw [hg]; exact (below_size bw) : w.heap.size ≤ gb162)); have n3_ := Aside0.mk ((by rw [hg]; exact (below_size bw) : w.heap.size ≤ gb162)); clear HB; have HB := n0_; have BK162 := n1_; have GW162 := n2_; have GE162 := n3_; clear n0_ n1_ n2_ n3_; clear hb hbox hg) | ((with_reducible refine gate_callee (f := 44) rfl ?_); refine goesL_ (some 20) rfl rfl Tryd.func44 (by kernel_rfl) rfl #[.string a0] rfl (by (try simp only [List.map_toArray, List.map_cons, List.map_nil]); first | done | rfl | (simp only [List.length_drop, List.length_take]; rfl)) ?_; (with_reducible refine (token_begun.calls k a0 t163 t164 t165 t166 t167 t168 t169 false _ A2.out).mono ?_); rintro e w60 ⟨rfl, hb⟩; refine ⟨_, rfl, ?_⟩; have n0_ := Aside0.mk (blk_below (bk BK162) hb); have n1_ := Aside0.mk (below_step bw hb); clear BK162; clear HB; have BK162 := n0_; have HB := n1_; clear n0_ n1_; (try clear hb); (try clear hb2); (try clear hk); (try clear hi)) | ((with_reducible refine gate_dst (N := 6) rfl ?_); refine box_event ?hg (N := 6) ?hd (cs := #[.int .i64 0, .string (⟨#[]⟩ : ByteArray), .int .i64 0, .int .i64 0]) (t := 31) ?hr ?_; (case hd => rfl); (case hg => rfl); (case hr => first | (go_simp; done) | (go_simp; rfl)); intro gb171 hg w61 hbox hb; have n0_ := Aside0.mk (blk_below (bk BK162) hb); have n1_ := Aside0.mk (below_step bw hb); have n2_ := Aside0.mk (hbox); have n3_ := Aside0.mk ((by rw [hg]; exact (below_size bw) : w.heap.size ≤ gb171)); have n4_ := Aside0.mk ((by rw [hg]; exact (below_size bw) : w.heap.size ≤ gb171)); have n5_ := Aside0.mk ((by rw [hg]; exact Nat.ne_of_lt (blk_lt (bk BK162)) : gb162 ≠ gb171)); have n6_ := Aside0.mk ((by rw [hg]; exact Nat.ne_of_gt (blk_lt (bk BK162)) : gb171 ≠ gb162)); clear BK162; clear HB; have BK162 := n0_; have HB := n1_; have BK171 := n2_; have GW171 := n3_; have GE171 := n4_; have NB162_171 := n5_; have NB171_162 := n6_; clear n0_ n1_ n2_ n3_ n4_ n5_ n6_; clear hb hbox hg; have hnb62 := NB171_162.out; have hnc62 := NB162_171.out; obtain ⟨hcz63_0, hcz63_1, hcz63_2, hcz63_3, hfz63_0, hfz63_1, hfz63_2, hfz63_3⟩ := cells4 BK171; have p11 : 0 ≤ (0 : Int) := (by omega); have q11 : 0 < a0.size := (by have : (0 : Int) < (a0.size : Int) := ode; omega); have hx11 : ∀ h : 0 < a0.size, ((a0[0]'h).toNat : Int) = bt a0 0 := bt_at a0 0; clear p11; have qi11 : (0 < (a0.size : Int)) = True := eq_true ode; replace q11 := eq_true q11) | ((with_reducible refine gate_callee (f := 45) rfl ?_); refine goesL_ (some 34) rfl rfl Tryd.func45 (by kernel_rfl) rfl #[.int .u8 (bt a0 0)] rfl (by (try simp only [List.map_toArray, List.map_cons, List.map_nil]); first | done | rfl | (simp only [List.length_drop, List.length_take]; rfl)) ?_; (with_reducible refine (token_single.calls (bt a0 0) t172 false _ A12.out).mono ?_); rintro e w64 ⟨rfl, hb⟩; refine ⟨_, rfl, ?_⟩; have n0_ := Aside0.mk (blk_below (g := gb162) (o := .cells #[.int .i64 0, .string (⟨#[]⟩ : ByteArray), .int .i64 0, .int .i64 0] 31 (0, 0)) (by (with_reducible repeat (first | refine blk_drewN ?_ _ | refine blk_drew ?_ | refine blk_alloc ?_ _)); refine blk_far ?_ NB162_171.out _; (with_reducible repeat (first | refine blk_drewN ?_ _ | refine blk_drew ?_ | refine blk_alloc ?_ _)); refine blk_far ?_ NB162_171.out _; (with_reducible repeat (first | refine blk_drewN ?_ _ | refine blk_drew ?_ | refine blk_alloc ?_ _)); refine blk_far ?_ NB162_171.out _; (with_reducible repeat (first | refine blk_drewN ?_ _ | refine blk_drew ?_ | refine blk_alloc ?_ _)); refine blk_far ?_ NB162_171.out _; (with_reducible repeat (first | refine blk_drewN ?_ _ | refine blk_drew ?_ | refine blk_alloc ?_ _)); exact BK162.out) hb); have n1_ := Aside0.mk (blk_below (g := gb171) (o := .cells #[.int .i64 t163, .string t164, .int .i64 t165, .int .i64 t166] 31 (0, 0)) (bp BK171) hb); have n2_ := Aside0.mk (below_step bw hb); clear BK162; clear BK171; clear HB; have BK162 := n0_; have BK171 := n1_; have HB := n2_; clear n0_ n1_ n2_; (try clear hb); (try clear hb2); (try clear hk); (try clear hi)) | ((with_reducible refine gate_callee (f := 46) rfl ?_); refine goesL_ (some 44) rfl rfl Tryd.func46 (by kernel_rfl) rfl #[.string a0] rfl (by (try simp only [List.map_toArray, List.map_cons, List.map_nil]); first | done | rfl | (simp only [List.length_drop, List.length_take]; rfl)) ?_; (with_reducible refine (token_lettered.calls k a0 t174 t175 t176 t177 t178 _ A23.out ?side1).mono ?_); (case side1 => exact Laid.below HLd.out bw); rintro e w65 ⟨rfl, hb⟩; refine ⟨_, rfl, ?_⟩; have n0_ := Aside0.mk (blk_below (bk BK162) hb); have n1_ := Aside0.mk (blk_below (bk BK171) hb); have n2_ := Aside0.mk (below_step bw hb); clear BK162; clear BK171; clear HB; have BK162 := n0_; have BK171 := n1_; have HB := n2_; clear n0_ n1_ n2_; (try clear hb); (try clear hb2); (try clear hk); (try clear hi)) | ((with_reducible refine gate_dst (N := 13) rfl ?_); refine box_event ?hg (N := 13) ?hd (cs := #[.int .i64 0, .string (⟨#[]⟩ : ByteArray), .int .i64 0, .int .i64 0]) (t := 31) ?hr ?_; (case hd => rfl); (case hg => rfl); (case hr => first | (go_simp; done) | (go_simp; rfl)); intro gb179 hg w66 hbox hb; have n0_ := Aside0.mk (blk_below (bk BK162) hb); have n1_ := Aside0.mk (blk_below (bk BK171) hb); have n2_ := Aside0.mk (below_step bw hb); have n3_ := Aside0.mk (hbox); have n4_ := Aside0.mk ((by rw [hg]; exact (below_size bw) : w.heap.size ≤ gb179)); have n5_ := Aside0.mk ((by rw [hg]; exact (below_size bw) : w.heap.size ≤ gb179)); have n6_ := Aside0.mk ((by rw [hg]; exact Nat.ne_of_lt (blk_lt (bk BK162)) : gb162 ≠ gb179)); have n7_ := Aside0.mk ((by rw [hg]; exact Nat.ne_of_gt (blk_lt (bk BK162)) : gb179 ≠ gb162)); have n8_ := Aside0.mk ((by rw [hg]; exact Nat.ne_of_lt (blk_lt (bk BK171)) : gb171 ≠ gb179)); have n9_ := Aside0.mk ((by rw [hg]; exact Nat.ne_of_gt (blk_lt (bk BK171)) : gb179 ≠ gb171)); clear BK162; clear BK171; clear HB; have BK162 := n0_; have BK171 := n1_; have HB := n2_; have BK179 := n3_; have GW179 := n4_; have GE179 := n5_; have NB162_179 := n6_; have NB179_162 := n7_; have NB171_179 := n8_; have NB179_171 := n9_; clear n0_ n1_ n2_ n3_ n4_ n5_ n6_ n7_ n8_ n9_; clear hb hbox hg; have hnb67 := NB179_162.out; have hnc67 := NB162_179.out; have hnb68 := NB179_171.out; have hnc68 := NB171_179.out; obtain ⟨hcz69_0, hcz69_1, hcz69_2, hcz69_3, hfz69_0, hfz69_1, hfz69_2, hfz69_3⟩ := cells4 BK179) | ((with_reducible refine gate_callee (f := 19) rfl ?_); refine goesL_ (some 53) rfl rfl Tryd.func19 (by kernel_rfl) rfl #[.string a0] rfl (by (try simp only [List.map_toArray, List.map_cons, List.map_nil]); first | done | rfl | (simp only [List.length_drop, List.length_take]; rfl)) ?_; (with_reducible refine (runes_First.calls a0 t180 t181 true _ A37.out).mono ?_); rintro e w70 ⟨rfl, hb⟩; refine ⟨_, rfl, ?_⟩; have n0_ := Aside0.mk (blk_below (g := gb162) (o := .cells #[.int .i64 0, .string (⟨#[]⟩ : ByteArray), .int .i64 0, .int .i64 0] 31 (0, 0)) (by (with_reducible repeat (first | refine blk_drewN ?_ _ | refine blk_drew ?_ | refine blk_alloc ?_ _)); refine blk_far ?_ NB162_179.out _; (with_reducible repeat (first | refine blk_drewN ?_ _ | refine blk_drew ?_ | refine blk_alloc ?_ _)); refine blk_far ?_ NB162_179.out _; (with_reducible repeat (first | refine blk_drewN ?_ _ | refine blk_drew ?_ | refine blk_alloc ?_ _)); refine blk_far ?_ NB162_179.out _; (with_reducible repeat (first | refine blk_drewN ?_ _ | refine blk_drew ?_ | refine blk_alloc ?_ _)); refine blk_far ?_ NB162_179.out _; (with_reducible repeat (first | refine blk_drewN ?_ _ | refine blk_drew ?_ | refine blk_alloc ?_ _)); exact BK162.out) hb); have n1_ := Aside0.mk (blk_below (g := gb171) (o := .cells #[.int .i64 t163, .string t164, .int .i64 t165, .int .i64 t166] 31 (0, 0)) (by (with_reducible repeat (first | refine blk_drewN ?_ _ | refine blk_drew ?_ | refine blk_alloc ?_ _)); refine blk_far ?_ NB171_179.out _; (with_reducible repeat (first | refine blk_drewN ?_ _ | refine blk_drew ?_ | refine blk_alloc ?_ _)); refine blk_far ?_ NB171_179.out _; (with_reducible repeat (first | refine blk_drewN ?_ _ | refine blk_drew ?_ | refine blk_alloc ?_ _)); refine blk_far ?_ NB171_179.out _; (with_reducible repeat (first | refine blk_drewN ?_ _ | refine blk_drew ?_ | refine blk_alloc ?_ _)); refine blk_far ?_ NB171_179.out _; (with_reducible repeat (first | refine blk_drewN ?_ _ | refine blk_drew ?_ | refine blk_alloc ?_ _)); exact BK171.out) hb); have n2_ := Aside0.mk (blk_below (g := gb179) (o := .cells #[.int .i64 t174, .string t175, .int .i64 t176, .int .i64 t177] 31 (0, 0)) (bp BK179) hb); have n3_ := Aside0.mk (below_step bw hb); clear BK162; clear BK171; clear BK179; clear HB; have BK162 := n0_; have BK171 := n1_; have BK179 := n2_; have HB := n3_; clear n0_ n1_ n2_ n3_; (try clear hb); (try clear hb2); (try clear hk); (try clear hi); have p39 : 0 ≤ (0 : Int) := (by omega); have q39 : 0 < a0.size := (by have : (0 : Int) < (a0.size : Int) := ode; omega); have hx39 : ∀ h : 0 < a0.size, ((a0[0]'h).toNat : Int) = bt a0 0 := bt_at a0 0; clear p39; have qi39 : (0 < (a0.size : Int)) = True := eq_true ode; replace q39 := eq_true q39; have p41 : 0 ≤ (0 : Int) := (by omega); have q41 : 0 < a0.size := (by have : (0 : Int) < (a0.size : Int) := ode; omega); have hx41 : ∀ h : 0 < a0.size, ((a0[0]'h).toNat : Int) = bt a0 0 := bt_at a0 0; clear p41; have qi41 : (0 < (a0.size : Int)) = True := eq_true ode; replace q41 := eq_true q41) | (go_at_call 47; (with_reducible refine (strings_IndexByte.calls (⟨#[36, 45, 43, 40, 41, 58, 33, 94, 38, 39, 126, 123, 125, 60, 62, 61, 32, 49, 50, 51, 52, 53, 54, 55, 56, 57]⟩ : ByteArray) (bt a0 0) t183 _ A42.out).mono ?_); rintro e w' ⟨rfl, ⟨nd, rfl⟩⟩; (try (rw [drewN_self w70]; generalize hq_ : World.drewN w70 _ = w70; have n0_ : Aside0 (w70.heap[gb162]? = some (.cells #[.int .i64 0, .string (⟨#[]⟩ : ByteArray), .int .i64 0, .int .i64 0] 31 (0, 0))) := ⟨by rw [← hq_]; exact (bk BK162)⟩; have n1_ : Aside0 (w70.heap[gb171]? = some (.cells #[.int .i64 t163, .string t164, .int .i64 t165, .int .i64 t166] 31 (0, 0))) := ⟨by rw [← hq_]; exact (bk BK171)⟩; have n2_ : Aside0 (w70.heap[gb179]? = some (.cells #[.int .i64 t174, .string t175, .int .i64 t176, .int .i64 t177] 31 (0, 0))) := ⟨by rw [← hq_]; exact (bk BK179)⟩; have n3_ : Aside0 (Below w.heap.size w w70) := ⟨by rw [← hq_]; exact bw⟩; clear BK162 BK171 BK179 HB hq_; have BK162 := n0_; have BK171 := n1_; have BK179 := n2_; have HB := n3_; clear n0_ n1_ n2_ n3_)); obtain ⟨hcz71_0, hcz71_1, hcz71_2, hcz71_3, hfz71_0, hfz71_1, hfz71_2, hfz71_3⟩ := cells4 BK162))
                    refine bodyPost_ret (results_list (rs := [.cell 2 31, .tmp 3, .tmp 4, .tmp 5]) rfl (by simp) (.cell gb162 31 #[.int .i64 17, .string (a0.extract 0 (t181 : Int).toNat), .int .i64 1, .int .i64 0] (0, 0) _ rfl (bp BK162) Tryd.underlying31 rfl (by kernel_rfl) (.tmp (.tmp (.tmp .nil))))) rfl ?_
                    exact ⟨by first | rfl | (simp [errW_none, errW_some] <;> rfl) | (simp [*, errW_none, errW_some] <;> rfl), bw⟩
                  · rw [if_neg c58] at H
                    exact absurd H (by simp)
                · rw [if_neg c57] at H
                  exact absurd H (by simp)
            · rw [if_neg c40] at H
              have c40b0 : decide ((bt a0 0) < 128) = false := decide_eq_false c40
              clear c40
              by_cases c72 : 0 ≤ t181
              · rw [if_pos c72] at H
                have c72b0 := eq_true c72
                have c72b1 : decide (0 ≤ t181) = true := decide_eq_true c72
                clear c72
                by_cases c73 : t181 ≤ (a0.size : Int)
                · rw [if_pos c73] at H
                  have c73b0 := eq_true c73
                  have c73b1 : decide (t181 ≤ (a0.size : Int)) = true := decide_eq_true c73
                  clear c73
                  simp only [Option.some.injEq, Prod.mk.injEq] at H
                  obtain ⟨rfl, rfl, rfl, rfl, rfl, rfl, rfl⟩ := H
                  go_enter Tryd.func29, Tryd.ntmps29
                  go_wp2_with (first | ((with_reducible refine gate_dst (N := 2) rfl ?_); refine box_event ?hg (N := 2) ?hd (cs := #[.int .i64 0, .string (⟨#[]⟩ : ByteArray), .int .i64 0, .int .i64 0]) (t := 31) ?hr ?_; (case hd => rfl); (case hg => rfl); (case hr => first | (go_simp; done) | (go_simp; rfl)); intro gb162 hg w74 hbox hb; have n0_ := Aside0.mk (below_step bw hb); have n1_ := Aside0.mk (hbox); have n2_ := Aside0.mk ((by rw [hg]; exact (below_size bw) : w.heap.size ≤ gb162)); have n3_ := Aside0.mk ((by rw [hg]; exact (below_size bw) : w.heap.size ≤ gb162)); clear HB; have HB := n0_; have BK162 := n1_; have GW162 := n2_; have GE162 := n3_; clear n0_ n1_ n2_ n3_; clear hb hbox hg) | ((with_reducible refine gate_callee (f := 44) rfl ?_); refine goesL_ (some 20) rfl rfl Tryd.func44 (by kernel_rfl) rfl #[.string a0] rfl (by (try simp only [List.map_toArray, List.map_cons, List.map_nil]); first | done | rfl | (simp only [List.length_drop, List.length_take]; rfl)) ?_; (with_reducible refine (token_begun.calls k a0 t163 t164 t165 t166 t167 t168 t169 false _ A2.out).mono ?_); rintro e w75 ⟨rfl, hb⟩; refine ⟨_, rfl, ?_⟩; have n0_ := Aside0.mk (blk_below (bk BK162) hb); have n1_ := Aside0.mk (below_step bw hb); clear BK162; clear HB; have BK162 := n0_; have HB := n1_; clear n0_ n1_; (try clear hb); (try clear hb2); (try clear hk); (try clear hi)) | ((with_reducible refine gate_dst (N := 6) rfl ?_); refine box_event ?hg (N := 6) ?hd (cs := #[.int .i64 0, .string (⟨#[]⟩ : ByteArray), .int .i64 0, .int .i64 0]) (t := 31) ?hr ?_; (case hd => rfl); (case hg => rfl); (case hr => first | (go_simp; done) | (go_simp; rfl)); intro gb171 hg w76 hbox hb; have n0_ := Aside0.mk (blk_below (bk BK162) hb); have n1_ := Aside0.mk (below_step bw hb); have n2_ := Aside0.mk (hbox); have n3_ := Aside0.mk ((by rw [hg]; exact (below_size bw) : w.heap.size ≤ gb171)); have n4_ := Aside0.mk ((by rw [hg]; exact (below_size bw) : w.heap.size ≤ gb171)); have n5_ := Aside0.mk ((by rw [hg]; exact Nat.ne_of_lt (blk_lt (bk BK162)) : gb162 ≠ gb171)); have n6_ := Aside0.mk ((by rw [hg]; exact Nat.ne_of_gt (blk_lt (bk BK162)) : gb171 ≠ gb162)); clear BK162; clear HB; have BK162 := n0_; have HB := n1_; have BK171 := n2_; have GW171 := n3_; have GE171 := n4_; have NB162_171 := n5_; have NB171_162 := n6_; clear n0_ n1_ n2_ n3_ n4_ n5_ n6_; clear hb hbox hg; have hnb77 := NB171_162.out; have hnc77 := NB162_171.out; obtain ⟨hcz78_0, hcz78_1, hcz78_2, hcz78_3, hfz78_0, hfz78_1, hfz78_2, hfz78_3⟩ := cells4 BK171; have p11 : 0 ≤ (0 : Int) := (by omega); have q11 : 0 < a0.size := (by have : (0 : Int) < (a0.size : Int) := ode; omega); have hx11 : ∀ h : 0 < a0.size, ((a0[0]'h).toNat : Int) = bt a0 0 := bt_at a0 0; clear p11; have qi11 : (0 < (a0.size : Int)) = True := eq_true ode; replace q11 := eq_true q11) | ((with_reducible refine gate_callee (f := 45) rfl ?_); refine goesL_ (some 34) rfl rfl Tryd.func45 (by kernel_rfl) rfl #[.int .u8 (bt a0 0)] rfl (by (try simp only [List.map_toArray, List.map_cons, List.map_nil]); first | done | rfl | (simp only [List.length_drop, List.length_take]; rfl)) ?_; (with_reducible refine (token_single.calls (bt a0 0) t172 false _ A12.out).mono ?_); rintro e w79 ⟨rfl, hb⟩; refine ⟨_, rfl, ?_⟩; have n0_ := Aside0.mk (blk_below (g := gb162) (o := .cells #[.int .i64 0, .string (⟨#[]⟩ : ByteArray), .int .i64 0, .int .i64 0] 31 (0, 0)) (by (with_reducible repeat (first | refine blk_drewN ?_ _ | refine blk_drew ?_ | refine blk_alloc ?_ _)); refine blk_far ?_ NB162_171.out _; (with_reducible repeat (first | refine blk_drewN ?_ _ | refine blk_drew ?_ | refine blk_alloc ?_ _)); refine blk_far ?_ NB162_171.out _; (with_reducible repeat (first | refine blk_drewN ?_ _ | refine blk_drew ?_ | refine blk_alloc ?_ _)); refine blk_far ?_ NB162_171.out _; (with_reducible repeat (first | refine blk_drewN ?_ _ | refine blk_drew ?_ | refine blk_alloc ?_ _)); refine blk_far ?_ NB162_171.out _; (with_reducible repeat (first | refine blk_drewN ?_ _ | refine blk_drew ?_ | refine blk_alloc ?_ _)); exact BK162.out) hb); have n1_ := Aside0.mk (blk_below (g := gb171) (o := .cells #[.int .i64 t163, .string t164, .int .i64 t165, .int .i64 t166] 31 (0, 0)) (bp BK171) hb); have n2_ := Aside0.mk (below_step bw hb); clear BK162; clear BK171; clear HB; have BK162 := n0_; have BK171 := n1_; have HB := n2_; clear n0_ n1_ n2_; (try clear hb); (try clear hb2); (try clear hk); (try clear hi)) | ((with_reducible refine gate_callee (f := 46) rfl ?_); refine goesL_ (some 44) rfl rfl Tryd.func46 (by kernel_rfl) rfl #[.string a0] rfl (by (try simp only [List.map_toArray, List.map_cons, List.map_nil]); first | done | rfl | (simp only [List.length_drop, List.length_take]; rfl)) ?_; (with_reducible refine (token_lettered.calls k a0 t174 t175 t176 t177 t178 _ A23.out ?side1).mono ?_); (case side1 => exact Laid.below HLd.out bw); rintro e w80 ⟨rfl, hb⟩; refine ⟨_, rfl, ?_⟩; have n0_ := Aside0.mk (blk_below (bk BK162) hb); have n1_ := Aside0.mk (blk_below (bk BK171) hb); have n2_ := Aside0.mk (below_step bw hb); clear BK162; clear BK171; clear HB; have BK162 := n0_; have BK171 := n1_; have HB := n2_; clear n0_ n1_ n2_; (try clear hb); (try clear hb2); (try clear hk); (try clear hi)) | ((with_reducible refine gate_dst (N := 13) rfl ?_); refine box_event ?hg (N := 13) ?hd (cs := #[.int .i64 0, .string (⟨#[]⟩ : ByteArray), .int .i64 0, .int .i64 0]) (t := 31) ?hr ?_; (case hd => rfl); (case hg => rfl); (case hr => first | (go_simp; done) | (go_simp; rfl)); intro gb179 hg w81 hbox hb; have n0_ := Aside0.mk (blk_below (bk BK162) hb); have n1_ := Aside0.mk (blk_below (bk BK171) hb); have n2_ := Aside0.mk (below_step bw hb); have n3_ := Aside0.mk (hbox); have n4_ := Aside0.mk ((by rw [hg]; exact (below_size bw) : w.heap.size ≤ gb179)); have n5_ := Aside0.mk ((by rw [hg]; exact (below_size bw) : w.heap.size ≤ gb179)); have n6_ := Aside0.mk ((by rw [hg]; exact Nat.ne_of_lt (blk_lt (bk BK162)) : gb162 ≠ gb179)); have n7_ := Aside0.mk ((by rw [hg]; exact Nat.ne_of_gt (blk_lt (bk BK162)) : gb179 ≠ gb162)); have n8_ := Aside0.mk ((by rw [hg]; exact Nat.ne_of_lt (blk_lt (bk BK171)) : gb171 ≠ gb179)); have n9_ := Aside0.mk ((by rw [hg]; exact Nat.ne_of_gt (blk_lt (bk BK171)) : gb179 ≠ gb171)); clear BK162; clear BK171; clear HB; have BK162 := n0_; have BK171 := n1_; have HB := n2_; have BK179 := n3_; have GW179 := n4_; have GE179 := n5_; have NB162_179 := n6_; have NB179_162 := n7_; have NB171_179 := n8_; have NB179_171 := n9_; clear n0_ n1_ n2_ n3_ n4_ n5_ n6_ n7_ n8_ n9_; clear hb hbox hg; have hnb82 := NB179_162.out; have hnc82 := NB162_179.out; have hnb83 := NB179_171.out; have hnc83 := NB171_179.out; obtain ⟨hcz84_0, hcz84_1, hcz84_2, hcz84_3, hfz84_0, hfz84_1, hfz84_2, hfz84_3⟩ := cells4 BK179) | ((with_reducible refine gate_callee (f := 19) rfl ?_); refine goesL_ (some 53) rfl rfl Tryd.func19 (by kernel_rfl) rfl #[.string a0] rfl (by (try simp only [List.map_toArray, List.map_cons, List.map_nil]); first | done | rfl | (simp only [List.length_drop, List.length_take]; rfl)) ?_; (with_reducible refine (runes_First.calls a0 t180 t181 true _ A37.out).mono ?_); rintro e w85 ⟨rfl, hb⟩; refine ⟨_, rfl, ?_⟩; have n0_ := Aside0.mk (blk_below (g := gb162) (o := .cells #[.int .i64 0, .string (⟨#[]⟩ : ByteArray), .int .i64 0, .int .i64 0] 31 (0, 0)) (by (with_reducible repeat (first | refine blk_drewN ?_ _ | refine blk_drew ?_ | refine blk_alloc ?_ _)); refine blk_far ?_ NB162_179.out _; (with_reducible repeat (first | refine blk_drewN ?_ _ | refine blk_drew ?_ | refine blk_alloc ?_ _)); refine blk_far ?_ NB162_179.out _; (with_reducible repeat (first | refine blk_drewN ?_ _ | refine blk_drew ?_ | refine blk_alloc ?_ _)); refine blk_far ?_ NB162_179.out _; (with_reducible repeat (first | refine blk_drewN ?_ _ | refine blk_drew ?_ | refine blk_alloc ?_ _)); refine blk_far ?_ NB162_179.out _; (with_reducible repeat (first | refine blk_drewN ?_ _ | refine blk_drew ?_ | refine blk_alloc ?_ _)); exact BK162.out) hb); have n1_ := Aside0.mk (blk_below (g := gb171) (o := .cells #[.int .i64 t163, .string t164, .int .i64 t165, .int .i64 t166] 31 (0, 0)) (by (with_reducible repeat (first | refine blk_drewN ?_ _ | refine blk_drew ?_ | refine blk_alloc ?_ _)); refine blk_far ?_ NB171_179.out _; (with_reducible repeat (first | refine blk_drewN ?_ _ | refine blk_drew ?_ | refine blk_alloc ?_ _)); refine blk_far ?_ NB171_179.out _; (with_reducible repeat (first | refine blk_drewN ?_ _ | refine blk_drew ?_ | refine blk_alloc ?_ _)); refine blk_far ?_ NB171_179.out _; (with_reducible repeat (first | refine blk_drewN ?_ _ | refine blk_drew ?_ | refine blk_alloc ?_ _)); refine blk_far ?_ NB171_179.out _; (with_reducible repeat (first | refine blk_drewN ?_ _ | refine blk_drew ?_ | refine blk_alloc ?_ _)); exact BK171.out) hb); have n2_ := Aside0.mk (blk_below (g := gb179) (o := .cells #[.int .i64 t174, .string t175, .int .i64 t176, .int .i64 t177] 31 (0, 0)) (bp BK179) hb); have n3_ := Aside0.mk (below_step bw hb); clear BK162; clear BK171; clear BK179; clear HB; have BK162 := n0_; have BK171 := n1_; have BK179 := n2_; have HB := n3_; clear n0_ n1_ n2_ n3_; (try clear hb); (try clear hb2); (try clear hk); (try clear hi); have p39 : 0 ≤ (0 : Int) := (by omega); have q39 : 0 < a0.size := (by have : (0 : Int) < (a0.size : Int) := ode; omega); have hx39 : ∀ h : 0 < a0.size, ((a0[0]'h).toNat : Int) = bt a0 0 := bt_at a0 0; clear p39; have qi39 : (0 < (a0.size : Int)) = True := eq_true ode; replace q39 := eq_true q39; obtain ⟨hcz86_0, hcz86_1, hcz86_2, hcz86_3, hfz86_0, hfz86_1, hfz86_2, hfz86_3⟩ := cells4 BK162))
                  refine bodyPost_ret (results_list (rs := [.cell 2 31, .tmp 3, .tmp 4, .tmp 5]) rfl (by simp) (.cell gb162 31 #[.int .i64 17, .string (a0.extract 0 (t181 : Int).toNat), .int .i64 1, .int .i64 0] (0, 0) _ rfl (bp BK162) Tryd.underlying31 rfl (by kernel_rfl) (.tmp (.tmp (.tmp .nil))))) rfl ?_
                  exact ⟨by first | rfl | (simp [errW_none, errW_some] <;> rfl) | (simp [*, errW_none, errW_some] <;> rfl), bw⟩
                · rw [if_neg c73] at H
                  exact absurd H (by simp)
              · rw [if_neg c72] at H
                exact absurd H (by simp)
          · replace c38 := Bool.eq_false_iff.mpr c38
            subst c38
            have H1 : (some (0, (⟨#[]⟩ : ByteArray), 0, 0, 0, 0, 4)) = some (r1, r2, r3, r4, r5, r6, r7) := by rw [if_neg (show ¬ (false = true) by decide)] at H; exact H
            clear H
            have H := H1
            clear H1
            simp only [Option.some.injEq, Prod.mk.injEq] at H
            obtain ⟨rfl, rfl, rfl, rfl, rfl, rfl, rfl⟩ := H
            go_enter Tryd.func29, Tryd.ntmps29
            go_wp2_with (first | ((with_reducible refine gate_dst (N := 2) rfl ?_); refine box_event ?hg (N := 2) ?hd (cs := #[.int .i64 0, .string (⟨#[]⟩ : ByteArray), .int .i64 0, .int .i64 0]) (t := 31) ?hr ?_; (case hd => rfl); (case hg => rfl); (case hr => first | (go_simp; done) | (go_simp; rfl)); intro gb162 hg w87 hbox hb; have n0_ := Aside0.mk (below_step bw hb); have n1_ := Aside0.mk (hbox); have n2_ := Aside0.mk ((by rw [hg]; exact (below_size bw) : w.heap.size ≤ gb162)); have n3_ := Aside0.mk ((by rw [hg]; exact (below_size bw) : w.heap.size ≤ gb162)); clear HB; have HB := n0_; have BK162 := n1_; have GW162 := n2_; have GE162 := n3_; clear n0_ n1_ n2_ n3_; clear hb hbox hg) | ((with_reducible refine gate_callee (f := 44) rfl ?_); refine goesL_ (some 20) rfl rfl Tryd.func44 (by kernel_rfl) rfl #[.string a0] rfl (by (try simp only [List.map_toArray, List.map_cons, List.map_nil]); first | done | rfl | (simp only [List.length_drop, List.length_take]; rfl)) ?_; (with_reducible refine (token_begun.calls k a0 t163 t164 t165 t166 t167 t168 t169 false _ A2.out).mono ?_); rintro e w88 ⟨rfl, hb⟩; refine ⟨_, rfl, ?_⟩; have n0_ := Aside0.mk (blk_below (bk BK162) hb); have n1_ := Aside0.mk (below_step bw hb); clear BK162; clear HB; have BK162 := n0_; have HB := n1_; clear n0_ n1_; (try clear hb); (try clear hb2); (try clear hk); (try clear hi)) | ((with_reducible refine gate_dst (N := 6) rfl ?_); refine box_event ?hg (N := 6) ?hd (cs := #[.int .i64 0, .string (⟨#[]⟩ : ByteArray), .int .i64 0, .int .i64 0]) (t := 31) ?hr ?_; (case hd => rfl); (case hg => rfl); (case hr => first | (go_simp; done) | (go_simp; rfl)); intro gb171 hg w89 hbox hb; have n0_ := Aside0.mk (blk_below (bk BK162) hb); have n1_ := Aside0.mk (below_step bw hb); have n2_ := Aside0.mk (hbox); have n3_ := Aside0.mk ((by rw [hg]; exact (below_size bw) : w.heap.size ≤ gb171)); have n4_ := Aside0.mk ((by rw [hg]; exact (below_size bw) : w.heap.size ≤ gb171)); have n5_ := Aside0.mk ((by rw [hg]; exact Nat.ne_of_lt (blk_lt (bk BK162)) : gb162 ≠ gb171)); have n6_ := Aside0.mk ((by rw [hg]; exact Nat.ne_of_gt (blk_lt (bk BK162)) : gb171 ≠ gb162)); clear BK162; clear HB; have BK162 := n0_; have HB := n1_; have BK171 := n2_; have GW171 := n3_; have GE171 := n4_; have NB162_171 := n5_; have NB171_162 := n6_; clear n0_ n1_ n2_ n3_ n4_ n5_ n6_; clear hb hbox hg; have hnb90 := NB171_162.out; have hnc90 := NB162_171.out; obtain ⟨hcz91_0, hcz91_1, hcz91_2, hcz91_3, hfz91_0, hfz91_1, hfz91_2, hfz91_3⟩ := cells4 BK171; have p11 : 0 ≤ (0 : Int) := (by omega); have q11 : 0 < a0.size := (by have : (0 : Int) < (a0.size : Int) := ode; omega); have hx11 : ∀ h : 0 < a0.size, ((a0[0]'h).toNat : Int) = bt a0 0 := bt_at a0 0; clear p11; have qi11 : (0 < (a0.size : Int)) = True := eq_true ode; replace q11 := eq_true q11) | ((with_reducible refine gate_callee (f := 45) rfl ?_); refine goesL_ (some 34) rfl rfl Tryd.func45 (by kernel_rfl) rfl #[.int .u8 (bt a0 0)] rfl (by (try simp only [List.map_toArray, List.map_cons, List.map_nil]); first | done | rfl | (simp only [List.length_drop, List.length_take]; rfl)) ?_; (with_reducible refine (token_single.calls (bt a0 0) t172 false _ A12.out).mono ?_); rintro e w92 ⟨rfl, hb⟩; refine ⟨_, rfl, ?_⟩; have n0_ := Aside0.mk (blk_below (g := gb162) (o := .cells #[.int .i64 0, .string (⟨#[]⟩ : ByteArray), .int .i64 0, .int .i64 0] 31 (0, 0)) (by (with_reducible repeat (first | refine blk_drewN ?_ _ | refine blk_drew ?_ | refine blk_alloc ?_ _)); refine blk_far ?_ NB162_171.out _; (with_reducible repeat (first | refine blk_drewN ?_ _ | refine blk_drew ?_ | refine blk_alloc ?_ _)); refine blk_far ?_ NB162_171.out _; (with_reducible repeat (first | refine blk_drewN ?_ _ | refine blk_drew ?_ | refine blk_alloc ?_ _)); refine blk_far ?_ NB162_171.out _; (with_reducible repeat (first | refine blk_drewN ?_ _ | refine blk_drew ?_ | refine blk_alloc ?_ _)); refine blk_far ?_ NB162_171.out _; (with_reducible repeat (first | refine blk_drewN ?_ _ | refine blk_drew ?_ | refine blk_alloc ?_ _)); exact BK162.out) hb); have n1_ := Aside0.mk (blk_below (g := gb171) (o := .cells #[.int .i64 t163, .string t164, .int .i64 t165, .int .i64 t166] 31 (0, 0)) (bp BK171) hb); have n2_ := Aside0.mk (below_step bw hb); clear BK162; clear BK171; clear HB; have BK162 := n0_; have BK171 := n1_; have HB := n2_; clear n0_ n1_ n2_; (try clear hb); (try clear hb2); (try clear hk); (try clear hi)) | ((with_reducible refine gate_callee (f := 46) rfl ?_); refine goesL_ (some 44) rfl rfl Tryd.func46 (by kernel_rfl) rfl #[.string a0] rfl (by (try simp only [List.map_toArray, List.map_cons, List.map_nil]); first | done | rfl | (simp only [List.length_drop, List.length_take]; rfl)) ?_; (with_reducible refine (token_lettered.calls k a0 t174 t175 t176 t177 t178 _ A23.out ?side1).mono ?_); (case side1 => exact Laid.below HLd.out bw); rintro e w93 ⟨rfl, hb⟩; refine ⟨_, rfl, ?_⟩; have n0_ := Aside0.mk (blk_below (bk BK162) hb); have n1_ := Aside0.mk (blk_below (bk BK171) hb); have n2_ := Aside0.mk (below_step bw hb); clear BK162; clear BK171; clear HB; have BK162 := n0_; have BK171 := n1_; have HB := n2_; clear n0_ n1_ n2_; (try clear hb); (try clear hb2); (try clear hk); (try clear hi)) | ((with_reducible refine gate_dst (N := 13) rfl ?_); refine box_event ?hg (N := 13) ?hd (cs := #[.int .i64 0, .string (⟨#[]⟩ : ByteArray), .int .i64 0, .int .i64 0]) (t := 31) ?hr ?_; (case hd => rfl); (case hg => rfl); (case hr => first | (go_simp; done) | (go_simp; rfl)); intro gb179 hg w94 hbox hb; have n0_ := Aside0.mk (blk_below (bk BK162) hb); have n1_ := Aside0.mk (blk_below (bk BK171) hb); have n2_ := Aside0.mk (below_step bw hb); have n3_ := Aside0.mk (hbox); have n4_ := Aside0.mk ((by rw [hg]; exact (below_size bw) : w.heap.size ≤ gb179)); have n5_ := Aside0.mk ((by rw [hg]; exact (below_size bw) : w.heap.size ≤ gb179)); have n6_ := Aside0.mk ((by rw [hg]; exact Nat.ne_of_lt (blk_lt (bk BK162)) : gb162 ≠ gb179)); have n7_ := Aside0.mk ((by rw [hg]; exact Nat.ne_of_gt (blk_lt (bk BK162)) : gb179 ≠ gb162)); have n8_ := Aside0.mk ((by rw [hg]; exact Nat.ne_of_lt (blk_lt (bk BK171)) : gb171 ≠ gb179)); have n9_ := Aside0.mk ((by rw [hg]; exact Nat.ne_of_gt (blk_lt (bk BK171)) : gb179 ≠ gb171)); clear BK162; clear BK171; clear HB; have BK162 := n0_; have BK171 := n1_; have HB := n2_; have BK179 := n3_; have GW179 := n4_; have GE179 := n5_; have NB162_179 := n6_; have NB179_162 := n7_; have NB171_179 := n8_; have NB179_171 := n9_; clear n0_ n1_ n2_ n3_ n4_ n5_ n6_ n7_ n8_ n9_; clear hb hbox hg; have hnb95 := NB179_162.out; have hnc95 := NB162_179.out; have hnb96 := NB179_171.out; have hnc96 := NB171_179.out; obtain ⟨hcz97_0, hcz97_1, hcz97_2, hcz97_3, hfz97_0, hfz97_1, hfz97_2, hfz97_3⟩ := cells4 BK179) | ((with_reducible refine gate_callee (f := 19) rfl ?_); refine goesL_ (some 53) rfl rfl Tryd.func19 (by kernel_rfl) rfl #[.string a0] rfl (by (try simp only [List.map_toArray, List.map_cons, List.map_nil]); first | done | rfl | (simp only [List.length_drop, List.length_take]; rfl)) ?_; (with_reducible refine (runes_First.calls a0 t180 t181 false _ A37.out).mono ?_); rintro e w98 ⟨rfl, hb⟩; refine ⟨_, rfl, ?_⟩; have n0_ := Aside0.mk (blk_below (g := gb162) (o := .cells #[.int .i64 0, .string (⟨#[]⟩ : ByteArray), .int .i64 0, .int .i64 0] 31 (0, 0)) (by (with_reducible repeat (first | refine blk_drewN ?_ _ | refine blk_drew ?_ | refine blk_alloc ?_ _)); refine blk_far ?_ NB162_179.out _; (with_reducible repeat (first | refine blk_drewN ?_ _ | refine blk_drew ?_ | refine blk_alloc ?_ _)); refine blk_far ?_ NB162_179.out _; (with_reducible repeat (first | refine blk_drewN ?_ _ | refine blk_drew ?_ | refine blk_alloc ?_ _)); refine blk_far ?_ NB162_179.out _; (with_reducible repeat (first | refine blk_drewN ?_ _ | refine blk_drew ?_ | refine blk_alloc ?_ _)); refine blk_far ?_ NB162_179.out _; (with_reducible repeat (first | refine blk_drewN ?_ _ | refine blk_drew ?_ | refine blk_alloc ?_ _)); exact BK162.out) hb); have n1_ := Aside0.mk (blk_below (g := gb171) (o := .cells #[.int .i64 t163, .string t164, .int .i64 t165, .int .i64 t166] 31 (0, 0)) (by (with_reducible repeat (first | refine blk_drewN ?_ _ | refine blk_drew ?_ | refine blk_alloc ?_ _)); refine blk_far ?_ NB171_179.out _; (with_reducible repeat (first | refine blk_drewN ?_ _ | refine blk_drew ?_ | refine blk_alloc ?_ _)); refine blk_far ?_ NB171_179.out _; (with_reducible repeat (first | refine blk_drewN ?_ _ | refine blk_drew ?_ | refine blk_alloc ?_ _)); refine blk_far ?_ NB171_179.out _; (with_reducible repeat (first | refine blk_drewN ?_ _ | refine blk_drew ?_ | refine blk_alloc ?_ _)); refine blk_far ?_ NB171_179.out _; (with_reducible repeat (first | refine blk_drewN ?_ _ | refine blk_drew ?_ | refine blk_alloc ?_ _)); exact BK171.out) hb); have n2_ := Aside0.mk (blk_below (g := gb179) (o := .cells #[.int .i64 t174, .string t175, .int .i64 t176, .int .i64 t177] 31 (0, 0)) (bp BK179) hb); have n3_ := Aside0.mk (below_step bw hb); clear BK162; clear BK171; clear BK179; clear HB; have BK162 := n0_; have BK171 := n1_; have BK179 := n2_; have HB := n3_; clear n0_ n1_ n2_ n3_; (try clear hb); (try clear hb2); (try clear hk); (try clear hi); obtain ⟨hcz99_0, hcz99_1, hcz99_2, hcz99_3, hfz99_0, hfz99_1, hfz99_2, hfz99_3⟩ := cells4 BK162))
            refine bodyPost_ret (results_list (rs := [.cell 2 31, .tmp 3, .tmp 4, .tmp 5]) rfl (by simp) (.cell gb162 31 #[.int .i64 0, .string (⟨#[]⟩ : ByteArray), .int .i64 0, .int .i64 0] (0, 0) _ rfl (bp BK162) Tryd.underlying31 rfl (by kernel_rfl) (.tmp (.tmp (.tmp .nil))))) rfl ?_
            exact ⟨by first | rfl | (simp [errW_none, errW_some] <;> rfl) | (simp [*, errW_none, errW_some] <;> rfl), bw⟩
    · rw [if_neg c10] at H
      exact absurd H (by simp)

end Go.Proofs.YtpefkehcibdjgaaDoor.QTcd
