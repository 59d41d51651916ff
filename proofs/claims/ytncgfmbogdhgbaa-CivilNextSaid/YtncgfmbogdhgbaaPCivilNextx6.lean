-- PRINTED BY print.sh 35421559b90ae4d0a3588c463048766b98c2df88dd9212a6774a882060cdf62d: not written by this session
import Derived.Test.YtncgfmbogdhgbaaPCivilNextx0
import Derived.Test.YtncgfmbogdhgbaaPCivilNextx1
import Derived.Test.YtncgfmbogdhgbaaPCivilNextx2
import Derived.Test.YtncgfmbogdhgbaaPCivilNextx3
import Derived.Test.YtncgfmbogdhgbaaPCivilNextx5
namespace Go.Proofs.Ytncgfmbogdhgbaa.PCivilNext
open Go.RowKit Go.Proofs.YtncgfmbogdhgbaaW.PrintWords Go.Proofs.YtncgfmbogdhgbaaW.PrintLast Go.Proofs.YtncgfmbogdhgbaaW.PrintMore
attribute [local go_sem] max2_int min2_int max_two min_two max_three min_three max_four min_four   -- for this text's walks alone
set_option linter.unusedVariables false
set_option linter.unusedSimpArgs false

attribute [local go_sem high] eqA24
/-! ### numerarylaw24_CivilNext: function 6 -/
mutual
def numerarylaw24_CivilNext.j0 : Nat → Int → Int → Bool → Int → Int → Int → Int → Int → Int → Option (Bool)
  | 0, _, _, _, _, _, _, _, _, _ => none
  | k + 1, x3, x8, x68, x170000, x170001, x170002, x175000, x175001, x175002 => if x68 = true then (some false) else ((civil_Days.f k x170000 x170001).bind fun t181 => (if x170000 = 1900 then (numerarylaw24_CivilNext.j1 k x3 x8 t181 (x170001 == 2) x170000 x170001 x170002 x175000 x175001 x175002 x170000 x170001 (wrap64 (x170002 + 1))) else (numerarylaw24_CivilNext.j1 k x3 x8 t181 false x170000 x170001 x170002 x175000 x175001 x175002 x170000 x170001 (wrap64 (x170002 + 1)))))
def numerarylaw24_CivilNext.j1 : Nat → Int → Int → Int → Bool → Int → Int → Int → Int → Int → Int → Int → Int → Int → Option (Bool)
  | 0, _, _, _, _, _, _, _, _, _, _, _, _, _ => none
  | k + 1, x3, x8, x13, x86, x170000, x170001, x170002, x175000, x175001, x175002, x181000, x181001, x181002 => if x86 = true then (numerarylaw24_CivilNext.j2 k x3 x8 29 x170000 x170001 x170002 x175000 x175001 x175002 x181000 x181001 x181002) else (numerarylaw24_CivilNext.j2 k x3 x8 x13 x170000 x170001 x170002 x175000 x175001 x175002 x181000 x181001 x181002)
def numerarylaw24_CivilNext.j2 : Nat → Int → Int → Int → Int → Int → Int → Int → Int → Int → Int → Int → Int → Option (Bool)
  | 0, _, _, _, _, _, _, _, _, _, _, _, _ => none
  | k + 1, x3, x8, x13, x170000, x170001, x170002, x175000, x175001, x175002, x181000, x181001, x181002 => if x181002 > x13 then (numerarylaw24_CivilNext.j3 k x3 x8 x170000 x170001 x170002 x175000 x175001 x175002 x181000 (wrap64 (x170001 + 1)) 1) else (numerarylaw24_CivilNext.j3 k x3 x8 x170000 x170001 x170002 x175000 x175001 x175002 x181000 x181001 x181002)
def numerarylaw24_CivilNext.j3 : Nat → Int → Int → Int → Int → Int → Int → Int → Int → Int → Int → Int → Option (Bool)
  | 0, _, _, _, _, _, _, _, _, _, _, _ => none
  | k + 1, x3, x8, x170000, x170001, x170002, x175000, x175001, x175002, x181000, x181001, x181002 => if x181001 = 13 then (numerarylaw24_CivilNext.j4 k x3 x8 x170000 x170001 x170002 x175000 x175001 x175002 (wrap64 (x170000 + 1)) 1 x181002) else (numerarylaw24_CivilNext.j4 k x3 x8 x170000 x170001 x170002 x175000 x175001 x175002 x181000 x181001 x181002)
def numerarylaw24_CivilNext.j4 : Nat → Int → Int → Int → Int → Int → Int → Int → Int → Int → Int → Int → Option (Bool)
  | 0, _, _, _, _, _, _, _, _, _, _, _ => none
  | k + 1, x3, x8, x170000, x170001, x170002, x175000, x175001, x175002, x181000, x181001, x181002 => if (!(x175000 == x181000) || (!(x175001 == x181001) || (!(x175002 == x181002)))) = true then (some false) else ((civil_Of.f k (wrap64 (x3 - 1462)) 1).bind fun bt182 => ((civil_Weekday.f k (wrap64 (x3 - 1462)) 1).bind fun bt187 => (if (bt182.2.2.2 == (decide (x3 ≥ 1462))) = true then (if bt182.2.2.2 = true then (if (bt182.1 == x170000 && (bt182.2.1 == x170001 && (bt182.2.2.1 == x170002))) = true then (some (bt187.1 == x8)) else (some false)) else (some true)) else (some false))))
end
def numerarylaw24_CivilNext.f (k : Nat) (a0 : Int) : Option (Bool) := (civil_Of.f k (wrap64 (1 + (wrap64 (Int.tmod a0 2958464)))) 0).bind fun bt165 => ((civil_Of.f k (wrap64 ((wrap64 (1 + (wrap64 (Int.tmod a0 2958464)))) + 1)) 0).bind fun bt170 => ((civil_Weekday.f k (wrap64 (1 + (wrap64 (Int.tmod a0 2958464)))) 0).bind fun bt175 => ((civil_Weekday.f k (wrap64 ((wrap64 (1 + (wrap64 (Int.tmod a0 2958464)))) + 1)) 0).bind fun bt177 => ((numerarylaw24_wakes.f k).bind fun t179 => (if t179 = true then (if bt165.2.2.2 = true then (if bt170.2.2.2 = true then (if bt177.1 = (wrap64 ((Int.tmod bt175.1 7) + 1)) then (if bt175.1 < 1 then (numerarylaw24_CivilNext.j0 k (wrap64 (1 + (wrap64 (Int.tmod a0 2958464)))) bt175.1 true bt165.1 bt165.2.1 bt165.2.2.1 bt170.1 bt170.2.1 bt170.2.2.1) else (numerarylaw24_CivilNext.j0 k (wrap64 (1 + (wrap64 (Int.tmod a0 2958464)))) bt175.1 (decide (bt175.1 > 7)) bt165.1 bt165.2.1 bt165.2.2.1 bt170.1 bt170.2.1 bt170.2.2.1)) else (numerarylaw24_CivilNext.j0 k (wrap64 (1 + (wrap64 (Int.tmod a0 2958464)))) bt175.1 true bt165.1 bt165.2.1 bt165.2.2.1 bt170.1 bt170.2.1 bt170.2.2.1)) else (numerarylaw24_CivilNext.j0 k (wrap64 (1 + (wrap64 (Int.tmod a0 2958464)))) bt175.1 true bt165.1 bt165.2.1 bt165.2.2.1 bt170.1 bt170.2.1 bt170.2.2.1)) else (numerarylaw24_CivilNext.j0 k (wrap64 (1 + (wrap64 (Int.tmod a0 2958464)))) bt175.1 true bt165.1 bt165.2.1 bt165.2.2.1 bt170.1 bt170.2.1 bt170.2.2.1)) else (numerarylaw24_CivilNext.j0 k (wrap64 (1 + (wrap64 (Int.tmod a0 2958464)))) bt175.1 true bt165.1 bt165.2.1 bt165.2.2.1 bt170.1 bt170.2.1 bt170.2.2.1))))))
theorem numerarylaw24_CivilNext.mono_l : ∀ k, (∀ y0 y1 y2 y3 y4 y5 y6 y7 y8, LeO (numerarylaw24_CivilNext.j0 k y0 y1 y2 y3 y4 y5 y6 y7 y8) (numerarylaw24_CivilNext.j0 (k + 1) y0 y1 y2 y3 y4 y5 y6 y7 y8)) ∧ (∀ y0 y1 y2 y3 y4 y5 y6 y7 y8 y9 y10 y11 y12, LeO (numerarylaw24_CivilNext.j1 k y0 y1 y2 y3 y4 y5 y6 y7 y8 y9 y10 y11 y12) (numerarylaw24_CivilNext.j1 (k + 1) y0 y1 y2 y3 y4 y5 y6 y7 y8 y9 y10 y11 y12)) ∧ (∀ y0 y1 y2 y3 y4 y5 y6 y7 y8 y9 y10 y11, LeO (numerarylaw24_CivilNext.j2 k y0 y1 y2 y3 y4 y5 y6 y7 y8 y9 y10 y11) (numerarylaw24_CivilNext.j2 (k + 1) y0 y1 y2 y3 y4 y5 y6 y7 y8 y9 y10 y11)) ∧ (∀ y0 y1 y2 y3 y4 y5 y6 y7 y8 y9 y10, LeO (numerarylaw24_CivilNext.j3 k y0 y1 y2 y3 y4 y5 y6 y7 y8 y9 y10) (numerarylaw24_CivilNext.j3 (k + 1) y0 y1 y2 y3 y4 y5 y6 y7 y8 y9 y10)) ∧ (∀ y0 y1 y2 y3 y4 y5 y6 y7 y8 y9 y10, LeO (numerarylaw24_CivilNext.j4 k y0 y1 y2 y3 y4 y5 y6 y7 y8 y9 y10) (numerarylaw24_CivilNext.j4 (k + 1) y0 y1 y2 y3 y4 y5 y6 y7 y8 y9 y10))
  | 0 => ⟨fun _ _ _ _ _ _ _ _ _ r h => by simp [numerarylaw24_CivilNext.j0] at h, fun _ _ _ _ _ _ _ _ _ _ _ _ _ r h => by simp [numerarylaw24_CivilNext.j1] at h, fun _ _ _ _ _ _ _ _ _ _ _ _ r h => by simp [numerarylaw24_CivilNext.j2] at h, fun _ _ _ _ _ _ _ _ _ _ _ r h => by simp [numerarylaw24_CivilNext.j3] at h, fun _ _ _ _ _ _ _ _ _ _ _ r h => by simp [numerarylaw24_CivilNext.j4] at h⟩
  | k + 1 => by
    obtain ⟨ih0, ih1, ih2, ih3, ih4⟩ := numerarylaw24_CivilNext.mono_l k
    refine ⟨?_, ?_, ?_, ?_, ?_⟩
    · intro y0 y1 y2 y3 y4 y5 y6 y7 y8
      unfold numerarylaw24_CivilNext.j0
      repeat' first
      | (with_reducible exact ih0 _ _ _ _ _ _ _ _ _)
      | (with_reducible exact ih1 _ _ _ _ _ _ _ _ _ _ _ _ _)
      | (with_reducible exact ih2 _ _ _ _ _ _ _ _ _ _ _ _)
      | (with_reducible exact ih3 _ _ _ _ _ _ _ _ _ _ _)
      | (with_reducible exact ih4 _ _ _ _ _ _ _ _ _ _ _)
      | (with_reducible exact civil_Days.mono _ _ _)
      | (with_reducible exact civil_Of.mono _ _ _)
      | (with_reducible exact civil_Weekday.mono _ _ _)
      | (with_reducible exact numerarylaw24_wakes.mono _)
      | (with_reducible exact LeO.refl _)
      | (with_reducible exact LeO.none _)
      | (with_reducible refine LeO.ite ?_ ?_)
      | (with_reducible refine LeO.bind ?_ (fun _ => ?_))
      | exact ih0 _ _ _ _ _ _ _ _ _
      | exact ih1 _ _ _ _ _ _ _ _ _ _ _ _ _
      | exact ih2 _ _ _ _ _ _ _ _ _ _ _ _
      | exact ih3 _ _ _ _ _ _ _ _ _ _ _
      | exact ih4 _ _ _ _ _ _ _ _ _ _ _
      | exact civil_Days.mono _ _ _
      | exact civil_Of.mono _ _ _
      | exact civil_Weekday.mono _ _ _
      | exact numerarylaw24_wakes.mono _
      | exact LeO.none _
      | refine LeO.ite ?_ ?_
      | refine LeO.bind ?_ (fun _ => ?_)
    · intro y0 y1 y2 y3 y4 y5 y6 y7 y8 y9 y10 y11 y12
      unfold numerarylaw24_CivilNext.j1
      repeat' first
      | (with_reducible exact ih0 _ _ _ _ _ _ _ _ _)
      | (with_reducible exact ih1 _ _ _ _ _ _ _ _ _ _ _ _ _)
      | (with_reducible exact ih2 _ _ _ _ _ _ _ _ _ _ _ _)
      | (with_reducible exact ih3 _ _ _ _ _ _ _ _ _ _ _)
      | (with_reducible exact ih4 _ _ _ _ _ _ _ _ _ _ _)
      | (with_reducible exact civil_Days.mono _ _ _)
      | (with_reducible exact civil_Of.mono _ _ _)
      | (with_reducible exact civil_Weekday.mono _ _ _)
      | (with_reducible exact numerarylaw24_wakes.mono _)
      | (with_reducible exact LeO.refl _)
      | (with_reducible exact LeO.none _)
      | (with_reducible refine LeO.ite ?_ ?_)
      | (with_reducible refine LeO.bind ?_ (fun _ => ?_))
      | exact ih0 _ _ _ _ _ _ _ _ _
      | exact ih1 _ _ _ _ _ _ _ _ _ _ _ _ _
      | exact ih2 _ _ _ _ _ _ _ _ _ _ _ _
      | exact ih3 _ _ _ _ _ _ _ _ _ _ _
      | exact ih4 _ _ _ _ _ _ _ _ _ _ _
      | exact civil_Days.mono _ _ _
      | exact civil_Of.mono _ _ _
      | exact civil_Weekday.mono _ _ _
      | exact numerarylaw24_wakes.mono _
      | exact LeO.none _
      | refine LeO.ite ?_ ?_
      | refine LeO.bind ?_ (fun _ => ?_)
    · intro y0 y1 y2 y3 y4 y5 y6 y7 y8 y9 y10 y11
      unfold numerarylaw24_CivilNext.j2
      repeat' first
      | (with_reducible exact ih0 _ _ _ _ _ _ _ _ _)
      | (with_reducible exact ih1 _ _ _ _ _ _ _ _ _ _ _ _ _)
      | (with_reducible exact ih2 _ _ _ _ _ _ _ _ _ _ _ _)
      | (with_reducible exact ih3 _ _ _ _ _ _ _ _ _ _ _)
      | (with_reducible exact ih4 _ _ _ _ _ _ _ _ _ _ _)
      | (with_reducible exact civil_Days.mono _ _ _)
      | (with_reducible exact civil_Of.mono _ _ _)
      | (with_reducible exact civil_Weekday.mono _ _ _)
      | (with_reducible exact numerarylaw24_wakes.mono _)
      | (with_reducible exact LeO.refl _)
      | (with_reducible exact LeO.none _)
      | (with_reducible refine LeO.ite ?_ ?_)
      | (with_reducible refine LeO.bind ?_ (fun _ => ?_))
      | exact ih0 _ _ _ _ _ _ _ _ _
      | exact ih1 _ _ _ _ _ _ _ _ _ _ _ _ _
      | exact ih2 _ _ _ _ _ _ _ _ _ _ _ _
      | exact ih3 _ _ _ _ _ _ _ _ _ _ _
      | exact ih4 _ _ _ _ _ _ _ _ _ _ _
      | exact civil_Days.mono _ _ _
      | exact civil_Of.mono _ _ _
      | exact civil_Weekday.mono _ _ _
      | exact numerarylaw24_wakes.mono _
      | exact LeO.none _
      | refine LeO.ite ?_ ?_
      | refine LeO.bind ?_ (fun _ => ?_)
    · intro y0 y1 y2 y3 y4 y5 y6 y7 y8 y9 y10
      unfold numerarylaw24_CivilNext.j3
      repeat' first
      | (with_reducible exact ih0 _ _ _ _ _ _ _ _ _)
      | (with_reducible exact ih1 _ _ _ _ _ _ _ _ _ _ _ _ _)
      | (with_reducible exact ih2 _ _ _ _ _ _ _ _ _ _ _ _)
      | (with_reducible exact ih3 _ _ _ _ _ _ _ _ _ _ _)
      | (with_reducible exact ih4 _ _ _ _ _ _ _ _ _ _ _)
      | (with_reducible exact civil_Days.mono _ _ _)
      | (with_reducible exact civil_Of.mono _ _ _)
      | (with_reducible exact civil_Weekday.mono _ _ _)
      | (with_reducible exact numerarylaw24_wakes.mono _)
      | (with_reducible exact LeO.refl _)
      | (with_reducible exact LeO.none _)
      | (with_reducible refine LeO.ite ?_ ?_)
      | (with_reducible refine LeO.bind ?_ (fun _ => ?_))
      | exact ih0 _ _ _ _ _ _ _ _ _
      | exact ih1 _ _ _ _ _ _ _ _ _ _ _ _ _
      | exact ih2 _ _ _ _ _ _ _ _ _ _ _ _
      | exact ih3 _ _ _ _ _ _ _ _ _ _ _
      | exact ih4 _ _ _ _ _ _ _ _ _ _ _
      | exact civil_Days.mono _ _ _
      | exact civil_Of.mono _ _ _
      | exact civil_Weekday.mono _ _ _
      | exact numerarylaw24_wakes.mono _
      | exact LeO.none _
      | refine LeO.ite ?_ ?_
      | refine LeO.bind ?_ (fun _ => ?_)
    · intro y0 y1 y2 y3 y4 y5 y6 y7 y8 y9 y10
      unfold numerarylaw24_CivilNext.j4
      repeat' first
      | (with_reducible exact ih0 _ _ _ _ _ _ _ _ _)
      | (with_reducible exact ih1 _ _ _ _ _ _ _ _ _ _ _ _ _)
      | (with_reducible exact ih2 _ _ _ _ _ _ _ _ _ _ _ _)
      | (with_reducible exact ih3 _ _ _ _ _ _ _ _ _ _ _)
      | (with_reducible exact ih4 _ _ _ _ _ _ _ _ _ _ _)
      | (with_reducible exact civil_Days.mono _ _ _)
      | (with_reducible exact civil_Of.mono _ _ _)
      | (with_reducible exact civil_Weekday.mono _ _ _)
      | (with_reducible exact numerarylaw24_wakes.mono _)
      | (with_reducible exact LeO.refl _)
      | (with_reducible exact LeO.none _)
      | (with_reducible refine LeO.ite ?_ ?_)
      | (with_reducible refine LeO.bind ?_ (fun _ => ?_))
      | exact ih0 _ _ _ _ _ _ _ _ _
      | exact ih1 _ _ _ _ _ _ _ _ _ _ _ _ _
      | exact ih2 _ _ _ _ _ _ _ _ _ _ _ _
      | exact ih3 _ _ _ _ _ _ _ _ _ _ _
      | exact ih4 _ _ _ _ _ _ _ _ _ _ _
      | exact civil_Days.mono _ _ _
      | exact civil_Of.mono _ _ _
      | exact civil_Weekday.mono _ _ _
      | exact numerarylaw24_wakes.mono _
      | exact LeO.none _
      | refine LeO.ite ?_ ?_
      | refine LeO.bind ?_ (fun _ => ?_)
theorem numerarylaw24_CivilNext.mono : ∀ a0 k, LeO (numerarylaw24_CivilNext.f k a0) (numerarylaw24_CivilNext.f (k + 1) a0) := by
  intro a0 k
  obtain ⟨ih0, ih1, ih2, ih3, ih4⟩ := numerarylaw24_CivilNext.mono_l k
  unfold numerarylaw24_CivilNext.f
  repeat' first
      | (with_reducible exact ih0 _ _ _ _ _ _ _ _ _)
      | (with_reducible exact ih1 _ _ _ _ _ _ _ _ _ _ _ _ _)
      | (with_reducible exact ih2 _ _ _ _ _ _ _ _ _ _ _ _)
      | (with_reducible exact ih3 _ _ _ _ _ _ _ _ _ _ _)
      | (with_reducible exact ih4 _ _ _ _ _ _ _ _ _ _ _)
      | (with_reducible exact civil_Days.mono _ _ _)
      | (with_reducible exact civil_Of.mono _ _ _)
      | (with_reducible exact civil_Weekday.mono _ _ _)
      | (with_reducible exact numerarylaw24_wakes.mono _)
      | (with_reducible exact LeO.refl _)
      | (with_reducible exact LeO.none _)
      | (with_reducible refine LeO.ite ?_ ?_)
      | (with_reducible refine LeO.bind ?_ (fun _ => ?_))
      | exact ih0 _ _ _ _ _ _ _ _ _
      | exact ih1 _ _ _ _ _ _ _ _ _ _ _ _ _
      | exact ih2 _ _ _ _ _ _ _ _ _ _ _ _
      | exact ih3 _ _ _ _ _ _ _ _ _ _ _
      | exact ih4 _ _ _ _ _ _ _ _ _ _ _
      | exact civil_Days.mono _ _ _
      | exact civil_Of.mono _ _ _
      | exact civil_Weekday.mono _ _ _
      | exact numerarylaw24_wakes.mono _
      | exact LeO.none _
      | refine LeO.ite ?_ ?_
      | refine LeO.bind ?_ (fun _ => ?_)
set_option maxHeartbeats 8000000 in
set_option maxRecDepth 100000 in
theorem numerarylaw24_CivilNext.calls (k : Nat) (a0 : Int) (r : Bool) (w : World) (h : numerarylaw24_CivilNext.f k a0 = some r) :
    Calls Try.prog 6 #[.int .u32 a0] w fun e w' => e = .returned (.bool r) ∧ Below w.heap.size w w' := by
  have hu24 := Try.underlying24
  have HB := Aside0.mk (Below.refl w.heap.size w)
  have H : ((civil_Of.f k (wrap64 (1 + (wrap64 (Int.tmod a0 2958464)))) 0).bind fun bt165 => ((civil_Of.f k (wrap64 ((wrap64 (1 + (wrap64 (Int.tmod a0 2958464)))) + 1)) 0).bind fun bt170 => ((civil_Weekday.f k (wrap64 (1 + (wrap64 (Int.tmod a0 2958464)))) 0).bind fun bt175 => ((civil_Weekday.f k (wrap64 ((wrap64 (1 + (wrap64 (Int.tmod a0 2958464)))) + 1)) 0).bind fun bt177 => ((numerarylaw24_wakes.f k).bind fun t179 => (if t179 = true then (if bt165.2.2.2 = true then (if bt170.2.2.2 = true then (if bt177.1 = (wrap64 ((Int.tmod bt175.1 7) + 1)) then (if bt175.1 < 1 then (numerarylaw24_CivilNext.j0 k (wrap64 (1 + (wrap64 (Int.tmod a0 2958464)))) bt175.1 true bt165.1 bt165.2.1 bt165.2.2.1 bt170.1 bt170.2.1 bt170.2.2.1) else (numerarylaw24_CivilNext.j0 k (wrap64 (1 + (wrap64 (Int.tmod a0 2958464)))) bt175.1 (decide (bt175.1 > 7)) bt165.1 bt165.2.1 bt165.2.2.1 bt170.1 bt170.2.1 bt170.2.2.1)) else (numerarylaw24_CivilNext.j0 k (wrap64 (1 + (wrap64 (Int.tmod a0 2958464)))) bt175.1 true bt165.1 bt165.2.1 bt165.2.2.1 bt170.1 bt170.2.1 bt170.2.2.1)) else (numerarylaw24_CivilNext.j0 k (wrap64 (1 + (wrap64 (Int.tmod a0 2958464)))) bt175.1 true bt165.1 bt165.2.1 bt165.2.2.1 bt170.1 bt170.2.1 bt170.2.2.1)) else (numerarylaw24_CivilNext.j0 k (wrap64 (1 + (wrap64 (Int.tmod a0 2958464)))) bt175.1 true bt165.1 bt165.2.1 bt165.2.2.1 bt170.1 bt170.2.1 bt170.2.2.1)) else (numerarylaw24_CivilNext.j0 k (wrap64 (1 + (wrap64 (Int.tmod a0 2958464)))) bt175.1 true bt165.1 bt165.2.1 bt165.2.2.1 bt170.1 bt170.2.1 bt170.2.2.1))))))) = some r := h
  clear h
  replace H := Option.bind_eq_some_iff.mp H
  obtain ⟨⟨t165, t166, t167, t168⟩, A20, H⟩ := H
  replace H : ((civil_Of.f k (wrap64 ((wrap64 (1 + (wrap64 (Int.tmod a0 2958464)))) + 1)) 0).bind fun bt170 => ((civil_Weekday.f k (wrap64 (1 + (wrap64 (Int.tmod a0 2958464)))) 0).bind fun bt175 => ((civil_Weekday.f k (wrap64 ((wrap64 (1 + (wrap64 (Int.tmod a0 2958464)))) + 1)) 0).bind fun bt177 => ((numerarylaw24_wakes.f k).bind fun t179 => (if t179 = true then (if t168 = true then (if bt170.2.2.2 = true then (if bt177.1 = (wrap64 ((Int.tmod bt175.1 7) + 1)) then (if bt175.1 < 1 then (numerarylaw24_CivilNext.j0 k (wrap64 (1 + (wrap64 (Int.tmod a0 2958464)))) bt175.1 true t165 t166 t167 bt170.1 bt170.2.1 bt170.2.2.1) else (numerarylaw24_CivilNext.j0 k (wrap64 (1 + (wrap64 (Int.tmod a0 2958464)))) bt175.1 (decide (bt175.1 > 7)) t165 t166 t167 bt170.1 bt170.2.1 bt170.2.2.1)) else (numerarylaw24_CivilNext.j0 k (wrap64 (1 + (wrap64 (Int.tmod a0 2958464)))) bt175.1 true t165 t166 t167 bt170.1 bt170.2.1 bt170.2.2.1)) else (numerarylaw24_CivilNext.j0 k (wrap64 (1 + (wrap64 (Int.tmod a0 2958464)))) bt175.1 true t165 t166 t167 bt170.1 bt170.2.1 bt170.2.2.1)) else (numerarylaw24_CivilNext.j0 k (wrap64 (1 + (wrap64 (Int.tmod a0 2958464)))) bt175.1 true t165 t166 t167 bt170.1 bt170.2.1 bt170.2.2.1)) else (numerarylaw24_CivilNext.j0 k (wrap64 (1 + (wrap64 (Int.tmod a0 2958464)))) bt175.1 true t165 t166 t167 bt170.1 bt170.2.1 bt170.2.2.1)))))) = some r := H
  have A2 := Aside0.mk A20
  clear A20
  replace H := Option.bind_eq_some_iff.mp H
  obtain ⟨⟨t170, t171, t172, t173⟩, A30, H⟩ := H
  replace H : ((civil_Weekday.f k (wrap64 (1 + (wrap64 (Int.tmod a0 2958464)))) 0).bind fun bt175 => ((civil_Weekday.f k (wrap64 ((wrap64 (1 + (wrap64 (Int.tmod a0 2958464)))) + 1)) 0).bind fun bt177 => ((numerarylaw24_wakes.f k).bind fun t179 => (if t179 = true then (if t168 = true then (if t173 = true then (if bt177.1 = (wrap64 ((Int.tmod bt175.1 7) + 1)) then (if bt175.1 < 1 then (numerarylaw24_CivilNext.j0 k (wrap64 (1 + (wrap64 (Int.tmod a0 2958464)))) bt175.1 true t165 t166 t167 t170 t171 t172) else (numerarylaw24_CivilNext.j0 k (wrap64 (1 + (wrap64 (Int.tmod a0 2958464)))) bt175.1 (decide (bt175.1 > 7)) t165 t166 t167 t170 t171 t172)) else (numerarylaw24_CivilNext.j0 k (wrap64 (1 + (wrap64 (Int.tmod a0 2958464)))) bt175.1 true t165 t166 t167 t170 t171 t172)) else (numerarylaw24_CivilNext.j0 k (wrap64 (1 + (wrap64 (Int.tmod a0 2958464)))) bt175.1 true t165 t166 t167 t170 t171 t172)) else (numerarylaw24_CivilNext.j0 k (wrap64 (1 + (wrap64 (Int.tmod a0 2958464)))) bt175.1 true t165 t166 t167 t170 t171 t172)) else (numerarylaw24_CivilNext.j0 k (wrap64 (1 + (wrap64 (Int.tmod a0 2958464)))) bt175.1 true t165 t166 t167 t170 t171 t172))))) = some r := H
  have A3 := Aside0.mk A30
  clear A30
  replace H := Option.bind_eq_some_iff.mp H
  obtain ⟨⟨t175, t176⟩, A40, H⟩ := H
  replace H : ((civil_Weekday.f k (wrap64 ((wrap64 (1 + (wrap64 (Int.tmod a0 2958464)))) + 1)) 0).bind fun bt177 => ((numerarylaw24_wakes.f k).bind fun t179 => (if t179 = true then (if t168 = true then (if t173 = true then (if bt177.1 = (wrap64 ((Int.tmod t175 7) + 1)) then (if t175 < 1 then (numerarylaw24_CivilNext.j0 k (wrap64 (1 + (wrap64 (Int.tmod a0 2958464)))) t175 true t165 t166 t167 t170 t171 t172) else (numerarylaw24_CivilNext.j0 k (wrap64 (1 + (wrap64 (Int.tmod a0 2958464)))) t175 (decide (t175 > 7)) t165 t166 t167 t170 t171 t172)) else (numerarylaw24_CivilNext.j0 k (wrap64 (1 + (wrap64 (Int.tmod a0 2958464)))) t175 true t165 t166 t167 t170 t171 t172)) else (numerarylaw24_CivilNext.j0 k (wrap64 (1 + (wrap64 (Int.tmod a0 2958464)))) t175 true t165 t166 t167 t170 t171 t172)) else (numerarylaw24_CivilNext.j0 k (wrap64 (1 + (wrap64 (Int.tmod a0 2958464)))) t175 true t165 t166 t167 t170 t171 t172)) else (numerarylaw24_CivilNext.j0 k (wrap64 (1 + (wrap64 (Int.tmod a0 2958464)))) t175 true t165 t166 t167 t170 t171 t172)))) = some r := H
  have A4 := Aside0.mk A40
  clear A40
  replace H := Option.bind_eq_some_iff.mp H
  obtain ⟨⟨t177, t178⟩, A50, H⟩ := H
  replace H : ((numerarylaw24_wakes.f k).bind fun t179 => (if t179 = true then (if t168 = true then (if t173 = true then (if t177 = (wrap64 ((Int.tmod t175 7) + 1)) then (if t175 < 1 then (numerarylaw24_CivilNext.j0 k (wrap64 (1 + (wrap64 (Int.tmod a0 2958464)))) t175 true t165 t166 t167 t170 t171 t172) else (numerarylaw24_CivilNext.j0 k (wrap64 (1 + (wrap64 (Int.tmod a0 2958464)))) t175 (decide (t175 > 7)) t165 t166 t167 t170 t171 t172)) else (numerarylaw24_CivilNext.j0 k (wrap64 (1 + (wrap64 (Int.tmod a0 2958464)))) t175 true t165 t166 t167 t170 t171 t172)) else (numerarylaw24_CivilNext.j0 k (wrap64 (1 + (wrap64 (Int.tmod a0 2958464)))) t175 true t165 t166 t167 t170 t171 t172)) else (numerarylaw24_CivilNext.j0 k (wrap64 (1 + (wrap64 (Int.tmod a0 2958464)))) t175 true t165 t166 t167 t170 t171 t172)) else (numerarylaw24_CivilNext.j0 k (wrap64 (1 + (wrap64 (Int.tmod a0 2958464)))) t175 true t165 t166 t167 t170 t171 t172))) = some r := H
  have A5 := Aside0.mk A50
  clear A50
  have HC6 := Aside0.mk H
  clear H
  go_enter Try.func6, Try.ntmps6
  go_upto_region 6 with (first | ((with_reducible refine gate_callee (f := 8) rfl ?_); refine goesL_ (some 24) rfl rfl Try.func8 (by kernel_rfl) rfl #[.int .i64 (wrap64 (1 + (wrap64 (Int.tmod a0 2958464)))), .int .i64 0] rfl (by (try simp only [List.map_toArray, List.map_cons, List.map_nil]); first | done | rfl | (simp only [List.length_drop, List.length_take]; rfl)) ?_; (with_reducible refine (civil_Of.calls k (wrap64 (1 + (wrap64 (Int.tmod a0 2958464)))) 0 t165 t166 t167 t168 _ A2.out).mono ?_); rintro e w7 ⟨rfl, hb⟩; refine ⟨_, rfl, ?_⟩; have n0_ := Aside0.mk (below_step (by repeat (first | (with_reducible first | exact HB.out | apply below_alloc | apply pw_below_drewN | apply below_drew1) | exact HB.out)) hb); clear HB; have HB := n0_; clear n0_; (try clear hb); (try clear hb2); (try clear hk); (try clear hi)) | ((with_reducible refine gate_dst (N := 4) rfl ?_); refine box_event ?hg (N := 4) ?hd (cs := #[.int .i64 0, .int .i64 0, .int .i64 0]) (t := 24) ?hr ?_; (case hd => rfl); (case hg => rfl); (case hr => first | (go_simp; done) | (go_simp; rfl)); intro gb169 hg w8 hbox hb; have n0_ := Aside0.mk (below_step (by repeat (first | (with_reducible first | exact HB.out | apply below_alloc | apply pw_below_drewN | apply below_drew1) | exact HB.out)) hb); have n1_ := Aside0.mk (hbox); have n2_ := Aside0.mk ((by rw [hg]; exact (below_size (by repeat (first | (with_reducible first | exact HB.out | apply below_alloc | apply pw_below_drewN | apply below_drew1) | exact HB.out))) : w.heap.size ≤ gb169)); have n3_ := Aside0.mk ((by rw [hg]; exact (below_size (by repeat (first | (with_reducible first | exact HB.out | apply below_alloc | apply pw_below_drewN | apply below_drew1) | exact HB.out))) : w.heap.size ≤ gb169)); clear HB; have HB := n0_; have BK169 := n1_; have GW169 := n2_; have GE169 := n3_; clear n0_ n1_ n2_ n3_; clear hb hbox hg; have hcz9_0 : w8.cell? ⟨gb169, 0, none⟩ = some (.int .i64 0) := (blk_cell BK169.out 0).trans rfl; have hcz9_1 : w8.cell? ⟨gb169, 1, none⟩ = some (.int .i64 0) := (blk_cell BK169.out 1).trans rfl; have hcz9_2 : w8.cell? ⟨gb169, 2, none⟩ = some (.int .i64 0) := (blk_cell BK169.out 2).trans rfl; have hfz9_0 := blk_frozen BK169.out 0; have hfz9_1 := blk_frozen BK169.out 1; have hfz9_2 := blk_frozen BK169.out 2) | ((with_reducible refine gate_callee (f := 8) rfl ?_); refine goesL_ (some 30) rfl rfl Try.func8 (by kernel_rfl) rfl #[.int .i64 (wrap64 ((wrap64 (1 + (wrap64 (Int.tmod a0 2958464)))) + 1)), .int .i64 0] rfl (by (try simp only [List.map_toArray, List.map_cons, List.map_nil]); first | done | rfl | (simp only [List.length_drop, List.length_take]; rfl)) ?_; (with_reducible refine (civil_Of.calls k (wrap64 ((wrap64 (1 + (wrap64 (Int.tmod a0 2958464)))) + 1)) 0 t170 t171 t172 t173 _ A3.out).mono ?_); rintro e w10 ⟨rfl, hb⟩; refine ⟨_, rfl, ?_⟩; have n0_ := Aside0.mk (blk_below (g := gb169) (o := .cells #[.int .i64 t165, .int .i64 t166, .int .i64 t167] 24 (0, 0)) (by (with_reducible repeat (first | refine blk_drewN ?_ _ | refine blk_drew ?_ | refine blk_alloc ?_ _)); refine blk_put (cs := #[.int .i64 t165, .int .i64 t166, .int .i64 0]) ?_ 2 _ rfl; (with_reducible repeat (first | refine blk_drewN ?_ _ | refine blk_drew ?_ | refine blk_alloc ?_ _)); refine blk_put (cs := #[.int .i64 t165, .int .i64 0, .int .i64 0]) ?_ 1 _ rfl; (with_reducible repeat (first | refine blk_drewN ?_ _ | refine blk_drew ?_ | refine blk_alloc ?_ _)); refine blk_put (cs := #[.int .i64 0, .int .i64 0, .int .i64 0]) ?_ 0 _ rfl; (with_reducible repeat (first | refine blk_drewN ?_ _ | refine blk_drew ?_ | refine blk_alloc ?_ _)); exact BK169.out) hb); have n1_ := Aside0.mk (below_step (by repeat (first | (with_reducible first | exact HB.out | apply below_alloc | apply pw_below_drewN | apply below_drew1 | refine below_set ?_ GE169.out) | exact HB.out)) hb); clear BK169; clear HB; have BK169 := n0_; have HB := n1_; clear n0_ n1_; (try clear hb); (try clear hb2); (try clear hk); (try clear hi)) | ((with_reducible refine gate_dst (N := 6) rfl ?_); refine box_event ?hg (N := 6) ?hd (cs := #[.int .i64 0, .int .i64 0, .int .i64 0]) (t := 24) ?hr ?_; (case hd => rfl); (case hg => rfl); (case hr => first | (go_simp; done) | (go_simp; rfl)); intro gb174 hg w11 hbox hb; have n0_ := Aside0.mk (blk_below (g := gb169) (o := .cells #[.int .i64 t165, .int .i64 t166, .int .i64 t167] 24 (0, 0)) (by (with_reducible repeat (first | refine blk_drewN ?_ _ | refine blk_drew ?_ | refine blk_alloc ?_ _)); exact BK169.out) hb); have n1_ := Aside0.mk (below_step (by repeat (first | (with_reducible first | exact HB.out | apply below_alloc | apply pw_below_drewN | apply below_drew1 | refine below_set ?_ GE169.out) | exact HB.out)) hb); have n2_ := Aside0.mk (hbox); have n3_ := Aside0.mk ((by rw [hg]; exact (below_size (by repeat (first | (with_reducible first | exact HB.out | apply below_alloc | apply pw_below_drewN | apply below_drew1 | refine below_set ?_ GE169.out) | exact HB.out))) : w.heap.size ≤ gb174)); have n4_ := Aside0.mk ((by rw [hg]; exact (below_size (by repeat (first | (with_reducible first | exact HB.out | apply below_alloc | apply pw_below_drewN | apply below_drew1 | refine below_set ?_ GE169.out) | exact HB.out))) : w.heap.size ≤ gb174)); have n5_ := Aside0.mk ((by rw [hg]; exact Nat.ne_of_lt (blk_lt (g := gb169) (o := .cells #[.int .i64 t165, .int .i64 t166, .int .i64 t167] 24 (0, 0)) (by (with_reducible repeat (first | refine blk_drewN ?_ _ | refine blk_drew ?_ | refine blk_alloc ?_ _)); exact BK169.out)) : gb169 ≠ gb174)); have n6_ := Aside0.mk ((by rw [hg]; exact Nat.ne_of_gt (blk_lt (g := gb169) (o := .cells #[.int .i64 t165, .int .i64 t166, .int .i64 t167] 24 (0, 0)) (by (with_reducible repeat (first | refine blk_drewN ?_ _ | refine blk_drew ?_ | refine blk_alloc ?_ _)); exact BK169.out)) : gb174 ≠ gb169)); clear BK169; clear HB; have BK169 := n0_; have HB := n1_; have BK174 := n2_; have GW174 := n3_; have GE174 := n4_; have NB169_174 := n5_; have NB174_169 := n6_; clear n0_ n1_ n2_ n3_ n4_ n5_ n6_; clear hb hbox hg; have hnb12 := NB174_169.out; have hnc12 := NB169_174.out; have hcz13_0 : w11.cell? ⟨gb174, 0, none⟩ = some (.int .i64 0) := (blk_cell BK174.out 0).trans rfl; have hcz13_1 : w11.cell? ⟨gb174, 1, none⟩ = some (.int .i64 0) := (blk_cell BK174.out 1).trans rfl; have hcz13_2 : w11.cell? ⟨gb174, 2, none⟩ = some (.int .i64 0) := (blk_cell BK174.out 2).trans rfl; have hfz13_0 := blk_frozen BK174.out 0; have hfz13_1 := blk_frozen BK174.out 1; have hfz13_2 := blk_frozen BK174.out 2) | ((with_reducible refine gate_callee (f := 10) rfl ?_); refine goesL_ (some 35) rfl rfl Try.func10 (by kernel_rfl) rfl #[.int .i64 (wrap64 (1 + (wrap64 (Int.tmod a0 2958464)))), .int .i64 0] rfl (by (try simp only [List.map_toArray, List.map_cons, List.map_nil]); first | done | rfl | (simp only [List.length_drop, List.length_take]; rfl)) ?_; (with_reducible refine (civil_Weekday.calls k (wrap64 (1 + (wrap64 (Int.tmod a0 2958464)))) 0 t175 t176 _ A4.out).mono ?_); rintro e w' ⟨rfl, ⟨nd, rfl⟩⟩; refine ⟨_, rfl, ?_⟩) | ((with_reducible refine gate_callee (f := 10) rfl ?_); refine goesL_ (some 41) rfl rfl Try.func10 (by kernel_rfl) rfl #[.int .i64 (wrap64 ((wrap64 (1 + (wrap64 (Int.tmod a0 2958464)))) + 1)), .int .i64 0] rfl (by (try simp only [List.map_toArray, List.map_cons, List.map_nil]); first | done | rfl | (simp only [List.length_drop, List.length_take]; rfl)) ?_; (with_reducible refine (civil_Weekday.calls k (wrap64 ((wrap64 (1 + (wrap64 (Int.tmod a0 2958464)))) + 1)) 0 t177 t178 _ A5.out).mono ?_); rintro e w' ⟨rfl, ⟨nd, rfl⟩⟩; refine ⟨_, rfl, ?_⟩))
  (try simp only [Act.put, List.setIfInBounds_toArray, List.set_cons_zero, List.set_cons_succ])
  go_cut [68] (fun v68 wc => ∃ (kq : Nat) (x68_5 : Bool), v68 = .bool x68_5 ∧ Aside0 (numerarylaw24_CivilNext.j0 kq (wrap64 (1 + (wrap64 (Int.tmod a0 2958464)))) t175 x68_5 t165 t166 t167 t170 t171 t172 = some r) ∧ Aside0 (kq ≤ k) ∧ Aside0 (wc.heap[gb169]? = some (.cells #[.int .i64 t165, .int .i64 t166, .int .i64 t167] 24 (0, 0))) ∧ Aside0 (wc.heap[gb174]? = some (.cells #[.int .i64 t170, .int .i64 t171, .int .i64 t172] 24 (0, 0))) ∧ Aside0 (Below w.heap.size w wc))
  case first =>
    have H := HC6.out
    clear HC6
    replace H := Option.bind_eq_some_iff.mp H
    obtain ⟨t179, A140, H⟩ := H
    replace H : (if t179 = true then (if t168 = true then (if t173 = true then (if t177 = (wrap64 ((Int.tmod t175 7) + 1)) then (if t175 < 1 then (numerarylaw24_CivilNext.j0 k (wrap64 (1 + (wrap64 (Int.tmod a0 2958464)))) t175 true t165 t166 t167 t170 t171 t172) else (numerarylaw24_CivilNext.j0 k (wrap64 (1 + (wrap64 (Int.tmod a0 2958464)))) t175 (decide (t175 > 7)) t165 t166 t167 t170 t171 t172)) else (numerarylaw24_CivilNext.j0 k (wrap64 (1 + (wrap64 (Int.tmod a0 2958464)))) t175 true t165 t166 t167 t170 t171 t172)) else (numerarylaw24_CivilNext.j0 k (wrap64 (1 + (wrap64 (Int.tmod a0 2958464)))) t175 true t165 t166 t167 t170 t171 t172)) else (numerarylaw24_CivilNext.j0 k (wrap64 (1 + (wrap64 (Int.tmod a0 2958464)))) t175 true t165 t166 t167 t170 t171 t172)) else (numerarylaw24_CivilNext.j0 k (wrap64 (1 + (wrap64 (Int.tmod a0 2958464)))) t175 true t165 t166 t167 t170 t171 t172)) = some r := H
    have A14 := Aside0.mk A140
    clear A140
    by_cases c15 : t179 = true
    · subst c15
      have H1 : (if t168 = true then (if t173 = true then (if t177 = (wrap64 ((Int.tmod t175 7) + 1)) then (if t175 < 1 then (numerarylaw24_CivilNext.j0 k (wrap64 (1 + (wrap64 (Int.tmod a0 2958464)))) t175 true t165 t166 t167 t170 t171 t172) else (numerarylaw24_CivilNext.j0 k (wrap64 (1 + (wrap64 (Int.tmod a0 2958464)))) t175 (decide (t175 > 7)) t165 t166 t167 t170 t171 t172)) else (numerarylaw24_CivilNext.j0 k (wrap64 (1 + (wrap64 (Int.tmod a0 2958464)))) t175 true t165 t166 t167 t170 t171 t172)) else (numerarylaw24_CivilNext.j0 k (wrap64 (1 + (wrap64 (Int.tmod a0 2958464)))) t175 true t165 t166 t167 t170 t171 t172)) else (numerarylaw24_CivilNext.j0 k (wrap64 (1 + (wrap64 (Int.tmod a0 2958464)))) t175 true t165 t166 t167 t170 t171 t172)) = some r := by rw [if_pos rfl] at H; exact H
      clear H
      have H := H1
      clear H1
      by_cases c16 : t168 = true
      · subst c16
        have H1 : (if t173 = true then (if t177 = (wrap64 ((Int.tmod t175 7) + 1)) then (if t175 < 1 then (numerarylaw24_CivilNext.j0 k (wrap64 (1 + (wrap64 (Int.tmod a0 2958464)))) t175 true t165 t166 t167 t170 t171 t172) else (numerarylaw24_CivilNext.j0 k (wrap64 (1 + (wrap64 (Int.tmod a0 2958464)))) t175 (decide (t175 > 7)) t165 t166 t167 t170 t171 t172)) else (numerarylaw24_CivilNext.j0 k (wrap64 (1 + (wrap64 (Int.tmod a0 2958464)))) t175 true t165 t166 t167 t170 t171 t172)) else (numerarylaw24_CivilNext.j0 k (wrap64 (1 + (wrap64 (Int.tmod a0 2958464)))) t175 true t165 t166 t167 t170 t171 t172)) = some r := by rw [if_pos rfl] at H; exact H
        clear H
        have H := H1
        clear H1
        by_cases c17 : t173 = true
        · subst c17
          have H1 : (if t177 = (wrap64 ((Int.tmod t175 7) + 1)) then (if t175 < 1 then (numerarylaw24_CivilNext.j0 k (wrap64 (1 + (wrap64 (Int.tmod a0 2958464)))) t175 true t165 t166 t167 t170 t171 t172) else (numerarylaw24_CivilNext.j0 k (wrap64 (1 + (wrap64 (Int.tmod a0 2958464)))) t175 (decide (t175 > 7)) t165 t166 t167 t170 t171 t172)) else (numerarylaw24_CivilNext.j0 k (wrap64 (1 + (wrap64 (Int.tmod a0 2958464)))) t175 true t165 t166 t167 t170 t171 t172)) = some r := by rw [if_pos rfl] at H; exact H
          clear H
          have H := H1
          clear H1
          by_cases c18 : t177 = (wrap64 ((Int.tmod t175 7) + 1))
          · rw [if_pos c18] at H
            have c18b0 : (t177 == (wrap64 ((Int.tmod t175 7) + 1))) = true := beq_iff_eq.mpr c18
            have c18b1 : (t177 != (wrap64 ((Int.tmod t175 7) + 1))) = false := bne_eq_false_iff_eq.mpr c18
            clear c18
            (first | rw [c18b0] | (simp only [i64_w, i32_w]; rw [c18b0]) | skip)
            by_cases c19 : t175 < 1
            · rw [if_pos c19] at H
              have c19b0 : decide (t175 < 1) = true := decide_eq_true c19
              clear c19
              have H' := Aside0.mk H
              clear H
              go_wp2_with (first | ((with_reducible refine gate_callee (f := 13) rfl ?_); refine goesL_ (some 44) rfl rfl Try.func13 (by kernel_rfl) rfl #[] rfl (by (try simp only [List.map_toArray, List.map_cons, List.map_nil]); first | done | rfl | (simp only [List.length_drop, List.length_take]; rfl)) ?_; (with_reducible refine (numerarylaw24_wakes.calls k  true _ A14.out).mono ?_); rintro e w20 ⟨rfl, hb⟩; refine ⟨_, rfl, ?_⟩; have n0_ := Aside0.mk (blk_below (g := gb169) (o := .cells #[.int .i64 t165, .int .i64 t166, .int .i64 t167] 24 (0, 0)) (by (with_reducible repeat (first | refine blk_drewN ?_ _ | refine blk_drew ?_ | refine blk_alloc ?_ _)); refine blk_far ?_ NB169_174.out _; (with_reducible repeat (first | refine blk_drewN ?_ _ | refine blk_drew ?_ | refine blk_alloc ?_ _)); refine blk_far ?_ NB169_174.out _; (with_reducible repeat (first | refine blk_drewN ?_ _ | refine blk_drew ?_ | refine blk_alloc ?_ _)); refine blk_far ?_ NB169_174.out _; (with_reducible repeat (first | refine blk_drewN ?_ _ | refine blk_drew ?_ | refine blk_alloc ?_ _)); exact BK169.out) hb); have n1_ := Aside0.mk (blk_below (g := gb174) (o := .cells #[.int .i64 t170, .int .i64 t171, .int .i64 t172] 24 (0, 0)) (by (with_reducible repeat (first | refine blk_drewN ?_ _ | refine blk_drew ?_ | refine blk_alloc ?_ _)); refine blk_put (cs := #[.int .i64 t170, .int .i64 t171, .int .i64 0]) ?_ 2 _ rfl; (with_reducible repeat (first | refine blk_drewN ?_ _ | refine blk_drew ?_ | refine blk_alloc ?_ _)); refine blk_put (cs := #[.int .i64 t170, .int .i64 0, .int .i64 0]) ?_ 1 _ rfl; (with_reducible repeat (first | refine blk_drewN ?_ _ | refine blk_drew ?_ | refine blk_alloc ?_ _)); refine blk_put (cs := #[.int .i64 0, .int .i64 0, .int .i64 0]) ?_ 0 _ rfl; (with_reducible repeat (first | refine blk_drewN ?_ _ | refine blk_drew ?_ | refine blk_alloc ?_ _)); exact BK174.out) hb); have n2_ := Aside0.mk (below_step (by repeat (first | (with_reducible first | exact HB.out | apply below_alloc | apply pw_below_drewN | apply below_drew1 | refine below_set ?_ GE169.out | refine below_set ?_ GE174.out) | exact HB.out)) hb); clear BK169; clear BK174; clear HB; have BK169 := n0_; have BK174 := n1_; have HB := n2_; clear n0_ n1_ n2_; (try clear hb); (try clear hb2); (try clear hk); (try clear hi)))
              go_meet
              case rel => exact ⟨_, (true), (by first | rfl | (simp; done) | (simp [*]; done)), H', ⟨by first | omega | exact Nat.le_refl _⟩, ⟨by (with_reducible repeat (first | refine blk_drewN ?_ _ | refine blk_drew ?_ | refine blk_alloc ?_ _)); exact BK169.out⟩, ⟨by (with_reducible repeat (first | refine blk_drewN ?_ _ | refine blk_drew ?_ | refine blk_alloc ?_ _)); exact BK174.out⟩, ⟨by repeat (first | (with_reducible first | exact HB.out | apply below_alloc | apply pw_below_drewN | apply below_drew1 | refine below_set ?_ GE169.out | refine below_set ?_ GE174.out) | exact HB.out)⟩⟩
            · rw [if_neg c19] at H
              have c19b0 : decide (t175 < 1) = false := decide_eq_false c19
              clear c19
              have H' := Aside0.mk H
              clear H
              go_wp2_with (first | ((with_reducible refine gate_callee (f := 13) rfl ?_); refine goesL_ (some 44) rfl rfl Try.func13 (by kernel_rfl) rfl #[] rfl (by (try simp only [List.map_toArray, List.map_cons, List.map_nil]); first | done | rfl | (simp only [List.length_drop, List.length_take]; rfl)) ?_; (with_reducible refine (numerarylaw24_wakes.calls k  true _ A14.out).mono ?_); rintro e w21 ⟨rfl, hb⟩; refine ⟨_, rfl, ?_⟩; have n0_ := Aside0.mk (blk_below (g := gb169) (o := .cells #[.int .i64 t165, .int .i64 t166, .int .i64 t167] 24 (0, 0)) (by (with_reducible repeat (first | refine blk_drewN ?_ _ | refine blk_drew ?_ | refine blk_alloc ?_ _)); refine blk_far ?_ NB169_174.out _; (with_reducible repeat (first | refine blk_drewN ?_ _ | refine blk_drew ?_ | refine blk_alloc ?_ _)); refine blk_far ?_ NB169_174.out _; (with_reducible repeat (first | refine blk_drewN ?_ _ | refine blk_drew ?_ | refine blk_alloc ?_ _)); refine blk_far ?_ NB169_174.out _; (with_reducible repeat (first | refine blk_drewN ?_ _ | refine blk_drew ?_ | refine blk_alloc ?_ _)); exact BK169.out) hb); have n1_ := Aside0.mk (blk_below (g := gb174) (o := .cells #[.int .i64 t170, .int .i64 t171, .int .i64 t172] 24 (0, 0)) (by (with_reducible repeat (first | refine blk_drewN ?_ _ | refine blk_drew ?_ | refine blk_alloc ?_ _)); refine blk_put (cs := #[.int .i64 t170, .int .i64 t171, .int .i64 0]) ?_ 2 _ rfl; (with_reducible repeat (first | refine blk_drewN ?_ _ | refine blk_drew ?_ | refine blk_alloc ?_ _)); refine blk_put (cs := #[.int .i64 t170, .int .i64 0, .int .i64 0]) ?_ 1 _ rfl; (with_reducible repeat (first | refine blk_drewN ?_ _ | refine blk_drew ?_ | refine blk_alloc ?_ _)); refine blk_put (cs := #[.int .i64 0, .int .i64 0, .int .i64 0]) ?_ 0 _ rfl; (with_reducible repeat (first | refine blk_drewN ?_ _ | refine blk_drew ?_ | refine blk_alloc ?_ _)); exact BK174.out) hb); have n2_ := Aside0.mk (below_step (by repeat (first | (with_reducible first | exact HB.out | apply below_alloc | apply pw_below_drewN | apply below_drew1 | refine below_set ?_ GE169.out | refine below_set ?_ GE174.out) | exact HB.out)) hb); clear BK169; clear BK174; clear HB; have BK169 := n0_; have BK174 := n1_; have HB := n2_; clear n0_ n1_ n2_; (try clear hb); (try clear hb2); (try clear hk); (try clear hi)))
              go_meet
              case rel => exact ⟨_, (decide (t175 > 7)), (by first | rfl | (simp; done) | (simp [*]; done)), H', ⟨by first | omega | exact Nat.le_refl _⟩, ⟨by (with_reducible repeat (first | refine blk_drewN ?_ _ | refine blk_drew ?_ | refine blk_alloc ?_ _)); exact BK169.out⟩, ⟨by (with_reducible repeat (first | refine blk_drewN ?_ _ | refine blk_drew ?_ | refine blk_alloc ?_ _)); exact BK174.out⟩, ⟨by repeat (first | (with_reducible first | exact HB.out | apply below_alloc | apply pw_below_drewN | apply below_drew1 | refine below_set ?_ GE169.out | refine below_set ?_ GE174.out) | exact HB.out)⟩⟩
          · rw [if_neg c18] at H
            have c18b0 : (t177 == (wrap64 ((Int.tmod t175 7) + 1))) = false := beq_eq_false_iff_ne.mpr c18
            have c18b1 : (t177 != (wrap64 ((Int.tmod t175 7) + 1))) = true := bne_iff_ne.mpr c18
            (first | rw [c18b0] | (simp only [i64_w, i32_w]; rw [c18b0]) | skip)
            have H' := Aside0.mk H
            clear H
            go_wp2_with (first | ((with_reducible refine gate_callee (f := 13) rfl ?_); refine goesL_ (some 44) rfl rfl Try.func13 (by kernel_rfl) rfl #[] rfl (by (try simp only [List.map_toArray, List.map_cons, List.map_nil]); first | done | rfl | (simp only [List.length_drop, List.length_take]; rfl)) ?_; (with_reducible refine (numerarylaw24_wakes.calls k  true _ A14.out).mono ?_); rintro e w22 ⟨rfl, hb⟩; refine ⟨_, rfl, ?_⟩; have n0_ := Aside0.mk (blk_below (g := gb169) (o := .cells #[.int .i64 t165, .int .i64 t166, .int .i64 t167] 24 (0, 0)) (by (with_reducible repeat (first | refine blk_drewN ?_ _ | refine blk_drew ?_ | refine blk_alloc ?_ _)); refine blk_far ?_ NB169_174.out _; (with_reducible repeat (first | refine blk_drewN ?_ _ | refine blk_drew ?_ | refine blk_alloc ?_ _)); refine blk_far ?_ NB169_174.out _; (with_reducible repeat (first | refine blk_drewN ?_ _ | refine blk_drew ?_ | refine blk_alloc ?_ _)); refine blk_far ?_ NB169_174.out _; (with_reducible repeat (first | refine blk_drewN ?_ _ | refine blk_drew ?_ | refine blk_alloc ?_ _)); exact BK169.out) hb); have n1_ := Aside0.mk (blk_below (g := gb174) (o := .cells #[.int .i64 t170, .int .i64 t171, .int .i64 t172] 24 (0, 0)) (by (with_reducible repeat (first | refine blk_drewN ?_ _ | refine blk_drew ?_ | refine blk_alloc ?_ _)); refine blk_put (cs := #[.int .i64 t170, .int .i64 t171, .int .i64 0]) ?_ 2 _ rfl; (with_reducible repeat (first | refine blk_drewN ?_ _ | refine blk_drew ?_ | refine blk_alloc ?_ _)); refine blk_put (cs := #[.int .i64 t170, .int .i64 0, .int .i64 0]) ?_ 1 _ rfl; (with_reducible repeat (first | refine blk_drewN ?_ _ | refine blk_drew ?_ | refine blk_alloc ?_ _)); refine blk_put (cs := #[.int .i64 0, .int .i64 0, .int .i64 0]) ?_ 0 _ rfl; (with_reducible repeat (first | refine blk_drewN ?_ _ | refine blk_drew ?_ | refine blk_alloc ?_ _)); exact BK174.out) hb); have n2_ := Aside0.mk (below_step (by repeat (first | (with_reducible first | exact HB.out | apply below_alloc | apply pw_below_drewN | apply below_drew1 | refine below_set ?_ GE169.out | refine below_set ?_ GE174.out) | exact HB.out)) hb); clear BK169; clear BK174; clear HB; have BK169 := n0_; have BK174 := n1_; have HB := n2_; clear n0_ n1_ n2_; (try clear hb); (try clear hb2); (try clear hk); (try clear hi)))
            go_meet
            case rel => exact ⟨_, (true), (by first | rfl | (simp; done) | (simp [*]; done)), H', ⟨by first | omega | exact Nat.le_refl _⟩, ⟨by (with_reducible repeat (first | refine blk_drewN ?_ _ | refine blk_drew ?_ | refine blk_alloc ?_ _)); exact BK169.out⟩, ⟨by (with_reducible repeat (first | refine blk_drewN ?_ _ | refine blk_drew ?_ | refine blk_alloc ?_ _)); exact BK174.out⟩, ⟨by repeat (first | (with_reducible first | exact HB.out | apply below_alloc | apply pw_below_drewN | apply below_drew1 | refine below_set ?_ GE169.out | refine below_set ?_ GE174.out) | exact HB.out)⟩⟩
        · replace c17 := Bool.eq_false_iff.mpr c17
          subst c17
          have H1 : (numerarylaw24_CivilNext.j0 k (wrap64 (1 + (wrap64 (Int.tmod a0 2958464)))) t175 true t165 t166 t167 t170 t171 t172) = some r := by rw [if_neg (show ¬ (false = true) by decide)] at H; exact H
          clear H
          have H := H1
          clear H1
          have H' := Aside0.mk H
          clear H
          go_wp2_with (first | ((with_reducible refine gate_callee (f := 13) rfl ?_); refine goesL_ (some 44) rfl rfl Try.func13 (by kernel_rfl) rfl #[] rfl (by (try simp only [List.map_toArray, List.map_cons, List.map_nil]); first | done | rfl | (simp only [List.length_drop, List.length_take]; rfl)) ?_; (with_reducible refine (numerarylaw24_wakes.calls k  true _ A14.out).mono ?_); rintro e w23 ⟨rfl, hb⟩; refine ⟨_, rfl, ?_⟩; have n0_ := Aside0.mk (blk_below (g := gb169) (o := .cells #[.int .i64 t165, .int .i64 t166, .int .i64 t167] 24 (0, 0)) (by (with_reducible repeat (first | refine blk_drewN ?_ _ | refine blk_drew ?_ | refine blk_alloc ?_ _)); refine blk_far ?_ NB169_174.out _; (with_reducible repeat (first | refine blk_drewN ?_ _ | refine blk_drew ?_ | refine blk_alloc ?_ _)); refine blk_far ?_ NB169_174.out _; (with_reducible repeat (first | refine blk_drewN ?_ _ | refine blk_drew ?_ | refine blk_alloc ?_ _)); refine blk_far ?_ NB169_174.out _; (with_reducible repeat (first | refine blk_drewN ?_ _ | refine blk_drew ?_ | refine blk_alloc ?_ _)); exact BK169.out) hb); have n1_ := Aside0.mk (blk_below (g := gb174) (o := .cells #[.int .i64 t170, .int .i64 t171, .int .i64 t172] 24 (0, 0)) (by (with_reducible repeat (first | refine blk_drewN ?_ _ | refine blk_drew ?_ | refine blk_alloc ?_ _)); refine blk_put (cs := #[.int .i64 t170, .int .i64 t171, .int .i64 0]) ?_ 2 _ rfl; (with_reducible repeat (first | refine blk_drewN ?_ _ | refine blk_drew ?_ | refine blk_alloc ?_ _)); refine blk_put (cs := #[.int .i64 t170, .int .i64 0, .int .i64 0]) ?_ 1 _ rfl; (with_reducible repeat (first | refine blk_drewN ?_ _ | refine blk_drew ?_ | refine blk_alloc ?_ _)); refine blk_put (cs := #[.int .i64 0, .int .i64 0, .int .i64 0]) ?_ 0 _ rfl; (with_reducible repeat (first | refine blk_drewN ?_ _ | refine blk_drew ?_ | refine blk_alloc ?_ _)); exact BK174.out) hb); have n2_ := Aside0.mk (below_step (by repeat (first | (with_reducible first | exact HB.out | apply below_alloc | apply pw_below_drewN | apply below_drew1 | refine below_set ?_ GE169.out | refine below_set ?_ GE174.out) | exact HB.out)) hb); clear BK169; clear BK174; clear HB; have BK169 := n0_; have BK174 := n1_; have HB := n2_; clear n0_ n1_ n2_; (try clear hb); (try clear hb2); (try clear hk); (try clear hi)))
          go_meet
          case rel => exact ⟨_, (true), (by first | rfl | (simp; done) | (simp [*]; done)), H', ⟨by first | omega | exact Nat.le_refl _⟩, ⟨by (with_reducible repeat (first | refine blk_drewN ?_ _ | refine blk_drew ?_ | refine blk_alloc ?_ _)); exact BK169.out⟩, ⟨by (with_reducible repeat (first | refine blk_drewN ?_ _ | refine blk_drew ?_ | refine blk_alloc ?_ _)); exact BK174.out⟩, ⟨by repeat (first | (with_reducible first | exact HB.out | apply below_alloc | apply pw_below_drewN | apply below_drew1 | refine below_set ?_ GE169.out | refine below_set ?_ GE174.out) | exact HB.out)⟩⟩
      · replace c16 := Bool.eq_false_iff.mpr c16
        subst c16
        have H1 : (numerarylaw24_CivilNext.j0 k (wrap64 (1 + (wrap64 (Int.tmod a0 2958464)))) t175 true t165 t166 t167 t170 t171 t172) = some r := by rw [if_neg (show ¬ (false = true) by decide)] at H; exact H
        clear H
        have H := H1
        clear H1
        have H' := Aside0.mk H
        clear H
        go_wp2_with (first | ((with_reducible refine gate_callee (f := 13) rfl ?_); refine goesL_ (some 44) rfl rfl Try.func13 (by kernel_rfl) rfl #[] rfl (by (try simp only [List.map_toArray, List.map_cons, List.map_nil]); first | done | rfl | (simp only [List.length_drop, List.length_take]; rfl)) ?_; (with_reducible refine (numerarylaw24_wakes.calls k  true _ A14.out).mono ?_); rintro e w24 ⟨rfl, hb⟩; refine ⟨_, rfl, ?_⟩; have n0_ := Aside0.mk (blk_below (g := gb169) (o := .cells #[.int .i64 t165, .int .i64 t166, .int .i64 t167] 24 (0, 0)) (by (with_reducible repeat (first | refine blk_drewN ?_ _ | refine blk_drew ?_ | refine blk_alloc ?_ _)); refine blk_far ?_ NB169_174.out _; (with_reducible repeat (first | refine blk_drewN ?_ _ | refine blk_drew ?_ | refine blk_alloc ?_ _)); refine blk_far ?_ NB169_174.out _; (with_reducible repeat (first | refine blk_drewN ?_ _ | refine blk_drew ?_ | refine blk_alloc ?_ _)); refine blk_far ?_ NB169_174.out _; (with_reducible repeat (first | refine blk_drewN ?_ _ | refine blk_drew ?_ | refine blk_alloc ?_ _)); exact BK169.out) hb); have n1_ := Aside0.mk (blk_below (g := gb174) (o := .cells #[.int .i64 t170, .int .i64 t171, .int .i64 t172] 24 (0, 0)) (by (with_reducible repeat (first | refine blk_drewN ?_ _ | refine blk_drew ?_ | refine blk_alloc ?_ _)); refine blk_put (cs := #[.int .i64 t170, .int .i64 t171, .int .i64 0]) ?_ 2 _ rfl; (with_reducible repeat (first | refine blk_drewN ?_ _ | refine blk_drew ?_ | refine blk_alloc ?_ _)); refine blk_put (cs := #[.int .i64 t170, .int .i64 0, .int .i64 0]) ?_ 1 _ rfl; (with_reducible repeat (first | refine blk_drewN ?_ _ | refine blk_drew ?_ | refine blk_alloc ?_ _)); refine blk_put (cs := #[.int .i64 0, .int .i64 0, .int .i64 0]) ?_ 0 _ rfl; (with_reducible repeat (first | refine blk_drewN ?_ _ | refine blk_drew ?_ | refine blk_alloc ?_ _)); exact BK174.out) hb); have n2_ := Aside0.mk (below_step (by repeat (first | (with_reducible first | exact HB.out | apply below_alloc | apply pw_below_drewN | apply below_drew1 | refine below_set ?_ GE169.out | refine below_set ?_ GE174.out) | exact HB.out)) hb); clear BK169; clear BK174; clear HB; have BK169 := n0_; have BK174 := n1_; have HB := n2_; clear n0_ n1_ n2_; (try clear hb); (try clear hb2); (try clear hk); (try clear hi)))
        go_meet
        case rel => exact ⟨_, (true), (by first | rfl | (simp; done) | (simp [*]; done)), H', ⟨by first | omega | exact Nat.le_refl _⟩, ⟨by (with_reducible repeat (first | refine blk_drewN ?_ _ | refine blk_drew ?_ | refine blk_alloc ?_ _)); exact BK169.out⟩, ⟨by (with_reducible repeat (first | refine blk_drewN ?_ _ | refine blk_drew ?_ | refine blk_alloc ?_ _)); exact BK174.out⟩, ⟨by repeat (first | (with_reducible first | exact HB.out | apply below_alloc | apply pw_below_drewN | apply below_drew1 | refine below_set ?_ GE169.out | refine below_set ?_ GE174.out) | exact HB.out)⟩⟩
    · replace c15 := Bool.eq_false_iff.mpr c15
      subst c15
      have H1 : (numerarylaw24_CivilNext.j0 k (wrap64 (1 + (wrap64 (Int.tmod a0 2958464)))) t175 true t165 t166 t167 t170 t171 t172) = some r := by rw [if_neg (show ¬ (false = true) by decide)] at H; exact H
      clear H
      have H := H1
      clear H1
      have H' := Aside0.mk H
      clear H
      go_wp2_with (first | ((with_reducible refine gate_callee (f := 13) rfl ?_); refine goesL_ (some 44) rfl rfl Try.func13 (by kernel_rfl) rfl #[] rfl (by (try simp only [List.map_toArray, List.map_cons, List.map_nil]); first | done | rfl | (simp only [List.length_drop, List.length_take]; rfl)) ?_; (with_reducible refine (numerarylaw24_wakes.calls k  false _ A14.out).mono ?_); rintro e w25 ⟨rfl, hb⟩; refine ⟨_, rfl, ?_⟩; have n0_ := Aside0.mk (blk_below (g := gb169) (o := .cells #[.int .i64 t165, .int .i64 t166, .int .i64 t167] 24 (0, 0)) (by (with_reducible repeat (first | refine blk_drewN ?_ _ | refine blk_drew ?_ | refine blk_alloc ?_ _)); refine blk_far ?_ NB169_174.out _; (with_reducible repeat (first | refine blk_drewN ?_ _ | refine blk_drew ?_ | refine blk_alloc ?_ _)); refine blk_far ?_ NB169_174.out _; (with_reducible repeat (first | refine blk_drewN ?_ _ | refine blk_drew ?_ | refine blk_alloc ?_ _)); refine blk_far ?_ NB169_174.out _; (with_reducible repeat (first | refine blk_drewN ?_ _ | refine blk_drew ?_ | refine blk_alloc ?_ _)); exact BK169.out) hb); have n1_ := Aside0.mk (blk_below (g := gb174) (o := .cells #[.int .i64 t170, .int .i64 t171, .int .i64 t172] 24 (0, 0)) (by (with_reducible repeat (first | refine blk_drewN ?_ _ | refine blk_drew ?_ | refine blk_alloc ?_ _)); refine blk_put (cs := #[.int .i64 t170, .int .i64 t171, .int .i64 0]) ?_ 2 _ rfl; (with_reducible repeat (first | refine blk_drewN ?_ _ | refine blk_drew ?_ | refine blk_alloc ?_ _)); refine blk_put (cs := #[.int .i64 t170, .int .i64 0, .int .i64 0]) ?_ 1 _ rfl; (with_reducible repeat (first | refine blk_drewN ?_ _ | refine blk_drew ?_ | refine blk_alloc ?_ _)); refine blk_put (cs := #[.int .i64 0, .int .i64 0, .int .i64 0]) ?_ 0 _ rfl; (with_reducible repeat (first | refine blk_drewN ?_ _ | refine blk_drew ?_ | refine blk_alloc ?_ _)); exact BK174.out) hb); have n2_ := Aside0.mk (below_step (by repeat (first | (with_reducible first | exact HB.out | apply below_alloc | apply pw_below_drewN | apply below_drew1 | refine below_set ?_ GE169.out | refine below_set ?_ GE174.out) | exact HB.out)) hb); clear BK169; clear BK174; clear HB; have BK169 := n0_; have BK174 := n1_; have HB := n2_; clear n0_ n1_ n2_; (try clear hb); (try clear hb2); (try clear hk); (try clear hi)))
      go_meet
      case rel => exact ⟨_, (true), (by first | rfl | (simp; done) | (simp [*]; done)), H', ⟨by first | omega | exact Nat.le_refl _⟩, ⟨by (with_reducible repeat (first | refine blk_drewN ?_ _ | refine blk_drew ?_ | refine blk_alloc ?_ _)); exact BK169.out⟩, ⟨by (with_reducible repeat (first | refine blk_drewN ?_ _ | refine blk_drew ?_ | refine blk_alloc ?_ _)); exact BK174.out⟩, ⟨by repeat (first | (with_reducible first | exact HB.out | apply below_alloc | apply pw_below_drewN | apply below_drew1 | refine below_set ?_ GE169.out | refine below_set ?_ GE174.out) | exact HB.out)⟩⟩
  case rest =>
    clear HC6
    try clear c1
    try clear p2
    try clear c6
    try clear p6
    try clear c8
    try clear c10
    try clear c12
    try clear c13
    try clear c15
    try clear c16
    try clear c17
    try clear c18
    try clear c18b0
    try clear c18b1
    try clear c19
    try clear c19b0
    try clear hcz13_0
    try clear hcz13_1
    try clear hcz13_2
    try clear hcz9_0
    try clear hcz9_1
    try clear hcz9_2
    try clear hfz13_0
    try clear hfz13_1
    try clear hfz13_2
    try clear hfz9_0
    try clear hfz9_1
    try clear hfz9_2
    obtain ⟨kq, x68_5, rfl, HA, HJ5, BK169, BK174, HB⟩ := hcut
    cases kq with
    | zero => exact absurd HA.out (by simp [numerarylaw24_CivilNext.j0])
    | succ kj5 =>
      have H := HA.out
      clear HA
      simp only [numerarylaw24_CivilNext.j0] at H
      by_cases c26 : x68_5 = true
      · subst c26
        have H1 : (some false) = some r := by rw [if_pos rfl] at H; exact H
        clear H
        have H := H1
        clear H1
        obtain rfl := Option.some.inj H
        go_wp2
        go_ret
        exact ⟨by first | rfl | (simp [errW_none, errW_some] <;> rfl) | (simp [*, errW_none, errW_some] <;> rfl), by repeat (first | (with_reducible first | exact HB.out | apply below_alloc | apply pw_below_drewN | apply below_drew1 | refine below_set ?_ GE169.out | refine below_set ?_ GE174.out) | exact HB.out)⟩
      · replace c26 := Bool.eq_false_iff.mpr c26
        subst c26
        have H1 : ((civil_Days.f kj5 t165 t166).bind fun t181 => (if t165 = 1900 then (numerarylaw24_CivilNext.j1 kj5 (wrap64 (1 + (wrap64 (Int.tmod a0 2958464)))) t175 t181 (t166 == 2) t165 t166 t167 t170 t171 t172 t165 t166 (wrap64 (t167 + 1))) else (numerarylaw24_CivilNext.j1 kj5 (wrap64 (1 + (wrap64 (Int.tmod a0 2958464)))) t175 t181 false t165 t166 t167 t170 t171 t172 t165 t166 (wrap64 (t167 + 1))))) = some r := by rw [if_neg (show ¬ (false = true) by decide)] at H; exact H
        clear H
        have H := H1
        clear H1
        replace H := Option.bind_eq_some_iff.mp H
        obtain ⟨t181, A270, H⟩ := H
        replace H : (if t165 = 1900 then (numerarylaw24_CivilNext.j1 kj5 (wrap64 (1 + (wrap64 (Int.tmod a0 2958464)))) t175 t181 (t166 == 2) t165 t166 t167 t170 t171 t172 t165 t166 (wrap64 (t167 + 1))) else (numerarylaw24_CivilNext.j1 kj5 (wrap64 (1 + (wrap64 (Int.tmod a0 2958464)))) t175 t181 false t165 t166 t167 t170 t171 t172 t165 t166 (wrap64 (t167 + 1)))) = some r := H
        have A27 := Aside0.mk A270
        clear A270
        have HC28 := Aside0.mk H
        clear H
        have hnb29 := NB169_174.out
        have hnc29 := NB174_169.out
        have hcz30_0 : wc.cell? ⟨gb169, 0, none⟩ = some (.int .i64 t165) := (blk_cell BK169.out 0).trans rfl
        have hcz30_1 : wc.cell? ⟨gb169, 1, none⟩ = some (.int .i64 t166) := (blk_cell BK169.out 1).trans rfl
        have hcz30_2 : wc.cell? ⟨gb169, 2, none⟩ = some (.int .i64 t167) := (blk_cell BK169.out 2).trans rfl
        have hfz30_0 := blk_frozen BK169.out 0
        have hfz30_1 := blk_frozen BK169.out 1
        have hfz30_2 := blk_frozen BK169.out 2
        go_upto_region 11 with (first | ((with_reducible refine gate_dst (N := 12) rfl ?_); refine box_event ?hg (N := 12) ?hd (cs := #[.int .i64 0, .int .i64 0, .int .i64 0]) (t := 24) ?hr ?_; (case hd => rfl); (case hg => rfl); (case hr => first | (go_simp; done) | (go_simp; rfl)); intro gb180 hg w31 hbox hb; have n0_ := Aside0.mk (blk_below (g := gb169) (o := .cells #[.int .i64 t165, .int .i64 t166, .int .i64 t167] 24 (0, 0)) (by (with_reducible repeat (first | refine blk_drewN ?_ _ | refine blk_drew ?_ | refine blk_alloc ?_ _)); exact BK169.out) hb); have n1_ := Aside0.mk (blk_below (g := gb174) (o := .cells #[.int .i64 t170, .int .i64 t171, .int .i64 t172] 24 (0, 0)) (by (with_reducible repeat (first | refine blk_drewN ?_ _ | refine blk_drew ?_ | refine blk_alloc ?_ _)); exact BK174.out) hb); have n2_ := Aside0.mk (below_step (by repeat (first | (with_reducible first | exact HB.out | apply below_alloc | apply pw_below_drewN | apply below_drew1 | refine below_set ?_ GE169.out | refine below_set ?_ GE174.out) | exact HB.out)) hb); have n3_ := Aside0.mk (hbox); have n4_ := Aside0.mk ((by rw [hg]; exact (below_size (by repeat (first | (with_reducible first | exact HB.out | apply below_alloc | apply pw_below_drewN | apply below_drew1 | refine below_set ?_ GE169.out | refine below_set ?_ GE174.out) | exact HB.out))) : w.heap.size ≤ gb180)); have n5_ := Aside0.mk ((by rw [hg]; exact (below_size (by repeat (first | (with_reducible first | exact HB.out | apply below_alloc | apply pw_below_drewN | apply below_drew1 | refine below_set ?_ GE169.out | refine below_set ?_ GE174.out) | exact HB.out))) : w.heap.size ≤ gb180)); have n6_ := Aside0.mk ((by rw [hg]; exact Nat.ne_of_lt (blk_lt (g := gb169) (o := .cells #[.int .i64 t165, .int .i64 t166, .int .i64 t167] 24 (0, 0)) (by (with_reducible repeat (first | refine blk_drewN ?_ _ | refine blk_drew ?_ | refine blk_alloc ?_ _)); exact BK169.out)) : gb169 ≠ gb180)); have n7_ := Aside0.mk ((by rw [hg]; exact Nat.ne_of_gt (blk_lt (g := gb169) (o := .cells #[.int .i64 t165, .int .i64 t166, .int .i64 t167] 24 (0, 0)) (by (with_reducible repeat (first | refine blk_drewN ?_ _ | refine blk_drew ?_ | refine blk_alloc ?_ _)); exact BK169.out)) : gb180 ≠ gb169)); have n8_ := Aside0.mk ((by rw [hg]; exact Nat.ne_of_lt (blk_lt (g := gb174) (o := .cells #[.int .i64 t170, .int .i64 t171, .int .i64 t172] 24 (0, 0)) (by (with_reducible repeat (first | refine blk_drewN ?_ _ | refine blk_drew ?_ | refine blk_alloc ?_ _)); exact BK174.out)) : gb174 ≠ gb180)); have n9_ := Aside0.mk ((by rw [hg]; exact Nat.ne_of_gt (blk_lt (g := gb174) (o := .cells #[.int .i64 t170, .int .i64 t171, .int .i64 t172] 24 (0, 0)) (by (with_reducible repeat (first | refine blk_drewN ?_ _ | refine blk_drew ?_ | refine blk_alloc ?_ _)); exact BK174.out)) : gb180 ≠ gb174)); clear BK169; clear BK174; clear HB; have BK169 := n0_; have BK174 := n1_; have HB := n2_; have BK180 := n3_; have GW180 := n4_; have GE180 := n5_; have NB169_180 := n6_; have NB180_169 := n7_; have NB174_180 := n8_; have NB180_174 := n9_; clear n0_ n1_ n2_ n3_ n4_ n5_ n6_ n7_ n8_ n9_; clear hb hbox hg; have hnb32 := NB180_169.out; have hnc32 := NB169_180.out; have hnb33 := NB180_174.out; have hnc33 := NB174_180.out; have hcz34_0 : w31.cell? ⟨gb180, 0, none⟩ = some (.int .i64 0) := (blk_cell BK180.out 0).trans rfl; have hcz34_1 : w31.cell? ⟨gb180, 1, none⟩ = some (.int .i64 0) := (blk_cell BK180.out 1).trans rfl; have hcz34_2 : w31.cell? ⟨gb180, 2, none⟩ = some (.int .i64 0) := (blk_cell BK180.out 2).trans rfl; have hfz34_0 := blk_frozen BK180.out 0; have hfz34_1 := blk_frozen BK180.out 1; have hfz34_2 := blk_frozen BK180.out 2; have hcz35_0 : w31.cell? ⟨gb169, 0, none⟩ = some (.int .i64 t165) := (blk_cell BK169.out 0).trans rfl; have hcz35_1 : w31.cell? ⟨gb169, 1, none⟩ = some (.int .i64 t166) := (blk_cell BK169.out 1).trans rfl; have hcz35_2 : w31.cell? ⟨gb169, 2, none⟩ = some (.int .i64 t167) := (blk_cell BK169.out 2).trans rfl; have hfz35_0 := blk_frozen BK169.out 0; have hfz35_1 := blk_frozen BK169.out 1; have hfz35_2 := blk_frozen BK169.out 2) | ((with_reducible refine gate_callee (f := 15) rfl ?_); refine goesL_ (some 78) rfl rfl Try.func15 (by kernel_rfl) rfl #[.int .i64 t165, .int .i64 t166] rfl (by (try simp only [List.map_toArray, List.map_cons, List.map_nil]); first | done | rfl | (simp only [List.length_drop, List.length_take]; rfl)) ?_; (with_reducible refine (civil_Days.calls kj5 t165 t166 t181 _ A27.out).mono ?_); rintro e w' ⟨rfl, ⟨nd, rfl⟩⟩; refine ⟨_, rfl, ?_⟩))
        (try simp only [Act.put, List.setIfInBounds_toArray, List.set_cons_zero, List.set_cons_succ])
        go_cut [86] (fun v86 wc => ∃ (kq : Nat) (x86_27 : Bool), v86 = .bool x86_27 ∧ Aside0 (numerarylaw24_CivilNext.j1 kq (wrap64 (1 + (wrap64 (Int.tmod a0 2958464)))) t175 t181 x86_27 t165 t166 t167 t170 t171 t172 t165 t166 (wrap64 (t167 + 1)) = some r) ∧ Aside0 (kq ≤ kj5) ∧ Aside0 (wc.heap[gb169]? = some (.cells #[.int .i64 t165, .int .i64 t166, .int .i64 t167] 24 (0, 0))) ∧ Aside0 (wc.heap[gb174]? = some (.cells #[.int .i64 t170, .int .i64 t171, .int .i64 t172] 24 (0, 0))) ∧ Aside0 (wc.heap[gb180]? = some (.cells #[.int .i64 t165, .int .i64 t166, .int .i64 (wrap64 (t167 + 1))] 24 (0, 0))) ∧ Aside0 (Below w.heap.size w wc))
        case first =>
          have H := HC28.out
          clear HC28
          by_cases c36 : t165 = 1900
          · rw [if_pos c36] at H
            have c36b0 : (t165 == 1900) = true := beq_iff_eq.mpr c36
            have c36b1 : (t165 != 1900) = false := bne_eq_false_iff_eq.mpr c36
            clear c36
            (first | rw [c36b0] | (simp only [i64_w, i32_w]; rw [c36b0]) | skip)
            have H' := Aside0.mk H
            clear H
            have hnb37 := NB169_174.out
            have hnc37 := NB174_169.out
            have hnb38 := NB169_180.out
            have hnc38 := NB180_169.out
            have hcz39_0 : w31.cell? ⟨gb169, 0, none⟩ = some (.int .i64 t165) := (blk_cell BK169.out 0).trans rfl
            have hcz39_1 : w31.cell? ⟨gb169, 1, none⟩ = some (.int .i64 t166) := (blk_cell BK169.out 1).trans rfl
            have hcz39_2 : w31.cell? ⟨gb169, 2, none⟩ = some (.int .i64 t167) := (blk_cell BK169.out 2).trans rfl
            have hfz39_0 := blk_frozen BK169.out 0
            have hfz39_1 := blk_frozen BK169.out 1
            have hfz39_2 := blk_frozen BK169.out 2
            go_wp2
            go_meet
            case rel => exact ⟨_, ((t166 == 2)), (by first | rfl | (simp; done) | (simp [*]; done)), H', ⟨by have := HJ5.out; first | omega | exact Nat.le_refl _⟩, ⟨by (with_reducible repeat (first | refine blk_drewN ?_ _ | refine blk_drew ?_ | refine blk_alloc ?_ _)); refine blk_far ?_ NB169_180.out _; (with_reducible repeat (first | refine blk_drewN ?_ _ | refine blk_drew ?_ | refine blk_alloc ?_ _)); refine blk_far ?_ NB169_180.out _; (with_reducible repeat (first | refine blk_drewN ?_ _ | refine blk_drew ?_ | refine blk_alloc ?_ _)); refine blk_far ?_ NB169_180.out _; (with_reducible repeat (first | refine blk_drewN ?_ _ | refine blk_drew ?_ | refine blk_alloc ?_ _)); refine blk_far ?_ NB169_180.out _; (with_reducible repeat (first | refine blk_drewN ?_ _ | refine blk_drew ?_ | refine blk_alloc ?_ _)); exact BK169.out⟩, ⟨by (with_reducible repeat (first | refine blk_drewN ?_ _ | refine blk_drew ?_ | refine blk_alloc ?_ _)); refine blk_far ?_ NB174_180.out _; (with_reducible repeat (first | refine blk_drewN ?_ _ | refine blk_drew ?_ | refine blk_alloc ?_ _)); refine blk_far ?_ NB174_180.out _; (with_reducible repeat (first | refine blk_drewN ?_ _ | refine blk_drew ?_ | refine blk_alloc ?_ _)); refine blk_far ?_ NB174_180.out _; (with_reducible repeat (first | refine blk_drewN ?_ _ | refine blk_drew ?_ | refine blk_alloc ?_ _)); refine blk_far ?_ NB174_180.out _; (with_reducible repeat (first | refine blk_drewN ?_ _ | refine blk_drew ?_ | refine blk_alloc ?_ _)); exact BK174.out⟩, ⟨by (with_reducible repeat (first | refine blk_drewN ?_ _ | refine blk_drew ?_ | refine blk_alloc ?_ _)); refine blk_put (cs := #[.int .i64 t165, .int .i64 t166, .int .i64 t167]) ?_ 2 _ rfl; (with_reducible repeat (first | refine blk_drewN ?_ _ | refine blk_drew ?_ | refine blk_alloc ?_ _)); refine blk_put (cs := #[.int .i64 t165, .int .i64 t166, .int .i64 0]) ?_ 2 _ rfl; (with_reducible repeat (first | refine blk_drewN ?_ _ | refine blk_drew ?_ | refine blk_alloc ?_ _)); refine blk_put (cs := #[.int .i64 t165, .int .i64 0, .int .i64 0]) ?_ 1 _ rfl; (with_reducible repeat (first | refine blk_drewN ?_ _ | refine blk_drew ?_ | refine blk_alloc ?_ _)); refine blk_put (cs := #[.int .i64 0, .int .i64 0, .int .i64 0]) ?_ 0 _ rfl; (with_reducible repeat (first | refine blk_drewN ?_ _ | refine blk_drew ?_ | refine blk_alloc ?_ _)); exact BK180.out⟩, ⟨by repeat (first | (with_reducible first | exact HB.out | apply below_alloc | apply pw_below_drewN | apply below_drew1 | refine below_set ?_ GE169.out | refine below_set ?_ GE174.out | refine below_set ?_ GE180.out) | exact HB.out)⟩⟩
          · rw [if_neg c36] at H
            have c36b0 : (t165 == 1900) = false := beq_eq_false_iff_ne.mpr c36
            have c36b1 : (t165 != 1900) = true := bne_iff_ne.mpr c36
            (first | rw [c36b0] | (simp only [i64_w, i32_w]; rw [c36b0]) | skip)
            have H' := Aside0.mk H
            clear H
            have hnb40 := NB169_174.out
            have hnc40 := NB174_169.out
            have hnb41 := NB169_180.out
            have hnc41 := NB180_169.out
            have hcz42_0 : w31.cell? ⟨gb169, 0, none⟩ = some (.int .i64 t165) := (blk_cell BK169.out 0).trans rfl
            have hcz42_1 : w31.cell? ⟨gb169, 1, none⟩ = some (.int .i64 t166) := (blk_cell BK169.out 1).trans rfl
            have hcz42_2 : w31.cell? ⟨gb169, 2, none⟩ = some (.int .i64 t167) := (blk_cell BK169.out 2).trans rfl
            have hfz42_0 := blk_frozen BK169.out 0
            have hfz42_1 := blk_frozen BK169.out 1
            have hfz42_2 := blk_frozen BK169.out 2
            go_wp2
            go_meet
            case rel => exact ⟨_, (false), (by first | rfl | (simp; done) | (simp [*]; done)), H', ⟨by have := HJ5.out; first | omega | exact Nat.le_refl _⟩, ⟨by (with_reducible repeat (first | refine blk_drewN ?_ _ | refine blk_drew ?_ | refine blk_alloc ?_ _)); refine blk_far ?_ NB169_180.out _; (with_reducible repeat (first | refine blk_drewN ?_ _ | refine blk_drew ?_ | refine blk_alloc ?_ _)); refine blk_far ?_ NB169_180.out _; (with_reducible repeat (first | refine blk_drewN ?_ _ | refine blk_drew ?_ | refine blk_alloc ?_ _)); refine blk_far ?_ NB169_180.out _; (with_reducible repeat (first | refine blk_drewN ?_ _ | refine blk_drew ?_ | refine blk_alloc ?_ _)); refine blk_far ?_ NB169_180.out _; (with_reducible repeat (first | refine blk_drewN ?_ _ | refine blk_drew ?_ | refine blk_alloc ?_ _)); exact BK169.out⟩, ⟨by (with_reducible repeat (first | refine blk_drewN ?_ _ | refine blk_drew ?_ | refine blk_alloc ?_ _)); refine blk_far ?_ NB174_180.out _; (with_reducible repeat (first | refine blk_drewN ?_ _ | refine blk_drew ?_ | refine blk_alloc ?_ _)); refine blk_far ?_ NB174_180.out _; (with_reducible repeat (first | refine blk_drewN ?_ _ | refine blk_drew ?_ | refine blk_alloc ?_ _)); refine blk_far ?_ NB174_180.out _; (with_reducible repeat (first | refine blk_drewN ?_ _ | refine blk_drew ?_ | refine blk_alloc ?_ _)); refine blk_far ?_ NB174_180.out _; (with_reducible repeat (first | refine blk_drewN ?_ _ | refine blk_drew ?_ | refine blk_alloc ?_ _)); exact BK174.out⟩, ⟨by (with_reducible repeat (first | refine blk_drewN ?_ _ | refine blk_drew ?_ | refine blk_alloc ?_ _)); refine blk_put (cs := #[.int .i64 t165, .int .i64 t166, .int .i64 t167]) ?_ 2 _ rfl; (with_reducible repeat (first | refine blk_drewN ?_ _ | refine blk_drew ?_ | refine blk_alloc ?_ _)); refine blk_put (cs := #[.int .i64 t165, .int .i64 t166, .int .i64 0]) ?_ 2 _ rfl; (with_reducible repeat (first | refine blk_drewN ?_ _ | refine blk_drew ?_ | refine blk_alloc ?_ _)); refine blk_put (cs := #[.int .i64 t165, .int .i64 0, .int .i64 0]) ?_ 1 _ rfl; (with_reducible repeat (first | refine blk_drewN ?_ _ | refine blk_drew ?_ | refine blk_alloc ?_ _)); refine blk_put (cs := #[.int .i64 0, .int .i64 0, .int .i64 0]) ?_ 0 _ rfl; (with_reducible repeat (first | refine blk_drewN ?_ _ | refine blk_drew ?_ | refine blk_alloc ?_ _)); exact BK180.out⟩, ⟨by repeat (first | (with_reducible first | exact HB.out | apply below_alloc | apply pw_below_drewN | apply below_drew1 | refine below_set ?_ GE169.out | refine below_set ?_ GE174.out | refine below_set ?_ GE180.out) | exact HB.out)⟩⟩
        case rest =>
          clear HC28
          try clear c1
          try clear c2
          try clear p2
          try clear c3
          try clear c4
          try clear c6
          try clear p6
          try clear c8
          try clear c10
          try clear c12
          try clear c13
          try clear c15
          try clear c16
          try clear c17
          try clear c18
          try clear c18b0
          try clear c18b1
          try clear c19
          try clear c19b0
          try clear c26
          try clear c29
          try clear c32
          try clear c33
          try clear c36
          try clear c36b0
          try clear c36b1
          try clear c37
          try clear c38
          try clear c40
          try clear c41
          try clear hcz13_0
          try clear hcz13_1
          try clear hcz13_2
          try clear hcz30_0
          try clear hcz30_1
          try clear hcz30_2
          try clear hcz34_0
          try clear hcz34_1
          try clear hcz34_2
          try clear hcz35_0
          try clear hcz35_1
          try clear hcz35_2
          try clear hcz39_0
          try clear hcz39_1
          try clear hcz39_2
          try clear hcz42_0
          try clear hcz42_1
          try clear hcz42_2
          try clear hcz9_0
          try clear hcz9_1
          try clear hcz9_2
          try clear hfz13_0
          try clear hfz13_1
          try clear hfz13_2
          try clear hfz30_0
          try clear hfz30_1
          try clear hfz30_2
          try clear hfz34_0
          try clear hfz34_1
          try clear hfz34_2
          try clear hfz35_0
          try clear hfz35_1
          try clear hfz35_2
          try clear hfz39_0
          try clear hfz39_1
          try clear hfz39_2
          try clear hfz42_0
          try clear hfz42_1
          try clear hfz42_2
          try clear hfz9_0
          try clear hfz9_1
          try clear hfz9_2
          try clear p2
          try clear p6
          obtain ⟨kq, x86_27, rfl, HA, HJ27, BK169, BK174, BK180, HB⟩ := hcut
          cases kq with
          | zero => exact absurd HA.out (by simp [numerarylaw24_CivilNext.j1])
          | succ kj27 =>
            have H := HA.out
            clear HA
            simp only [numerarylaw24_CivilNext.j1] at H
            have HC43 := Aside0.mk H
            clear H
            go_upto_if 86 with (fail)
            go_cut [13] (fun v13 wc => ∃ (kq : Nat) (x13_42 : Int), v13 = .int .i64 x13_42 ∧ Aside0 (numerarylaw24_CivilNext.j2 kq (wrap64 (1 + (wrap64 (Int.tmod a0 2958464)))) t175 x13_42 t165 t166 t167 t170 t171 t172 t165 t166 (wrap64 (t167 + 1)) = some r) ∧ Aside0 (kq ≤ kj27) ∧ Aside0 (wc.heap[gb169]? = some (.cells #[.int .i64 t165, .int .i64 t166, .int .i64 t167] 24 (0, 0))) ∧ Aside0 (wc.heap[gb174]? = some (.cells #[.int .i64 t170, .int .i64 t171, .int .i64 t172] 24 (0, 0))) ∧ Aside0 (wc.heap[gb180]? = some (.cells #[.int .i64 t165, .int .i64 t166, .int .i64 (wrap64 (t167 + 1))] 24 (0, 0))) ∧ Aside0 (Below w.heap.size w wc))
            case first =>
              have H := HC43.out
              clear HC43
              by_cases c44 : x86_27 = true
              · subst c44
                have H1 : (numerarylaw24_CivilNext.j2 kj27 (wrap64 (1 + (wrap64 (Int.tmod a0 2958464)))) t175 29 t165 t166 t167 t170 t171 t172 t165 t166 (wrap64 (t167 + 1))) = some r := by rw [if_pos rfl] at H; exact H
                clear H
                have H := H1
                clear H1
                have H' := Aside0.mk H
                clear H
                go_wp2
                go_meet
                case rel => exact ⟨_, (29), (by first | rfl | (simp; done) | (simp [*]; done)), H', ⟨by have := HJ5.out; have := HJ27.out; first | omega | exact Nat.le_refl _⟩, ⟨by (with_reducible repeat (first | refine blk_drewN ?_ _ | refine blk_drew ?_ | refine blk_alloc ?_ _)); exact BK169.out⟩, ⟨by (with_reducible repeat (first | refine blk_drewN ?_ _ | refine blk_drew ?_ | refine blk_alloc ?_ _)); exact BK174.out⟩, ⟨by (with_reducible repeat (first | refine blk_drewN ?_ _ | refine blk_drew ?_ | refine blk_alloc ?_ _)); exact BK180.out⟩, ⟨by repeat (first | (with_reducible first | exact HB.out | apply below_alloc | apply pw_below_drewN | apply below_drew1 | refine below_set ?_ GE169.out | refine below_set ?_ GE174.out | refine below_set ?_ GE180.out) | exact HB.out)⟩⟩
              · replace c44 := Bool.eq_false_iff.mpr c44
                subst c44
                have H1 : (numerarylaw24_CivilNext.j2 kj27 (wrap64 (1 + (wrap64 (Int.tmod a0 2958464)))) t175 t181 t165 t166 t167 t170 t171 t172 t165 t166 (wrap64 (t167 + 1))) = some r := by rw [if_neg (show ¬ (false = true) by decide)] at H; exact H
                clear H
                have H := H1
                clear H1
                have H' := Aside0.mk H
                clear H
                go_wp2
                go_meet
                case rel => exact ⟨_, (t181), (by first | rfl | (simp; done) | (simp [*]; done)), H', ⟨by have := HJ5.out; have := HJ27.out; first | omega | exact Nat.le_refl _⟩, ⟨by (with_reducible repeat (first | refine blk_drewN ?_ _ | refine blk_drew ?_ | refine blk_alloc ?_ _)); exact BK169.out⟩, ⟨by (with_reducible repeat (first | refine blk_drewN ?_ _ | refine blk_drew ?_ | refine blk_alloc ?_ _)); exact BK174.out⟩, ⟨by (with_reducible repeat (first | refine blk_drewN ?_ _ | refine blk_drew ?_ | refine blk_alloc ?_ _)); exact BK180.out⟩, ⟨by repeat (first | (with_reducible first | exact HB.out | apply below_alloc | apply pw_below_drewN | apply below_drew1 | refine below_set ?_ GE169.out | refine below_set ?_ GE174.out | refine below_set ?_ GE180.out) | exact HB.out)⟩⟩
            case rest =>
              clear HC43
              try clear c1
              try clear c2
              try clear p2
              try clear c3
              try clear c4
              try clear c6
              try clear p6
              try clear c8
              try clear c10
              try clear c12
              try clear c13
              try clear c15
              try clear c16
              try clear c17
              try clear c18
              try clear c18b0
              try clear c18b1
              try clear c19
              try clear c19b0
              try clear c26
              try clear c29
              try clear c32
              try clear c33
              try clear c36
              try clear c36b0
              try clear c36b1
              try clear c37
              try clear c38
              try clear c40
              try clear c41
              try clear c44
              try clear hcz13_0
              try clear hcz13_1
              try clear hcz13_2
              try clear hcz30_0
              try clear hcz30_1
              try clear hcz30_2
              try clear hcz34_0
              try clear hcz34_1
              try clear hcz34_2
              try clear hcz35_0
              try clear hcz35_1
              try clear hcz35_2
              try clear hcz39_0
              try clear hcz39_1
              try clear hcz39_2
              try clear hcz42_0
              try clear hcz42_1
              try clear hcz42_2
              try clear hcz9_0
              try clear hcz9_1
              try clear hcz9_2
              try clear hfz13_0
              try clear hfz13_1
              try clear hfz13_2
              try clear hfz30_0
              try clear hfz30_1
              try clear hfz30_2
              try clear hfz34_0
              try clear hfz34_1
              try clear hfz34_2
              try clear hfz35_0
              try clear hfz35_1
              try clear hfz35_2
              try clear hfz39_0
              try clear hfz39_1
              try clear hfz39_2
              try clear hfz42_0
              try clear hfz42_1
              try clear hfz42_2
              try clear hfz9_0
              try clear hfz9_1
              try clear hfz9_2
              try clear p2
              try clear p6
              obtain ⟨kq, x13_42, rfl, HA, HJ42, BK169, BK174, BK180, HB⟩ := hcut
              cases kq with
              | zero => exact absurd HA.out (by simp [numerarylaw24_CivilNext.j2])
              | succ kj42 =>
                have H := HA.out
                clear HA
                simp only [numerarylaw24_CivilNext.j2] at H
                have HC45 := Aside0.mk H
                clear H
                have hnb46 := NB180_169.out
                have hnc46 := NB169_180.out
                have hnb47 := NB180_174.out
                have hnc47 := NB174_180.out
                have hcz48_0 : wc.cell? ⟨gb180, 0, none⟩ = some (.int .i64 t165) := (blk_cell BK180.out 0).trans rfl
                have hcz48_1 : wc.cell? ⟨gb180, 1, none⟩ = some (.int .i64 t166) := (blk_cell BK180.out 1).trans rfl
                have hcz48_2 : wc.cell? ⟨gb180, 2, none⟩ = some (.int .i64 (wrap64 (t167 + 1))) := (blk_cell BK180.out 2).trans rfl
                have hfz48_0 := blk_frozen BK180.out 0
                have hfz48_1 := blk_frozen BK180.out 1
                have hfz48_2 := blk_frozen BK180.out 2
                go_upto_if 90 with (fail)
                go_cut [] (fun wc => ∃ (kq : Nat) (x181001_44 : Int) (x181002_44 : Int), Aside0 (numerarylaw24_CivilNext.j3 kq (wrap64 (1 + (wrap64 (Int.tmod a0 2958464)))) t175 t165 t166 t167 t170 t171 t172 t165 x181001_44 x181002_44 = some r) ∧ Aside0 (kq ≤ kj42) ∧ Aside0 (wc.heap[gb169]? = some (.cells #[.int .i64 t165, .int .i64 t166, .int .i64 t167] 24 (0, 0))) ∧ Aside0 (wc.heap[gb174]? = some (.cells #[.int .i64 t170, .int .i64 t171, .int .i64 t172] 24 (0, 0))) ∧ Aside0 (wc.heap[gb180]? = some (.cells #[.int .i64 t165, .int .i64 x181001_44, .int .i64 x181002_44] 24 (0, 0))) ∧ Aside0 (Below w.heap.size w wc))
                case first =>
                  have H := HC45.out
                  clear HC45
                  by_cases c49 : (wrap64 (t167 + 1)) > x13_42
                  · rw [if_pos c49] at H
                    have c49b0 : decide (x13_42 < (wrap64 (t167 + 1))) = true := decide_eq_true c49
                    clear c49
                    (first | rw [c49b0] | (simp only [i64_w, i32_w]; rw [c49b0]) | skip)
                    have H' := Aside0.mk H
                    clear H
                    have hnb50 := NB169_174.out
                    have hnc50 := NB174_169.out
                    have hnb51 := NB169_180.out
                    have hnc51 := NB180_169.out
                    have hcz52_0 : wc.cell? ⟨gb169, 0, none⟩ = some (.int .i64 t165) := (blk_cell BK169.out 0).trans rfl
                    have hcz52_1 : wc.cell? ⟨gb169, 1, none⟩ = some (.int .i64 t166) := (blk_cell BK169.out 1).trans rfl
                    have hcz52_2 : wc.cell? ⟨gb169, 2, none⟩ = some (.int .i64 t167) := (blk_cell BK169.out 2).trans rfl
                    have hfz52_0 := blk_frozen BK169.out 0
                    have hfz52_1 := blk_frozen BK169.out 1
                    have hfz52_2 := blk_frozen BK169.out 2
                    have hnb53 := NB180_174.out
                    have hnc53 := NB174_180.out
                    have hcz54_0 : wc.cell? ⟨gb180, 0, none⟩ = some (.int .i64 t165) := (blk_cell BK180.out 0).trans rfl
                    have hcz54_1 : wc.cell? ⟨gb180, 1, none⟩ = some (.int .i64 t166) := (blk_cell BK180.out 1).trans rfl
                    have hcz54_2 : wc.cell? ⟨gb180, 2, none⟩ = some (.int .i64 (wrap64 (t167 + 1))) := (blk_cell BK180.out 2).trans rfl
                    have hfz54_0 := blk_frozen BK180.out 0
                    have hfz54_1 := blk_frozen BK180.out 1
                    have hfz54_2 := blk_frozen BK180.out 2
                    go_wp2
                    go_meet
                    case rel => exact ⟨_, (wrap64 (t166 + 1)), (1), H', ⟨by have := HJ5.out; have := HJ27.out; have := HJ42.out; first | omega | exact Nat.le_refl _⟩, ⟨by (with_reducible repeat (first | refine blk_drewN ?_ _ | refine blk_drew ?_ | refine blk_alloc ?_ _)); refine blk_far ?_ NB169_180.out _; (with_reducible repeat (first | refine blk_drewN ?_ _ | refine blk_drew ?_ | refine blk_alloc ?_ _)); refine blk_far ?_ NB169_180.out _; (with_reducible repeat (first | refine blk_drewN ?_ _ | refine blk_drew ?_ | refine blk_alloc ?_ _)); exact BK169.out⟩, ⟨by (with_reducible repeat (first | refine blk_drewN ?_ _ | refine blk_drew ?_ | refine blk_alloc ?_ _)); refine blk_far ?_ NB174_180.out _; (with_reducible repeat (first | refine blk_drewN ?_ _ | refine blk_drew ?_ | refine blk_alloc ?_ _)); refine blk_far ?_ NB174_180.out _; (with_reducible repeat (first | refine blk_drewN ?_ _ | refine blk_drew ?_ | refine blk_alloc ?_ _)); exact BK174.out⟩, ⟨by (with_reducible repeat (first | refine blk_drewN ?_ _ | refine blk_drew ?_ | refine blk_alloc ?_ _)); refine blk_put (cs := #[.int .i64 t165, .int .i64 (wrap64 (t166 + 1)), .int .i64 (wrap64 (t167 + 1))]) ?_ 2 _ rfl; (with_reducible repeat (first | refine blk_drewN ?_ _ | refine blk_drew ?_ | refine blk_alloc ?_ _)); refine blk_put (cs := #[.int .i64 t165, .int .i64 t166, .int .i64 (wrap64 (t167 + 1))]) ?_ 1 _ rfl; (with_reducible repeat (first | refine blk_drewN ?_ _ | refine blk_drew ?_ | refine blk_alloc ?_ _)); exact BK180.out⟩, ⟨by repeat (first | (with_reducible first | exact HB.out | apply below_alloc | apply pw_below_drewN | apply below_drew1 | refine below_set ?_ GE169.out | refine below_set ?_ GE174.out | refine below_set ?_ GE180.out) | exact HB.out)⟩⟩
                  · rw [if_neg c49] at H
                    have c49b0 : decide (x13_42 < (wrap64 (t167 + 1))) = false := decide_eq_false c49
                    clear c49
                    (first | rw [c49b0] | (simp only [i64_w, i32_w]; rw [c49b0]) | skip)
                    have H' := Aside0.mk H
                    clear H
                    go_wp2
                    go_meet
                    case rel => exact ⟨_, (t166), ((wrap64 (t167 + 1))), H', ⟨by have := HJ5.out; have := HJ27.out; have := HJ42.out; first | omega | exact Nat.le_refl _⟩, ⟨by (with_reducible repeat (first | refine blk_drewN ?_ _ | refine blk_drew ?_ | refine blk_alloc ?_ _)); exact BK169.out⟩, ⟨by (with_reducible repeat (first | refine blk_drewN ?_ _ | refine blk_drew ?_ | refine blk_alloc ?_ _)); exact BK174.out⟩, ⟨by (with_reducible repeat (first | refine blk_drewN ?_ _ | refine blk_drew ?_ | refine blk_alloc ?_ _)); exact BK180.out⟩, ⟨by repeat (first | (with_reducible first | exact HB.out | apply below_alloc | apply pw_below_drewN | apply below_drew1 | refine below_set ?_ GE169.out | refine below_set ?_ GE174.out | refine below_set ?_ GE180.out) | exact HB.out)⟩⟩
                case rest =>
                  clear HC45
                  try clear c1
                  try clear c2
                  try clear p2
                  try clear c3
                  try clear c4
                  try clear c5
                  try clear c6
                  try clear p6
                  try clear c8
                  try clear c10
                  try clear c12
                  try clear c13
                  try clear c15
                  try clear c16
                  try clear c17
                  try clear c18
                  try clear c18b0
                  try clear c18b1
                  try clear c19
                  try clear c19b0
                  try clear c26
                  try clear c29
                  try clear c32
                  try clear c33
                  try clear c36
                  try clear c36b0
                  try clear c36b1
                  try clear c37
                  try clear c38
                  try clear c40
                  try clear c41
                  try clear c44
                  try clear c46
                  try clear c47
                  try clear c49
                  try clear c49b0
                  try clear c50
                  try clear c51
                  try clear c53
                  try clear hcz13_0
                  try clear hcz13_1
                  try clear hcz13_2
                  try clear hcz30_0
                  try clear hcz30_1
                  try clear hcz30_2
                  try clear hcz34_0
                  try clear hcz34_1
                  try clear hcz34_2
                  try clear hcz35_0
                  try clear hcz35_1
                  try clear hcz35_2
                  try clear hcz39_0
                  try clear hcz39_1
                  try clear hcz39_2
                  try clear hcz42_0
                  try clear hcz42_1
                  try clear hcz42_2
                  try clear hcz48_0
                  try clear hcz48_1
                  try clear hcz48_2
                  try clear hcz52_0
                  try clear hcz52_1
                  try clear hcz52_2
                  try clear hcz54_0
                  try clear hcz54_1
                  try clear hcz54_2
                  try clear hcz9_0
                  try clear hcz9_1
                  try clear hcz9_2
                  try clear hfz13_0
                  try clear hfz13_1
                  try clear hfz13_2
                  try clear hfz30_0
                  try clear hfz30_1
                  try clear hfz30_2
                  try clear hfz34_0
                  try clear hfz34_1
                  try clear hfz34_2
                  try clear hfz35_0
                  try clear hfz35_1
                  try clear hfz35_2
                  try clear hfz39_0
                  try clear hfz39_1
                  try clear hfz39_2
                  try clear hfz42_0
                  try clear hfz42_1
                  try clear hfz42_2
                  try clear hfz48_0
                  try clear hfz48_1
                  try clear hfz48_2
                  try clear hfz52_0
                  try clear hfz52_1
                  try clear hfz52_2
                  try clear hfz54_0
                  try clear hfz54_1
                  try clear hfz54_2
                  try clear hfz9_0
                  try clear hfz9_1
                  try clear hfz9_2
                  try clear p2
                  try clear p6
                  obtain ⟨kq, x181001_44, x181002_44, HA, HJ44, BK169, BK174, BK180, HB⟩ := hcut
                  cases kq with
                  | zero => exact absurd HA.out (by simp [numerarylaw24_CivilNext.j3])
                  | succ kj44 =>
                    have H := HA.out
                    clear HA
                    simp only [numerarylaw24_CivilNext.j3] at H
                    have HC55 := Aside0.mk H
                    clear H
                    have hnb56 := NB180_169.out
                    have hnc56 := NB169_180.out
                    have hnb57 := NB180_174.out
                    have hnc57 := NB174_180.out
                    have hcz58_0 : wc.cell? ⟨gb180, 0, none⟩ = some (.int .i64 t165) := (blk_cell BK180.out 0).trans rfl
                    have hcz58_1 : wc.cell? ⟨gb180, 1, none⟩ = some (.int .i64 x181001_44) := (blk_cell BK180.out 1).trans rfl
                    have hcz58_2 : wc.cell? ⟨gb180, 2, none⟩ = some (.int .i64 x181002_44) := (blk_cell BK180.out 2).trans rfl
                    have hfz58_0 := blk_frozen BK180.out 0
                    have hfz58_1 := blk_frozen BK180.out 1
                    have hfz58_2 := blk_frozen BK180.out 2
                    go_upto_if 98 with (fail)
                    go_cut [] (fun wc => ∃ (kq : Nat) (x181000_54 : Int) (x181001_54 : Int), Aside0 (numerarylaw24_CivilNext.j4 kq (wrap64 (1 + (wrap64 (Int.tmod a0 2958464)))) t175 t165 t166 t167 t170 t171 t172 x181000_54 x181001_54 x181002_44 = some r) ∧ Aside0 (kq ≤ kj44) ∧ Aside0 (wc.heap[gb169]? = some (.cells #[.int .i64 t165, .int .i64 t166, .int .i64 t167] 24 (0, 0))) ∧ Aside0 (wc.heap[gb174]? = some (.cells #[.int .i64 t170, .int .i64 t171, .int .i64 t172] 24 (0, 0))) ∧ Aside0 (wc.heap[gb180]? = some (.cells #[.int .i64 x181000_54, .int .i64 x181001_54, .int .i64 x181002_44] 24 (0, 0))) ∧ Aside0 (Below w.heap.size w wc))
                    case first =>
                      have H := HC55.out
                      clear HC55
                      by_cases c59 : x181001_44 = 13
                      · rw [if_pos c59] at H
                        have c59b0 : (x181001_44 == 13) = true := beq_iff_eq.mpr c59
                        have c59b1 : (x181001_44 != 13) = false := bne_eq_false_iff_eq.mpr c59
                        clear c59
                        (first | rw [c59b0] | (simp only [i64_w, i32_w]; rw [c59b0]) | skip)
                        have H' := Aside0.mk H
                        clear H
                        have hnb60 := NB169_174.out
                        have hnc60 := NB174_169.out
                        have hnb61 := NB169_180.out
                        have hnc61 := NB180_169.out
                        have hcz62_0 : wc.cell? ⟨gb169, 0, none⟩ = some (.int .i64 t165) := (blk_cell BK169.out 0).trans rfl
                        have hcz62_1 : wc.cell? ⟨gb169, 1, none⟩ = some (.int .i64 t166) := (blk_cell BK169.out 1).trans rfl
                        have hcz62_2 : wc.cell? ⟨gb169, 2, none⟩ = some (.int .i64 t167) := (blk_cell BK169.out 2).trans rfl
                        have hfz62_0 := blk_frozen BK169.out 0
                        have hfz62_1 := blk_frozen BK169.out 1
                        have hfz62_2 := blk_frozen BK169.out 2
                        have hnb63 := NB180_174.out
                        have hnc63 := NB174_180.out
                        have hcz64_0 : wc.cell? ⟨gb180, 0, none⟩ = some (.int .i64 t165) := (blk_cell BK180.out 0).trans rfl
                        have hcz64_1 : wc.cell? ⟨gb180, 1, none⟩ = some (.int .i64 x181001_44) := (blk_cell BK180.out 1).trans rfl
                        have hcz64_2 : wc.cell? ⟨gb180, 2, none⟩ = some (.int .i64 x181002_44) := (blk_cell BK180.out 2).trans rfl
                        have hfz64_0 := blk_frozen BK180.out 0
                        have hfz64_1 := blk_frozen BK180.out 1
                        have hfz64_2 := blk_frozen BK180.out 2
                        go_wp2
                        go_meet
                        case rel => exact ⟨_, (wrap64 (t165 + 1)), (1), H', ⟨by have := HJ5.out; have := HJ27.out; have := HJ42.out; have := HJ44.out; first | omega | exact Nat.le_refl _⟩, ⟨by (with_reducible repeat (first | refine blk_drewN ?_ _ | refine blk_drew ?_ | refine blk_alloc ?_ _)); refine blk_far ?_ NB169_180.out _; (with_reducible repeat (first | refine blk_drewN ?_ _ | refine blk_drew ?_ | refine blk_alloc ?_ _)); refine blk_far ?_ NB169_180.out _; (with_reducible repeat (first | refine blk_drewN ?_ _ | refine blk_drew ?_ | refine blk_alloc ?_ _)); exact BK169.out⟩, ⟨by (with_reducible repeat (first | refine blk_drewN ?_ _ | refine blk_drew ?_ | refine blk_alloc ?_ _)); refine blk_far ?_ NB174_180.out _; (with_reducible repeat (first | refine blk_drewN ?_ _ | refine blk_drew ?_ | refine blk_alloc ?_ _)); refine blk_far ?_ NB174_180.out _; (with_reducible repeat (first | refine blk_drewN ?_ _ | refine blk_drew ?_ | refine blk_alloc ?_ _)); exact BK174.out⟩, ⟨by (with_reducible repeat (first | refine blk_drewN ?_ _ | refine blk_drew ?_ | refine blk_alloc ?_ _)); refine blk_put (cs := #[.int .i64 (wrap64 (t165 + 1)), .int .i64 x181001_44, .int .i64 x181002_44]) ?_ 1 _ rfl; (with_reducible repeat (first | refine blk_drewN ?_ _ | refine blk_drew ?_ | refine blk_alloc ?_ _)); refine blk_put (cs := #[.int .i64 t165, .int .i64 x181001_44, .int .i64 x181002_44]) ?_ 0 _ rfl; (with_reducible repeat (first | refine blk_drewN ?_ _ | refine blk_drew ?_ | refine blk_alloc ?_ _)); exact BK180.out⟩, ⟨by repeat (first | (with_reducible first | exact HB.out | apply below_alloc | apply pw_below_drewN | apply below_drew1 | refine below_set ?_ GE169.out | refine below_set ?_ GE174.out | refine below_set ?_ GE180.out) | exact HB.out)⟩⟩
                      · rw [if_neg c59] at H
                        have c59b0 : (x181001_44 == 13) = false := beq_eq_false_iff_ne.mpr c59
                        have c59b1 : (x181001_44 != 13) = true := bne_iff_ne.mpr c59
                        (first | rw [c59b0] | (simp only [i64_w, i32_w]; rw [c59b0]) | skip)
                        have H' := Aside0.mk H
                        clear H
                        go_wp2
                        go_meet
                        case rel => exact ⟨_, (t165), (x181001_44), H', ⟨by have := HJ5.out; have := HJ27.out; have := HJ42.out; have := HJ44.out; first | omega | exact Nat.le_refl _⟩, ⟨by (with_reducible repeat (first | refine blk_drewN ?_ _ | refine blk_drew ?_ | refine blk_alloc ?_ _)); exact BK169.out⟩, ⟨by (with_reducible repeat (first | refine blk_drewN ?_ _ | refine blk_drew ?_ | refine blk_alloc ?_ _)); exact BK174.out⟩, ⟨by (with_reducible repeat (first | refine blk_drewN ?_ _ | refine blk_drew ?_ | refine blk_alloc ?_ _)); exact BK180.out⟩, ⟨by repeat (first | (with_reducible first | exact HB.out | apply below_alloc | apply pw_below_drewN | apply below_drew1 | refine below_set ?_ GE169.out | refine below_set ?_ GE174.out | refine below_set ?_ GE180.out) | exact HB.out)⟩⟩
                    case rest =>
                      clear HC55
                      try clear c1
                      try clear c2
                      try clear p2
                      try clear c3
                      try clear c4
                      try clear c5
                      try clear c6
                      try clear p6
                      try clear c8
                      try clear c10
                      try clear c12
                      try clear c13
                      try clear c15
                      try clear c16
                      try clear c17
                      try clear c18
                      try clear c18b0
                      try clear c18b1
                      try clear c19
                      try clear c19b0
                      try clear c26
                      try clear c29
                      try clear c32
                      try clear c33
                      try clear c36
                      try clear c36b0
                      try clear c36b1
                      try clear c37
                      try clear c38
                      try clear c40
                      try clear c41
                      try clear c44
                      try clear c46
                      try clear c47
                      try clear c49
                      try clear c49b0
                      try clear c50
                      try clear c51
                      try clear c53
                      try clear c56
                      try clear c57
                      try clear c59
                      try clear c59b0
                      try clear c59b1
                      try clear c60
                      try clear c61
                      try clear c63
                      try clear p64
                      try clear hcz13_0
                      try clear hcz13_1
                      try clear hcz13_2
                      try clear hcz30_0
                      try clear hcz30_1
                      try clear hcz30_2
                      try clear hcz34_0
                      try clear hcz34_1
                      try clear hcz34_2
                      try clear hcz35_0
                      try clear hcz35_1
                      try clear hcz35_2
                      try clear hcz39_0
                      try clear hcz39_1
                      try clear hcz39_2
                      try clear hcz42_0
                      try clear hcz42_1
                      try clear hcz42_2
                      try clear hcz48_0
                      try clear hcz48_1
                      try clear hcz48_2
                      try clear hcz52_0
                      try clear hcz52_1
                      try clear hcz52_2
                      try clear hcz54_0
                      try clear hcz54_1
                      try clear hcz54_2
                      try clear hcz58_0
                      try clear hcz58_1
                      try clear hcz58_2
                      try clear hcz62_0
                      try clear hcz62_1
                      try clear hcz62_2
                      try clear hcz64_0
                      try clear hcz64_1
                      try clear hcz64_2
                      try clear hcz9_0
                      try clear hcz9_1
                      try clear hcz9_2
                      try clear hfz13_0
                      try clear hfz13_1
                      try clear hfz13_2
                      try clear hfz30_0
                      try clear hfz30_1
                      try clear hfz30_2
                      try clear hfz34_0
                      try clear hfz34_1
                      try clear hfz34_2
                      try clear hfz35_0
                      try clear hfz35_1
                      try clear hfz35_2
                      try clear hfz39_0
                      try clear hfz39_1
                      try clear hfz39_2
                      try clear hfz42_0
                      try clear hfz42_1
                      try clear hfz42_2
                      try clear hfz48_0
                      try clear hfz48_1
                      try clear hfz48_2
                      try clear hfz52_0
                      try clear hfz52_1
                      try clear hfz52_2
                      try clear hfz54_0
                      try clear hfz54_1
                      try clear hfz54_2
                      try clear hfz58_0
                      try clear hfz58_1
                      try clear hfz58_2
                      try clear hfz62_0
                      try clear hfz62_1
                      try clear hfz62_2
                      try clear hfz64_0
                      try clear hfz64_1
                      try clear hfz64_2
                      try clear hfz9_0
                      try clear hfz9_1
                      try clear hfz9_2
                      try clear p2
                      try clear p6
                      obtain ⟨kq, x181000_54, x181001_54, HA, HJ54, BK169, BK174, BK180, HB⟩ := hcut
                      cases kq with
                      | zero => exact absurd HA.out (by simp [numerarylaw24_CivilNext.j4])
                      | succ kj54 =>
                        have H := HA.out
                        clear HA
                        simp only [numerarylaw24_CivilNext.j4] at H
                        by_cases c65 : (!(t170 == x181000_54) || (!(t171 == x181001_54) || (!(t172 == x181002_44)))) = true
                        · rw [if_pos c65] at H
                          have c65b0 : (!(t170 == x181000_54) || (!(t171 == x181001_54) || (!(t172 == x181002_44)))) = true := c65
                          clear c65
                          obtain rfl := Option.some.inj H
                          have hnb66 := NB174_169.out
                          have hnc66 := NB169_174.out
                          have hnb67 := NB174_180.out
                          have hnc67 := NB180_174.out
                          have hcz68_0 : wc.cell? ⟨gb174, 0, none⟩ = some (.int .i64 t170) := (blk_cell BK174.out 0).trans rfl
                          have hcz68_1 : wc.cell? ⟨gb174, 1, none⟩ = some (.int .i64 t171) := (blk_cell BK174.out 1).trans rfl
                          have hcz68_2 : wc.cell? ⟨gb174, 2, none⟩ = some (.int .i64 t172) := (blk_cell BK174.out 2).trans rfl
                          have hfz68_0 := blk_frozen BK174.out 0
                          have hfz68_1 := blk_frozen BK174.out 1
                          have hfz68_2 := blk_frozen BK174.out 2
                          have hnb69 := NB180_169.out
                          have hnc69 := NB169_180.out
                          have hcz70_0 : wc.cell? ⟨gb180, 0, none⟩ = some (.int .i64 x181000_54) := (blk_cell BK180.out 0).trans rfl
                          have hcz70_1 : wc.cell? ⟨gb180, 1, none⟩ = some (.int .i64 x181001_54) := (blk_cell BK180.out 1).trans rfl
                          have hcz70_2 : wc.cell? ⟨gb180, 2, none⟩ = some (.int .i64 x181002_44) := (blk_cell BK180.out 2).trans rfl
                          have hfz70_0 := blk_frozen BK180.out 0
                          have hfz70_1 := blk_frozen BK180.out 1
                          have hfz70_2 := blk_frozen BK180.out 2
                          go_wp2
                          go_ret
                          exact ⟨by first | rfl | (simp [errW_none, errW_some] <;> rfl) | (simp [*, errW_none, errW_some] <;> rfl), by repeat (first | (with_reducible first | exact HB.out | apply below_alloc | apply pw_below_drewN | apply below_drew1 | refine below_set ?_ GE169.out | refine below_set ?_ GE174.out | refine below_set ?_ GE180.out) | exact HB.out)⟩
                        · rw [if_neg c65] at H
                          have c65b0 : (!(t170 == x181000_54) || (!(t171 == x181001_54) || (!(t172 == x181002_44)))) = false := by simpa using c65
                          clear c65
                          replace H := Option.bind_eq_some_iff.mp H
                          obtain ⟨⟨t182, t183, t184, t185⟩, A710, H⟩ := H
                          replace H : ((civil_Weekday.f kj54 (wrap64 ((wrap64 (1 + (wrap64 (Int.tmod a0 2958464)))) - 1462)) 1).bind fun bt187 => (if (t185 == (decide ((wrap64 (1 + (wrap64 (Int.tmod a0 2958464)))) ≥ 1462))) = true then (if t185 = true then (if (t182 == t165 && (t183 == t166 && (t184 == t167))) = true then (some (bt187.1 == t175)) else (some false)) else (some true)) else (some false))) = some r := H
                          have A71 := Aside0.mk A710
                          clear A710
                          replace H := Option.bind_eq_some_iff.mp H
                          obtain ⟨⟨t187, t188⟩, A720, H⟩ := H
                          replace H : (if (t185 == (decide ((wrap64 (1 + (wrap64 (Int.tmod a0 2958464)))) ≥ 1462))) = true then (if t185 = true then (if (t182 == t165 && (t183 == t166 && (t184 == t167))) = true then (some (t187 == t175)) else (some false)) else (some true)) else (some false)) = some r := H
                          have A72 := Aside0.mk A720
                          clear A720
                          by_cases c73 : (t185 == (decide ((wrap64 (1 + (wrap64 (Int.tmod a0 2958464)))) ≥ 1462))) = true
                          · rw [if_pos c73] at H
                            have c73b0 : (t185 == (decide ((wrap64 (1 + (wrap64 (Int.tmod a0 2958464)))) ≥ 1462))) = true := c73
                            (try (have c73b1 : decide (t185 = (decide ((wrap64 (1 + (wrap64 (Int.tmod a0 2958464)))) ≥ 1462))) = true := by simpa using c73))
                            (try (have c73b2 : (t185 == (decide ((wrap64 (1 + (wrap64 (Int.tmod a0 2958464)))) ≥ 1462))) = true := by simpa using c73))
                            clear c73
                            by_cases c74 : t185 = true
                            · subst c74
                              have H1 : (if (t182 == t165 && (t183 == t166 && (t184 == t167))) = true then (some (t187 == t175)) else (some false)) = some r := by rw [if_pos rfl] at H; exact H
                              clear H
                              have H := H1
                              clear H1
                              by_cases c75 : (t182 == t165 && (t183 == t166 && (t184 == t167))) = true
                              · rw [if_pos c75] at H
                                have c75b0 : (t182 == t165 && (t183 == t166 && (t184 == t167))) = true := c75
                                (try (have c75b1 : decide (t182 = t165 && (t183 == t166 && (t184 == t167))) = true := by simpa using c75))
                                (try (have c75b2 : (t182 == t165 && (t183 == t166 && (t184 == t167))) = true := by simpa using c75))
                                clear c75
                                obtain rfl := Option.some.inj H
                                have hnb76 := NB174_169.out
                                have hnc76 := NB169_174.out
                                have hnb77 := NB174_180.out
                                have hnc77 := NB180_174.out
                                have hcz78_0 : wc.cell? ⟨gb174, 0, none⟩ = some (.int .i64 t170) := (blk_cell BK174.out 0).trans rfl
                                have hcz78_1 : wc.cell? ⟨gb174, 1, none⟩ = some (.int .i64 t171) := (blk_cell BK174.out 1).trans rfl
                                have hcz78_2 : wc.cell? ⟨gb174, 2, none⟩ = some (.int .i64 t172) := (blk_cell BK174.out 2).trans rfl
                                have hfz78_0 := blk_frozen BK174.out 0
                                have hfz78_1 := blk_frozen BK174.out 1
                                have hfz78_2 := blk_frozen BK174.out 2
                                have hnb79 := NB180_169.out
                                have hnc79 := NB169_180.out
                                have hcz80_0 : wc.cell? ⟨gb180, 0, none⟩ = some (.int .i64 x181000_54) := (blk_cell BK180.out 0).trans rfl
                                have hcz80_1 : wc.cell? ⟨gb180, 1, none⟩ = some (.int .i64 x181001_54) := (blk_cell BK180.out 1).trans rfl
                                have hcz80_2 : wc.cell? ⟨gb180, 2, none⟩ = some (.int .i64 x181002_44) := (blk_cell BK180.out 2).trans rfl
                                have hfz80_0 := blk_frozen BK180.out 0
                                have hfz80_1 := blk_frozen BK180.out 1
                                have hfz80_2 := blk_frozen BK180.out 2
                                go_wp2_with (first | ((with_reducible refine gate_callee (f := 8) rfl ?_); refine goesL_ (some 110) rfl rfl Try.func8 (by kernel_rfl) rfl #[.int .i64 (wrap64 ((wrap64 (1 + (wrap64 (Int.tmod a0 2958464)))) - 1462)), .int .i64 1] rfl (by (try simp only [List.map_toArray, List.map_cons, List.map_nil]); first | done | rfl | (simp only [List.length_drop, List.length_take]; rfl)) ?_; (with_reducible refine (civil_Of.calls kj54 (wrap64 ((wrap64 (1 + (wrap64 (Int.tmod a0 2958464)))) - 1462)) 1 t182 t183 t184 true _ A71.out).mono ?_); rintro e w81 ⟨rfl, hb⟩; refine ⟨_, rfl, ?_⟩; have n0_ := Aside0.mk (blk_below (g := gb169) (o := .cells #[.int .i64 t165, .int .i64 t166, .int .i64 t167] 24 (0, 0)) (by (with_reducible repeat (first | refine blk_drewN ?_ _ | refine blk_drew ?_ | refine blk_alloc ?_ _)); exact BK169.out) hb); have n1_ := Aside0.mk (blk_below (g := gb174) (o := .cells #[.int .i64 t170, .int .i64 t171, .int .i64 t172] 24 (0, 0)) (by (with_reducible repeat (first | refine blk_drewN ?_ _ | refine blk_drew ?_ | refine blk_alloc ?_ _)); exact BK174.out) hb); have n2_ := Aside0.mk (blk_below (g := gb180) (o := .cells #[.int .i64 x181000_54, .int .i64 x181001_54, .int .i64 x181002_44] 24 (0, 0)) (by (with_reducible repeat (first | refine blk_drewN ?_ _ | refine blk_drew ?_ | refine blk_alloc ?_ _)); exact BK180.out) hb); have n3_ := Aside0.mk (below_step (by repeat (first | (with_reducible first | exact HB.out | apply below_alloc | apply pw_below_drewN | apply below_drew1 | refine below_set ?_ GE169.out | refine below_set ?_ GE174.out | refine below_set ?_ GE180.out) | exact HB.out)) hb); clear BK169; clear BK174; clear BK180; clear HB; have BK169 := n0_; have BK174 := n1_; have BK180 := n2_; have HB := n3_; clear n0_ n1_ n2_ n3_; (try clear hb); (try clear hb2); (try clear hk); (try clear hi)) | ((with_reducible refine gate_dst (N := 14) rfl ?_); refine box_event ?hg (N := 14) ?hd (cs := #[.int .i64 0, .int .i64 0, .int .i64 0]) (t := 24) ?hr ?_; (case hd => rfl); (case hg => rfl); (case hr => first | (go_simp; done) | (go_simp; rfl)); intro gb186 hg w82 hbox hb; have n0_ := Aside0.mk (blk_below (g := gb169) (o := .cells #[.int .i64 t165, .int .i64 t166, .int .i64 t167] 24 (0, 0)) (by (with_reducible repeat (first | refine blk_drewN ?_ _ | refine blk_drew ?_ | refine blk_alloc ?_ _)); exact BK169.out) hb); have n1_ := Aside0.mk (blk_below (g := gb174) (o := .cells #[.int .i64 t170, .int .i64 t171, .int .i64 t172] 24 (0, 0)) (by (with_reducible repeat (first | refine blk_drewN ?_ _ | refine blk_drew ?_ | refine blk_alloc ?_ _)); exact BK174.out) hb); have n2_ := Aside0.mk (blk_below (g := gb180) (o := .cells #[.int .i64 x181000_54, .int .i64 x181001_54, .int .i64 x181002_44] 24 (0, 0)) (by (with_reducible repeat (first | refine blk_drewN ?_ _ | refine blk_drew ?_ | refine blk_alloc ?_ _)); exact BK180.out) hb); have n3_ := Aside0.mk (below_step (by repeat (first | (with_reducible first | exact HB.out | apply below_alloc | apply pw_below_drewN | apply below_drew1 | refine below_set ?_ GE169.out | refine below_set ?_ GE174.out | refine below_set ?_ GE180.out) | exact HB.out)) hb); have n4_ := Aside0.mk (hbox); have n5_ := Aside0.mk ((by rw [hg]; exact (below_size (by repeat (first | (with_reducible first | exact HB.out | apply below_alloc | apply pw_below_drewN | apply below_drew1 | refine below_set ?_ GE169.out | refine below_set ?_ GE174.out | refine below_set ?_ GE180.out) | exact HB.out))) : w.heap.size ≤ gb186)); have n6_ := Aside0.mk ((by rw [hg]; exact (below_size (by repeat (first | (with_reducible first | exact HB.out | apply below_alloc | apply pw_below_drewN | apply below_drew1 | refine below_set ?_ GE169.out | refine below_set ?_ GE174.out | refine below_set ?_ GE180.out) | exact HB.out))) : w.heap.size ≤ gb186)); have n7_ := Aside0.mk ((by rw [hg]; exact Nat.ne_of_lt (blk_lt (g := gb169) (o := .cells #[.int .i64 t165, .int .i64 t166, .int .i64 t167] 24 (0, 0)) (by (with_reducible repeat (first | refine blk_drewN ?_ _ | refine blk_drew ?_ | refine blk_alloc ?_ _)); exact BK169.out)) : gb169 ≠ gb186)); have n8_ := Aside0.mk ((by rw [hg]; exact Nat.ne_of_gt (blk_lt (g := gb169) (o := .cells #[.int .i64 t165, .int .i64 t166, .int .i64 t167] 24 (0, 0)) (by (with_reducible repeat (first | refine blk_drewN ?_ _ | refine blk_drew ?_ | refine blk_alloc ?_ _)); exact BK169.out)) : gb186 ≠ gb169)); have n9_ := Aside0.mk ((by rw [hg]; exact Nat.ne_of_lt (blk_lt (g := gb174) (o := .cells #[.int .i64 t170, .int .i64 t171, .int .i64 t172] 24 (0, 0)) (by (with_reducible repeat (first | refine blk_drewN ?_ _ | refine blk_drew ?_ | refine blk_alloc ?_ _)); exact BK174.out)) : gb174 ≠ gb186)); have n10_ := Aside0.mk ((by rw [hg]; exact Nat.ne_of_gt (blk_lt (g := gb174) (o := .cells #[.int .i64 t170, .int .i64 t171, .int .i64 t172] 24 (0, 0)) (by (with_reducible repeat (first | refine blk_drewN ?_ _ | refine blk_drew ?_ | refine blk_alloc ?_ _)); exact BK174.out)) : gb186 ≠ gb174)); have n11_ := Aside0.mk ((by rw [hg]; exact Nat.ne_of_lt (blk_lt (g := gb180) (o := .cells #[.int .i64 x181000_54, .int .i64 x181001_54, .int .i64 x181002_44] 24 (0, 0)) (by (with_reducible repeat (first | refine blk_drewN ?_ _ | refine blk_drew ?_ | refine blk_alloc ?_ _)); exact BK180.out)) : gb180 ≠ gb186)); have n12_ := Aside0.mk ((by rw [hg]; exact Nat.ne_of_gt (blk_lt (g := gb180) (o := .cells #[.int .i64 x181000_54, .int .i64 x181001_54, .int .i64 x181002_44] 24 (0, 0)) (by (with_reducible repeat (first | refine blk_drewN ?_ _ | refine blk_drew ?_ | refine blk_alloc ?_ _)); exact BK180.out)) : gb186 ≠ gb180)); clear BK169; clear BK174; clear BK180; clear HB; have BK169 := n0_; have BK174 := n1_; have BK180 := n2_; have HB := n3_; have BK186 := n4_; have GW186 := n5_; have GE186 := n6_; have NB169_186 := n7_; have NB186_169 := n8_; have NB174_186 := n9_; have NB186_174 := n10_; have NB180_186 := n11_; have NB186_180 := n12_; clear n0_ n1_ n2_ n3_ n4_ n5_ n6_ n7_ n8_ n9_ n10_ n11_ n12_; clear hb hbox hg; have hnb83 := NB186_169.out; have hnc83 := NB169_186.out; have hnb84 := NB186_174.out; have hnc84 := NB174_186.out; have hnb85 := NB186_180.out; have hnc85 := NB180_186.out; have hcz86_0 : w82.cell? ⟨gb186, 0, none⟩ = some (.int .i64 0) := (blk_cell BK186.out 0).trans rfl; have hcz86_1 : w82.cell? ⟨gb186, 1, none⟩ = some (.int .i64 0) := (blk_cell BK186.out 1).trans rfl; have hcz86_2 : w82.cell? ⟨gb186, 2, none⟩ = some (.int .i64 0) := (blk_cell BK186.out 2).trans rfl; have hfz86_0 := blk_frozen BK186.out 0; have hfz86_1 := blk_frozen BK186.out 1; have hfz86_2 := blk_frozen BK186.out 2) | ((with_reducible refine gate_callee (f := 10) rfl ?_); refine goesL_ (some 116) rfl rfl Try.func10 (by kernel_rfl) rfl #[.int .i64 (wrap64 ((wrap64 (1 + (wrap64 (Int.tmod a0 2958464)))) - 1462)), .int .i64 1] rfl (by (try simp only [List.map_toArray, List.map_cons, List.map_nil]); first | done | rfl | (simp only [List.length_drop, List.length_take]; rfl)) ?_; (with_reducible refine (civil_Weekday.calls kj54 (wrap64 ((wrap64 (1 + (wrap64 (Int.tmod a0 2958464)))) - 1462)) 1 t187 t188 _ A72.out).mono ?_); rintro e w' ⟨rfl, ⟨nd, rfl⟩⟩; refine ⟨_, rfl, ?_⟩; have hcz87_0 : w82.cell? ⟨gb169, 0, none⟩ = some (.int .i64 t165) := (blk_cell BK169.out 0).trans rfl; have hcz87_1 : w82.cell? ⟨gb169, 1, none⟩ = some (.int .i64 t166) := (blk_cell BK169.out 1).trans rfl; have hcz87_2 : w82.cell? ⟨gb169, 2, none⟩ = some (.int .i64 t167) := (blk_cell BK169.out 2).trans rfl; have hfz87_0 := blk_frozen BK169.out 0; have hfz87_1 := blk_frozen BK169.out 1; have hfz87_2 := blk_frozen BK169.out 2))
                                go_ret
                                exact ⟨by first | rfl | (simp [errW_none, errW_some] <;> rfl) | (simp [*, errW_none, errW_some] <;> rfl), by repeat (first | (with_reducible first | exact HB.out | apply below_alloc | apply pw_below_drewN | apply below_drew1 | refine below_set ?_ GE169.out | refine below_set ?_ GE174.out | refine below_set ?_ GE180.out | refine below_set ?_ GE186.out) | exact HB.out)⟩
                              · rw [if_neg c75] at H
                                have c75b0 : (t182 == t165 && (t183 == t166 && (t184 == t167))) = false := by simpa using c75
                                (try (have c75b1 : decide (t182 = t165 && (t183 == t166 && (t184 == t167))) = false := by simpa using c75))
                                (try (have c75b2 : (t182 == t165 && (t183 == t166 && (t184 == t167))) = false := by simpa using c75))
                                (try (have c75b3 : ¬ (t182 = t165 && (t183 == t166 && (t184 == t167))) := by simpa using c75))
                                clear c75
                                obtain rfl := Option.some.inj H
                                have hnb88 := NB174_169.out
                                have hnc88 := NB169_174.out
                                have hnb89 := NB174_180.out
                                have hnc89 := NB180_174.out
                                have hcz90_0 : wc.cell? ⟨gb174, 0, none⟩ = some (.int .i64 t170) := (blk_cell BK174.out 0).trans rfl
                                have hcz90_1 : wc.cell? ⟨gb174, 1, none⟩ = some (.int .i64 t171) := (blk_cell BK174.out 1).trans rfl
                                have hcz90_2 : wc.cell? ⟨gb174, 2, none⟩ = some (.int .i64 t172) := (blk_cell BK174.out 2).trans rfl
                                have hfz90_0 := blk_frozen BK174.out 0
                                have hfz90_1 := blk_frozen BK174.out 1
                                have hfz90_2 := blk_frozen BK174.out 2
                                have hnb91 := NB180_169.out
                                have hnc91 := NB169_180.out
                                have hcz92_0 : wc.cell? ⟨gb180, 0, none⟩ = some (.int .i64 x181000_54) := (blk_cell BK180.out 0).trans rfl
                                have hcz92_1 : wc.cell? ⟨gb180, 1, none⟩ = some (.int .i64 x181001_54) := (blk_cell BK180.out 1).trans rfl
                                have hcz92_2 : wc.cell? ⟨gb180, 2, none⟩ = some (.int .i64 x181002_44) := (blk_cell BK180.out 2).trans rfl
                                have hfz92_0 := blk_frozen BK180.out 0
                                have hfz92_1 := blk_frozen BK180.out 1
                                have hfz92_2 := blk_frozen BK180.out 2
                                go_wp2_with (first | ((with_reducible refine gate_callee (f := 8) rfl ?_); refine goesL_ (some 110) rfl rfl Try.func8 (by kernel_rfl) rfl #[.int .i64 (wrap64 ((wrap64 (1 + (wrap64 (Int.tmod a0 2958464)))) - 1462)), .int .i64 1] rfl (by (try simp only [List.map_toArray, List.map_cons, List.map_nil]); first | done | rfl | (simp only [List.length_drop, List.length_take]; rfl)) ?_; (with_reducible refine (civil_Of.calls kj54 (wrap64 ((wrap64 (1 + (wrap64 (Int.tmod a0 2958464)))) - 1462)) 1 t182 t183 t184 true _ A71.out).mono ?_); rintro e w93 ⟨rfl, hb⟩; refine ⟨_, rfl, ?_⟩; have n0_ := Aside0.mk (blk_below (g := gb169) (o := .cells #[.int .i64 t165, .int .i64 t166, .int .i64 t167] 24 (0, 0)) (by (with_reducible repeat (first | refine blk_drewN ?_ _ | refine blk_drew ?_ | refine blk_alloc ?_ _)); exact BK169.out) hb); have n1_ := Aside0.mk (blk_below (g := gb174) (o := .cells #[.int .i64 t170, .int .i64 t171, .int .i64 t172] 24 (0, 0)) (by (with_reducible repeat (first | refine blk_drewN ?_ _ | refine blk_drew ?_ | refine blk_alloc ?_ _)); exact BK174.out) hb); have n2_ := Aside0.mk (blk_below (g := gb180) (o := .cells #[.int .i64 x181000_54, .int .i64 x181001_54, .int .i64 x181002_44] 24 (0, 0)) (by (with_reducible repeat (first | refine blk_drewN ?_ _ | refine blk_drew ?_ | refine blk_alloc ?_ _)); exact BK180.out) hb); have n3_ := Aside0.mk (below_step (by repeat (first | (with_reducible first | exact HB.out | apply below_alloc | apply pw_below_drewN | apply below_drew1 | refine below_set ?_ GE169.out | refine below_set ?_ GE174.out | refine below_set ?_ GE180.out) | exact HB.out)) hb); clear BK169; clear BK174; clear BK180; clear HB; have BK169 := n0_; have BK174 := n1_; have BK180 := n2_; have HB := n3_; clear n0_ n1_ n2_ n3_; (try clear hb); (try clear hb2); (try clear hk); (try clear hi)) | ((with_reducible refine gate_dst (N := 14) rfl ?_); refine box_event ?hg (N := 14) ?hd (cs := #[.int .i64 0, .int .i64 0, .int .i64 0]) (t := 24) ?hr ?_; (case hd => rfl); (case hg => rfl); (case hr => first | (go_simp; done) | (go_simp; rfl)); intro gb186 hg w94 hbox hb; have n0_ := Aside0.mk (blk_below (g := gb169) (o := .cells #[.int .i64 t165, .int .i64 t166, .int .i64 t167] 24 (0, 0)) (by (with_reducible repeat (first | refine blk_drewN ?_ _ | refine blk_drew ?_ | refine blk_alloc ?_ _)); exact BK169.out) hb); have n1_ := Aside0.mk (blk_below (g := gb174) (o := .cells #[.int .i64 t170, .int .i64 t171, .int .i64 t172] 24 (0, 0)) (by (with_reducible repeat (first | refine blk_drewN ?_ _ | refine blk_drew ?_ | refine blk_alloc ?_ _)); exact BK174.out) hb); have n2_ := Aside0.mk (blk_below (g := gb180) (o := .cells #[.int .i64 x181000_54, .int .i64 x181001_54, .int .i64 x181002_44] 24 (0, 0)) (by (with_reducible repeat (first | refine blk_drewN ?_ _ | refine blk_drew ?_ | refine blk_alloc ?_ _)); exact BK180.out) hb); have n3_ := Aside0.mk (below_step (by repeat (first | (with_reducible first | exact HB.out | apply below_alloc | apply pw_below_drewN | apply below_drew1 | refine below_set ?_ GE169.out | refine below_set ?_ GE174.out | refine below_set ?_ GE180.out) | exact HB.out)) hb); have n4_ := Aside0.mk (hbox); have n5_ := Aside0.mk ((by rw [hg]; exact (below_size (by repeat (first | (with_reducible first | exact HB.out | apply below_alloc | apply pw_below_drewN | apply below_drew1 | refine below_set ?_ GE169.out | refine below_set ?_ GE174.out | refine below_set ?_ GE180.out) | exact HB.out))) : w.heap.size ≤ gb186)); have n6_ := Aside0.mk ((by rw [hg]; exact (below_size (by repeat (first | (with_reducible first | exact HB.out | apply below_alloc | apply pw_below_drewN | apply below_drew1 | refine below_set ?_ GE169.out | refine below_set ?_ GE174.out | refine below_set ?_ GE180.out) | exact HB.out))) : w.heap.size ≤ gb186)); have n7_ := Aside0.mk ((by rw [hg]; exact Nat.ne_of_lt (blk_lt (g := gb169) (o := .cells #[.int .i64 t165, .int .i64 t166, .int .i64 t167] 24 (0, 0)) (by (with_reducible repeat (first | refine blk_drewN ?_ _ | refine blk_drew ?_ | refine blk_alloc ?_ _)); exact BK169.out)) : gb169 ≠ gb186)); have n8_ := Aside0.mk ((by rw [hg]; exact Nat.ne_of_gt (blk_lt (g := gb169) (o := .cells #[.int .i64 t165, .int .i64 t166, .int .i64 t167] 24 (0, 0)) (by (with_reducible repeat (first | refine blk_drewN ?_ _ | refine blk_drew ?_ | refine blk_alloc ?_ _)); exact BK169.out)) : gb186 ≠ gb169)); have n9_ := Aside0.mk ((by rw [hg]; exact Nat.ne_of_lt (blk_lt (g := gb174) (o := .cells #[.int .i64 t170, .int .i64 t171, .int .i64 t172] 24 (0, 0)) (by (with_reducible repeat (first | refine blk_drewN ?_ _ | refine blk_drew ?_ | refine blk_alloc ?_ _)); exact BK174.out)) : gb174 ≠ gb186)); have n10_ := Aside0.mk ((by rw [hg]; exact Nat.ne_of_gt (blk_lt (g := gb174) (o := .cells #[.int .i64 t170, .int .i64 t171, .int .i64 t172] 24 (0, 0)) (by (with_reducible repeat (first | refine blk_drewN ?_ _ | refine blk_drew ?_ | refine blk_alloc ?_ _)); exact BK174.out)) : gb186 ≠ gb174)); have n11_ := Aside0.mk ((by rw [hg]; exact Nat.ne_of_lt (blk_lt (g := gb180) (o := .cells #[.int .i64 x181000_54, .int .i64 x181001_54, .int .i64 x181002_44] 24 (0, 0)) (by (with_reducible repeat (first | refine blk_drewN ?_ _ | refine blk_drew ?_ | refine blk_alloc ?_ _)); exact BK180.out)) : gb180 ≠ gb186)); have n12_ := Aside0.mk ((by rw [hg]; exact Nat.ne_of_gt (blk_lt (g := gb180) (o := .cells #[.int .i64 x181000_54, .int .i64 x181001_54, .int .i64 x181002_44] 24 (0, 0)) (by (with_reducible repeat (first | refine blk_drewN ?_ _ | refine blk_drew ?_ | refine blk_alloc ?_ _)); exact BK180.out)) : gb186 ≠ gb180)); clear BK169; clear BK174; clear BK180; clear HB; have BK169 := n0_; have BK174 := n1_; have BK180 := n2_; have HB := n3_; have BK186 := n4_; have GW186 := n5_; have GE186 := n6_; have NB169_186 := n7_; have NB186_169 := n8_; have NB174_186 := n9_; have NB186_174 := n10_; have NB180_186 := n11_; have NB186_180 := n12_; clear n0_ n1_ n2_ n3_ n4_ n5_ n6_ n7_ n8_ n9_ n10_ n11_ n12_; clear hb hbox hg; have hnb95 := NB186_169.out; have hnc95 := NB169_186.out; have hnb96 := NB186_174.out; have hnc96 := NB174_186.out; have hnb97 := NB186_180.out; have hnc97 := NB180_186.out; have hcz98_0 : w94.cell? ⟨gb186, 0, none⟩ = some (.int .i64 0) := (blk_cell BK186.out 0).trans rfl; have hcz98_1 : w94.cell? ⟨gb186, 1, none⟩ = some (.int .i64 0) := (blk_cell BK186.out 1).trans rfl; have hcz98_2 : w94.cell? ⟨gb186, 2, none⟩ = some (.int .i64 0) := (blk_cell BK186.out 2).trans rfl; have hfz98_0 := blk_frozen BK186.out 0; have hfz98_1 := blk_frozen BK186.out 1; have hfz98_2 := blk_frozen BK186.out 2) | ((with_reducible refine gate_callee (f := 10) rfl ?_); refine goesL_ (some 116) rfl rfl Try.func10 (by kernel_rfl) rfl #[.int .i64 (wrap64 ((wrap64 (1 + (wrap64 (Int.tmod a0 2958464)))) - 1462)), .int .i64 1] rfl (by (try simp only [List.map_toArray, List.map_cons, List.map_nil]); first | done | rfl | (simp only [List.length_drop, List.length_take]; rfl)) ?_; (with_reducible refine (civil_Weekday.calls kj54 (wrap64 ((wrap64 (1 + (wrap64 (Int.tmod a0 2958464)))) - 1462)) 1 t187 t188 _ A72.out).mono ?_); rintro e w' ⟨rfl, ⟨nd, rfl⟩⟩; refine ⟨_, rfl, ?_⟩; have hcz99_0 : w94.cell? ⟨gb169, 0, none⟩ = some (.int .i64 t165) := (blk_cell BK169.out 0).trans rfl; have hcz99_1 : w94.cell? ⟨gb169, 1, none⟩ = some (.int .i64 t166) := (blk_cell BK169.out 1).trans rfl; have hcz99_2 : w94.cell? ⟨gb169, 2, none⟩ = some (.int .i64 t167) := (blk_cell BK169.out 2).trans rfl; have hfz99_0 := blk_frozen BK169.out 0; have hfz99_1 := blk_frozen BK169.out 1; have hfz99_2 := blk_frozen BK169.out 2))
                                go_ret
                                exact ⟨by first | rfl | (simp [errW_none, errW_some] <;> rfl) | (simp [*, errW_none, errW_some] <;> rfl), by repeat (first | (with_reducible first | exact HB.out | apply below_alloc | apply pw_below_drewN | apply below_drew1 | refine below_set ?_ GE169.out | refine below_set ?_ GE174.out | refine below_set ?_ GE180.out | refine below_set ?_ GE186.out) | exact HB.out)⟩
                            · replace c74 := Bool.eq_false_iff.mpr c74
                              subst c74
                              have H1 : (some true) = some r := by rw [if_neg (show ¬ (false = true) by decide)] at H; exact H
                              clear H
                              have H := H1
                              clear H1
                              obtain rfl := Option.some.inj H
                              have hnb100 := NB174_169.out
                              have hnc100 := NB169_174.out
                              have hnb101 := NB174_180.out
                              have hnc101 := NB180_174.out
                              have hcz102_0 : wc.cell? ⟨gb174, 0, none⟩ = some (.int .i64 t170) := (blk_cell BK174.out 0).trans rfl
                              have hcz102_1 : wc.cell? ⟨gb174, 1, none⟩ = some (.int .i64 t171) := (blk_cell BK174.out 1).trans rfl
                              have hcz102_2 : wc.cell? ⟨gb174, 2, none⟩ = some (.int .i64 t172) := (blk_cell BK174.out 2).trans rfl
                              have hfz102_0 := blk_frozen BK174.out 0
                              have hfz102_1 := blk_frozen BK174.out 1
                              have hfz102_2 := blk_frozen BK174.out 2
                              have hnb103 := NB180_169.out
                              have hnc103 := NB169_180.out
                              have hcz104_0 : wc.cell? ⟨gb180, 0, none⟩ = some (.int .i64 x181000_54) := (blk_cell BK180.out 0).trans rfl
                              have hcz104_1 : wc.cell? ⟨gb180, 1, none⟩ = some (.int .i64 x181001_54) := (blk_cell BK180.out 1).trans rfl
                              have hcz104_2 : wc.cell? ⟨gb180, 2, none⟩ = some (.int .i64 x181002_44) := (blk_cell BK180.out 2).trans rfl
                              have hfz104_0 := blk_frozen BK180.out 0
                              have hfz104_1 := blk_frozen BK180.out 1
                              have hfz104_2 := blk_frozen BK180.out 2
                              go_wp2_with (first | ((with_reducible refine gate_callee (f := 8) rfl ?_); refine goesL_ (some 110) rfl rfl Try.func8 (by kernel_rfl) rfl #[.int .i64 (wrap64 ((wrap64 (1 + (wrap64 (Int.tmod a0 2958464)))) - 1462)), .int .i64 1] rfl (by (try simp only [List.map_toArray, List.map_cons, List.map_nil]); first | done | rfl | (simp only [List.length_drop, List.length_take]; rfl)) ?_; (with_reducible refine (civil_Of.calls kj54 (wrap64 ((wrap64 (1 + (wrap64 (Int.tmod a0 2958464)))) - 1462)) 1 t182 t183 t184 false _ A71.out).mono ?_); rintro e w105 ⟨rfl, hb⟩; refine ⟨_, rfl, ?_⟩; have n0_ := Aside0.mk (blk_below (g := gb169) (o := .cells #[.int .i64 t165, .int .i64 t166, .int .i64 t167] 24 (0, 0)) (by (with_reducible repeat (first | refine blk_drewN ?_ _ | refine blk_drew ?_ | refine blk_alloc ?_ _)); exact BK169.out) hb); have n1_ := Aside0.mk (blk_below (g := gb174) (o := .cells #[.int .i64 t170, .int .i64 t171, .int .i64 t172] 24 (0, 0)) (by (with_reducible repeat (first | refine blk_drewN ?_ _ | refine blk_drew ?_ | refine blk_alloc ?_ _)); exact BK174.out) hb); have n2_ := Aside0.mk (blk_below (g := gb180) (o := .cells #[.int .i64 x181000_54, .int .i64 x181001_54, .int .i64 x181002_44] 24 (0, 0)) (by (with_reducible repeat (first | refine blk_drewN ?_ _ | refine blk_drew ?_ | refine blk_alloc ?_ _)); exact BK180.out) hb); have n3_ := Aside0.mk (below_step (by repeat (first | (with_reducible first | exact HB.out | apply below_alloc | apply pw_below_drewN | apply below_drew1 | refine below_set ?_ GE169.out | refine below_set ?_ GE174.out | refine below_set ?_ GE180.out) | exact HB.out)) hb); clear BK169; clear BK174; clear BK180; clear HB; have BK169 := n0_; have BK174 := n1_; have BK180 := n2_; have HB := n3_; clear n0_ n1_ n2_ n3_; (try clear hb); (try clear hb2); (try clear hk); (try clear hi)) | ((with_reducible refine gate_dst (N := 14) rfl ?_); refine box_event ?hg (N := 14) ?hd (cs := #[.int .i64 0, .int .i64 0, .int .i64 0]) (t := 24) ?hr ?_; (case hd => rfl); (case hg => rfl); (case hr => first | (go_simp; done) | (go_simp; rfl)); intro gb186 hg w106 hbox hb; have n0_ := Aside0.mk (blk_below (g := gb169) (o := .cells #[.int .i64 t165, .int .i64 t166, .int .i64 t167] 24 (0, 0)) (by (with_reducible repeat (first | refine blk_drewN ?_ _ | refine blk_drew ?_ | refine blk_alloc ?_ _)); exact BK169.out) hb); have n1_ := Aside0.mk (blk_below (g := gb174) (o := .cells #[.int .i64 t170, .int .i64 t171, .int .i64 t172] 24 (0, 0)) (by (with_reducible repeat (first | refine blk_drewN ?_ _ | refine blk_drew ?_ | refine blk_alloc ?_ _)); exact BK174.out) hb); have n2_ := Aside0.mk (blk_below (g := gb180) (o := .cells #[.int .i64 x181000_54, .int .i64 x181001_54, .int .i64 x181002_44] 24 (0, 0)) (by (with_reducible repeat (first | refine blk_drewN ?_ _ | refine blk_drew ?_ | refine blk_alloc ?_ _)); exact BK180.out) hb); have n3_ := Aside0.mk (below_step (by repeat (first | (with_reducible first | exact HB.out | apply below_alloc | apply pw_below_drewN | apply below_drew1 | refine below_set ?_ GE169.out | refine below_set ?_ GE174.out | refine below_set ?_ GE180.out) | exact HB.out)) hb); have n4_ := Aside0.mk (hbox); have n5_ := Aside0.mk ((by rw [hg]; exact (below_size (by repeat (first | (with_reducible first | exact HB.out | apply below_alloc | apply pw_below_drewN | apply below_drew1 | refine below_set ?_ GE169.out | refine below_set ?_ GE174.out | refine below_set ?_ GE180.out) | exact HB.out))) : w.heap.size ≤ gb186)); have n6_ := Aside0.mk ((by rw [hg]; exact (below_size (by repeat (first | (with_reducible first | exact HB.out | apply below_alloc | apply pw_below_drewN | apply below_drew1 | refine below_set ?_ GE169.out | refine below_set ?_ GE174.out | refine below_set ?_ GE180.out) | exact HB.out))) : w.heap.size ≤ gb186)); have n7_ := Aside0.mk ((by rw [hg]; exact Nat.ne_of_lt (blk_lt (g := gb169) (o := .cells #[.int .i64 t165, .int .i64 t166, .int .i64 t167] 24 (0, 0)) (by (with_reducible repeat (first | refine blk_drewN ?_ _ | refine blk_drew ?_ | refine blk_alloc ?_ _)); exact BK169.out)) : gb169 ≠ gb186)); have n8_ := Aside0.mk ((by rw [hg]; exact Nat.ne_of_gt (blk_lt (g := gb169) (o := .cells #[.int .i64 t165, .int .i64 t166, .int .i64 t167] 24 (0, 0)) (by (with_reducible repeat (first | refine blk_drewN ?_ _ | refine blk_drew ?_ | refine blk_alloc ?_ _)); exact BK169.out)) : gb186 ≠ gb169)); have n9_ := Aside0.mk ((by rw [hg]; exact Nat.ne_of_lt (blk_lt (g := gb174) (o := .cells #[.int .i64 t170, .int .i64 t171, .int .i64 t172] 24 (0, 0)) (by (with_reducible repeat (first | refine blk_drewN ?_ _ | refine blk_drew ?_ | refine blk_alloc ?_ _)); exact BK174.out)) : gb174 ≠ gb186)); have n10_ := Aside0.mk ((by rw [hg]; exact Nat.ne_of_gt (blk_lt (g := gb174) (o := .cells #[.int .i64 t170, .int .i64 t171, .int .i64 t172] 24 (0, 0)) (by (with_reducible repeat (first | refine blk_drewN ?_ _ | refine blk_drew ?_ | refine blk_alloc ?_ _)); exact BK174.out)) : gb186 ≠ gb174)); have n11_ := Aside0.mk ((by rw [hg]; exact Nat.ne_of_lt (blk_lt (g := gb180) (o := .cells #[.int .i64 x181000_54, .int .i64 x181001_54, .int .i64 x181002_44] 24 (0, 0)) (by (with_reducible repeat (first | refine blk_drewN ?_ _ | refine blk_drew ?_ | refine blk_alloc ?_ _)); exact BK180.out)) : gb180 ≠ gb186)); have n12_ := Aside0.mk ((by rw [hg]; exact Nat.ne_of_gt (blk_lt (g := gb180) (o := .cells #[.int .i64 x181000_54, .int .i64 x181001_54, .int .i64 x181002_44] 24 (0, 0)) (by (with_reducible repeat (first | refine blk_drewN ?_ _ | refine blk_drew ?_ | refine blk_alloc ?_ _)); exact BK180.out)) : gb186 ≠ gb180)); clear BK169; clear BK174; clear BK180; clear HB; have BK169 := n0_; have BK174 := n1_; have BK180 := n2_; have HB := n3_; have BK186 := n4_; have GW186 := n5_; have GE186 := n6_; have NB169_186 := n7_; have NB186_169 := n8_; have NB174_186 := n9_; have NB186_174 := n10_; have NB180_186 := n11_; have NB186_180 := n12_; clear n0_ n1_ n2_ n3_ n4_ n5_ n6_ n7_ n8_ n9_ n10_ n11_ n12_; clear hb hbox hg; have hnb107 := NB186_169.out; have hnc107 := NB169_186.out; have hnb108 := NB186_174.out; have hnc108 := NB174_186.out; have hnb109 := NB186_180.out; have hnc109 := NB180_186.out; have hcz110_0 : w106.cell? ⟨gb186, 0, none⟩ = some (.int .i64 0) := (blk_cell BK186.out 0).trans rfl; have hcz110_1 : w106.cell? ⟨gb186, 1, none⟩ = some (.int .i64 0) := (blk_cell BK186.out 1).trans rfl; have hcz110_2 : w106.cell? ⟨gb186, 2, none⟩ = some (.int .i64 0) := (blk_cell BK186.out 2).trans rfl; have hfz110_0 := blk_frozen BK186.out 0; have hfz110_1 := blk_frozen BK186.out 1; have hfz110_2 := blk_frozen BK186.out 2) | ((with_reducible refine gate_callee (f := 10) rfl ?_); refine goesL_ (some 116) rfl rfl Try.func10 (by kernel_rfl) rfl #[.int .i64 (wrap64 ((wrap64 (1 + (wrap64 (Int.tmod a0 2958464)))) - 1462)), .int .i64 1] rfl (by (try simp only [List.map_toArray, List.map_cons, List.map_nil]); first | done | rfl | (simp only [List.length_drop, List.length_take]; rfl)) ?_; (with_reducible refine (civil_Weekday.calls kj54 (wrap64 ((wrap64 (1 + (wrap64 (Int.tmod a0 2958464)))) - 1462)) 1 t187 t188 _ A72.out).mono ?_); rintro e w' ⟨rfl, ⟨nd, rfl⟩⟩; refine ⟨_, rfl, ?_⟩))
                              go_ret
                              exact ⟨by first | rfl | (simp [errW_none, errW_some] <;> rfl) | (simp [*, errW_none, errW_some] <;> rfl), by repeat (first | (with_reducible first | exact HB.out | apply below_alloc | apply pw_below_drewN | apply below_drew1 | refine below_set ?_ GE169.out | refine below_set ?_ GE174.out | refine below_set ?_ GE180.out | refine below_set ?_ GE186.out) | exact HB.out)⟩
                          · rw [if_neg c73] at H
                            have c73b0 : (t185 == (decide ((wrap64 (1 + (wrap64 (Int.tmod a0 2958464)))) ≥ 1462))) = false := by simpa using c73
                            (try (have c73b1 : decide (t185 = (decide ((wrap64 (1 + (wrap64 (Int.tmod a0 2958464)))) ≥ 1462))) = false := by simpa using c73))
                            (try (have c73b2 : (t185 == (decide ((wrap64 (1 + (wrap64 (Int.tmod a0 2958464)))) ≥ 1462))) = false := by simpa using c73))
                            (try (have c73b3 : ¬ (t185 = (decide ((wrap64 (1 + (wrap64 (Int.tmod a0 2958464)))) ≥ 1462))) := by simpa using c73))
                            clear c73
                            obtain rfl := Option.some.inj H
                            have hnb111 := NB174_169.out
                            have hnc111 := NB169_174.out
                            have hnb112 := NB174_180.out
                            have hnc112 := NB180_174.out
                            have hcz113_0 : wc.cell? ⟨gb174, 0, none⟩ = some (.int .i64 t170) := (blk_cell BK174.out 0).trans rfl
                            have hcz113_1 : wc.cell? ⟨gb174, 1, none⟩ = some (.int .i64 t171) := (blk_cell BK174.out 1).trans rfl
                            have hcz113_2 : wc.cell? ⟨gb174, 2, none⟩ = some (.int .i64 t172) := (blk_cell BK174.out 2).trans rfl
                            have hfz113_0 := blk_frozen BK174.out 0
                            have hfz113_1 := blk_frozen BK174.out 1
                            have hfz113_2 := blk_frozen BK174.out 2
                            have hnb114 := NB180_169.out
                            have hnc114 := NB169_180.out
                            have hcz115_0 : wc.cell? ⟨gb180, 0, none⟩ = some (.int .i64 x181000_54) := (blk_cell BK180.out 0).trans rfl
                            have hcz115_1 : wc.cell? ⟨gb180, 1, none⟩ = some (.int .i64 x181001_54) := (blk_cell BK180.out 1).trans rfl
                            have hcz115_2 : wc.cell? ⟨gb180, 2, none⟩ = some (.int .i64 x181002_44) := (blk_cell BK180.out 2).trans rfl
                            have hfz115_0 := blk_frozen BK180.out 0
                            have hfz115_1 := blk_frozen BK180.out 1
                            have hfz115_2 := blk_frozen BK180.out 2
                            go_wp2_with (first | ((with_reducible refine gate_callee (f := 8) rfl ?_); refine goesL_ (some 110) rfl rfl Try.func8 (by kernel_rfl) rfl #[.int .i64 (wrap64 ((wrap64 (1 + (wrap64 (Int.tmod a0 2958464)))) - 1462)), .int .i64 1] rfl (by (try simp only [List.map_toArray, List.map_cons, List.map_nil]); first | done | rfl | (simp only [List.length_drop, List.length_take]; rfl)) ?_; (with_reducible refine (civil_Of.calls kj54 (wrap64 ((wrap64 (1 + (wrap64 (Int.tmod a0 2958464)))) - 1462)) 1 t182 t183 t184 t185 _ A71.out).mono ?_); rintro e w116 ⟨rfl, hb⟩; refine ⟨_, rfl, ?_⟩; have n0_ := Aside0.mk (blk_below (g := gb169) (o := .cells #[.int .i64 t165, .int .i64 t166, .int .i64 t167] 24 (0, 0)) (by (with_reducible repeat (first | refine blk_drewN ?_ _ | refine blk_drew ?_ | refine blk_alloc ?_ _)); exact BK169.out) hb); have n1_ := Aside0.mk (blk_below (g := gb174) (o := .cells #[.int .i64 t170, .int .i64 t171, .int .i64 t172] 24 (0, 0)) (by (with_reducible repeat (first | refine blk_drewN ?_ _ | refine blk_drew ?_ | refine blk_alloc ?_ _)); exact BK174.out) hb); have n2_ := Aside0.mk (blk_below (g := gb180) (o := .cells #[.int .i64 x181000_54, .int .i64 x181001_54, .int .i64 x181002_44] 24 (0, 0)) (by (with_reducible repeat (first | refine blk_drewN ?_ _ | refine blk_drew ?_ | refine blk_alloc ?_ _)); exact BK180.out) hb); have n3_ := Aside0.mk (below_step (by repeat (first | (with_reducible first | exact HB.out | apply below_alloc | apply pw_below_drewN | apply below_drew1 | refine below_set ?_ GE169.out | refine below_set ?_ GE174.out | refine below_set ?_ GE180.out) | exact HB.out)) hb); clear BK169; clear BK174; clear BK180; clear HB; have BK169 := n0_; have BK174 := n1_; have BK180 := n2_; have HB := n3_; clear n0_ n1_ n2_ n3_; (try clear hb); (try clear hb2); (try clear hk); (try clear hi)) | ((with_reducible refine gate_dst (N := 14) rfl ?_); refine box_event ?hg (N := 14) ?hd (cs := #[.int .i64 0, .int .i64 0, .int .i64 0]) (t := 24) ?hr ?_; (case hd => rfl); (case hg => rfl); (case hr => first | (go_simp; done) | (go_simp; rfl)); intro gb186 hg w117 hbox hb; have n0_ := Aside0.mk (blk_below (g := gb169) (o := .cells #[.int .i64 t165, .int .i64 t166, .int .i64 t167] 24 (0, 0)) (by (with_reducible repeat (first | refine blk_drewN ?_ _ | refine blk_drew ?_ | refine blk_alloc ?_ _)); exact BK169.out) hb); have n1_ := Aside0.mk (blk_below (g := gb174) (o := .cells #[.int .i64 t170, .int .i64 t171, .int .i64 t172] 24 (0, 0)) (by (with_reducible repeat (first | refine blk_drewN ?_ _ | refine blk_drew ?_ | refine blk_alloc ?_ _)); exact BK174.out) hb); have n2_ := Aside0.mk (blk_below (g := gb180) (o := .cells #[.int .i64 x181000_54, .int .i64 x181001_54, .int .i64 x181002_44] 24 (0, 0)) (by (with_reducible repeat (first | refine blk_drewN ?_ _ | refine blk_drew ?_ | refine blk_alloc ?_ _)); exact BK180.out) hb); have n3_ := Aside0.mk (below_step (by repeat (first | (with_reducible first | exact HB.out | apply below_alloc | apply pw_below_drewN | apply below_drew1 | refine below_set ?_ GE169.out | refine below_set ?_ GE174.out | refine below_set ?_ GE180.out) | exact HB.out)) hb); have n4_ := Aside0.mk (hbox); have n5_ := Aside0.mk ((by rw [hg]; exact (below_size (by repeat (first | (with_reducible first | exact HB.out | apply below_alloc | apply pw_below_drewN | apply below_drew1 | refine below_set ?_ GE169.out | refine below_set ?_ GE174.out | refine below_set ?_ GE180.out) | exact HB.out))) : w.heap.size ≤ gb186)); have n6_ := Aside0.mk ((by rw [hg]; exact (below_size (by repeat (first | (with_reducible first | exact HB.out | apply below_alloc | apply pw_below_drewN | apply below_drew1 | refine below_set ?_ GE169.out | refine below_set ?_ GE174.out | refine below_set ?_ GE180.out) | exact HB.out))) : w.heap.size ≤ gb186)); have n7_ := Aside0.mk ((by rw [hg]; exact Nat.ne_of_lt (blk_lt (g := gb169) (o := .cells #[.int .i64 t165, .int .i64 t166, .int .i64 t167] 24 (0, 0)) (by (with_reducible repeat (first | refine blk_drewN ?_ _ | refine blk_drew ?_ | refine blk_alloc ?_ _)); exact BK169.out)) : gb169 ≠ gb186)); have n8_ := Aside0.mk ((by rw [hg]; exact Nat.ne_of_gt (blk_lt (g := gb169) (o := .cells #[.int .i64 t165, .int .i64 t166, .int .i64 t167] 24 (0, 0)) (by (with_reducible repeat (first | refine blk_drewN ?_ _ | refine blk_drew ?_ | refine blk_alloc ?_ _)); exact BK169.out)) : gb186 ≠ gb169)); have n9_ := Aside0.mk ((by rw [hg]; exact Nat.ne_of_lt (blk_lt (g := gb174) (o := .cells #[.int .i64 t170, .int .i64 t171, .int .i64 t172] 24 (0, 0)) (by (with_reducible repeat (first | refine blk_drewN ?_ _ | refine blk_drew ?_ | refine blk_alloc ?_ _)); exact BK174.out)) : gb174 ≠ gb186)); have n10_ := Aside0.mk ((by rw [hg]; exact Nat.ne_of_gt (blk_lt (g := gb174) (o := .cells #[.int .i64 t170, .int .i64 t171, .int .i64 t172] 24 (0, 0)) (by (with_reducible repeat (first | refine blk_drewN ?_ _ | refine blk_drew ?_ | refine blk_alloc ?_ _)); exact BK174.out)) : gb186 ≠ gb174)); have n11_ := Aside0.mk ((by rw [hg]; exact Nat.ne_of_lt (blk_lt (g := gb180) (o := .cells #[.int .i64 x181000_54, .int .i64 x181001_54, .int .i64 x181002_44] 24 (0, 0)) (by (with_reducible repeat (first | refine blk_drewN ?_ _ | refine blk_drew ?_ | refine blk_alloc ?_ _)); exact BK180.out)) : gb180 ≠ gb186)); have n12_ := Aside0.mk ((by rw [hg]; exact Nat.ne_of_gt (blk_lt (g := gb180) (o := .cells #[.int .i64 x181000_54, .int .i64 x181001_54, .int .i64 x181002_44] 24 (0, 0)) (by (with_reducible repeat (first | refine blk_drewN ?_ _ | refine blk_drew ?_ | refine blk_alloc ?_ _)); exact BK180.out)) : gb186 ≠ gb180)); clear BK169; clear BK174; clear BK180; clear HB; have BK169 := n0_; have BK174 := n1_; have BK180 := n2_; have HB := n3_; have BK186 := n4_; have GW186 := n5_; have GE186 := n6_; have NB169_186 := n7_; have NB186_169 := n8_; have NB174_186 := n9_; have NB186_174 := n10_; have NB180_186 := n11_; have NB186_180 := n12_; clear n0_ n1_ n2_ n3_ n4_ n5_ n6_ n7_ n8_ n9_ n10_ n11_ n12_; clear hb hbox hg; have hnb118 := NB186_169.out; have hnc118 := NB169_186.out; have hnb119 := NB186_174.out; have hnc119 := NB174_186.out; have hnb120 := NB186_180.out; have hnc120 := NB180_186.out; have hcz121_0 : w117.cell? ⟨gb186, 0, none⟩ = some (.int .i64 0) := (blk_cell BK186.out 0).trans rfl; have hcz121_1 : w117.cell? ⟨gb186, 1, none⟩ = some (.int .i64 0) := (blk_cell BK186.out 1).trans rfl; have hcz121_2 : w117.cell? ⟨gb186, 2, none⟩ = some (.int .i64 0) := (blk_cell BK186.out 2).trans rfl; have hfz121_0 := blk_frozen BK186.out 0; have hfz121_1 := blk_frozen BK186.out 1; have hfz121_2 := blk_frozen BK186.out 2) | ((with_reducible refine gate_callee (f := 10) rfl ?_); refine goesL_ (some 116) rfl rfl Try.func10 (by kernel_rfl) rfl #[.int .i64 (wrap64 ((wrap64 (1 + (wrap64 (Int.tmod a0 2958464)))) - 1462)), .int .i64 1] rfl (by (try simp only [List.map_toArray, List.map_cons, List.map_nil]); first | done | rfl | (simp only [List.length_drop, List.length_take]; rfl)) ?_; (with_reducible refine (civil_Weekday.calls kj54 (wrap64 ((wrap64 (1 + (wrap64 (Int.tmod a0 2958464)))) - 1462)) 1 t187 t188 _ A72.out).mono ?_); rintro e w' ⟨rfl, ⟨nd, rfl⟩⟩; refine ⟨_, rfl, ?_⟩))
                            go_ret
                            exact ⟨by first | rfl | (simp [errW_none, errW_some] <;> rfl) | (simp [*, errW_none, errW_some] <;> rfl), by repeat (first | (with_reducible first | exact HB.out | apply below_alloc | apply pw_below_drewN | apply below_drew1 | refine below_set ?_ GE169.out | refine below_set ?_ GE174.out | refine below_set ?_ GE180.out | refine below_set ?_ GE186.out) | exact HB.out)⟩

/-- THE ONE PURE STATEMENT of numerarylaw24_CivilNext: yours. -/
def numerarylaw24_CivilNext.Pure : Prop := ∀ (a0 : Int), (Lit.int .u32 a0).wf = true → ∃ k, numerarylaw24_CivilNext.f k a0 = some true
theorem numerarylaw24_CivilNext.walk (P : numerarylaw24_CivilNext.Pure) (a0 : Int) (w : World) (w0 : (Lit.int .u32 a0).wf = true) :
    Calls Try.prog 6 #[.int .u32 a0] w fun e w' => e = .returned (.bool true) ∧ Below w.heap.size w w' := by
  obtain ⟨k, h⟩ := P a0 w0
  refine (numerarylaw24_CivilNext.calls k a0 true w h).mono ?_
  rintro e w' ⟨rfl, hd⟩
  exact ⟨rfl, hd⟩

end Go.Proofs.Ytncgfmbogdhgbaa.PCivilNext
