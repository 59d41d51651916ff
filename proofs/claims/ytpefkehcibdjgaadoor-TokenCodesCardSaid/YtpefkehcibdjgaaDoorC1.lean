/- Proved here: what the document fixes of tokens ('wakes') holds; no further condition. -/
import Derived.Test.YtpefkehcibdjgaaDoorQTcdx5
import Derived.Test.YtpefkehcibdjgaaDoorR1
set_option linter.unusedVariables false
namespace Go.Proofs.YtpefkehcibdjgaaDoor.T
open Go.RowKit Go.Proofs.YtpefkehcibdjgaaDoor.QTcd Go.Proofs.YtpefkehcibdjgaaDoorW.PrintWords Go.Proofs.YtpefkehcibdjgaaDoorW.PrintLast Go.Proofs.YtpefkehcibdjgaaDoorW.PrintMore Go.Proofs.YtpefkehcibdjgaaDoor.H Go.Lib
theorem w64 (n : Int) (h1 : -9223372036854775808 ≤ n) (h2 : n ≤ 9223372036854775807) : wrap64 n = n := by unfold wrap64; omega
theorem k1 : token_All.f 20 ⟨#[35, 44, 35, 35, 48]⟩ = some ([⟨6, ⟨#[35]⟩, 1, 0⟩, ⟨8, ⟨#[44]⟩, 1, 1⟩, ⟨6, ⟨#[35]⟩, 1, 2⟩, ⟨6, ⟨#[35]⟩, 1, 3⟩, ⟨6, ⟨#[48]⟩, 1, 4⟩], 5, 0) := by kernel_rfl
theorem k2 : token_All.f 20 ⟨#[109, 109, 109, 34, 120, 34]⟩ = some ([⟨14, ⟨#[109]⟩, 3, 0⟩, ⟨1, ⟨#[120]⟩, 0, 3⟩], 6, 0) := by kernel_rfl
theorem k3 : token_All.f 20 ⟨#[48, 34, 97]⟩ = some ([], 3, 5) := by kernel_rfl
theorem k4 : token_All.f 20 ⟨#[34, 120, 34]⟩ = some ([⟨1, ⟨#[120]⟩, 0, 0⟩], 3, 0) := by kernel_rfl
theorem all_ev' {s : ByteArray} {k : Nat} {r : List S31 × Int × Int} (h : token_All.f k s = some r) : Ev (fun k => token_All.f k s) r := Ev.of (fun k => token_All.mono s k) h
theorem code_x : Ev (fun k => token_Token_Code.f k 1 ⟨#[120]⟩ 0 3) ⟨#[34, 120, 34]⟩ := by
  refine Ev.congr (f := fun k => token_Token_Code.j0 k ⟨#[34, 120, 34]⟩ 1 ⟨#[120]⟩ 0 3) (fun k => ?_) ?_
  · unfold token_Token_Code.f
    rw [if_pos rfl, if_pos (by decide), if_pos (by decide)]; rfl
  · refine Ev.step (f := fun k => (token_All.f k ⟨#[34, 120, 34]⟩).bind fun bt197 => (if bt197.2.2 = 0 then (if (bt197.1.length : Int) = 1 then (if 0 < (bt197.1.length : Int) then (if (!(((rd_T31 bt197.1 0).f0) == 1) || (!((((rd_T31 bt197.1 0).f1).toList) == (⟨#[120]⟩ : ByteArray).toList) || (!(((rd_T31 bt197.1 0).f2) == 0) || (!(((rd_T31 bt197.1 0).f3) == 0))))) = true then (some (⟨#[]⟩ : ByteArray)) else (some ⟨#[34, 120, 34]⟩)) else (none)) else (some (⟨#[]⟩ : ByteArray))) else (some (⟨#[]⟩ : ByteArray)))) (fun k => ?_) ?_
    · show token_Token_Code.j0 (k + 1) ⟨#[34, 120, 34]⟩ 1 ⟨#[120]⟩ 0 3 = _
      rw [token_Token_Code.j0]
    · refine Ev.bind (all_ev' k4) (Ev.congr (f := fun _ => some ⟨#[34, 120, 34]⟩) (fun k => ?_) (Ev.now _))
      rw [if_pos (by decide), if_pos (by decide), if_pos (by decide), if_neg]
      have e : (rd_T31 [(⟨1, ⟨#[120]⟩, 0, 0⟩ : S31)] 0) = ⟨1, ⟨#[120]⟩, 0, 0⟩ := rfl
      rw [e]
      simp
theorem wakes_ev : Ev (fun k => numerarylaw11_wakes.f k) true := by
  unfold numerarylaw11_wakes.f
  refine Ev.bind (f := fun k x => _) (all_ev' k1) ?_
  refine Ev.bind (f := fun k x => _) (all_ev' k2) ?_
  refine Ev.bind (f := fun k x => _) (all_ev' k3) ?_
  refine Ev.congr (f := fun k => (token_Token_Code.f k 1 ⟨#[120]⟩ 0 3).bind fun t222 => (some (t222.toList == ([34, 120, 34] : List UInt8)))) (fun k => ?_) ?_
  · have e : (rd_T31 [(⟨14, ⟨#[109]⟩, 3, 0⟩ : S31), ⟨1, ⟨#[120]⟩, 0, 3⟩] 1) = ⟨1, ⟨#[120]⟩, 0, 3⟩ := rfl
    have e2 : (⟨#[120]⟩ : ByteArray).toList = [120] := by rw [Lib.toList_data]
    rw [if_pos (by decide), if_pos (by decide), if_pos (by decide), if_pos (by decide), if_pos (by decide), if_pos (by decide), if_pos (by decide), if_pos (by decide), if_pos (by decide), if_pos (by decide), if_pos (by rw [e]; exact e2), if_pos (by decide), if_pos (by decide), e]
  · refine Ev.bind code_x ?_
    have : (⟨#[34, 120, 34]⟩ : ByteArray).toList = [34, 120, 34] := by rw [Lib.toList_data]
    refine Ev.congr (f := fun _ => some true) (fun k => ?_) (Ev.now _)
    rw [this]; rfl
end Go.Proofs.YtpefkehcibdjgaaDoor.T
