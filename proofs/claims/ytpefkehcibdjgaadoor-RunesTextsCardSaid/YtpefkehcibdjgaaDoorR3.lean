/- Proved here: the printed form of the law RunesTexts answers true at every input of its kinds; no further condition. -/
import Derived.Test.YtpefkehcibdjgaaDoorQRunx2
import Derived.Test.YtpefkehcibdjgaaDoorR2
namespace Go.Proofs.YtpefkehcibdjgaaDoor.R
open Go.RowKit Go.Proofs.YtpefkehcibdjgaaDoor.QRun Go.Proofs.YtpefkehcibdjgaaDoorW.PrintWords Go.Proofs.YtpefkehcibdjgaaDoorW.PrintLast Go.Proofs.YtpefkehcibdjgaaDoorW.PrintMore Go.Proofs.YtpefkehcibdjgaaDoor.H Go.Lib
theorem texts_round (a : List Int) (i : Int) (hi0 : 0 ≤ i) (hi : i < (a.length : Int)) (hl : a.length = 2) (r : Bool)
    (h : Ev (fun q => numerarylaw01_RunesTexts.l0 q a (a.length : Int) (i + 1)) r) : Ev (fun q => numerarylaw01_RunesTexts.l0 q a (a.length : Int) i) r := by
  refine Ev.step (f := fun k => (runes_Text.f k (rd a i)).bind fun bt151 => ((numeraryref01_Is.f (rd a i)).bind fun t153 => (if (bt151.2 != t153) = true then (some false) else (if bt151.2 = true then ((numeraryref01_Text.f (rd a i)).bind fun t154 => (if bt151.1.toList = t154.toList then (numerarylaw01_RunesTexts.l0 k a (a.length : Int) (i + 1)) else (some false))) else (if bt151.1.toList = ([] : List UInt8) then (numerarylaw01_RunesTexts.l0 k a (a.length : Int) (i + 1)) else (some false)))))) (fun k => ?_) ?_
  · show numerarylaw01_RunesTexts.l0 (k + 1) a (a.length : Int) i = _
    rw [numerarylaw01_RunesTexts.l0, if_pos hi, if_pos hi0, if_pos hi, w64 (i + 1) (by omega) (by omega)]
  refine Ev.bind (text_ev (rd a i)) ?_
  rw [ref_is]
  cases hb : isB (rd a i) with
  | true =>
    have hv := (isB_iff _).1 hb
    rw [ref_text _ hv.1 hv.2.1]
    exact Ev.congr (fun k => by simp) h
  | false =>
    have e : (⟨#[]⟩ : ByteArray).toList = [] := by rw [Lib.toList_data]
    exact Ev.congr (fun k => by simp [e]) h
theorem RunesTexts : numerarylaw01_RunesTexts.Pure := by
  intro n _
  refine Ev.rounds ?_
  refine Ev.congr (f := fun q => numerarylaw01_RunesTexts.l0 q [n, (mx 0 n) % 1179648] (([n, (mx 0 n) % 1179648] : List Int).length : Int) 0) (fun _ => rfl) ?_
  refine texts_round _ 0 (by omega) (by simp) rfl true (texts_round _ 1 (by omega) (by simp) rfl true ?_)
  refine Ev.step (f := fun q => (numerarylaw01_wakes.f q).bind fun t => some t) (fun q => ?_) (Ev.bind wakes_ev (Ev.now true))
  show numerarylaw01_RunesTexts.l0 (q + 1) _ _ (1 + 1) = _
  rw [numerarylaw01_RunesTexts.l0, if_neg (by simp)]
end Go.Proofs.YtpefkehcibdjgaaDoor.R
