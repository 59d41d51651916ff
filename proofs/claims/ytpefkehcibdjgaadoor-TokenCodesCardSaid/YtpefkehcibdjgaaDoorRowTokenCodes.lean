/- Proved here: the tied card of the law TokenCodes: over every token as plain data, where the library's tables lie as the row lists them; nothing further is asked. The tables' reading is turned from the kit's worked example PindigProofs, the opening of a struct parameter by the kit's Joins. -/
import Derived.Test.YtpefkehcibdjgaaDoorGM
import Derived.Test.YtpefkehcibdjgaaDoorHL
import Derived.Test.YtpefkehcibdjgaaDoorHD
import Derived.Test.YtpefkehcibdjgaaDoorCards
import Derived.Test.YtpefkehcibdjgaaDoorTie
import Derived.PinnedBridge
import Derived.Lay
import Derived.LaidOnce
import Derived.SevenTiedAt
import Derived.Lib.LaidU8T
import Derived.Lib.LaidTab
import Derived.Lib.SmallJoins
import Derived.Test.YtpefkehcibdjgaaDoorRows
import Derived.WalkKit
import Derived.ProofKit
import Derived.OpenShut
import Derived.ShutString
import Derived.ChangeOld
import Derived.Below
import Derived.SizedLaws
namespace Go.Proofs.YtpefkehcibdjgaaDoor.tokenCodes
open Go.ChangeShapes Go.WideShapes Go.ChangeAt Go.RowKit Go.Joins
open Go.ChangeMaps (open_string shut_string)
open Go.Shelf Go.Lib Go.Proofs.YtpefkehcibdjgaaDoor.H
set_option linter.unusedVariables false
theorem own : ownKnob Tryd.prog.godebug = none := by kernel_rfl
set_option maxRecDepth 100000 in
theorem lifted (os : Os) (started : os.Started) (H : Type) (enc : TypeId × Value → H) :
    ReturnsInHanded {} Tryd.checked os 11 .any (fun w args => (Rows.tokenCodesSpec.pre enc Tryd.prog Tryd.f11 [] false w args ∧ laidMetH Tryd.prog Rows.tokenCodesRow.laid w) ∧ sizedMet enc Tryd.prog Tryd.f11 (OpenSpec.ofChange Rows.tokenCodesSpec) false w args)
      (Rows.tokenCodesSpec.post enc Tryd.prog Tryd.f11 false true false false) := by
  refine returnsInHanded_of_change_and (C := Tryd.checked) (X := fun w _ => laidMetH Tryd.prog Rows.tokenCodesRow.laid w) (fun _ _ _ hh h => h.of_heap hh) own started (by kernel_rfl) Tryd.func11
    (ChangeSpec.witness_shaped (enc := enc) (C := Tryd.checked) (os := os) (X := fun w _ => laidMetH Tryd.prog Rows.tokenCodesRow.laid w) false (World.laidAll Tryd.prog os Rows.tokenCodesRow.laid) #[.agg #[.int .u8 0, .string ByteArray.empty, .int .i64 0, .int .i64 0]] 8 (World.laidAll_os _ _ _)
      (World.shaped_of_ZipB (by kernel_rfl) (by kernel_rfl)) (by kernel_rfl) (by kernel_rfl) (by kernel_rfl)
      (by rw [MakeChecks.laidMetH_plain _ _ _ (by kernel_rfl)]; exact laidMet_laidAll _ (by kernel_rfl) (by kernel_rfl))) ?_
  intro W base args ds gs before hval0 hW hcnd hsz0 hL _
  have hval : ∀ (j : Nat) t v, Tryd.f11.params[j]? = some t → args[j]? = some v → Value.okWide Tryd.prog W .any base t v := hval0
  have hW' := hW
  obtain ⟨p, q, hA0, hV, rfl, hfz, hnd⟩ := hW
  have hA : DataW.TrodAll enc Tryd.prog W 0 (fun _ => true) true Tryd.f11.params.toList args.toList ds p := hA0
  rw [Tryd.params11] at hA hval
  obtain ⟨v0, vs0, d0, ds0, p0, q0, hargs, rfl, rfl, h0, r0⟩ := trodAll_cons hA
  obtain ⟨rfl, rfl, rfl⟩ := trodAll_nil r0
  obtain rfl : args = #[v0] := by cases args; simp_all
  obtain ⟨rfl, rfl⟩ := trodVars_none hV
  obtain ⟨c0, c1, c2, c3, y0, y1, y2, y3, m, rfl, rfl, rfl, hy0, hy1, hy2, hy3⟩ := open_agg4 Tryd.underlying52 (by kernel_rfl) (by kernel_rfl) (hval 0 52 v0 rfl rfl) h0
  have hs0 := hy0; have hs1 := hy1; have hs2 := hy2; have hs3 := hy3
  obtain ⟨a0, e0, rfl, w0⟩ := DataW.trod_int Tryd.underlying5 hy0
  obtain ⟨a1, e1, rfl, w1⟩ := DataW.trod_string Tryd.underlying9 hy1
  obtain ⟨a2, e2, rfl, w2⟩ := DataW.trod_int Tryd.underlying3 hy2
  obtain ⟨a3, e3, rfl, w3⟩ := DataW.trod_int Tryd.underlying3 hy3
  simp at e0 e1 e2 e3
  subst e0 e1 e2 e3
  clear hA0 hval0 hsz0
  rw [MakeChecks.laidMetH_plain _ _ _ (by kernel_rfl)] at hL
  have hLd : Laid W := laid_of hL (.head _) (.tail _ (.head _)) (.tail _ (.tail _ (.tail _ (.tail _ (.head _)))))
  clear hL
  obtain ⟨k, h⟩ := T.codes_pure a0 a1 a2 a3
  refine (QTcd.numerarylaw11_TokenCodes.calls k a0 a1 a2 a3 true W h hLd).mono fun e W' ⟨he, bel⟩ => ?_
  subst he
  exact ⟨_, rfl, _, _, _, [], _, [], hW', trodAll_mk1 (shut_bool Tryd.underlying4 _), (trodAll_cons_mk (shut_agg4 Tryd.underlying52 (by kernel_rfl) (by kernel_rfl) (field_of_Trod (shut_int Tryd.underlying5 w0) rfl) (field_of_Trod (shut_string Tryd.underlying9 w1) rfl) (field_of_Trod (shut_int Tryd.underlying3 w2) rfl) (field_of_Trod (shut_int Tryd.underlying3 w3) rfl)) trodAll_mk0), rfl, bel.frame _, fun h => by cases h⟩
theorem over : Rows.tokenCodesRow.holds Tryd.pinned (OpenSpec.ofChange Rows.tokenCodesSpec) :=
  OpenClaim.holds_of_wide 11 Tryd.f11 rfl rfl rfl rfl rfl rfl rfl ⟨rfl, rfl, rfl, rfl, rfl⟩ rfl rfl rfl rfl rfl (by kernel_rfl) Tryd.func11 (by kernel_rfl)
    (of_decide_eq_true (by kernel_rfl)) (by unfold Func.isWrapper; first | (rw [if_pos (by decide +kernel)]; kernel_rfl) | (rw [if_neg (by decide +kernel)]; exact ⟨rfl, rfl⟩))
    (fun os started H enc _ => lifted os started H enc)
theorem card : Rows.TokenCodesCardSaid :=
  Claim7.holds_tied_plain_at .later [] [.data, .data, .data, .pinned, .pinned] true (true, "4a45266a99a75b8822e5129e22a111fc600e6500d8c51b3751f963a193702cfe") false over (fun _ h => by cases h) (by kernel_rfl) (fun _ h => by cases h) tokenCodes_row_tie rfl ⟨rfl, rfl⟩ (by kernel_rfl) rfl
    (fun f fn hf hfn => by
      obtain rfl : f = 11 := Option.some.inj ((show Tryd.prog.funcNamed "numerary/numerarylaw11.TokenCodes" = some 11 by kernel_rfl).symm.trans hf) |>.symm
      obtain rfl : fn = Tryd.f11 := (Option.some.inj (Tryd.func11.symm.trans hfn)).symm
      exact ⟨by kernel_rfl, fun j t ht => by
        rw [Tryd.params11] at ht
        have hm : t ∈ [52] := by simpa using Array.mem_of_getElem? ht
        have hall : ([52].all fun u => !Tryd.prog.wantsStandIn u) = true := by kernel_rfl
        exact (show Tryd.prog.wantsStandIn t = false by simpa using List.all_eq_true.1 hall t hm)⟩)
    (by kernel_rfl)
end Go.Proofs.YtpefkehcibdjgaaDoor.tokenCodes
namespace Go.Proofs.YtpefkehcibdjgaaDoor
/-- The card, under a short name, for the claim. -/
theorem tokenCodes_holds : Rows.TokenCodesCardSaid := tokenCodes.card
end Go.Proofs.YtpefkehcibdjgaaDoor
