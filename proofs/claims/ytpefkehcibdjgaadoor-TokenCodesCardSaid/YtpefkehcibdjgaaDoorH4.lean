/- Proved here: the contracts of strings.IndexByte and strings.Repeat as the printed texts ask for them, out of the kit's. -/
import Derived.Test.YtpefkehcibdjgaaDoorH0
import Derived.Test.YtpefkehcibdjgaaDoorHT
namespace Go.Proofs.YtpefkehcibdjgaaDoor.H
open Go.RowKit Go.Proofs.YtpefkehcibdjgaaDoorW.PrintWords Go.Proofs.YtpefkehcibdjgaaDoorW.PrintLast Go.Proofs.YtpefkehcibdjgaaDoorW.PrintMore
theorem u8_beq (b : UInt8) (c : Int) (h0 : 0 ≤ c) (h1 : c ≤ 255) : ((b.toNat : Int) == c) = (b == c.toNat.toUInt8) := by
  rw [Bool.eq_iff_iff, beq_iff_eq, beq_iff_eq]
  constructor
  · intro h
    subst h
    simp
  · intro h
    subst h
    show (((UInt8.ofNat c.toNat).toNat : Nat) : Int) = c
    rw [UInt8.toNat_ofNat']
    omega
theorem indexP_eq (l : List UInt8) (c : Int) (h0 : 0 ≤ c) (h1 : c ≤ 255) : indexP l c = Lib.indexByte l c.toNat.toUInt8 := by
  induction l with
  | nil => rfl
  | cons b l ih =>
    have hge := Lib.indexByte_ge l c.toNat.toUInt8
    unfold Lib.indexByte
    rw [← ih, ← u8_beq b c h0 h1]
    unfold indexP
    rw [List.findIdx?_cons]
    cases hb : ((b.toNat : Int) == c) with
    | true => rfl
    | false =>
      simp only [Bool.false_eq_true, if_false]
      cases hf : l.findIdx? (fun b => (b.toNat : Int) == c) with
      | none => rfl
      | some i =>
        have : (((i : Int) == -1) = true) = False := by first | (simp; done) | (simp; omega)
        simp only [Option.map_some, this, if_false]
        first | rfl | omega
theorem strings_IndexByte.calls (a0 : ByteArray) (a1 : Int) (r : Int) (w : World) (h : strings_IndexByte.f a0 a1 = some r) :
    Calls Tryd.prog 47 #[.string a0, .int .u8 a1] w fun e w' => e = .returned (.int .i64 r) ∧ Drawn0 w w' := by
  unfold strings_IndexByte.f at h
  split at h
  · rename_i hc
    have hr : indexP a0.data.toList a1 = r := Option.some.inj h
    subst hr
    rw [indexP_eq _ _ hc.2.1 hc.2.2]
    refine (Tryd.strings_IndexByte a0 a1 w).mono ?_
    rintro e w' ⟨rfl, rfl⟩
    exact ⟨rfl, Drawn0.refl _⟩
  · cases h
theorem strings_Repeat.calls (a0 : ByteArray) (a1 : Int) (r : ByteArray) (w : World) (h : strings_Repeat.f a0 a1 = some r) :
    Calls Tryd.prog 26 #[.string a0, .int .i64 a1] w fun e w' => e = .returned (.string r) ∧ Below w.heap.size w w' := by
  unfold strings_Repeat.f at h
  split at h
  · rename_i hc
    have hr : repeatP a0 a1.toNat = r := Option.some.inj h
    subst hr
    have e : a1 = ((a1.toNat : Nat) : Int) := by omega
    have hm : a0.size * a1.toNat ≤ 1073741824 * 4096 := Nat.mul_le_mul hc.2.2 (by omega)
    have hk := Tryd.strings_Repeat a0 a1.toNat w (by omega) (by omega)
    rw [← e] at hk
    exact hk
  · cases h
end Go.Proofs.YtpefkehcibdjgaaDoor.H
