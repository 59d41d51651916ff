/- Proved here: the contracts of runes.First and runes.lead, as the printed texts ask for them. -/
import Derived.Test.YtpefkehcibdjgaaDoorH1
namespace Go.Proofs.YtpefkehcibdjgaaDoor.H
open Go.RowKit Go.Proofs.YtpefkehcibdjgaaDoorW.PrintWords Go.Proofs.YtpefkehcibdjgaaDoorW.PrintLast Go.Proofs.YtpefkehcibdjgaaDoorW.PrintMore
theorem runes_lead.calls (a0 : Int) (r : Int) (w : World) (h : runes_lead.f a0 = some r) :
    Calls Tryd.prog 32 #[.int .i64 a0] w fun e w' => e = .returned (.int .u8 r) ∧ Drawn0 w w' := by
  refine (lead_any a0 r w h).mono ?_
  rintro e w' ⟨rfl, rfl⟩
  exact ⟨rfl, Drawn0.refl _⟩
theorem First_empty (s : ByteArray) (w : World) (h0 : s.size = 0) (r1 r2 : Int) (r3 : Bool) (hr : firstP s = (r1, r2, r3)) :
    Calls Tryd.prog 19 #[.string s] w fun e w' => e = .returned (.tuple #[.int .i64 r1, .int .i64 r2, .bool r3]) ∧ Below w.heap.size w w' := by
  have e0 : firstP s = (0, 0, false) := by unfold firstP; dsimp only; rw [if_pos h0]
  rw [e0] at hr
  simp only [Prod.mk.injEq] at hr
  obtain ⟨rfl, rfl, rfl⟩ := hr
  have hl : (s.toList == []) = true := by
    rw [Lib.toList_data]
    have := Lib.size_eq s
    cases h : s.data.toList with
    | nil => rfl
    | cons a b => rw [h] at this; simp at this; omega
  go_enter Tryd.func19, Tryd.ntmps19
  go_wp2
  go_ret3
  exact ⟨rfl, Below.refl _ _⟩
theorem First_short (s : ByteArray) (w : World) (h0 : 0 < s.size) (n v : Int) (hL : LongIs (bt s 0) n v) (hn : n = 0 ∨ s.size < n) (r1 r2 : Int) (r3 : Bool) (hr : firstP s = (r1, r2, r3)) :
    Calls Tryd.prog 19 #[.string s] w fun e w' => e = .returned (.tuple #[.int .i64 r1, .int .i64 r2, .bool r3]) ∧ Below w.heap.size w w' := by
  rw [firstP_short s h0 n v hL hn] at hr
  simp only [Prod.mk.injEq] at hr
  obtain ⟨rfl, rfl, rfl⟩ := hr
  have hne := toList_ne s h0
  have HL := Lib.hid hL
  have HF := Lib.hid (first_byte s h0)
  clear hL
  by_cases hz : n = 0
  · subst hz
    go_enter Tryd.func19, Tryd.ntmps19
    go_wp2_with fail
    refine (long_calls _ 0 v _ (by omega) (by have := s[0].toNat_lt; omega) (by rw [HF.out]; exact HL.out)).mono ?_
    rintro e w' ⟨rfl, rfl⟩
    go_wp2
    go_ret3
    exact ⟨rfl, Below.refl _ _⟩
  · have hz1 : (n == 0) = false := by simp; exact hz
    have hn' : (s.size : Int) < n := by omega
    have hz2 : (decide ((s.size : Int) < n)) = true := decide_eq_true hn'
    go_enter Tryd.func19, Tryd.ntmps19
    go_wp2_with fail
    refine (long_calls _ n v _ (by omega) (by have := s[0].toNat_lt; omega) (by rw [HF.out]; exact HL.out)).mono ?_
    rintro e w' ⟨rfl, rfl⟩
    go_wp2
    go_ret3
    exact ⟨rfl, Below.refl _ _⟩
theorem runes_First.calls (a0 : ByteArray) (r1 : Int) (r2 : Int) (r3 : Bool) (w : World) (h : runes_First.f a0 = some (r1, r2, r3)) :
    Calls Tryd.prog 19 #[.string a0] w fun e w' => e = .returned (.tuple #[.int .i64 r1, .int .i64 r2, .bool r3]) ∧ Below w.heap.size w w' := by
  unfold runes_First.f at h
  split at h
  · have hr : firstP a0 = (r1, r2, r3) := Option.some.inj h
    by_cases h0 : a0.size = 0
    · exact First_empty a0 w h0 r1 r2 r3 hr
    · obtain ⟨n, v, hL⟩ := long_is (bt a0 0)
      have hb := bt_nn a0 0
      have hc : (0 ≤ n ∧ n ≤ 4) ∧ (0 ≤ v ∧ v ≤ 127) := by
        obtain ⟨hc⟩ := hL
        rcases hc with ⟨_, h1, h2⟩ | ⟨_, _, h1, h2⟩ | ⟨_, _, _, h1, h2⟩ | ⟨_, _, _, _, h1, h2⟩ | ⟨_, _, _, _, h1, h2⟩ <;> omega
      by_cases hs : n = 0 ∨ (a0.size : Int) < n
      · exact First_short a0 w (by omega) n v hL hs r1 r2 r3 hr
      · exact First_long a0 w (by omega) n v hL (by omega) (by omega) (by omega) hc.2 r1 r2 r3 hr
  · cases h
end Go.Proofs.YtpefkehcibdjgaaDoor.H
