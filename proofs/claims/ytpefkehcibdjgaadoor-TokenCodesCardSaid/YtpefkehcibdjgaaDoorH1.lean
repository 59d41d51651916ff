/- Proved here: runes.First returns what 'firstP' says, at every text of at most 2^46 bytes; runes.lead tells a first byte's bits at 0 to 4. -/
import Derived.Test.YtpefkehcibdjgaaDoorH0
import Derived.WalkKit
import Derived.KernelRfl
import Derived.RowKit3
import Derived.Deep.QuietTactic
import Derived.BigQuiet
import Derived.Laws.BitsLemmas
import Derived.Lib.ConvBytes
import Derived.Lib.AtoiErrMem
import Derived.Lib.Walk
import Derived.Lib.Strings
import Derived.Lib.Hide
import Derived.Test.YtpefkehcibdjgaaDoorAWidx1
namespace Go.Proofs.YtpefkehcibdjgaaDoor.H
open Go.RowKit Go.Proofs.YtpefkehcibdjgaaDoorW.PrintWords Go.Proofs.YtpefkehcibdjgaaDoorW.PrintLast Go.Proofs.YtpefkehcibdjgaaDoorW.PrintMore
open Go.Proofs.YtpefkehcibdjgaaDoor.AWid (runes_width.f runes_width.l0)
/-- how many bytes a first byte tells, and its own bits -/
structure LongIs (c n v : Int) : Prop where
  is : (c < 128 ∧ n = 1 ∧ v = c) ∨ (128 ≤ c ∧ c / 32 = 6 ∧ n = 2 ∧ v = c % 32) ∨ (128 ≤ c ∧ c / 32 ≠ 6 ∧ c / 16 = 14 ∧ n = 3 ∧ v = c % 16) ∨ (128 ≤ c ∧ c / 32 ≠ 6 ∧ c / 16 ≠ 14 ∧ c / 8 = 30 ∧ n = 4 ∧ v = c % 8) ∨ (128 ≤ c ∧ c / 32 ≠ 6 ∧ c / 16 ≠ 14 ∧ c / 8 ≠ 30 ∧ n = 0 ∧ v = 0)
theorem long_is (c : Int) : ∃ n v, LongIs c n v := by
  by_cases h1 : c < 128
  · exact ⟨1, c, ⟨.inl ⟨h1, rfl, rfl⟩⟩⟩
  · by_cases h2 : c / 32 = 6
    · exact ⟨2, c % 32, ⟨.inr (.inl ⟨by omega, h2, rfl, rfl⟩)⟩⟩
    · by_cases h3 : c / 16 = 14
      · exact ⟨3, c % 16, ⟨.inr (.inr (.inl ⟨by omega, h2, h3, rfl, rfl⟩))⟩⟩
      · by_cases h4 : c / 8 = 30
        · exact ⟨4, c % 8, ⟨.inr (.inr (.inr (.inl ⟨by omega, h2, h3, h4, rfl, rfl⟩)))⟩⟩
        · exact ⟨0, 0, ⟨.inr (.inr (.inr (.inr ⟨by omega, h2, h3, h4, rfl, rfl⟩)))⟩⟩
theorem long_calls (c n v : Int) (w : World) (h0 : 0 ≤ c) (h1 : c ≤ 255) (h : LongIs c n v) :
    Calls Tryd.prog 33 #[.int .u8 c] w fun e w' => e = .returned (.tuple #[.int .i64 n, .int .i64 v]) ∧ w = w' := by
  rcases h with ⟨h⟩
  rcases h with ⟨a, rfl, rfl⟩ | ⟨a, b, rfl, rfl⟩ | ⟨a, b, d, rfl, rfl⟩ | ⟨a, b, d, e, rfl, rfl⟩ | ⟨a, b, d, e, rfl, rfl⟩
  · go_enter Tryd.func33, Tryd.ntmps33
    go_wp2
    go_ret2
    exact ⟨rfl, rfl⟩
  · have b1 : (c / 32 == 6) = true := beq_iff_eq.2 b
    clear b
    go_enter Tryd.func33, Tryd.ntmps33
    go_wp2
    go_ret2
    exact ⟨rfl, rfl⟩
  · have b1 : (c / 32 == 6) = false := beq_eq_false_iff_ne.2 b
    have d1 : (c / 16 == 14) = true := beq_iff_eq.2 d
    clear b d
    go_enter Tryd.func33, Tryd.ntmps33
    go_wp2
    go_ret2
    exact ⟨rfl, rfl⟩
  · have b1 : (c / 32 == 6) = false := beq_eq_false_iff_ne.2 b
    have d1 : (c / 16 == 14) = false := beq_eq_false_iff_ne.2 d
    have e1 : (c / 8 == 30) = true := beq_iff_eq.2 e
    clear b d e
    go_enter Tryd.func33, Tryd.ntmps33
    go_wp2
    go_ret2
    exact ⟨rfl, rfl⟩
  · have b1 : (c / 32 == 6) = false := beq_eq_false_iff_ne.2 b
    have d1 : (c / 16 == 14) = false := beq_eq_false_iff_ne.2 d
    have e1 : (c / 8 == 30) = false := beq_eq_false_iff_ne.2 e
    clear b d e
    go_enter Tryd.func33, Tryd.ntmps33
    go_wp2
    go_ret2
    exact ⟨rfl, rfl⟩
/-- is a number a sign? -/
def isB (v : Int) : Bool := decide (0 ≤ v ∧ v ≤ 1114111 ∧ (v < 55296 ∨ 57343 < v))
def widthI (v : Int) : Int := if v < 128 then 1 else if v < 2048 then 2 else if v < 65536 then 3 else 4
theorem is_calls (v : Int) (w : World) : Calls Tryd.prog 30 #[.int .i64 v] w fun e w' => e = .returned (.bool (isB v)) ∧ w = w' := by
  by_cases h1 : 0 ≤ v
  · by_cases h2 : v ≤ 1114111
    · by_cases h3 : v < 55296
      · have hr : isB v = true := by unfold isB; rw [decide_eq_true_eq]; omega
        rw [hr]
        go_enter Tryd.func30, Tryd.ntmps30
        go_wp2
        go_ret
        exact ⟨rfl, rfl⟩
      · by_cases h4 : 57343 < v
        · have hr : isB v = true := by unfold isB; rw [decide_eq_true_eq]; omega
          rw [hr]
          go_enter Tryd.func30, Tryd.ntmps30
          go_wp2
          go_ret
          exact ⟨rfl, rfl⟩
        · have hr : isB v = false := by unfold isB; rw [decide_eq_false_iff_not]; omega
          rw [hr]
          go_enter Tryd.func30, Tryd.ntmps30
          go_wp2
          go_ret
          exact ⟨rfl, rfl⟩
    · have hr : isB v = false := by unfold isB; rw [decide_eq_false_iff_not]; omega
      rw [hr]
      go_enter Tryd.func30, Tryd.ntmps30
      go_wp2
      go_ret
      exact ⟨rfl, rfl⟩
  · have hr : isB v = false := by unfold isB; rw [decide_eq_false_iff_not]; omega
    rw [hr]
    go_enter Tryd.func30, Tryd.ntmps30
    go_wp2
    go_ret
    exact ⟨rfl, rfl⟩
theorem width_ev (v : Int) : runes_width.f 5 v = some (widthI v) := by
  have w2 : wrap64 (1 + 1) = 2 := by unfold wrap64; omega
  have w3 : wrap64 (2 + 1) = 3 := by unfold wrap64; omega
  have w4 : wrap64 (3 + 1) = 4 := by unfold wrap64; omega
  have a1 : wrap64 (0 + 1) = 1 := by unfold wrap64; omega
  have r0 : rd [128, 2048, 65536] 0 = 128 := rfl
  have r1 : rd [128, 2048, 65536] 1 = 2048 := rfl
  have r2 : rd [128, 2048, 65536] 2 = 65536 := rfl
  have e : ∀ (q : Nat) (x i : Int), runes_width.l0 (q + 1) v x [128, 2048, 65536] 3 i = if i < 3 then (if 0 ≤ i then (if i < 3 then (if v ≥ (rd [128, 2048, 65536] i) then (runes_width.l0 q v (wrap64 (x + 1)) [128, 2048, 65536] 3 (wrap64 (i + 1))) else (runes_width.l0 q v x [128, 2048, 65536] 3 (wrap64 (i + 1)))) else (none)) else (none)) else (some x) := fun _ _ _ => rfl
  show runes_width.l0 5 v 1 [128, 2048, 65536] 3 0 = _
  unfold widthI
  rw [e, if_pos (by omega), if_pos (by omega), if_pos (by omega), r0, a1, w2]
  by_cases h1 : v < 128
  · rw [if_neg (by omega), e, if_pos (by omega), if_pos (by omega), if_pos (by omega), r1, w2, if_neg (by omega), e, if_pos (by omega), if_pos (by omega), if_pos (by omega), r2, w2, w3, if_neg (by omega), e, if_neg (by omega), if_pos h1]
  · rw [if_pos (by omega), e, if_pos (by omega), if_pos (by omega), if_pos (by omega), r1, w2, w3, if_neg h1]
    by_cases h2 : v < 2048
    · rw [if_neg (by omega), e, if_pos (by omega), if_pos (by omega), if_pos (by omega), r2, w3, if_neg (by omega), e, if_neg (by omega), if_pos h2]
    · rw [if_pos (by omega), e, if_pos (by omega), if_pos (by omega), if_pos (by omega), r2, w3, w4, if_neg h2]
      by_cases h3 : v < 65536
      · rw [if_neg (by omega), e, if_neg (by omega), if_pos h3]
      · rw [if_pos (by omega), e, if_neg (by omega), if_neg h3]
theorem width_calls (v : Int) (w : World) : Calls Tryd.prog 31 #[.int .i64 v] w fun e w' => e = .returned (.int .i64 (widthI v)) ∧ Below w.heap.size w w' :=
  AWid.runes_width.calls 5 v (widthI v) w (width_ev v)
theorem lead_any (a0 : Int) (r : Int) (w : World) (h : runes_lead.f a0 = some r) : Calls Tryd.prog 32 #[.int .i64 a0] w fun e w' => e = .returned (.int .u8 r) ∧ w = w' := by
  unfold runes_lead.f at h
  have k0 : ∀ w, (Instr.index 88 (.agg #[.int .u8 0, .int .u8 0, .int .u8 192, .int .u8 224, .int .u8 240]) (.int .i64 0)).run Tryd.prog w = .ok (.int .u8 0) w := fun _ => by kernel_rfl
  have k1 : ∀ w, (Instr.index 88 (.agg #[.int .u8 0, .int .u8 0, .int .u8 192, .int .u8 224, .int .u8 240]) (.int .i64 1)).run Tryd.prog w = .ok (.int .u8 0) w := fun _ => by kernel_rfl
  have k2 : ∀ w, (Instr.index 88 (.agg #[.int .u8 0, .int .u8 0, .int .u8 192, .int .u8 224, .int .u8 240]) (.int .i64 2)).run Tryd.prog w = .ok (.int .u8 192) w := fun _ => by kernel_rfl
  have k3 : ∀ w, (Instr.index 88 (.agg #[.int .u8 0, .int .u8 0, .int .u8 192, .int .u8 224, .int .u8 240]) (.int .i64 3)).run Tryd.prog w = .ok (.int .u8 224) w := fun _ => by kernel_rfl
  have k4 : ∀ w, (Instr.index 88 (.agg #[.int .u8 0, .int .u8 0, .int .u8 192, .int .u8 224, .int .u8 240]) (.int .i64 4)).run Tryd.prog w = .ok (.int .u8 240) w := fun _ => by kernel_rfl
  by_cases h0 : a0 = 0
  · subst h0; simp at h; subst h
    go_enter Tryd.func32, Tryd.ntmps32
    go_wp2
    go_ret
    exact ⟨rfl, rfl⟩
  · by_cases h1 : a0 = 1
    · subst h1; simp at h; subst h
      go_enter Tryd.func32, Tryd.ntmps32
      go_wp2
      go_ret
      exact ⟨rfl, rfl⟩
    · by_cases h2 : a0 = 2
      · subst h2; simp at h; subst h
        go_enter Tryd.func32, Tryd.ntmps32
        go_wp2
        go_ret
        exact ⟨rfl, rfl⟩
      · by_cases h3 : a0 = 3
        · subst h3; simp at h; subst h
          go_enter Tryd.func32, Tryd.ntmps32
          go_wp2
          go_ret
          exact ⟨rfl, rfl⟩
        · by_cases h4 : a0 = 4
          · subst h4; simp at h; subst h
            go_enter Tryd.func32, Tryd.ntmps32
            go_wp2
            go_ret
            exact ⟨rfl, rfl⟩
          · rw [if_neg (by omega), if_neg h2, if_neg h3, if_neg h4] at h
            cases h
/-- the sign that so many further bytes give -/
def sgn (s : ByteArray) (v : Int) : Nat → Int
  | 0 => v
  | i + 1 => sgn s v i * 64 + bt s (i + 1 : Nat) % 64
theorem bt_nn (s : ByteArray) (i : Int) : 0 ≤ bt s i ∧ bt s i ≤ 255 := by
  unfold bt; split
  · have := (s[i.toNat]).toNat_lt; omega
  · omega
theorem sgn_bd (s : ByteArray) (v : Int) (h0 : 0 ≤ v) (h1 : v ≤ 127) : ∀ i, 0 ≤ sgn s v i ∧ sgn s v i < 128 * 64 ^ i
  | 0 => by simp [sgn]; omega
  | i + 1 => by
    have := sgn_bd s v h0 h1 i
    have e : (128 : Int) * 64 ^ (i + 1) = 128 * 64 ^ i * 64 := by rw [Int.pow_succ]; omega
    rw [e]; simp only [sgn]; omega
theorem or_join (x y : Int) (h0 : 0 ≤ x) (h1 : x % 64 = 0) (h2 : x < 4294967296) (h3 : 0 ≤ y) (h4 : y < 64) : bits .or .i64 x y = x + y :=
  bits_join .i64 62 (by decide) (fun n h0 h1 => by rw [IntKind.wrap_i64]; omega) 6 x y h0 h1 (by omega) h3 h4 (by omega)
theorem toList_ne (s : ByteArray) (h0 : 0 < s.size) : (s.toList == []) = false := by
  rw [Lib.toList_data]
  cases h : s.data.toList with
  | nil => have := Lib.size_eq s; rw [h] at this; simp at this; rw [this] at h0; exact absurd h0 (by simp)
  | cons _ _ => rfl
theorem first_byte (s : ByteArray) (h0 : 0 < s.size) : (s[0].toNat : Int) = bt s 0 := by
  unfold bt; rw [dif_pos (by simpa using h0)]; rfl
theorem part_cell (s : ByteArray) (w : World) (n : Nat) (hn : n ≤ s.size) (j : Nat) (hj : j < n - 1) : (Lib.bytesWorld w 5 (s.extract 1 n)).cell? ⟨w.heap.size, j, none⟩ = some (.int .u8 (bt s (j + 1 : Nat))) := by
  have hsz : (s.extract 1 n).size = n - 1 := by rw [ByteArray.size_extract]; omega
  rw [Lib.bytesWorld_cell w 5 _ j (by rw [hsz]; exact hj)]
  congr 2
  have : (s.extract 1 n).data.toList.getD j 0 = s[j + 1]'(by omega) := by
    rw [Lib.extract_data, List.getD_eq_getElem?_getD, List.getElem?_take, if_pos hj, List.getElem?_drop, Nat.add_comm 1 j, Lib.data_getElem? s (j + 1) (by omega)]
    rfl
  rw [this]
  unfold bt
  rw [dif_pos (by simp; omega)]
  simp
theorem firstP_short (s : ByteArray) (h0 : 0 < s.size) (n v : Int) (hL : LongIs (bt s 0) n v) (hn : n = 0 ∨ s.size < n) : firstP s = (0, 0, false) := by
  unfold firstP
  dsimp only
  rcases hL with ⟨⟨a, rfl, rfl⟩ | ⟨a, b, rfl, rfl⟩ | ⟨a, b, d, rfl, rfl⟩ | ⟨a, b, d, e, rfl, rfl⟩ | ⟨a, b, d, e, rfl, rfl⟩⟩
  · omega
  · rw [if_neg (by omega), if_neg (by omega), if_neg (by omega), if_neg (by omega), if_neg (by omega)]
  · rw [if_neg (by omega), if_neg (by omega), if_neg (by omega), if_neg (by omega), if_neg (by omega)]
  · rw [if_neg (by omega), if_neg (by omega), if_neg (by omega), if_neg (by omega), if_neg (by omega)]
  · rw [if_neg (by omega), if_neg (by omega), if_neg (by omega), if_neg (by omega), if_neg (by omega)]
theorem firstP_bad (s : ByteArray) (h0 : 0 < s.size) (n v : Int) (hL : LongIs (bt s 0) n v) (m : Nat) (hm : n = m + 1) (j : Nat) (hj : j < m) (hb : bt s (j + 1 : Nat) / 64 ≠ 2) : firstP s = (0, 0, false) := by
  unfold firstP
  dsimp only
  rcases hL with ⟨⟨a, hn, hv⟩ | ⟨a, b, hn, hv⟩ | ⟨a, b, d, hn, hv⟩ | ⟨a, b, d, e, hn, hv⟩ | ⟨a, b, d, e, hn, hv⟩⟩
  · omega
  · obtain rfl : j = 0 := by omega
    have hb' : bt s 1 / 64 ≠ 2 := hb
    rw [if_neg (by omega), if_neg (by omega), if_neg (by omega), if_neg (by omega), if_neg (by omega)]
  · have hb' : bt s 1 / 64 ≠ 2 ∨ bt s 2 / 64 ≠ 2 := by
      have : j = 0 ∨ j = 1 := by omega
      rcases this with rfl | rfl
      · exact .inl hb
      · exact .inr hb
    rw [if_neg (by omega), if_neg (by omega), if_neg (by omega), if_neg (by omega), if_neg (by omega)]
  · have hb' : bt s 1 / 64 ≠ 2 ∨ bt s 2 / 64 ≠ 2 ∨ bt s 3 / 64 ≠ 2 := by
      have : j = 0 ∨ j = 1 ∨ j = 2 := by omega
      rcases this with rfl | rfl | rfl
      · exact .inl hb
      · exact .inr (.inl hb)
      · exact .inr (.inr hb)
    rw [if_neg (by omega), if_neg (by omega), if_neg (by omega), if_neg (by omega), if_neg (by omega)]
  · omega
theorem widthI_1 {v : Int} (h : v < 128) : widthI v = 1 := by unfold widthI; rw [if_pos h]
theorem widthI_cases (v : Int) : (v < 128 ∧ widthI v = 1) ∨ (128 ≤ v ∧ v < 2048 ∧ widthI v = 2) ∨ (2048 ≤ v ∧ v < 65536 ∧ widthI v = 3) ∨ (65536 ≤ v ∧ widthI v = 4) := by
  unfold widthI
  by_cases h1 : v < 128
  · exact .inl ⟨h1, if_pos h1⟩
  · by_cases h2 : v < 2048
    · exact .inr (.inl ⟨by omega, h2, by rw [if_neg h1, if_pos h2]⟩)
    · by_cases h3 : v < 65536
      · exact .inr (.inr (.inl ⟨by omega, h3, by rw [if_neg h1, if_neg h2, if_pos h3]⟩))
      · exact .inr (.inr (.inr ⟨by omega, by rw [if_neg h1, if_neg h2, if_neg h3]⟩))
theorem isB_iff (v : Int) : isB v = true ↔ 0 ≤ v ∧ v ≤ 1114111 ∧ (v < 55296 ∨ 57343 < v) := by unfold isB; rw [decide_eq_true_eq]
theorem sgn_1 (s : ByteArray) (v : Int) : sgn s v 1 = v * 64 + bt s 1 % 64 := rfl
theorem sgn_2 (s : ByteArray) (v : Int) : sgn s v 2 = (v * 64 + bt s 1 % 64) * 64 + bt s 2 % 64 := rfl
theorem sgn_3 (s : ByteArray) (v : Int) : sgn s v 3 = ((v * 64 + bt s 1 % 64) * 64 + bt s 2 % 64) * 64 + bt s 3 % 64 := rfl
theorem firstP_good (s : ByteArray) (h0 : 0 < s.size) (n v : Int) (hL : LongIs (bt s 0) n v) (m : Nat) (hm : n = m + 1) (hn : n ≤ s.size) (hc : ∀ j, j < m → bt s (j + 1 : Nat) / 64 = 2) :
    firstP s = if isB (sgn s v m) = true ∧ widthI (sgn s v m) = n then (sgn s v m, n, true) else (0, 0, false) := by
  have n0 := bt_nn s 0; have n1 := bt_nn s 1; have n2 := bt_nn s 2; have n3 := bt_nn s 3
  simp only [isB_iff]
  have hw := widthI_cases (sgn s v m)
  unfold firstP
  dsimp only
  rcases hL with ⟨⟨a, rfl, hv⟩ | ⟨a, b, rfl, hv⟩ | ⟨a, b, d, rfl, hv⟩ | ⟨a, b, d, e, rfl, hv⟩ | ⟨a, b, d, e, rfl, hv⟩⟩
  · obtain rfl : m = 0 := by omega
    have e0 : sgn s v 0 = v := rfl
    rw [e0] at hw ⊢
    rw [if_neg (by omega), if_pos a, if_pos (by omega), hv]
  · obtain rfl : m = 1 := by omega
    have c1 : bt s 1 / 64 = 2 := hc 0 (by omega)
    rw [sgn_1] at hw ⊢
    rw [if_neg (by omega), if_neg (by omega)]
    subst hv
    by_cases hx : 128 ≤ bt s 0 % 32 * 64 + bt s 1 % 64
    · rw [if_pos (by omega), if_pos (by omega)]
    · rw [if_neg (by omega), if_neg (by omega), if_neg (by omega), if_neg (by omega)]
  · obtain rfl : m = 2 := by omega
    have c1 : bt s 1 / 64 = 2 := hc 0 (by omega)
    have c2 : bt s 2 / 64 = 2 := hc 1 (by omega)
    rw [sgn_2] at hw ⊢
    rw [if_neg (by omega), if_neg (by omega), if_neg (by omega)]
    subst hv
    have e1 : (bt s 0 % 16 * 64 + bt s 1 % 64) * 64 + bt s 2 % 64 = bt s 0 % 16 * 4096 + bt s 1 % 64 * 64 + bt s 2 % 64 := by omega
    rw [e1] at hw ⊢
    by_cases hx : 2048 ≤ bt s 0 % 16 * 4096 + bt s 1 % 64 * 64 + bt s 2 % 64 ∧ (bt s 0 % 16 * 4096 + bt s 1 % 64 * 64 + bt s 2 % 64 < 55296 ∨ 57343 < bt s 0 % 16 * 4096 + bt s 1 % 64 * 64 + bt s 2 % 64)
    · rw [if_pos (by omega), if_pos (by omega)]
    · rw [if_neg (by omega), if_neg (by omega), if_neg (by omega)]
  · obtain rfl : m = 3 := by omega
    have c1 : bt s 1 / 64 = 2 := hc 0 (by omega)
    have c2 : bt s 2 / 64 = 2 := hc 1 (by omega)
    have c3 : bt s 3 / 64 = 2 := hc 2 (by omega)
    rw [sgn_3] at hw ⊢
    rw [if_neg (by omega), if_neg (by omega), if_neg (by omega), if_neg (by omega)]
    subst hv
    have e1 : ((bt s 0 % 8 * 64 + bt s 1 % 64) * 64 + bt s 2 % 64) * 64 + bt s 3 % 64 = bt s 0 % 8 * 262144 + bt s 1 % 64 * 4096 + bt s 2 % 64 * 64 + bt s 3 % 64 := by omega
    rw [e1] at hw ⊢
    by_cases hx : 65536 ≤ bt s 0 % 8 * 262144 + bt s 1 % 64 * 4096 + bt s 2 % 64 * 64 + bt s 3 % 64 ∧ bt s 0 % 8 * 262144 + bt s 1 % 64 * 4096 + bt s 2 % 64 * 64 + bt s 3 % 64 ≤ 1114111
    · rw [if_pos (by omega), if_pos (by omega)]
    · rw [if_neg (by omega), if_neg (by omega)]
  · omega
theorem First_long (s : ByteArray) (w : World) (h0 : 0 < s.size) (n v : Int) (hL : LongIs (bt s 0) n v) (hn : 1 ≤ n) (hn4 : n ≤ 4) (hn2 : n ≤ s.size) (hv : 0 ≤ v ∧ v ≤ 127) (r1 r2 : Int) (r3 : Bool) (hr : firstP s = (r1, r2, r3)) :
    Calls Tryd.prog 19 #[.string s] w fun e w' => e = .returned (.tuple #[.int .i64 r1, .int .i64 r2, .bool r3]) ∧ Below w.heap.size w w' := by
  have hne := toList_ne s h0
  have hcv := fun (t : ByteArray) => Lib.run_convert_string_bytes (P := Tryd.prog) w 9 42 5 t (u := .string) Tryd.underlying9 Tryd.underlying42 Tryd.underlying5
  have hz : (n == 0) = false := by simp; omega
  have hB0 := part_cell s w n.toNat (by omega)
  have HBW := Lib.hid (Lib.bytesWorld_below w 5 (s.extract 1 n.toNat))
  have HR := Lib.hid hr
  have HL := Lib.hid hL
  have HF := Lib.hid (first_byte s h0)
  clear hr hL
  go_enter Tryd.func19, Tryd.ntmps19
  go_wp2_with fail
  refine (long_calls _ n v _ (by omega) (by have := s[0].toNat_lt; omega) (by rw [HF.out]; exact HL.out)).mono ?_
  rintro e w' ⟨rfl, rfl⟩
  go_wp2_with fail
  obtain ⟨W1, hW1⟩ : ∃ W1, W1 = Lib.bytesWorld w 5 (s.extract 1 n.toNat) := ⟨_, rfl⟩
  rw [← hW1] at hB0 HBW ⊢
  clear hW1 hcv
  obtain ⟨m, hm⟩ : ∃ m, m = n.toNat - 1 := ⟨_, rfl⟩
  rw [← hm] at hB0 ⊢
  have Hm : Hid (n = m + 1) := Lib.hid (by omega)
  have hm3 : m ≤ 3 := by omega
  clear hm
  go_loop [6, 30] (fun x i => ∃ k : Nat, k ≤ m ∧ i = .int .i64 k ∧ x = .int .i64 (sgn s v k) ∧ Hid (∀ j, j < k → bt s (j + 1 : Nat) / 64 = 2)) (fun _ i => m - (intOf i).toNat)
  case atStart => exact ⟨0, Nat.zero_le _, rfl, rfl, Lib.hid (fun j hj => by omega)⟩
  case round =>
    obtain ⟨k, hk, rfl, rfl, Hk⟩ := hrel
    have sb := sgn_bd s v hv.1 hv.2 k
    have sb2 : (128 : Int) * 64 ^ k ≤ 33554432 := by
      have : k = 0 ∨ k = 1 ∨ k = 2 ∨ k = 3 := by omega
      rcases this with rfl | rfl | rfl | rfl <;> decide
    have sb3 : sgn s v k < 33554432 := by omega
    have sb0 := sb.1
    have HS : Hid (sgn s v (k + 1) = sgn s v k * 64 + bt s (k + 1 : Nat) % 64) := Lib.hid rfl
    clear sb sb2
    by_cases hlt : k < m
    · have hc := hB0 k hlt
      clear hB0
      have b1 := bt_nn s (k + 1 : Nat)
      by_cases hb : bt s (k + 1 : Nat) / 64 = 2
      · have Hk1 : Hid (∀ j, j < k + 1 → bt s (j + 1 : Nat) / 64 = 2) := Lib.hid (fun j hj => by
          by_cases e : j = k
          · subst e; exact hb
          · exact Hk.out j (by omega))
        generalize bt s (k + 1 : Nat) = c at hc b1 hb HS
        generalize sgn s v k = x at sb3 sb0 HS
        have hor := or_join (x * 64) (c % 64) (by omega) (by omega) (by omega) (by omega) (by omega)
        have hb1 : (c / 64 == 2) = true := beq_iff_eq.2 hb
        have hb2 : (c / 64 != 2) = false := by rw [bne_eq_false_iff_eq]; exact hb
        clear hb
        go_wp2
        exact ⟨⟨k + 1, by omega, by go_num, by rw [HS.out], Hk1⟩, by simp [intOf]; omega⟩
      · have hP := firstP_bad s h0 n v HL.out m Hm.out k hlt hb
        rw [HR.out] at hP
        simp only [Prod.mk.injEq] at hP
        obtain ⟨rfl, rfl, rfl⟩ := hP
        generalize bt s (k + 1 : Nat) = c at hc b1 hb HS
        generalize sgn s v k = x at sb3 sb0 HS
        have hb1 : (c / 64 == 2) = false := beq_eq_false_iff_ne.2 hb
        have hb2 : (c / 64 != 2) = true := by rw [bne_iff_ne]; exact hb
        clear hb
        go_wp2
        go_ret3
        exact ⟨rfl, HBW.out⟩
    · obtain rfl : k = m := by omega
      have hP := firstP_good s h0 n v HL.out k Hm.out hn2 Hk.out
      rw [HR.out] at hP
      have HP := Lib.hid hP
      clear hP
      generalize sgn s v k = x at sb3 sb0 HP
      cases hi : isB x with
      | false =>
        have hP := HP.out
        rw [if_neg (by rw [hi]; simp)] at hP
        simp only [Prod.mk.injEq] at hP
        obtain ⟨rfl, rfl, rfl⟩ := hP
        go_wp2_with fail
        refine (is_calls x _).mono ?_
        rintro e w' ⟨rfl, rfl⟩
        rw [hi]
        go_wp2
        go_ret3
        exact ⟨rfl, HBW.out⟩
      | true =>
        by_cases hw : widthI x = n
        · have hP := HP.out
          rw [if_pos ⟨hi, hw⟩] at hP
          simp only [Prod.mk.injEq] at hP
          obtain ⟨rfl, rfl, rfl⟩ := hP
          have hw2 : (widthI r1 != r2) = false := by rw [bne_eq_false_iff_eq]; exact hw
          have HW := Lib.hid hw
          clear hw
          go_wp2_with fail
          refine (is_calls r1 _).mono ?_
          rintro e w' ⟨rfl, rfl⟩
          rw [hi]
          go_wp2_with fail
          refine (width_calls r1 _).mono ?_
          rintro e w' ⟨rfl, hb⟩
          go_wp2
          go_ret3
          exact ⟨rfl, HBW.out.trans (hb.mono HBW.out.size)⟩
        · have hP := HP.out
          rw [if_neg (fun h => hw h.2)] at hP
          simp only [Prod.mk.injEq] at hP
          obtain ⟨rfl, rfl, rfl⟩ := hP
          have hw2 : (widthI x != n) = true := by rw [bne_iff_ne]; exact hw
          clear hw
          go_wp2_with fail
          refine (is_calls x _).mono ?_
          rintro e w' ⟨rfl, rfl⟩
          rw [hi]
          go_wp2_with fail
          refine (width_calls x _).mono ?_
          rintro e w' ⟨rfl, hb⟩
          go_wp2
          go_ret3
          exact ⟨rfl, HBW.out.trans (hb.mono HBW.out.size)⟩
end Go.Proofs.YtpefkehcibdjgaaDoor.H
