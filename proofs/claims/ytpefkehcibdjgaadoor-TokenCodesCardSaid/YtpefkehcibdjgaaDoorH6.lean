/- Proved here: the contract of numeraryref11.low: a text's letters small, byte by byte in a row of its own. -/
import Derived.Test.YtpefkehcibdjgaaDoorH0
import Derived.KernelRfl
import Derived.RowKit3
import Derived.WalkKit
import Derived.Deep.QuietTactic
import Derived.BigQuiet
import Derived.Lib.ConvBytes
import Derived.Lib.AtoiErrMem
import Derived.Lib.Walk
import Derived.Lib.Strings
import Derived.Lib.Hide
import Derived.Lib.Builder
set_option linter.unusedVariables false
namespace Go.Proofs.YtpefkehcibdjgaaDoor.H
open Go.RowKit Go.Proofs.YtpefkehcibdjgaaDoorW.PrintWords Go.Proofs.YtpefkehcibdjgaaDoorW.PrintLast Go.Proofs.YtpefkehcibdjgaaDoorW.PrintMore
def lowI (c : Int) : Int := if 65 ≤ c ∧ c ≤ 90 then c + 32 else c
def numsL (s : ByteArray) : List Int := s.data.toList.map (fun b => (b.toNat : Int))
def xsAt (s : ByteArray) (i : Nat) : List Int := ((numsL s).take i).map lowI ++ (numsL s).drop i
theorem numsL_len (s : ByteArray) : (numsL s).length = s.size := by unfold numsL; rw [List.length_map, Lib.size_eq]
theorem xsAt_len (s : ByteArray) (i : Nat) : (xsAt s i).length = s.size := by
  unfold xsAt; rw [List.length_append, List.length_map, List.length_take, List.length_drop, numsL_len]; omega
theorem numsL_at (s : ByteArray) (i : Nat) (h : i < s.size) : (numsL s).getD i 0 = ((s.data.toList.getD i 0).toNat : Int) := by
  have hl : i < s.data.toList.length := by rw [← Lib.size_eq]; exact h
  unfold numsL
  simp [List.getD, List.getElem?_eq_getElem hl]
theorem xsAt_zero (s : ByteArray) (j : Nat) (h : j < s.size) : (xsAt s 0).getD j 0 = ((s.data.toList.getD j 0).toNat : Int) := by
  rw [← numsL_at s j h]; rfl
theorem xsAt_at (s : ByteArray) (i j : Nat) (h : j < s.size) : (xsAt s i).getD j 0 = if j < i then lowI ((s.data.toList.getD j 0).toNat : Int) else ((s.data.toList.getD j 0).toNat : Int) := by
  rw [← numsL_at s j h]
  have hl : j < (numsL s).length := by rw [numsL_len]; exact h
  unfold xsAt
  simp only [List.getD_eq_getElem?_getD]
  by_cases hj : j < i
  · rw [if_pos hj, List.getElem?_append_left (by rw [List.length_map, List.length_take]; omega), List.getElem?_map, List.getElem?_take, if_pos hj, List.getElem?_eq_getElem hl]
    rfl
  · rw [if_neg hj, List.getElem?_append_right (by rw [List.length_map, List.length_take]; omega), List.length_map, List.length_take, List.getElem?_drop]
    congr 2
    omega
/-- the row of bytes, letters small up to i -/
structure LowRow (w0 : World) (s : ByteArray) (i : Nat) (w : World) : Prop where
  row : ∃ cur N, w.heap[w0.heap.size]? = some (.cells cur 5 (N, N + 1)) ∧ cur.size = N ∧ s.size ≤ N ∧ ∀ j, j < s.size → cur[j]? = some (.int .u8 ((xsAt s i).getD j 0))
  below : Below w0.heap.size w0 w
theorem LowRow.start (w0 : World) (s : ByteArray) : LowRow w0 s 0 (Lib.bytesWorld w0 5 s) := by
  refine ⟨⟨Lib.bytesCells w0 5 s, _, Lib.bytesWorld_at_new w0 5 s, rfl, ?_, fun j hj => ?_⟩, Lib.bytesWorld_below w0 5 s⟩
  · simp [Lib.bytesCells]
  · have h1 := Lib.bytesWorld_cell w0 5 s j hj
    rw [Lib.cell_of_heap (Lib.bytesWorld_at_new w0 5 s)] at h1
    rw [h1, xsAt_zero s j hj]
theorem LowRow.cell {w0 : World} {s : ByteArray} {i : Nat} {w : World} (h : LowRow w0 s i w) (j : Nat) (hj : j < s.size) : w.cell? ⟨w0.heap.size, j, none⟩ = some (.int .u8 ((xsAt s i).getD j 0)) := by
  obtain ⟨cur, N, hb, -, -, hc⟩ := h.row
  rw [Lib.cell_of_heap hb]; exact hc j hj
theorem LowRow.thaw {w0 : World} {s : ByteArray} {i : Nat} {w : World} (h : LowRow w0 s i w) (j : Nat) (hj : j < s.size) : w.frozen? ⟨w0.heap.size, j, none⟩ = false := by
  obtain ⟨cur, N, hb, -, hN, -⟩ := h.row
  simp [World.frozen?, hb]
  omega
theorem LowRow.keep {w0 : World} {s : ByteArray} {i : Nat} {w : World} (h : LowRow w0 s i w) (hi : i < s.size) (hn : lowI ((s.data.toList.getD i 0).toNat : Int) = ((s.data.toList.getD i 0).toNat : Int)) : LowRow w0 s (i + 1) w := by
  obtain ⟨cur, N, hb, hN, hsN, hc⟩ := h.row
  refine ⟨⟨cur, N, hb, hN, hsN, fun j hj => ?_⟩, h.below⟩
  rw [hc j hj, xsAt_at s i j hj, xsAt_at s (i + 1) j hj]
  by_cases e : j = i
  · subst e; rw [if_neg (by omega), if_pos (by omega), hn]
  · by_cases l : j < i
    · rw [if_pos l, if_pos (by omega)]
    · rw [if_neg l, if_neg (by omega)]
theorem LowRow.set {w0 : World} {s : ByteArray} {i : Nat} {w : World} (h : LowRow w0 s i w) (hi : i < s.size) (x : Int) (hn : lowI ((s.data.toList.getD i 0).toNat : Int) = x) : LowRow w0 s (i + 1) (w.setCell ⟨w0.heap.size, i, none⟩ (.int .u8 x)) := by
  obtain ⟨cur, N, hb, hN, hsN, hc⟩ := h.row
  have hb2 : (w.setCell ⟨w0.heap.size, i, none⟩ (.int .u8 x)).heap[w0.heap.size]? = some (.cells (cur.setIfInBounds i (.int .u8 x)) 5 (N, N + 1)) := by
    simp [World.setCell, Array.getElem?_modify, hb]
  refine ⟨⟨_, N, hb2, by simp [hN], hsN, fun j hj => ?_⟩, h.below.setCell (p := ⟨w0.heap.size, i, none⟩) (Nat.le_refl _) _⟩
  rw [xsAt_at s (i + 1) j hj]
  by_cases e : j = i
  · subst e
    rw [if_pos (by omega), hn]
    have hlt : j < cur.size := by omega
    simp [hlt]
  · have := hc j hj
    rw [xsAt_at s i j hj] at this
    rw [Array.getElem?_setIfInBounds_ne (by omega), this]
    by_cases l : j < i
    · rw [if_pos l, if_pos (by omega)]
    · rw [if_neg l, if_neg (by omega)]
theorem LowRow.reads {w0 : World} {s : ByteArray} {i : Nat} {w : World} (h : LowRow w0 s i w) (hs : s.size ≤ big) : ReadsInt w .u8 (some ⟨w0.heap.size, 0, none⟩) s.size (xsAt s i) :=
  ⟨xsAt_len s i, by unfold big at hs; omega, fun _ => ⟨_, rfl, fun j hj => by
    have := h.cell j hj
    by_cases j0 : j = 0
    · subst j0; exact this
    · simpa [Addr.add, j0] using this⟩⟩
theorem low_walk (s : ByteArray) (w : World) (hs : s.size ≤ big) :
    Calls Tryd.prog 53 #[.string s] w fun e w' => e = .returned (.string (strOfNums (xsAt s s.size))) ∧ Below w.heap.size w w' := by
  have hs2 : s.size ≤ 70368744177664 := hs
  have hcv := fun (t : ByteArray) => Lib.run_convert_string_bytes (P := Tryd.prog) w 9 42 5 t (u := .string) Tryd.underlying9 Tryd.underlying42 Tryd.underlying5
  have R0 := Lib.hid (LowRow.start w s)
  have HS := Lib.hid hs
  clear hs
  go_enter Tryd.func53, Tryd.ntmps53
  go_wp2
  obtain ⟨W1, hW1⟩ : ∃ W1, W1 = Lib.bytesWorld w 5 s := ⟨_, rfl⟩
  rw [← hW1] at R0 ⊢
  clear hW1 hcv
  obtain ⟨cap, hcap⟩ : ∃ cap, cap = grownCap w s.size 0 5 := ⟨_, rfl⟩
  rw [← hcap]
  clear hcap
  go_loopg [4] s.size (fun gk x4 wx => ∃ i : Nat, x4 = .int .i64 i ∧ i ≤ s.size ∧ s.size ≤ i + gk ∧ Hid (LowRow w s i wx))
  case atStart => exact ⟨0, rfl, Nat.zero_le _, by omega, R0⟩
  case round =>
    obtain ⟨i, rfl, hi, hfu, HR⟩ := hrel
    by_cases hlt : i < s.size
    · obtain ⟨g', rfl⟩ : ∃ g', gk = g' + 1 := ⟨gk - 1, by omega⟩
      have hc := HR.out.cell i hlt
      have hf := HR.out.thaw i hlt
      have hx := xsAt_at s i i hlt
      rw [if_neg (by omega)] at hx
      rw [hx] at hc
      have hbd : ((s.data.toList.getD i 0).toNat : Int) ≤ 255 := by have := (s.data.toList.getD i 0).toNat_lt; omega
      have HX : Hid (∀ x, lowI ((s.data.toList.getD i 0).toNat : Int) = x → LowRow w s (i + 1) (wr.setCell ⟨w.heap.size, i, none⟩ (.int .u8 x))) := Lib.hid (fun x hx => HR.out.set hlt x hx)
      have HK : Hid (lowI ((s.data.toList.getD i 0).toNat : Int) = ((s.data.toList.getD i 0).toNat : Int) → LowRow w s (i + 1) wr) := Lib.hid (fun hn => HR.out.keep hlt hn)
      clear hx
      generalize ((s.data.toList.getD i 0).toNat : Int) = c at hc hbd HX HK
      by_cases h1 : 65 ≤ c
      · by_cases h2 : c ≤ 90
        · have hl : lowI c = c + 32 := by unfold lowI; rw [if_pos ⟨h1, h2⟩]
          have hm : (c + 32) % 256 = c + 32 := by omega
          have HN := Lib.hid (HX.out (c + 32) hl)
          clear HX HK hl
          go_wp2
          go_roundg g'
          case measure => omega
          case rel => exact ⟨i + 1, by go_num, by omega, by omega, HN⟩
        · have HN := Lib.hid (HK.out (by unfold lowI; rw [if_neg (by omega)]))
          clear HX HK
          go_wp2
          go_roundg g'
          case measure => omega
          case rel => exact ⟨i + 1, by go_num, by omega, by omega, HN⟩
      · have HN := Lib.hid (HK.out (by unfold lowI; rw [if_neg (by omega)]))
        clear HX HK
        go_wp2
        go_roundg g'
        case measure => omega
        case rel => exact ⟨i + 1, by go_num, by omega, by omega, HN⟩
    · obtain rfl : i = s.size := by omega
      have hst : (convert 42 9 (.slice (some ⟨w.heap.size, 0, none⟩) s.size cap)).run Tryd.prog wr = .ok (.string (strOfNums (xsAt s s.size))) wr :=
        string_of_reads Tryd.underlying42 Tryd.underlying5 Tryd.underlying9 (HR.out.reads HS.out)
      go_wp2
      go_ret
      exact ⟨rfl, HR.out.below⟩
theorem low_str (s : ByteArray) : strOfNums (xsAt s s.size) = lowP s := by
  unfold strOfNums xsAt lowP
  have e1 : (numsL s).drop s.size = [] := List.drop_of_length_le (by rw [numsL_len]; omega)
  have e2 : (numsL s).take s.size = numsL s := List.take_of_length_le (by rw [numsL_len]; omega)
  rw [e1, e2, List.append_nil]
  unfold numsL
  rw [List.map_map, List.map_map]
  congr 2
  apply List.map_congr_left
  intro b _
  show UInt8.ofNat (lowI (b.toNat : Int)).toNat = _
  unfold lowI
  have hb := b.toNat_lt
  by_cases h : 65 ≤ b.toNat ∧ b.toNat ≤ 90
  · rw [if_pos (by omega), if_pos h]
    apply UInt8.toNat_inj.1
    rw [UInt8.toNat_ofNat', UInt8.toNat_add]
    show _ = (b.toNat + 32) % 256
    omega
  · rw [if_neg (by omega), if_neg h]
    simp
theorem numeraryref11_low.calls (a0 : ByteArray) (r : ByteArray) (w : World) (h : numeraryref11_low.f a0 = some r) :
    Calls Tryd.prog 53 #[.string a0] w fun e w' => e = .returned (.string r) ∧ Below w.heap.size w w' := by
  unfold numeraryref11_low.f at h
  split at h
  · have hr : lowP a0 = r := Option.some.inj h
    subst hr
    rw [← low_str]
    exact low_walk a0 w (by assumption)
  · cases h
end Go.Proofs.YtpefkehcibdjgaaDoor.H
