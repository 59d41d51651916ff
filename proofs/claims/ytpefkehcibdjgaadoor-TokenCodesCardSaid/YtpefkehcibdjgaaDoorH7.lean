/- Proved here: strings.EqualFold at two texts that are one but for ASCII letters small or great (true); at a text and an ASCII text of as many bytes without k and s that differ otherwise (false); the contract of token.word. -/
import Derived.Test.YtpefkehcibdjgaaDoorH0
import Derived.Test.YtpefkehcibdjgaaDoorHL
import Derived.KernelRfl
import Derived.RowKit3
import Derived.WalkKit
import Derived.Deep.QuietTactic
import Derived.BigQuiet
import Derived.Lib.Walk
import Derived.Lib.Strings
import Derived.Lib.Hide
import Derived.Lib.MapLaws
import Derived.ScopeJumps
import Derived.WalkMore
import Derived.Deep.LoopGhost
import Derived.Deep.DeepCutAuto
import Derived.Deep.DeepFit
import Derived.Deep.DeepMust
set_option linter.unusedVariables false
namespace Go.Proofs.YtpefkehcibdjgaaDoor.H
open Go.RowKit Go.Shelf Go.Lib
/-- two bytes are one but for a letter small or great -/
def Var (x y : Nat) : Prop := x = y ∨ (65 ≤ x ∧ x ≤ 90 ∧ y = x + 32) ∨ (65 ≤ y ∧ y ≤ 90 ∧ x = y + 32)
theorem var_iff (x y : Nat) : smallN x = smallN y ↔ Var x y := by
  unfold smallN Var
  split <;> split <;> omega
theorem foldT_bd (c : Nat) (h : c < 128) : 0 ≤ foldT c ∧ foldT c ≤ 8490 := by unfold foldT; repeat' split <;> omega
set_option maxRecDepth 100000 in
theorem fold_calls (y : Nat) (w : World) (hy : y < 128) (hL : Laid w) : Calls Tryd.prog 43 #[.int .i32 (y : Int)] w fun e w' => e = .returned (.int .i32 (foldT y)) ∧ w = w' := by
  have hc := hL.fold y hy
  have hb := foldT_bd y hy
  generalize foldT y = z at hc hb ⊢
  clear hL
  go_enter Tryd.func43, Tryd.ntmps43
  go_wp2
  go_ret
  exact ⟨rfl, rfl⟩
/-- the frame at the label 'hasUnicode' -/
def JF (s t : ByteArray) (w : World) (p : Nat → Prop) (a' : Act) (w' : World) : Prop :=
  w' = w ∧ ∃ i : Nat, p i ∧ ∃ f : Nat → Value, a' = { tmps := #[.string s, .string t, f 2, f 3, f 4, .int .i64 (i : Int), f 6, f 7, f 8, f 9, f 10, f 11, f 12, f 13, f 14, f 15, f 16, f 17, f 18, f 19, f 20, f 21, f 22, f 23, f 24, f 25, f 26, f 27, f 28, f 29, f 30, f 31, f 32, f 33, f 34, f 35, f 36, f 37, f 38, f 39, f 40, f 41, f 42, f 43, f 44, f 45, f 46, f 47, f 48, f 49, f 50, f 51, f 52, f 53, f 54, f 55, f 56, f 57, f 58, f 59, f 60, f 61, f 62, f 63, f 64, f 65, f 66, f 67, f 68, f 69, f 70, f 71, f 72, f 73, f 74, f 75, f 76, f 77, f 78, f 79, f 80, f 81, f 82, f 83, f 84, f 85, f 86, f 87, f 88, f 89, f 90, f 91, f 92, f 93, f 94, f 95, f 96, f 97, f 98, f 99, f 100, f 101, f 102, f 103, f 104, f 105, f 106, f 107, f 108, f 109, f 110, f 111, f 112, f 113, f 114, f 115, f 116, f 117, f 118, f 119, f 120, f 121, f 122], defers := [] }
theorem JF_mk {s t : ByteArray} {w : World} {p : Nat → Prop} (a : Act) (i : Nat) (hp : p i) (h : a = { tmps := #[.string s, .string t, a.tmps.getD 2 undef, a.tmps.getD 3 undef, a.tmps.getD 4 undef, .int .i64 (i : Int), a.tmps.getD 6 undef, a.tmps.getD 7 undef, a.tmps.getD 8 undef, a.tmps.getD 9 undef, a.tmps.getD 10 undef, a.tmps.getD 11 undef, a.tmps.getD 12 undef, a.tmps.getD 13 undef, a.tmps.getD 14 undef, a.tmps.getD 15 undef, a.tmps.getD 16 undef, a.tmps.getD 17 undef, a.tmps.getD 18 undef, a.tmps.getD 19 undef, a.tmps.getD 20 undef, a.tmps.getD 21 undef, a.tmps.getD 22 undef, a.tmps.getD 23 undef, a.tmps.getD 24 undef, a.tmps.getD 25 undef, a.tmps.getD 26 undef, a.tmps.getD 27 undef, a.tmps.getD 28 undef, a.tmps.getD 29 undef, a.tmps.getD 30 undef, a.tmps.getD 31 undef, a.tmps.getD 32 undef, a.tmps.getD 33 undef, a.tmps.getD 34 undef, a.tmps.getD 35 undef, a.tmps.getD 36 undef, a.tmps.getD 37 undef, a.tmps.getD 38 undef, a.tmps.getD 39 undef, a.tmps.getD 40 undef, a.tmps.getD 41 undef, a.tmps.getD 42 undef, a.tmps.getD 43 undef, a.tmps.getD 44 undef, a.tmps.getD 45 undef, a.tmps.getD 46 undef, a.tmps.getD 47 undef, a.tmps.getD 48 undef, a.tmps.getD 49 undef, a.tmps.getD 50 undef, a.tmps.getD 51 undef, a.tmps.getD 52 undef, a.tmps.getD 53 undef, a.tmps.getD 54 undef, a.tmps.getD 55 undef, a.tmps.getD 56 undef, a.tmps.getD 57 undef, a.tmps.getD 58 undef, a.tmps.getD 59 undef, a.tmps.getD 60 undef, a.tmps.getD 61 undef, a.tmps.getD 62 undef, a.tmps.getD 63 undef, a.tmps.getD 64 undef, a.tmps.getD 65 undef, a.tmps.getD 66 undef, a.tmps.getD 67 undef, a.tmps.getD 68 undef, a.tmps.getD 69 undef, a.tmps.getD 70 undef, a.tmps.getD 71 undef, a.tmps.getD 72 undef, a.tmps.getD 73 undef, a.tmps.getD 74 undef, a.tmps.getD 75 undef, a.tmps.getD 76 undef, a.tmps.getD 77 undef, a.tmps.getD 78 undef, a.tmps.getD 79 undef, a.tmps.getD 80 undef, a.tmps.getD 81 undef, a.tmps.getD 82 undef, a.tmps.getD 83 undef, a.tmps.getD 84 undef, a.tmps.getD 85 undef, a.tmps.getD 86 undef, a.tmps.getD 87 undef, a.tmps.getD 88 undef, a.tmps.getD 89 undef, a.tmps.getD 90 undef, a.tmps.getD 91 undef, a.tmps.getD 92 undef, a.tmps.getD 93 undef, a.tmps.getD 94 undef, a.tmps.getD 95 undef, a.tmps.getD 96 undef, a.tmps.getD 97 undef, a.tmps.getD 98 undef, a.tmps.getD 99 undef, a.tmps.getD 100 undef, a.tmps.getD 101 undef, a.tmps.getD 102 undef, a.tmps.getD 103 undef, a.tmps.getD 104 undef, a.tmps.getD 105 undef, a.tmps.getD 106 undef, a.tmps.getD 107 undef, a.tmps.getD 108 undef, a.tmps.getD 109 undef, a.tmps.getD 110 undef, a.tmps.getD 111 undef, a.tmps.getD 112 undef, a.tmps.getD 113 undef, a.tmps.getD 114 undef, a.tmps.getD 115 undef, a.tmps.getD 116 undef, a.tmps.getD 117 undef, a.tmps.getD 118 undef, a.tmps.getD 119 undef, a.tmps.getD 120 undef, a.tmps.getD 121 undef, a.tmps.getD 122 undef], defers := [] }) : JF s t w p a w := ⟨rfl, i, hp, fun j => a.tmps.getD j undef, h⟩
@[local go_sem] theorem jump_ret {l : Nat} {J : Act → World → Prop} {Q : Exit → Act → World → Prop} {a : Act} {w : World} : Exit.jump l J Q .ret a w = Q .ret a w := rfl
@[local go_sem] theorem jump_normal {l : Nat} {J : Act → World → Prop} {Q : Exit → Act → World → Prop} {a : Act} {w : World} : Exit.jump l J Q .normal a w = Q .normal a w := rfl
@[local go_sem] theorem jump_exit {l : Nat} {J : Act → World → Prop} {Q : Exit → Act → World → Prop} {a : Act} {w : World} (id : Nat) : Exit.jump l J Q (.exit id) a w = Q (.exit id) a w := rfl
@[local go_sem] theorem jump_panic {l : Nat} {J : Act → World → Prop} {Q : Exit → Act → World → Prop} {a : Act} {w : World} (ch : List PanicEntry) : Exit.jump l J Q (.panic ch) a w = Q (.panic ch) a w := rfl
theorem decN_pair (n b0 b1 b2 b3 c1 c2 c3 : Nat) (h0 : 128 ≤ b0) (h1 : b1 = c1 ∨ (b1 < 128 ∧ c1 < 128)) (h2 : b2 = c2 ∨ (b2 < 128 ∧ c2 < 128)) (h3 : b3 = c3 ∨ (b3 < 128 ∧ c3 < 128)) : decodeN n b0 b1 b2 b3 = decodeN n b0 c1 c2 c3 := by
  have e1 : (b1 / 64 = 2) = (c1 / 64 = 2) := propext ⟨fun h => by omega, fun h => by omega⟩
  have e2 : (b2 / 64 = 2) = (c2 / 64 = 2) := propext ⟨fun h => by omega, fun h => by omega⟩
  have e3 : (b3 / 64 = 2) = (c3 / 64 = 2) := propext ⟨fun h => by omega, fun h => by omega⟩
  unfold decodeN
  simp only [e1, e2, e3]
  by_cases k1 : c1 / 64 = 2
  · have f1 : b1 = c1 := by omega
    subst f1
    by_cases k2 : c2 / 64 = 2
    · have f2 : b2 = c2 := by omega
      subst f2
      by_cases k3 : c3 / 64 = 2
      · have f3 : b3 = c3 := by omega
        subst f3; rfl
      · simp only [k3, and_false, if_false]
    · simp only [k2, false_and, and_false, if_false]
  · simp only [k1, false_and, and_false, if_false]
theorem small_getD (l1 l2 : List UInt8) (h : l1.map (fun b => smallN b.toNat) = l2.map (fun b => smallN b.toNat)) (j : Nat) : Var (l1.getD j 0).toNat (l2.getD j 0).toNat := by
  rw [← var_iff]
  have hl : l1.length = l2.length := by have := congrArg List.length h; simpa using this
  have := congrArg (fun l => l[j]?) h
  simp only [List.getElem?_map] at this
  simp only [List.getD_eq_getElem?_getD]
  by_cases hj : j < l1.length
  · rw [List.getElem?_eq_getElem hj, List.getElem?_eq_getElem (by omega)] at this ⊢
    simpa using this
  · rw [List.getElem?_eq_none (by omega), List.getElem?_eq_none (by omega)]
theorem var_or (x y : Nat) (h : Var x y) : x = y ∨ (x < 128 ∧ y < 128) := by unfold Var at h; omega
theorem dec_pair (l1 l2 : List UInt8) (hne : l1 ≠ []) (h : l1.map (fun b => smallN b.toNat) = l2.map (fun b => smallN b.toNat)) :
    (decodeL l1).2 = (decodeL l2).2 ∧ ((decodeL l1).1 = (decodeL l2).1 ∨ ((decodeL l1).1 < 128 ∧ (decodeL l2).1 < 128 ∧ Var (decodeL l1).1 (decodeL l2).1)) := by
  have hl : l1.length = l2.length := by have := congrArg List.length h; simpa using this
  have v0 := small_getD l1 l2 h 0
  have v1 := var_or _ _ (small_getD l1 l2 h 1)
  have v2 := var_or _ _ (small_getD l1 l2 h 2)
  have v3 := var_or _ _ (small_getD l1 l2 h 3)
  rw [decodeL_N, decodeL_N, hl]
  rcases var_or _ _ v0 with e | ⟨a, b⟩
  · rw [← e]
    by_cases c : (l1.getD 0 0).toNat < 128
    · rw [decodeN_ascii _ _ _ _ _ c, decodeN_ascii _ _ _ _ _ c]; exact ⟨rfl, .inl rfl⟩
    · rw [decN_pair _ _ _ _ _ _ _ _ (by omega) v1 v2 v3]; exact ⟨rfl, .inl rfl⟩
  · rw [decodeN_ascii _ _ _ _ _ a, decodeN_ascii _ _ _ _ _ b]; exact ⟨rfl, .inr ⟨a, b, v0⟩⟩
theorem dec_ge (l : List UInt8) (h : 128 ≤ (l.getD 0 0).toNat) : 128 ≤ (decodeL l).1 := by
  rw [decodeL_N]
  rcases decodeN_shape l.length (l.getD 0 0).toNat (l.getD 1 0).toNat (l.getD 2 0).toNat (l.getD 3 0).toNat with ⟨a, e⟩ | ⟨_, _, _, _, e⟩ | ⟨_, _, _, _, _, _, e⟩ | ⟨_, _, _, _, _, _, _, e⟩ | e <;> rw [e] <;> simp only [] <;> omega
theorem decGo_L (s : ByteArray) (h : 0 < s.size) : decodeGo s = decodeL s.data.toList := by
  have := decodeGo_extract s 0 h
  have e : s.extract 0 s.size = s := by
    apply ByteArray.ext
    apply Array.toList_inj.1
    rw [Lib.extract_data, List.drop_zero, Nat.sub_zero, List.take_of_length_le (by rw [← Lib.size_eq]; omega)]
  rw [e] at this
  rw [this, ← decodeL_drop, List.drop_zero]
theorem decodeGo_extract_zero (s : ByteArray) (h : 0 < s.size) : Utf8.decode s 0 = decodeGo s := by
  rw [decGo_L s h, ← decodeL_drop, List.drop_zero]
set_option maxHeartbeats 4000000 in
set_option maxRecDepth 100000 in
theorem fold_true (s t : ByteArray) (w : World) (hs : s.size ≤ big) (hE : s.data.toList.map (fun b => smallN b.toNat) = t.data.toList.map (fun b => smallN b.toNat)) (hL : LaidU w) :
    Calls Tryd.prog 28 #[.string s, .string t] w fun e w' => e = .returned (.bool true) ∧ Below w.heap.size w w' := by
  have hsz : s.size = t.size := by
    have := congrArg List.length hE
    rw [List.length_map, List.length_map, ← Lib.size_eq, ← Lib.size_eq] at this
    exact this
  have hs2 : s.size ≤ 70368744177664 := hs
  have ht2 : t.size ≤ 70368744177664 := by omega
  have HE := Lib.hid hE
  have HL := Lib.hid hL
  have HSZ := Lib.hid hsz
  clear hE hL hs
  obtain ⟨M, hM⟩ : ∃ M : Nat, min (s.size : Int) (t.size : Int) = (M : Int) := ⟨min s.size t.size, by omega⟩
  have hMs : M = s.size := by omega
  have HMS := Lib.hid hMs
  clear hMs hsz
  go_enter Tryd.func28, Tryd.ntmps28
  go_wp2
  refine wp_scope_jumps 0 (JF s t w (fun i => ∃ h : i < s.size, 128 ≤ (s[i]).toNat)) (fun _ _ => 0) (by rfl) ?_ ?_
  · go_wp2
    go_loopg [5] M (fun g s5 wx => w = wx ∧ ∃ i : Nat, i + g = M ∧ s5 = .int .i64 i)
    case atStart => exact ⟨rfl, 0, by omega, rfl⟩
    case round =>
      obtain ⟨rfl, i, hig, rfl⟩ := hrel
      clear hM
      cases gk with
      | zero =>
        have hiM : ¬ ((i : Int) < (M : Int)) := by omega
        obtain rfl : i = M := by omega
        have hb : ((s.size : Int) == (t.size : Int)) = true := beq_iff_eq.2 (by have := HSZ.out; omega)
        go_wp2
        go_ret
        exact ⟨rfl, Below.refl _ _⟩
      | succ g =>
        have hiM : (i : Int) < (M : Int) := by omega
        have hisz : (i : Int) < (s.size : Int) := by have := HMS.out; omega
        have hitz : (i : Int) < (t.size : Int) := by have := HMS.out; have := HSZ.out; omega
        have hisn : i < s.size := by omega
        obtain ⟨x, hx⟩ : ∃ x : UInt8, s[i]'(by omega) = x := ⟨_, rfl⟩
        obtain ⟨y, hy⟩ : ∃ y : UInt8, t[i]'(by omega) = y := ⟨_, rfl⟩
        have hxl : s.data.toList[i]? = some x := by rw [← hx]; exact Lib.data_getElem? s i (by omega)
        have hyl : t.data.toList[i]? = some y := by rw [← hy]; exact Lib.data_getElem? t i (by omega)
        have hV : Var x.toNat y.toNat := by
          rw [← var_iff]
          have := congrArg (fun l => l[i]?) HE.out
          simp only [List.getElem?_map, hxl, hyl, Option.map_some, Option.some.injEq] at this
          exact this
        have hx256 := x.toNat_lt
        have hy256 := y.toNat_lt
        have hor : bits .or .u8 (x.toNat : Int) (y.toNat : Int) = ((x.toNat ||| y.toNat : Nat) : Int) := u8_or_nat _ _ (by omega) (by omega)
        clear hxl hyl
        by_cases hx128 : x.toNat < 128
        · have hy128 : y.toNat < 128 := by unfold Var at hV; omega
          have hor128 : ¬ ((128 : Int) ≤ ((x.toNat ||| y.toNat : Nat) : Int)) := by have := Nat.or_lt_two_pow (n := 7) hx128 hy128; omega
          have HV := Lib.hid hV
          clear hV
          go_wp2
          all_goals (try simp only [beq_iff_eq, beq_eq_false_iff_ne, ne_eq] at *)
          all_goals first
            | (go_roundg g
               case measure => omega
               case rel => exact ⟨rfl, i + 1, by omega, by first | rfl | simp⟩)
            | (exfalso; have := HV.out; unfold Var at this; omega)
        · have hxy : x.toNat = y.toNat := by unfold Var at hV; omega
          have hor128 : (128 : Int) ≤ ((x.toNat ||| y.toNat : Nat) : Int) := by
            have : x.toNat ≤ (x.toNat ||| y.toNat) := Nat.left_le_or
            omega
          have HX : Hid (128 ≤ (s[i]'hisn).toNat) := Lib.hid (by rw [hx]; omega)
          clear hxy hV
          go_wp2
          go_step3
          exact ⟨rfl, JF_mk _ i ⟨hisn, HX.out⟩ rfl⟩
  · rintro a w1 ⟨rfl, i, ⟨hi, hx⟩, f, rfl⟩
    clear hM
    have hit : i < t.size := by have := HSZ.out; omega
    obtain ⟨s2, hs2e⟩ : ∃ s2, s.extract i s.size = s2 := ⟨_, rfl⟩
    obtain ⟨t2, ht2e⟩ : ∃ t2, t.extract i t.size = t2 := ⟨_, rfl⟩
    have hl2 : s2.data.toList = s.data.toList.drop i := by
      rw [← hs2e, Lib.extract_data, List.take_of_length_le (by rw [List.length_drop, ← Lib.size_eq]; omega)]
    have hm2 : t2.data.toList = t.data.toList.drop i := by
      rw [← ht2e, Lib.extract_data, List.take_of_length_le (by rw [List.length_drop, ← Lib.size_eq]; omega)]
    have HE2 : Hid (s2.data.toList.map (fun b => smallN b.toNat) = t2.data.toList.map (fun b => smallN b.toNat)) := Lib.hid (by
      rw [hl2, hm2, List.map_drop, List.map_drop, HE.out])
    have hz2 : s2.size ≤ 70368744177664 := by
      have : s2.size = s.size - i := by rw [Lib.size_eq, hl2, List.length_drop, ← Lib.size_eq]
      omega
    have HZ2 : Hid (s2.size = t2.size) := Lib.hid (by
      have := congrArg List.length HE2.out
      rw [List.length_map, List.length_map, ← Lib.size_eq, ← Lib.size_eq] at this
      exact this)
    clear hl2 hm2 hx HE
    go_wp2
    go_loopg [1] s2.size (fun gk x1 wx => ∃ (p : Nat) (t3 : ByteArray), x1 = .string t3 ∧ Hid (t3.data.toList = t2.data.toList.drop p) ∧ wx.heap[w1.heap.size]? = some (.stringIter s2 p) ∧ Below w1.heap.size w1 wx ∧ s2.size ≤ p + gk ∧ p ≤ s2.size)
    case atStart =>
      refine ⟨0, t2, rfl, Lib.hid (by rw [List.drop_zero]), ?_, (Below.refl _ _).alloc (Nat.le_refl _) _, by omega, by omega⟩
      have := World.iter_heap w1 s2 0
      simpa using this
    case round =>
      obtain ⟨p, t3, rfl, H3, hit2, hbw, hfu, hp⟩ := hrel
      have hz3 : t3.size = s2.size - p := by
        rw [Lib.size_eq, H3.out, List.length_drop, ← Lib.size_eq, HZ2.out]
      have HZ3 := Lib.hid hz3
      by_cases hlt : p < s2.size
      · obtain ⟨g', rfl⟩ : ∃ g', gk = g' + 1 := ⟨gk - 1, by omega⟩
        have hnx : ∀ ty, (Instr.next (.pointer (some ⟨w1.heap.size, 0, none⟩)) true ty).run Tryd.prog wr = _ := fun ty => Lib.run_next_any_at wr w1.heap.size s2 p ty hit2 hlt
        have hwd := Lib.width_pos s2 p
        have hwn : p + (Utf8.decode s2 p).2 ≤ s2.size := by
          have := Lib.decodeL_le _ (show s2.data.toList.drop p ≠ [] from fun h0 => by
            have := congrArg List.length h0
            rw [List.length_drop, ← Lib.size_eq] at this
            simp at this
            omega)
          rw [Lib.decodeL_drop, List.length_drop, ← Lib.size_eq] at this
          omega
        have hrl := Lib.rune_le s2 p
        have hdp := dec_pair (s2.data.toList.drop p) t3.data.toList (fun h0 => by
            have := congrArg List.length h0
            rw [List.length_drop, ← Lib.size_eq] at this
            simp at this
            omega) (by rw [H3.out, List.map_drop, List.map_drop, HE2.out])
        rw [Lib.decodeL_drop] at hdp
        have hg3 := decGo_L t3 (by omega)
        have hrl3 : (decodeL t3.data.toList).1 ≤ 1114111 := by
          rw [← hg3, ← decodeGo_extract_zero t3 (by omega)]; exact Lib.rune_le t3 0
        obtain ⟨R, hR⟩ : ∃ R, (Utf8.decode s2 p).1 = R := ⟨_, rfl⟩
        obtain ⟨K, hK⟩ : ∃ K, (Utf8.decode s2 p).2 = K := ⟨_, rfl⟩
        obtain ⟨R3, hR3⟩ : ∃ R3, (decodeL t3.data.toList).1 = R3 := ⟨_, rfl⟩
        rw [hR, hK] at hnx hdp
        rw [hK] at hwd hwn
        rw [hR] at hrl
        rw [hR3] at hdp hrl3
        have hit3 := Lib.iterAt_heap wr w1.heap.size s2 p (p + K) hit2
        have hbw3 := Lib.below_iterAt hbw (k := w1.heap.size) (Nat.le_refl _) s2 (p + K)
        obtain ⟨W, hWd⟩ : ∃ W, wr.iterAt w1.heap.size s2 (p + K) = W := ⟨_, rfl⟩
        rw [hWd] at hnx hit3 hbw3
        have hszW : w1.heap.size < W.heap.size := (Array.getElem?_eq_some_iff.1 hit3).1
        have cD := Tryd.utf8_DecodeRuneInString t3 W (HL.out.below hbw3).utf
        rw [hg3, hR3, ← hdp.1] at cD
        have hrel2 := hdp.2
        have ht3p : 0 < t3.size := by omega
        have ht3K : K ≤ t3.size := by omega
        have hz0 : ((t3.size : Int) == 0) = false := by rw [beq_eq_false_iff_ne]; omega
        have ht3b : t3.size ≤ 70368744177664 := by omega
        have HN : Hid ((t3.extract K t3.size).data.toList = t2.data.toList.drop (p + K)) := Lib.hid (by
          rw [Lib.extract_data, H3.out, List.take_of_length_le (by rw [List.length_drop, ← H3.out, ← Lib.size_eq]; omega), List.drop_drop])
        clear hz3 hit2 hbw hWd hg3 hdp hR hK hR3
        have HREL := Lib.hid hrel2
        clear hrel2
        go_wp2_with fail
        go_must (refine cD.mono ?_; rintro e W3 ⟨rfl, b3⟩)
        have hit4 := (b3.block _ hszW).trans hit3
        have hbw4 := hbw3.trans (b3.mono (Nat.le_of_lt hszW))
        clear hit3 hbw3 b3 cD hnx
        by_cases hrr : R3 = R
        · subst hrr
          have hbb : ((R3 : Int) == (R3 : Int)) = true := beq_self_eq_true _
          go_wp2
          go_roundg g'
          case measure => omega
          case rel => exact ⟨p + K, _, rfl, HN, hit4, hbw4, by omega, hwn⟩
        · have hV : R < 128 ∧ R3 < 128 ∧ ((65 ≤ R ∧ R ≤ 90 ∧ R3 = R + 32) ∨ (65 ≤ R3 ∧ R3 ≤ 90 ∧ R = R3 + 32)) := by
            rcases HREL.out with h | ⟨h1, h2, h3⟩
            · exact absurd h.symm hrr
            · unfold Var at h3; refine ⟨h1, h2, ?_⟩; omega
          have hbb : ((R3 : Int) == (R : Int)) = false := by rw [beq_eq_false_iff_ne]; omega
          obtain ⟨hR1, hR2, hV⟩ := hV
          rcases hV with ⟨v1, v2, v3⟩ | ⟨v1, v2, v3⟩
          · have hn1 : ¬ ((R3 : Int) < (R : Int)) := by omega
            have hn2 : (R3 : Int) < 128 := by omega
            have hn3 : (65 : Int) ≤ (R : Int) := by omega
            have hn4 : (R : Int) ≤ 90 := by omega
            have hn5 : ((R3 : Int) == (R : Int) + 32) = true := by rw [beq_iff_eq]; omega
            go_wp2
            all_goals first
              | (go_roundg g'
                 case measure => omega
                 case rel => exact ⟨p + K, _, rfl, HN, hit4, hbw4, by omega, hwn⟩)
              | (exfalso; simp only [beq_iff_eq, beq_eq_false_iff_ne, ne_eq] at *; omega)
          · have hn1 : ((R3 : Int) < (R : Int)) := by omega
            have hn2 : (R : Int) < 128 := by omega
            have hn3 : (65 : Int) ≤ (R3 : Int) := by omega
            have hn4 : (R3 : Int) ≤ 90 := by omega
            have hn5 : ((R : Int) == (R3 : Int) + 32) = true := by rw [beq_iff_eq]; omega
            go_wp2
            all_goals first
              | (go_roundg g'
                 case measure => omega
                 case rel => exact ⟨p + K, _, rfl, HN, hit4, hbw4, by omega, hwn⟩)
              | (exfalso; simp only [beq_iff_eq, beq_eq_false_iff_ne, ne_eq] at *; omega)
      · have hpe : p = s2.size := by omega
        subst hpe
        have hnx : ∀ ty, (Instr.next (.pointer (some ⟨w1.heap.size, 0, none⟩)) true ty).run Tryd.prog wr = _ := fun ty => Lib.run_next_end_at wr w1.heap.size s2 s2.size ty hit2 hlt
        have hz0 : ((t3.size : Int) == 0) = true := by rw [beq_iff_eq]; omega
        clear hz3
        go_wp2
        rw [jump_ret]
        go_ret
        exact ⟨rfl, hbw⟩
/-- an ASCII byte whose letter has no fellow beyond ASCII -/
def Safe (y : Nat) : Prop := y < 128 ∧ y ≠ 75 ∧ y ≠ 83 ∧ y ≠ 107 ∧ y ≠ 115
theorem fold_safe (y : Nat) (h : Safe y) : ∃ z : Nat, foldT y = (z : Int) ∧ Safe z ∧ foldT z = (y : Int) := by
  unfold Safe at h
  by_cases h1 : 65 ≤ y ∧ y ≤ 90
  · refine ⟨y + 32, ?_, ?_, ?_⟩
    · unfold foldT; rw [if_neg (by omega), if_neg (by omega), if_neg (by omega), if_neg (by omega), if_pos h1]; rfl
    · unfold Safe; omega
    · unfold foldT; rw [if_neg (by omega), if_neg (by omega), if_neg (by omega), if_neg (by omega), if_neg (by omega), if_pos (by omega)]; omega
  · by_cases h2 : 97 ≤ y ∧ y ≤ 122
    · refine ⟨y - 32, ?_, ?_, ?_⟩
      · unfold foldT; rw [if_neg (by omega), if_neg (by omega), if_neg (by omega), if_neg (by omega), if_neg h1, if_pos h2]; omega
      · unfold Safe; omega
      · unfold foldT; rw [if_neg (by omega), if_neg (by omega), if_neg (by omega), if_neg (by omega), if_pos (by omega)]; omega
    · refine ⟨y, ?_, ?_, ?_⟩
      · unfold foldT; rw [if_neg (by omega), if_neg (by omega), if_neg (by omega), if_neg (by omega), if_neg h1, if_neg h2]
      · unfold Safe; omega
      · unfold foldT; rw [if_neg (by omega), if_neg (by omega), if_neg (by omega), if_neg (by omega), if_neg h1, if_neg h2]
theorem maps_eq (s t : ByteArray) (hsz : s.size = t.size) (h : ∀ j, j < s.size → smallN (s.data.toList.getD j 0).toNat = smallN (t.data.toList.getD j 0).toNat) : s.data.toList.map (fun b => smallN b.toNat) = t.data.toList.map (fun b => smallN b.toNat) := by
  apply List.ext_getElem?
  intro j
  rw [List.getElem?_map, List.getElem?_map]
  by_cases hj : j < s.size
  · have h1 : j < s.data.toList.length := by rw [← Lib.size_eq]; exact hj
    have h2 : j < t.data.toList.length := by rw [← Lib.size_eq, ← hsz]; exact hj
    have := h j hj
    simp only [List.getD_eq_getElem?_getD, List.getElem?_eq_getElem h1, List.getElem?_eq_getElem h2, Option.getD_some] at this
    rw [List.getElem?_eq_getElem h1, List.getElem?_eq_getElem h2, Option.map_some, Option.map_some, this]
  · rw [List.getElem?_eq_none (by rw [← Lib.size_eq]; omega), List.getElem?_eq_none (by rw [← Lib.size_eq]; omega)]
set_option maxHeartbeats 4000000 in
set_option maxRecDepth 100000 in
theorem fold_false (s t : ByteArray) (w : World) (hs : s.size ≤ big) (hsz : s.size = t.size) (hS : ∀ j, j < t.size → Safe (t.data.toList.getD j 0).toNat) (hE : ¬ s.data.toList.map (fun b => smallN b.toNat) = t.data.toList.map (fun b => smallN b.toNat)) (hL : Laid w) :
    Calls Tryd.prog 28 #[.string s, .string t] w fun e w' => e = .returned (.bool false) ∧ Below w.heap.size w w' := by
  have hs2 : s.size ≤ 70368744177664 := hs
  have ht2 : t.size ≤ 70368744177664 := by omega
  have HE := Lib.hid hE
  have HS := Lib.hid hS
  have HL := Lib.hid hL
  have HSZ := Lib.hid hsz
  clear hE hL hs hS
  obtain ⟨M, hM⟩ : ∃ M : Nat, min (s.size : Int) (t.size : Int) = (M : Int) := ⟨min s.size t.size, by omega⟩
  have hMs : M = s.size := by omega
  have HMS := Lib.hid hMs
  clear hMs hsz
  go_enter Tryd.func28, Tryd.ntmps28
  go_wp2
  refine wp_scope_jumps 0 (JF s t w (fun i => ∃ h : i < s.size, 128 ≤ (s[i]).toNat)) (fun _ _ => 0) (by rfl) ?_ ?_
  · go_wp2
    go_loopg [5] M (fun g s5 wx => w = wx ∧ ∃ i : Nat, i + g = M ∧ s5 = .int .i64 i ∧ Hid (∀ j, j < i → smallN (s.data.toList.getD j 0).toNat = smallN (t.data.toList.getD j 0).toNat))
    case atStart => exact ⟨rfl, 0, by omega, rfl, Lib.hid (fun j hj => by omega)⟩
    case round =>
      obtain ⟨rfl, i, hig, rfl, HP⟩ := hrel
      clear hM
      cases gk with
      | zero =>
        exact absurd (maps_eq s t HSZ.out (fun j hj => HP.out j (by have := HMS.out; omega))) HE.out
      | succ g =>
        have hiM : (i : Int) < (M : Int) := by omega
        have hisz : (i : Int) < (s.size : Int) := by have := HMS.out; omega
        have hitz : (i : Int) < (t.size : Int) := by have := HMS.out; have := HSZ.out; omega
        have hisn : i < s.size := by omega
        obtain ⟨x, hx⟩ : ∃ x : UInt8, s[i]'(by omega) = x := ⟨_, rfl⟩
        obtain ⟨y, hy⟩ : ∃ y : UInt8, t[i]'(by omega) = y := ⟨_, rfl⟩
        have hxl : s.data.toList.getD i 0 = x := by rw [← hx, List.getD_eq_getElem?_getD, Lib.data_getElem? s i (by omega)]; rfl
        have hyl : t.data.toList.getD i 0 = y := by rw [← hy, List.getD_eq_getElem?_getD, Lib.data_getElem? t i (by omega)]; rfl
        have hyS : Safe y.toNat := by rw [← hyl]; exact HS.out i (by omega)
        have hy128 : y.toNat < 128 := hyS.1
        have HPN : Hid (smallN x.toNat = smallN y.toNat → ∀ j, j < i + 1 → smallN (s.data.toList.getD j 0).toNat = smallN (t.data.toList.getD j 0).toNat) := Lib.hid (fun he j hj => by
          by_cases e : j = i
          · subst e; rw [hxl, hyl]; exact he
          · exact HP.out j (by omega))
        have hx256 := x.toNat_lt
        have hor : bits .or .u8 (x.toNat : Int) (y.toNat : Int) = ((x.toNat ||| y.toNat : Nat) : Int) := u8_or_nat _ _ (by omega) (by omega)
        clear hxl hyl hyS
        by_cases hx128 : x.toNat < 128
        · have hor128 : ¬ ((128 : Int) ≤ ((x.toNat ||| y.toNat : Nat) : Int)) := by have := Nat.or_lt_two_pow (n := 7) hx128 hy128; omega
          have HV := Lib.hid (var_iff x.toNat y.toNat)
          go_wp2
          all_goals (try simp only [beq_iff_eq, beq_eq_false_iff_ne, ne_eq] at *)
          all_goals first
            | (go_roundg g
               case measure => omega
               case rel => exact ⟨rfl, i + 1, by omega, by first | rfl | simp, Lib.hid (HPN.out (HV.out.2 (by unfold Var; omega)))⟩)
            | (go_ret; exact ⟨rfl, Below.refl _ _⟩)
            | (rw [jump_ret]; go_ret; exact ⟨rfl, Below.refl _ _⟩)
        · have hor128 : (128 : Int) ≤ ((x.toNat ||| y.toNat : Nat) : Int) := by
            have : x.toNat ≤ (x.toNat ||| y.toNat) := Nat.left_le_or
            omega
          have HX : Hid (128 ≤ (s[i]'hisn).toNat) := Lib.hid (by rw [hx]; omega)
          go_wp2
          go_step3
          exact ⟨rfl, JF_mk _ i ⟨hisn, HX.out⟩ rfl⟩
  · rintro a w1 ⟨rfl, i, ⟨hi, hx⟩, f, rfl⟩
    clear hM
    have hit : i < t.size := by have := HSZ.out; omega
    obtain ⟨s2, hs2e⟩ : ∃ s2, s.extract i s.size = s2 := ⟨_, rfl⟩
    obtain ⟨t2, ht2e⟩ : ∃ t2, t.extract i t.size = t2 := ⟨_, rfl⟩
    have hl2 : s2.data.toList = s.data.toList.drop i := by
      rw [← hs2e, Lib.extract_data, List.take_of_length_le (by rw [List.length_drop, ← Lib.size_eq]; omega)]
    have hm2 : t2.data.toList = t.data.toList.drop i := by
      rw [← ht2e, Lib.extract_data, List.take_of_length_le (by rw [List.length_drop, ← Lib.size_eq]; omega)]
    have hz2 : 0 < s2.size := by
      have : s2.size = s.size - i := by rw [Lib.size_eq, hl2, List.length_drop, ← Lib.size_eq]
      omega
    have hzt : 0 < t2.size := by
      have : t2.size = t.size - i := by rw [Lib.size_eq, hm2, List.length_drop, ← Lib.size_eq]
      omega
    have hs2b : s2.size ≤ 70368744177664 := by
      have : s2.size = s.size - i := by rw [Lib.size_eq, hl2, List.length_drop, ← Lib.size_eq]
      omega
    have ht2b : t2.size ≤ 70368744177664 := by
      have : t2.size = t.size - i := by rw [Lib.size_eq, hm2, List.length_drop, ← Lib.size_eq]
      omega
    obtain ⟨y, hy⟩ : ∃ y, (t2.data.toList.getD 0 0).toNat = y := ⟨_, rfl⟩
    have hyS : Safe y := by
      rw [← hy, hm2, getD_dropU, Nat.add_zero]
      exact HS.out i hit
    have hR128 : 128 ≤ (Utf8.decode s2 0).1 := by
      rw [← decodeL_drop, List.drop_zero]
      apply dec_ge
      rw [hl2, getD_dropU, Nat.add_zero]
      have : s.data.toList.getD i 0 = s[i] := by rw [List.getD_eq_getElem?_getD, Lib.data_getElem? s i hi]; rfl
      rw [this]; exact hx
    have hD : decodeGo t2 = (y, 1) := by
      rw [decGo_L t2 hzt, decodeL_N, decodeN_ascii _ _ _ _ _ (by rw [hy]; exact hyS.1), hy]
    have hrl := Lib.rune_le s2 0
    obtain ⟨R, hR⟩ : ∃ R, (Utf8.decode s2 0).1 = R := ⟨_, rfl⟩
    obtain ⟨z, hz, hzS, hzb⟩ := fold_safe y hyS
    rw [hR] at hR128 hrl
    clear hl2 hm2 hx HE hy
    have HZ := Lib.hid hz
    have HZB := Lib.hid hzb
    have hy1 := hyS.1
    have hz1 := hzS.1
    have HZS := Lib.hid hzS
    have HYS := Lib.hid hyS
    clear hz hzb hyS hzS
    go_wp2
    clear hs2e ht2e
    go_loopg [1] 1 (fun gk x1 wx => x1 = .string t2 ∧ wx.heap[w1.heap.size]? = some (.stringIter s2 0) ∧ Below w1.heap.size w1 wx)
    case atStart =>
      refine ⟨rfl, ?_, (Below.refl _ _).alloc (Nat.le_refl _) _⟩
      have := World.iter_heap w1 s2 0
      simpa using this
    case round =>
      obtain ⟨rfl, hit2, hbw⟩ := hrel
      have hnx : ∀ ty, (Instr.next (.pointer (some ⟨w1.heap.size, 0, none⟩)) true ty).run Tryd.prog wr = _ := fun ty => Lib.run_next_any_at wr w1.heap.size s2 0 ty hit2 hz2
      rw [hR] at hnx
      have hit3 := Lib.iterAt_heap wr w1.heap.size s2 0 (0 + (Utf8.decode s2 0).2) hit2
      have hbw3 := Lib.below_iterAt hbw (k := w1.heap.size) (Nat.le_refl _) s2 (0 + (Utf8.decode s2 0).2)
      obtain ⟨W, hWd⟩ : ∃ W, wr.iterAt w1.heap.size s2 (0 + (Utf8.decode s2 0).2) = W := ⟨_, rfl⟩
      rw [hWd] at hnx hit3 hbw3
      have hszW : w1.heap.size < W.heap.size := (Array.getElem?_eq_some_iff.1 hit3).1
      have cD := Tryd.utf8_DecodeRuneInString t2 W (HL.out.toLaidU.below hbw3).utf
      rw [hD] at cD
      have hz0 : ((t2.size : Int) == 0) = false := by rw [beq_eq_false_iff_ne]; omega
      clear hit2 hbw hWd hD hR
      go_wp2_with fail
      go_must (refine cD.mono ?_; rintro e W3 ⟨rfl, b3⟩)
      have hbw4 := hbw3.trans (b3.mono (Nat.le_of_lt hszW))
      have HL4 := Lib.hid (HL.out.below hbw4)
      clear hit3 hbw3 b3 cD hnx
      have hb1 : ((y : Int) == (R : Int)) = false := by rw [beq_eq_false_iff_ne]; omega
      have hb2 : (y : Int) < (R : Int) := by omega
      have hb3 : ¬ ((R : Int) < 128) := by omega
      go_wp2_with fail
      refine (fold_calls y W3 hy1 HL4.out).mono ?_
      rintro e W4 ⟨rfl, rfl⟩
      rw [HZ.out]
      go_wp2
      go_loopg [13] 1 (fun gk x13 wx => wx = W3 ∧ ∃ q : Nat, x13 = .int .i32 q ∧ (q = y ∨ (q = z ∧ gk = 1)))
      case atStart => exact ⟨rfl, z, rfl, .inr ⟨rfl, rfl⟩⟩
      case round =>
        obtain ⟨rfl, q, rfl, hq⟩ := hrel
        by_cases hqy : q = y
        · subst hqy
          have hb4 : ((q : Int) != (q : Int)) = false := by simp
          go_wp2
          try rw [jump_ret]
          go_ret
          exact ⟨rfl, hbw4⟩
        · obtain ⟨rfl, rfl⟩ := hq.resolve_left hqy
          have hb4 : ((q : Int) != (y : Int)) = true := by rw [bne_iff_ne]; omega
          have hb5 : (q : Int) < (R : Int) := by omega
          go_wp2_with fail
          refine (fold_calls q wr hz1 HL4.out).mono ?_
          rintro e W5 ⟨rfl, rfl⟩
          rw [HZB.out]
          go_wp2
          go_roundg 0
          case measure => omega
          case rel => exact ⟨rfl, y, rfl, .inl rfl⟩
theorem strings_EqualFold.calls (a0 : ByteArray) (a1 : ByteArray) (r : Bool) (w : World) (h : strings_EqualFold.f a0 a1 = some r) (hLd : Laid w) :
    Calls Tryd.prog 28 #[.string a0, .string a1] w fun e w' => e = .returned (.bool r) ∧ Below w.heap.size w w' := by
  unfold strings_EqualFold.f at h
  split at h
  · rename_i hc
    obtain rfl : true = r := Option.some.inj h
    exact fold_true a0 a1 w hc.1 hc.2 hLd.toLaidU
  · cases h
theorem words_safe (a1 : ByteArray) (h : a1 = wAm ∨ a1 = wA ∨ a1 = wGen) : a1.size ≤ 7 ∧ ∀ j, j < a1.size → Safe (a1.data.toList.getD j 0).toNat := by
  unfold Safe
  rcases h with rfl | rfl | rfl <;> decide
theorem token_word.calls (a0 : ByteArray) (a1 : ByteArray) (r : Bool) (w : World) (h : token_word.f a0 a1 = some r) (hLd : Laid w) :
    Calls Tryd.prog 65 #[.string a0, .string a1] w fun e w' => e = .returned (.bool r) ∧ Below w.heap.size w w' := by
  unfold token_word.f at h
  split at h
  · rename_i hc
    have hr : beginsP a0 a1 = r := Option.some.inj h
    obtain ⟨hz7, hS⟩ := words_safe a1 hc.2
    have hs2 : a0.size ≤ 70368744177664 := hc.1
    clear hc h
    unfold beginsP at hr
    by_cases hlen : a1.size ≤ a0.size
    · have hx : (a0.extract 0 a1.size).data.toList = a0.data.toList.take a1.size := by rw [Lib.extract_data]; simp
      have hz : (a0.extract 0 a1.size).size = a1.size := by rw [Lib.size_eq, hx, List.length_take, ← Lib.size_eq]; omega
      rw [decide_eq_true hlen, Bool.true_and, ← hx] at hr
      have hl : ((a1.size : Int) ≤ (a0.size : Int)) := by omega
      have hcall : Calls Tryd.prog 28 #[.string (a0.extract 0 a1.size), .string a1] w fun e w' => e = .returned (.bool r) ∧ Below w.heap.size w w' := by
        by_cases he : (a0.extract 0 a1.size).data.toList.map (fun b => smallN b.toNat) = a1.data.toList.map (fun b => smallN b.toNat)
        · rw [he, beq_self_eq_true] at hr
          subst hr
          exact fold_true _ _ w (by unfold big; omega) he hLd.toLaidU
        · have : (List.map (fun b => smallN b.toNat) (a0.extract 0 a1.size).data.toList == List.map (fun b => smallN b.toNat) a1.data.toList) = false := by rw [beq_eq_false_iff_ne]; exact he
          rw [this] at hr
          subst hr
          exact fold_false _ _ w (by unfold big; omega) hz hS he hLd
      clear hx hz hr hS hLd
      go_enter Tryd.func65, Tryd.ntmps65
      go_wp2_with fail
      refine hcall.mono ?_
      rintro e w' ⟨rfl, hb⟩
      go_wp2
      go_ret
      exact ⟨rfl, hb⟩
    · rw [decide_eq_false hlen, Bool.false_and] at hr
      subst hr
      have hl : ¬ ((a1.size : Int) ≤ (a0.size : Int)) := by omega
      clear hS hLd
      go_enter Tryd.func65, Tryd.ntmps65
      go_wp2
      go_ret
      exact ⟨rfl, Below.refl _ _⟩
  · cases h
end Go.Proofs.YtpefkehcibdjgaaDoor.H
