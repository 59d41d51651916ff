/- Proved here: strings.ToValidUTF8(s, "") hands back s just where all of s is signs; the contract of runes.Right. -/
import Derived.Test.YtpefkehcibdjgaaDoorH0
import Derived.Test.YtpefkehcibdjgaaDoorHL
import Derived.Lib.ValidLaws
import Derived.KernelRfl
import Derived.RowKit3
import Derived.Deep.QuietTactic
import Derived.BigQuiet
import Derived.Lib.Walk
import Derived.Lib.Strings
import Derived.Lib.Hide
import Derived.Deep.LoopGhost
import Derived.Deep.DeepCutAuto
import Derived.Deep.DeepFit
import Derived.Deep.DeepMust
namespace Go.Proofs.YtpefkehcibdjgaaDoor.H
open Go.RowKit Go.Shelf Go.Lib
theorem drop_ne (s : ByteArray) (pos : Nat) (h : pos < s.size) : s.data.toList.drop pos ≠ [] := by
  intro h0
  have := congrArg List.length h0
  rw [List.length_drop, ← Lib.size_eq] at this
  simp at this
  omega
theorem dec_le (s : ByteArray) (pos : Nat) (h : pos < s.size) : pos + (Utf8.decode s pos).2 ≤ s.size := by
  have := Lib.decodeL_le _ (drop_ne s pos h)
  rw [Lib.decodeL_drop, List.length_drop, ← Lib.size_eq] at this
  omega
theorem valid_at (s : ByteArray) (pos : Nat) (h : pos < s.size) : validD (s.data.toList.drop pos) = if (Utf8.decode s pos).1 = 65533 ∧ (Utf8.decode s pos).2 = 1 then false else validD (s.data.toList.drop (pos + (Utf8.decode s pos).2)) := by
  rw [validD_step _ (drop_ne s pos h), Lib.decodeL_drop, List.drop_drop]
theorem dec_small (s : ByteArray) (pos : Nat) (h : pos < s.size) (hb : (s[pos]).toNat < 128) : (Utf8.decode s pos) = ((s[pos]).toNat, 1) := by
  rw [← Lib.decodeL_drop]
  have e : s.data.toList.drop pos = s[pos] :: s.data.toList.drop (pos + 1) := by
    have hl : pos < s.data.toList.length := by rw [← Lib.size_eq]; exact h
    rw [List.drop_eq_getElem_cons hl]
    congr 1
  rw [e]
  exact Lib.decodeL_ascii _ _ hb
theorem _root_.Go.Lib.BuilderAtF.keptB {T e : TypeId} {B b : Nat} {p : Value} {bs : List Value} {W W' : World} (h : Lib.BuilderAtF T e B b p bs W) (hb : Below W.heap.size W W') : Lib.BuilderAtF T e B b p bs W' := by
  obtain ⟨hB, v, hv, hown, hne⟩ := h
  have hlt : b < W.heap.size := (Array.getElem?_eq_some_iff.1 hv).1
  refine ⟨hB, v, (hb.block _ hlt).trans hv, ⟨hown.1, ?_⟩, hne⟩
  rcases hown.2 with hn | ⟨g, cap, cur, fz, rfl, hbg, hg, rest⟩
  · exact .inl hn
  · exact .inr ⟨g, cap, cur, fz, rfl, hbg, (hb.block _ (Array.getElem?_eq_some_iff.1 hg).1).trans hg, rest⟩
theorem _root_.Go.Lib.IsBuilderF.keptB {T e : TypeId} {B b : Nat} {bs : List Value} {W W' : World} (h : Lib.IsBuilderF T e B b bs W) (hb : Below W.heap.size W W') : Lib.IsBuilderF T e B b bs W' :=
  h.elim (fun x => .inl (x.keptB hb)) (fun x => .inr (x.keptB hb))
set_option maxHeartbeats 4000000 in
set_option maxRecDepth 1000000 in
theorem toValid_calls (s : ByteArray) (w : World) (hs : s.size ≤ 1073741824) (hLd : LaidU w) :
    Calls Tryd.prog 34 #[.string s, .string ⟨#[]⟩] w fun e w' => ∃ t : ByteArray, e = .returned (.string t) ∧ Below w.heap.size w w' ∧ (validD s.data.toList = true → t = s) ∧ (validD s.data.toList = false → t.size < s.size) := by
  have hT := hLd.utf
  have HT := Lib.hid hT
  clear hT hLd
  have hlen : s.data.toList.length = s.size := (Lib.size_eq s).symm
  obtain ⟨V, hV⟩ : ∃ V, validD s.data.toList = V := ⟨_, rfl⟩
  rw [hV]
  go_enter Tryd.func34, Tryd.ntmps34
  go_wp2
  -- the first loop: as long as signs are read
  go_loopg [0] s.size (fun gk s0 wx => s0 = .string s ∧ ∃ pos : Nat, wx.heap[w.heap.size]? = some (.cells #[.pointer none, .slice none 0 0] 71 (0, 0)) ∧ wx.heap[w.heap.size + 1]? = some (.stringIter s pos) ∧ Below w.heap.size w wx ∧
    validD (s.data.toList.drop pos) = V ∧ s.size ≤ pos + gk ∧ pos ≤ s.size)
  case atStart =>
    refine ⟨rfl, 0, ?_, ?_, ((Below.refl _ w).alloc (Nat.le_refl _) _).alloc (by simp) _, by simpa using hV, by omega, by omega⟩
    · have h1 := heap_alloc_new w (.cells #[.pointer none, .slice none 0 0] 71)
      exact (Below.heap_alloc _ _ _ (by simp)).trans h1
    · have := World.iter_heap (w.alloc (.cells #[.pointer none, .slice none 0 0] 71)) s 0
      simpa using this
  case round =>
    obtain ⟨rfl, pos, hfr, hit, hbw, hsp, hfu, hps⟩ := hrel
    by_cases hlt : pos < s.size
    · obtain ⟨g', rfl⟩ : ∃ g', gk = g' + 1 := ⟨gk - 1, by omega⟩
      have hnx : ∀ ty, (Instr.next (.pointer (some ⟨w.heap.size + 1, 0, none⟩)) true ty).run Tryd.prog wr = _ := fun ty => Lib.run_next_any_at wr (w.heap.size + 1) s pos ty hit hlt
      have hwd := Lib.width_pos s pos
      have hwn := dec_le s pos hlt
      have hstep := valid_at s pos hlt
      have hdg := Lib.decodeGo_extract s pos hlt
      have hsm := dec_small s pos hlt
      have hrl := Lib.rune_le s pos
      obtain ⟨R, hR⟩ : ∃ R, (Utf8.decode s pos).1 = R := ⟨_, rfl⟩
      obtain ⟨K, hK⟩ : ∃ K, (Utf8.decode s pos).2 = K := ⟨_, rfl⟩
      rw [hR, hK] at hnx hstep
      rw [hK] at hwd hwn
      rw [hR] at hrl
      rw [hsp] at hstep
      have hit2 := Lib.iterAt_heap wr (w.heap.size + 1) s pos (pos + K) hit
      have hbw2 := Lib.below_iterAt hbw (k := w.heap.size + 1) (by omega) s (pos + K)
      have hfr2 : (wr.iterAt (w.heap.size + 1) s (pos + K)).heap[w.heap.size]? = _ := (Lib.iterAt_other wr (w.heap.size + 1) w.heap.size s (pos + K) (by omega)).trans hfr
      obtain ⟨W, hWd⟩ : ∃ W, wr.iterAt (w.heap.size + 1) s (pos + K) = W := ⟨_, rfl⟩
      rw [hWd] at hnx hit2 hbw2 hfr2
      clear hit hbw hfr hWd
      by_cases h5 : R = 65533
      · have h5z : (R : Int) = 65533 := by omega
        have h5b : ((R : Int) != 65533) = false := by simp [h5z]
        have cD := Tryd.utf8_DecodeRuneInString (s.extract pos s.size) W (Utf8Tabs_below HT.out hbw2)
        rw [hdg, hR, hK] at cD
        have hszW : w.heap.size + 1 < W.heap.size := (Array.getElem?_eq_some_iff.1 hit2).1
        by_cases hk : K = 1
        · -- a byte that begins no sign
          subst hk
          have HV : Hid (V = false) := Lib.hid (by rw [hstep, if_pos ⟨h5, rfl⟩])
          have HSM : Hid (¬ (s[pos]).toNat < 128) := Lib.hid (fun hb => by
            have e := hsm hb
            have e2 : (Utf8.decode s pos).1 = (s[pos]).toNat := by rw [e]
            rw [hR, h5] at e2; omega)
          clear hstep hsm
          go_wp2_with fail
          go_must (refine cD.mono ?_; rintro e W3 ⟨rfl, b3⟩)
          have b3' := hbw2.trans (b3.mono (by omega))
          have hfr3 : W3.heap[w.heap.size]? = _ := (b3.block _ (by omega)).trans hfr2
          clear hnx cD hit2 hfr2 hbw2 hdg
          have hsz3 := b3'.size
          have cG := Tryd.Builder_Grow_fresh_cap w.heap.size w.heap.size s.size W3 (Nat.le_refl _) hfr3 hsz3 (by omega)
          go_wp2_with fail
          go_must (go_fit cG; rintro e W4 ⟨rfl, ⟨h4, b4⟩, p4, cap4, hc4, hcap4⟩)
          have hxs : (s.extract 0 pos).size = pos := by rw [Lib.size_eq, Lib.extract_data, List.length_take, List.length_drop, hlen]; omega
          have hxd : (s.extract 0 pos).data.toList = s.data.toList.take pos := by rw [Lib.extract_data]; simp
          have b4' := b3'.trans b4
          clear hfr3 cG b3
          go_wp2_with fail
          refine (Tryd.Builder_WriteString_kc w.heap.size w.heap.size [] (s.extract 0 pos) W4 (Lib.IsBuilderF.of (Or.inr h4)) (by rw [hxs]; simp; omega) b4'.size).mono ?_
          rintro e W5 ⟨rfl, ⟨h5w, b5, -⟩, hk5⟩
          obtain ⟨v5, hv5, hcap5⟩ := hk5 _ hc4
          have b5' := b4'.trans b5
          clear hk5 hc4 b4 b5 h4
          have hcap5' : s.size ≤ v5.capOf := Nat.le_trans hcap4 hcap5
          have hcells : [] ++ Lib.strCells (s.extract 0 pos) = Lib.byteCells (s.data.toList.take pos) := by rw [List.nil_append, Lib.strCells_eq, hxd]
          rw [hcells] at h5w
          obtain ⟨g6, cap6, hc6, hcap6⟩ : ∃ g6 cap6, W5.cell? ⟨w.heap.size, 1, none⟩ = some (.slice (some ⟨g6, 0, none⟩) (Lib.byteCells (s.data.toList.take pos)).length cap6) ∧ 1 ≤ cap6 := by
            obtain ⟨_, v6, hv6, hown6, _⟩ := h5w
            have e6 : v6 = v5 := by
              have h1 : W5.cell? ⟨w.heap.size, 1, none⟩ = some v6 := by rw [Lib.cell_of_heap hv6]; rfl
              exact Option.some.inj (h1.symm.trans hv5)
            rcases hown6.2 with ⟨h0, _⟩ | ⟨g6, cap6, _, _, rfl, _, _, _, hnc, _⟩
            · rw [← e6, h0] at hcap5'
              exact absurd (show 0 < 0 from Nat.lt_of_lt_of_le (Nat.lt_of_le_of_lt (Nat.zero_le _) hlt) hcap5') (Nat.lt_irrefl 0)
            · refine ⟨g6, cap6, by rw [Lib.cell_of_heap hv6]; rfl, ?_⟩
              rw [← e6] at hcap5'
              exact Nat.le_trans (Nat.le_trans (Nat.succ_le_of_lt (Nat.lt_of_le_of_lt (Nat.zero_le _) hlt)) (Nat.le_refl _)) hcap5'
          clear hv5 hcap5 hcap5' hcap4 hcells
          have hcapb : ((cap6 : Int) == 0) = false := by simp; omega
          go_wp2_with fail
          refine (Tryd.Builder_Cap_cell w.heap.size _ _ cap6 W5 hc6).mono ?_
          rintro e W6' ⟨rfl, rfl⟩
          clear hc6
          obtain ⟨s2, hs2⟩ : ∃ s2, s.extract pos s.size = s2 := ⟨_, rfl⟩
          have hl2 : s2.data.toList = s.data.toList.drop pos := by
            rw [← hs2, Lib.extract_data, List.take_of_length_le (by rw [List.length_drop, hlen]; omega)]
          have hz2 : s2.size = s.size - pos := by rw [Lib.size_eq, hl2, List.length_drop, hlen]
          have hz2a : s2.size + pos ≤ s.size := by omega
          have hz2b : s.size ≤ s2.size + pos := by omega
          clear hz2
          have HD0 : Hid (Utf8.decode s2 0 = (65533, 1)) := Lib.hid (by
            rw [← Lib.decodeL_drop, hl2, List.drop_zero, Lib.decodeL_drop, ← h5, ← hR, ← hK])
          go_wp2
          go_loopg [10, 11] s2.size (fun gk x10 x11 wx => ∃ (i : Nat) (iv : Bool) (acc : List UInt8), x10 = .bool iv ∧ x11 = .int .i64 i ∧ Lib.IsBuilderF 71 5 w.heap.size w.heap.size (Lib.byteCells acc) wx ∧ Below w.heap.size w wx ∧ s2.size ≤ i + gk ∧ i ≤ s2.size ∧ acc.length ≤ pos + i ∧ (i = 0 ∨ acc.length < pos + i))
          case atStart =>
            exact ⟨0, false, s.data.toList.take pos, rfl, rfl, Or.inr h5w, b5', by omega, by omega, by rw [List.length_take]; omega, .inl rfl⟩
          case round =>
            obtain ⟨i, iv, acc, rfl, rfl, hI, hbw, hfu2, hi2, ha1, ha2⟩ := hrel
            by_cases hlt2 : i < s2.size
            · obtain ⟨g2, rfl⟩ : ∃ g2, gk = g2 + 1 := ⟨gk - 1, by omega⟩
              have hdg2 := Lib.decodeGo_extract s2 i hlt2
              have hwd2 := Lib.width_pos s2 i
              have hwn2 := dec_le s2 i hlt2
              have hsm2 := dec_small s2 i hlt2
              have hbz := hbw.size
              by_cases hc : (s2[i]).toNat < 128
              · have hi0 : i ≠ 0 := by
                  intro h0
                  subst h0
                  have e := hsm2 hc
                  rw [HD0.out] at e
                  have : (65533 : Nat) = (s2[0]).toNat := congrArg Prod.fst e
                  omega
                clear hdg2 hwd2 hwn2 hsm2
                go_wp2_with fail
                refine (Tryd.Builder_WriteByte_k w.heap.size w.heap.size _ _ wr hI (by rw [Lib.byteCells_length]; omega) hbz).mono ?_
                rintro e W7 ⟨rfl, h7, b7, -⟩
                go_wp2
                go_roundg g2
                case measure => omega
                case rel =>
                  refine ⟨i + 1, false, acc ++ [s2[i]], rfl, by go_num, Or.inr ?_, hbw.trans b7, by omega, by omega, by rw [List.length_append, List.length_singleton]; omega, .inr (by rw [List.length_append, List.length_singleton]; omega)⟩
                  rw [Lib.byteCells_append]
                  exact h7
              · have cD2 := Tryd.utf8_DecodeRuneInString (s2.extract i s2.size) wr (Utf8Tabs_below HT.out hbw)
                rw [hdg2] at cD2
                obtain ⟨K2, hK2⟩ : ∃ K2, (Utf8.decode s2 i).2 = K2 := ⟨_, rfl⟩
                rw [hK2] at cD2 hwd2 hwn2
                by_cases hk2 : K2 = 1
                · subst hk2
                  clear hdg2 hsm2
                  cases iv with
                  | false =>
                    go_wp2_with fail
                    go_must (refine cD2.mono ?_; rintro e W7 ⟨rfl, b7⟩)
                    have b7' := hbw.trans (b7.mono hbz)
                    go_wp2_with fail
                    refine (Tryd.Builder_WriteString_kc w.heap.size w.heap.size (Lib.byteCells acc) ⟨#[]⟩ W7 (hI.keptB b7) (by rw [Lib.byteCells_length]; show acc.length + 0 ≤ _; omega) b7'.size).mono ?_
                    rintro e W8 ⟨rfl, ⟨h8w, b8, -⟩, -⟩
                    go_wp2
                    go_roundg g2
                    case measure => omega
                    case rel =>
                      refine ⟨i + 1, true, acc, rfl, by go_num, Or.inr ?_, b7'.trans b8, by omega, by omega, by omega, .inr (by omega)⟩
                      have : Lib.byteCells acc ++ Lib.strCells ⟨#[]⟩ = Lib.byteCells acc := by simp [Lib.strCells]
                      rw [this] at h8w
                      exact h8w
                  | true =>
                    go_wp2_with fail
                    go_must (refine cD2.mono ?_; rintro e W7 ⟨rfl, b7⟩)
                    have b7' := hbw.trans (b7.mono hbz)
                    go_wp2
                    go_roundg g2
                    case measure => omega
                    case rel => exact ⟨i + 1, true, acc, rfl, by go_num, hI.keptB b7, b7', by omega, by omega, by omega, .inr (by omega)⟩
                · have hi0 : i ≠ 0 := by
                    intro h0
                    subst h0
                    rw [HD0.out] at hK2
                    exact hk2 hK2.symm
                  have hkb : ((K2 : Int) == 1) = false := by simp; omega
                  have hx2 : (s2.extract i (i + K2)).size = K2 := by rw [Lib.size_eq, Lib.extract_data, List.length_take, List.length_drop, ← Lib.size_eq]; omega
                  clear hdg2 hsm2
                  go_wp2_with fail
                  go_must (refine cD2.mono ?_; rintro e W7 ⟨rfl, b7⟩)
                  have b7' := hbw.trans (b7.mono hbz)
                  have hpk : ((i : Int) + (K2 : Int)).toNat = i + K2 := by omega
                  go_wp2_with fail
                  refine (Tryd.Builder_WriteString_kc w.heap.size w.heap.size (Lib.byteCells acc) (s2.extract i (i + K2)) W7 (hI.keptB b7) (by rw [Lib.byteCells_length, hx2]; omega) b7'.size).mono ?_
                  rintro e W8 ⟨rfl, ⟨h8w, b8, -⟩, -⟩
                  go_wp2
                  go_roundg g2
                  case measure => omega
                  case rel =>
                    refine ⟨i + K2, false, acc ++ (s2.extract i (i + K2)).data.toList, rfl, by go_num, Or.inr ?_, b7'.trans b8, by omega, by omega, ?_, .inr ?_⟩
                    · rw [Lib.byteCells_append]
                      exact h8w
                    · rw [List.length_append, ← Lib.size_eq, hx2]; omega
                    · rw [List.length_append, ← Lib.size_eq, hx2]; omega
            · obtain rfl : i = s2.size := by omega
              go_wp2_with fail
              refine (Tryd.Builder_String_any_k w.heap.size w.heap.size acc wr hI hbw.size).mono ?_
              rintro e W8 ⟨rfl, -, b8, -⟩
              go_wp2
              go_ret
              refine ⟨_, rfl, hbw.trans b8, fun hv => ?_, fun _ => ?_⟩
              · rw [HV.out] at hv; cases hv
              · show acc.toArray.size < _
                rw [List.size_toArray]
                omega
        · have hk1 : ((K : Int) == 1) = false := by simp; omega
          have HS : Hid (validD (s.data.toList.drop (pos + K)) = V) := Lib.hid (by rw [hstep, if_neg (fun h => hk h.2)])
          clear hstep hsm
          go_wp2_with fail
          go_must (refine cD.mono ?_; rintro e W3 ⟨rfl, b3⟩)
          go_wp2
          go_roundg g'
          case measure => omega
          case rel => exact ⟨rfl, pos + K, (b3.block _ (by omega)).trans hfr2, (b3.block _ (by omega)).trans hit2, hbw2.trans (b3.mono (by omega)), HS.out, by omega, hwn⟩
      · have h5' : ¬ ((R : Int) = 65533) := by omega
        have h5b : ((R : Int) != 65533) = true := by simp [h5']
        have HS : Hid (validD (s.data.toList.drop (pos + K)) = V) := Lib.hid (by rw [hstep, if_neg (fun h => h5 h.1)])
        clear hstep hsm
        go_wp2
        go_roundg g'
        case measure => omega
        case rel => exact ⟨rfl, pos + K, hfr2, hit2, hbw2, HS.out, by omega, hwn⟩
    · -- the text is through
      obtain rfl : pos = s.size := by omega
      have hnx : ∀ ty, (Instr.next (.pointer (some ⟨w.heap.size + 1, 0, none⟩)) true ty).run Tryd.prog wr = _ := fun ty => Lib.run_next_end_at wr (w.heap.size + 1) s s.size ty hit hlt
      have cC := Tryd.Builder_Cap_cell w.heap.size none 0 0 wr (by rw [Lib.cell_of_heap hfr]; rfl)
      go_wp2_with fail
      refine cC.mono ?_
      rintro e W' ⟨rfl, rfl⟩
      go_wp2
      go_ret
      refine ⟨s, rfl, hbw, fun _ => rfl, fun hv => ?_⟩
      rw [← hlen, List.drop_length] at hsp
      rw [hv] at hsp; cases hsp
theorem runes_Right.calls (a0 : ByteArray) (r : Bool) (w : World) (h : runes_Right.f a0 = some r) (hLd : LaidU w) :
    Calls Tryd.prog 23 #[.string a0] w fun e w' => e = .returned (.bool r) ∧ Below w.heap.size w w' := by
  unfold runes_Right.f at h
  split at h
  · have hr : validD a0.data.toList = r := Option.some.inj h
    have hk := toValid_calls a0 w (by assumption) hLd
    rw [hr] at hk
    go_enter Tryd.func23, Tryd.ntmps23
    go_wp2_with fail
    refine hk.mono ?_
    rintro e w1 ⟨t, rfl, hb, h1, h2⟩
    have ht : (t.toList == a0.toList) = r := by
      cases r with
      | true => rw [h1 rfl]; exact beq_self_eq_true _
      | false =>
        have := h2 rfl
        rw [beq_eq_false_iff_ne, Lib.toList_data, Lib.toList_data]
        intro e
        have e2 := congrArg List.length e
        rw [← Lib.size_eq, ← Lib.size_eq] at e2
        omega
    go_wp2
    go_ret
    exact ⟨rfl, hb⟩
  · cases h
end Go.Proofs.YtpefkehcibdjgaaDoor.H
