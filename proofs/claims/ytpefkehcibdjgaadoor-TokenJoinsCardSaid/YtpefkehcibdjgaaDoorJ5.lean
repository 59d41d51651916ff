/- Proved here: token.first tells a token, or where a code is wrong, as the plain relations do. -/
import Derived.Test.YtpefkehcibdjgaaDoorJ4
set_option linter.unusedVariables false
namespace Go.Proofs.YtpefkehcibdjgaaDoor.T
open Go.RowKit Go.Proofs.YtpefkehcibdjgaaDoor.QTjn Go.Proofs.YtpefkehcibdjgaaDoorW.PrintLast Go.Proofs.YtpefkehcibdjgaaDoorW.PrintMore Go.Proofs.YtpefkehcibdjgaaDoor.H Go.Proofs.YtpefkehcibdjgaaDoor.R Go.Lib
open Go.Proofs.YtpefkehcibdjgaaDoorW.PrintWords hiding encs
/-- no sign of its own begins here -/
def NoMark (b : UInt8) : Prop := b ≠ 34 ∧ b ≠ 92 ∧ b ≠ 95 ∧ b ≠ 42 ∧ b ≠ 91
theorem u8_eq (b : UInt8) (n : Nat) (hn : n < 256) : ((b.toNat : Int) = (n : Int)) ↔ b = UInt8.ofNat n := by
  constructor
  · intro h
    apply UInt8.toNat_inj.1
    rw [UInt8.toNat_ofNat']; omega
  · intro h
    subst h
    rw [UInt8.toNat_ofNat']; omega
theorem begun_none (k : Nat) (b : UInt8) (r : List UInt8) (h : NoMark b) : token_begun.f k (bs (b :: r)) = some (0, (⟨#[]⟩ : ByteArray), 0, 0, 0, 0, 0, false) := by
  obtain ⟨h1, h2, h3, h4, h5⟩ := h
  have hb : bt (bs (b :: r)) 0 = (b.toNat : Int) := bt_bs0 _
  have k1 : ¬ (b.toNat : Int) = 34 := fun h => h1 ((u8_eq b 34 (by omega)).1 h)
  have k2 : ¬ (b.toNat : Int) = 92 := fun h => h2 ((u8_eq b 92 (by omega)).1 h)
  have k3 : ¬ (b.toNat : Int) = 95 := fun h => h3 ((u8_eq b 95 (by omega)).1 h)
  have k4 : ¬ (b.toNat : Int) = 42 := fun h => h4 ((u8_eq b 42 (by omega)).1 h)
  have k5 : ¬ (b.toNat : Int) = 91 := fun h => h5 ((u8_eq b 91 (by omega)).1 h)
  unfold token_begun.f
  rw [hb, if_pos (by rw [bs_size, List.length_cons]; omega), if_neg k1, if_neg k2, if_neg k3, if_neg k4, if_neg k5]
/-- what begun makes of a seven -/
def w8 (x : R7) : Int × ByteArray × Int × Int × Int × Int × Int × Bool := (x.1, x.2.1, x.2.2.1, x.2.2.2.1, x.2.2.2.2.1, x.2.2.2.2.2.1, x.2.2.2.2.2.2, true)
theorem begun_ends (a z : UInt8) (kd e : Int) (he : isEnds a z kd e) (q : List UInt8) (x : R7) (h : Ev (fun k => token_closed.f k (bs (a :: q)) kd z.toNat e) x) : Ev (fun k => token_begun.f k (bs (a :: q))) (w8 x) := by
  have h0 : (0 : Int) < ((bs (a :: q)).size : Int) := by rw [bs_size, List.length_cons]; omega
  have hb : bt (bs (a :: q)) 0 = (a.toNat : Int) := bt_bs0 _
  rcases he with ⟨rfl, rfl, rfl, rfl⟩ | ⟨rfl, rfl, rfl, rfl⟩
  · have hb2 : bt (bs ((34 : UInt8) :: q)) 0 = 34 := hb
    refine Ev.congr (f := fun k => (token_closed.f k (bs ((34 : UInt8) :: q)) 1 34 5).bind fun bt111 => (some (w8 bt111))) (fun k => ?_) (Ev.bind h (Ev.now _))
    unfold token_begun.f
    rw [if_pos h0, hb2, if_pos rfl]; rfl
  · have hb2 : bt (bs ((91 : UInt8) :: q)) 0 = 91 := hb
    refine Ev.congr (f := fun k => (token_closed.f k (bs ((91 : UInt8) :: q)) 5 93 7).bind fun bt111 => (some (w8 bt111))) (fun k => ?_) (Ev.bind h (Ev.now _))
    unfold token_begun.f
    rw [if_pos h0, hb2, if_neg (by decide), if_neg (by decide), if_neg (by decide), if_neg (by decide), if_pos rfl]; rfl
theorem begun_mark (b : UInt8) (kd e : Int) (he : isMark b kd e) (q : List UInt8) (x : R7) (h : token_marked.f (bs (b :: q)) kd e = some x) (k : Nat) : token_begun.f k (bs (b :: q)) = some (w8 x) := by
  have h0 : (0 : Int) < ((bs (b :: q)).size : Int) := by rw [bs_size, List.length_cons]; omega
  have hb : bt (bs (b :: q)) 0 = (b.toNat : Int) := bt_bs0 _
  rcases he with ⟨rfl, rfl, rfl⟩ | ⟨rfl, rfl, rfl⟩ | ⟨rfl, rfl, rfl⟩
  · have hb2 : bt (bs ((92 : UInt8) :: q)) 0 = 92 := hb
    unfold token_begun.f
    rw [if_pos h0, hb2, if_neg (by decide), if_pos rfl, h]; rfl
  · have hb2 : bt (bs ((95 : UInt8) :: q)) 0 = 95 := hb
    unfold token_begun.f
    rw [if_pos h0, hb2, if_neg (by decide), if_neg (by decide), if_pos rfl, h]; rfl
  · have hb2 : bt (bs ((42 : UInt8) :: q)) 0 = 42 := hb
    unfold token_begun.f
    rw [if_pos h0, hb2, if_neg (by decide), if_neg (by decide), if_neg (by decide), if_pos rfl, h]; rfl
theorem first_begun {s : ByteArray} {x : R7} (h : Ev (fun k => token_begun.f k s) (w8 x)) : Ev (fun k => token_first.f k s) x := by
  unfold token_first.f
  refine Ev.bind (f := fun k x => _) h ?_
  exact Ev.congr (f := fun _ => some x) (fun k => by rw [if_pos (by rfl)]; rfl) (Ev.now _)
theorem word_bs (w : ByteArray) (k : Int) (hw : isWord w k) (l : List UInt8) (hl : l.length ≤ 4096) : token_word.f (bs l) w = some (decide (sm (l.take w.size) = sm w.data.toList)) := by
  have hw2 : w = wAm ∨ w = wA ∨ w = wGen := by rcases hw with ⟨h, _⟩ | ⟨h, _⟩ | ⟨h, _⟩ <;> simp [h]
  unfold token_word.f
  rw [if_pos ⟨by rw [bs_size]; unfold big; omega, hw2⟩]
  congr 1
  unfold beginsP
  rw [bs_size]
  show (decide (w.size ≤ l.length) && (sm (l.take w.size) == sm w.data.toList)) = _
  rw [Bool.eq_iff_iff]
  simp only [Bool.and_eq_true, decide_eq_true_eq, beq_iff_eq]
  constructor
  · exact fun h => h.2
  · intro h
    refine ⟨?_, h⟩
    have := congrArg List.length h
    unfold sm at this
    rw [List.length_map, List.length_map, List.length_take, ← Lib.size_eq] at this
    omega
theorem small_f (c : Nat) (hc : c < 256) : token_small.f (c : Int) = some ((smallN c : Nat) : Int) := by
  unfold token_small.f smallN
  by_cases h1 : (c : Int) ≥ 65
  · rw [if_pos h1]
    by_cases h2 : (c : Int) ≤ 90
    · rw [if_pos h2, if_pos (by omega)]; congr 1; omega
    · rw [if_neg h2, if_neg (by omega)]
  · rw [if_neg h1, if_neg (by omega)]
/-- which word, if any -/
theorem lettered_go (l : List UInt8) (hl : l.length ≤ 4096) (b : UInt8) (q : List UInt8) (hq : l = b :: q) (res : Int × ByteArray × Int × Int × Int)
    (hE : Ev (fun k => if sm (l.take 5) = sm wAm.data.toList then some (15, wAm, 1, 0, 5) else if sm (l.take 3) = sm wA.data.toList then some (15, wA, 1, 0, 3) else if sm (l.take 7) = sm wGen.data.toList then some (16, wGen, 1, 0, 7)
      else if smallN b.toNat = 101 ∧ 1 < l.length ∧ (l.getD 1 0 = 43 ∨ l.getD 1 0 = 45) then token_lettered.j1 k (bs l) ((smallN b.toNat : Nat) : Int) true else token_lettered.j1 k (bs l) ((smallN b.toNat : Nat) : Int) false) res) : Ev (fun k => token_lettered.f k (bs l)) res := by
  have h0 : (0 : Int) < ((bs l).size : Int) := by rw [bs_size, hq, List.length_cons]; omega
  have hb : bt (bs l) 0 = (b.toNat : Int) := by rw [bt_bs0, hq]; rfl
  have w1 := word_bs wAm 15 (.inl ⟨rfl, rfl⟩) l hl
  have w2 := word_bs wA 15 (.inr (.inl ⟨rfl, rfl⟩)) l hl
  have w3 := word_bs wGen 16 (.inr (.inr ⟨rfl, rfl⟩)) l hl
  have z1 : wAm.size = 5 := rfl
  have z2 : wA.size = 3 := rfl
  have z3 : wGen.size = 7 := rfl
  rw [z1] at w1; rw [z2] at w2; rw [z3] at w3
  obtain ⟨K, hK⟩ := hE
  refine ⟨K + 3, fun k hk => ?_⟩
  obtain ⟨m, rfl⟩ : ∃ m, k = m + 3 := ⟨k - 3, by omega⟩
  have hm := hK m (by omega)
  change (if sm (l.take 5) = sm wAm.data.toList then _ else _) = _ at hm
  show token_lettered.l0 (m + 3) (bs l) [wAm, wA] 2 0 = some res
  rw [token_lettered.l0, if_pos (by omega), if_pos (by omega), if_pos (by decide)]
  have r0 : rdOf ByteArray.empty [wAm, wA] 0 = wAm := rfl
  have r1 : rdOf ByteArray.empty [wAm, wA] 1 = wA := rfl
  rw [r0, w1, Option.bind_some]
  by_cases c1 : sm (l.take 5) = sm wAm.data.toList
  · rw [if_pos c1] at hm
    rw [if_pos (decide_eq_true c1)]; exact hm
  · rw [if_neg c1] at hm
    rw [if_neg (by simp [c1]), w64q (0 + 1) (by omega) (by omega)]
    show token_lettered.l0 (m + 2) (bs l) [wAm, wA] 2 1 = some res
    rw [token_lettered.l0, if_pos (by omega), if_pos (by omega), if_pos (by decide), r1, w2, Option.bind_some]
    by_cases c2 : sm (l.take 3) = sm wA.data.toList
    · rw [if_pos c2] at hm
      rw [if_pos (decide_eq_true c2)]; exact hm
    · rw [if_neg c2] at hm
      rw [if_neg (by simp [c2]), w64q (1 + 1) (by omega) (by omega)]
      show token_lettered.l0 (m + 1) (bs l) [wAm, wA] 2 2 = some res
      rw [token_lettered.l0, if_neg (by omega)]
      show (token_word.f (bs l) wGen).bind _ = some res
      rw [w3, Option.bind_some]
      by_cases c3 : sm (l.take 7) = sm wGen.data.toList
      · rw [if_pos c3] at hm
        rw [if_pos (decide_eq_true c3)]; exact hm
      · rw [if_neg c3] at hm
        rw [if_neg (by simp [c3]), if_pos h0, hb, small_f _ b.toNat_lt, Option.bind_some]
        by_cases c4 : smallN b.toNat = 101
        · rw [if_pos (by omega)]
          by_cases c5 : 1 < l.length
          · rw [if_pos (by rw [bs_size]; omega), if_pos (by rw [bs_size]; omega), bt_bs1]
            by_cases c6 : l.getD 1 0 = 43
            · rw [if_pos ⟨c4, c5, .inl c6⟩] at hm
              rw [if_pos (by rw [c6]; rfl)]; exact hm
            · have k6 : ¬ ((l.getD 1 0).toNat : Int) = 43 := fun h => c6 ((u8_eq _ 43 (by omega)).1 h)
              rw [if_neg k6]
              by_cases c7 : l.getD 1 0 = 45
              · rw [if_pos ⟨c4, c5, .inr c7⟩] at hm
                rw [c7]; exact hm
              · rw [if_neg (fun h => h.2.2.elim c6 c7)] at hm
                have : (((l.getD 1 0).toNat : Int) == 45) = false := by rw [beq_eq_false_iff_ne]; exact fun h => c7 ((u8_eq _ 45 (by omega)).1 h)
                rw [this]; exact hm
          · rw [if_neg (fun h => c5 h.2.1)] at hm
            rw [if_neg (by rw [bs_size]; omega)]; exact hm
        · rw [if_neg (fun h => c4 h.1)] at hm
          rw [if_neg (by omega)]; exact hm
def letB : ByteArray := ⟨#[121, 109, 100, 104, 115]⟩
theorem let_index (c : Nat) (hc : c < 256) : ∃ i, strings_IndexByte.f letB (c : Int) = some i ∧ (i < 0 ↔ ¬ isLet c) := by
  refine ⟨indexP letB.data.toList (c : Int), ?_, ?_⟩
  · unfold strings_IndexByte.f
    rw [if_pos ⟨by unfold big; decide, by omega, by omega⟩]
  · unfold isLet
    have key : ∀ c : Nat, c < 256 → (indexP letB.data.toList (c : Int) < 0 ↔ ¬ (c = 121 ∨ c = 109 ∨ c = 100 ∨ c = 104 ∨ c = 115)) := by decide +kernel
    exact key c hc
def plainB : ByteArray := ⟨#[36, 45, 43, 40, 41, 58, 33, 94, 38, 39, 126, 123, 125, 60, 62, 61, 32, 49, 50, 51, 52, 53, 54, 55, 56, 57]⟩
theorem plain_index (b : UInt8) : ∃ i, strings_IndexByte.f plainB (b.toNat : Int) = some i ∧ (i < 0 ↔ b ∉ plainsL) := by
  have hb := b.toNat_lt
  refine ⟨indexP plainB.data.toList (b.toNat : Int), ?_, ?_⟩
  · unfold strings_IndexByte.f
    rw [if_pos ⟨by unfold big; decide, by omega, by omega⟩]
  · have key : ∀ c : Nat, c < 256 → (indexP plainB.data.toList (c : Int) < 0 ↔ UInt8.ofNat c ∉ plainsL) := by decide +kernel
    have := key b.toNat b.toNat_lt
    rwa [UInt8.ofNat_toNat] at this
end Go.Proofs.YtpefkehcibdjgaaDoor.T
