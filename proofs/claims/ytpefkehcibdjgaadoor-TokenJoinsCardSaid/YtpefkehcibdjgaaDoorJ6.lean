/- Proved here: token.first at a token, and where there is none. -/
import Derived.Test.YtpefkehcibdjgaaDoorJ5
set_option linter.unusedVariables false
namespace Go.Proofs.YtpefkehcibdjgaaDoor.T
open Go.RowKit Go.Proofs.YtpefkehcibdjgaaDoor.QTjn Go.Proofs.YtpefkehcibdjgaaDoorW.PrintLast Go.Proofs.YtpefkehcibdjgaaDoorW.PrintMore Go.Proofs.YtpefkehcibdjgaaDoor.H Go.Proofs.YtpefkehcibdjgaaDoor.R Go.Lib
open Go.Proofs.YtpefkehcibdjgaaDoorW.PrintWords hiding encs
theorem sm_head {b : UInt8} {q : List UInt8} {n : Nat} {w : List UInt8} {c : Nat} {t : List Nat} (h : sm ((b :: q).take (n + 1)) = sm w) (hw : sm w = c :: t) : smallN b.toNat = c := by
  rw [List.take_succ_cons, hw] at h
  exact (List.cons.inj h).1
theorem no_words (b : UInt8) (q : List UInt8) (h1 : smallN b.toNat ≠ 97) (h2 : smallN b.toNat ≠ 103) : ¬ sm ((b :: q).take 5) = sm wAm.data.toList ∧ ¬ sm ((b :: q).take 3) = sm wA.data.toList ∧ ¬ sm ((b :: q).take 7) = sm wGen.data.toList :=
  ⟨fun h => h1 (sm_head h rfl), fun h => h1 (sm_head h rfl), fun h => h2 (sm_head h rfl)⟩
theorem lettered_word (w : ByteArray) (k : Int) (pre r : List UInt8) (hw : isWord w k) (hp : sm pre = sm w.data.toList) (hl : (pre ++ r).length ≤ 4096) :
    Ev (fun j => token_lettered.f j (bs (pre ++ r))) (k, w, 1, 0, (w.size : Int)) := by
  have hlen : pre.length = w.size := by
    have := congrArg List.length hp
    unfold sm at this
    rw [List.length_map, List.length_map, ← Lib.size_eq] at this; exact this
  obtain ⟨b, q, hq⟩ : ∃ b q, pre = b :: q := by
    cases pre with
    | nil => rcases hw with ⟨rfl, _⟩ | ⟨rfl, _⟩ | ⟨rfl, _⟩ <;> simp [wAm, wA, wGen, ByteArray.size] at hlen
    | cons b q => exact ⟨b, q, rfl⟩
  have ht : sm ((pre ++ r).take w.size) = sm w.data.toList := by rw [← hlen, List.take_left]; exact hp
  refine lettered_go (pre ++ r) hl b (q ++ r) (by rw [hq]; rfl) _ ?_
  rcases hw with ⟨rfl, rfl⟩ | ⟨rfl, rfl⟩ | ⟨rfl, rfl⟩
  · exact Ev.congr (f := fun _ => some (15, wAm, 1, 0, 5)) (fun j => if_pos ht) (Ev.now _)
  · have n1 : ¬ sm ((pre ++ r).take 5) = sm wAm.data.toList := fun h => by
      have e1 := congrArg (fun l => l[1]?) h
      have e2 := congrArg (fun l => l[1]?) ht
      have e3 : (sm ((pre ++ r).take 5))[1]? = (sm ((pre ++ r).take 3))[1]? := by
        unfold sm
        rw [List.getElem?_map, List.getElem?_map, List.getElem?_take, List.getElem?_take]; rfl
      have e4 : (sm ((pre ++ r).take 3))[1]? = (sm wA.data.toList)[1]? := e2
      have e5 : (sm ((pre ++ r).take 5))[1]? = (sm wAm.data.toList)[1]? := e1
      rw [e3, e4] at e5
      exact absurd e5 (by decide)
    exact Ev.congr (f := fun _ => some (15, wA, 1, 0, 3)) (fun j => (if_neg n1).trans (if_pos ht)) (Ev.now _)
  · have hb : smallN b.toNat = 103 := by
      rw [hq] at ht
      exact sm_head (n := 6) (w := wGen.data.toList) ht rfl
    have hn : (pre ++ r) = b :: (q ++ r) := by rw [hq]; rfl
    have n1 : ¬ sm ((pre ++ r).take 5) = sm wAm.data.toList := fun h => by
      rw [hn] at h
      have := sm_head (n := 4) (w := wAm.data.toList) (c := 97) h rfl
      omega
    have n2 : ¬ sm ((pre ++ r).take 3) = sm wA.data.toList := fun h => by
      rw [hn] at h
      have := sm_head (n := 2) (w := wA.data.toList) (c := 97) h rfl
      omega
    exact Ev.congr (f := fun _ => some (16, wGen, 1, 0, 7)) (fun j => (if_neg n1).trans ((if_neg n2).trans (if_pos ht))) (Ev.now _)
theorem lettered_power (b s : UInt8) (r : List UInt8) (hb : smallN b.toNat = 101) (hs : s = 43 ∨ s = 45) (hl : (b :: s :: r).length ≤ 4096) :
    Ev (fun j => token_lettered.f j (bs (b :: s :: r))) (13, bs [s], 1, 0, 2) := by
  obtain ⟨n1, n2, n3⟩ := no_words b (s :: r) (by omega) (by omega)
  refine lettered_go _ hl b (s :: r) rfl _ ?_
  refine Ev.congr (f := fun j => token_lettered.j1 j (bs (b :: s :: r)) ((smallN b.toNat : Nat) : Int) true) (fun j => (if_neg n1).trans ((if_neg n2).trans ((if_neg n3).trans (if_pos ⟨hb, by simp, hs⟩)))) ?_
  refine Ev.step (f := fun _ => some (13, bs [s], 1, 0, 2)) (fun j => ?_) (Ev.now _)
  show token_lettered.j1 (j + 1) (bs (b :: s :: r)) _ true = _
  rw [token_lettered.j1, if_pos rfl, if_pos (by omega), if_pos (by rw [bs_size, List.length_cons, List.length_cons]; omega), bs_ext]; rfl
theorem let_small (c : Nat) (h : isLet c) : c ≠ 97 ∧ c ≠ 103 ∧ c ≠ 101 := by unfold isLet at h; omega
theorem date_loop (l : List UInt8) (hl : l.length ≤ 4096) (c : UInt8) (r : List UInt8) (hr : ∀ x r', r = x :: r' → smallN x.toNat ≠ c.toNat) :
    ∀ (pre : List UInt8) (p : Nat), l.drop p = pre ++ r → p ≤ l.length → (∀ x ∈ pre, smallN x.toNat = c.toNat) → Ev (fun j => token_lettered.l1 j (bs l) (c.toNat : Int) p) (14, bs [c], ((p + pre.length : Nat) : Int), 0, ((p + pre.length : Nat) : Int))
  | [], p, hd, hp, _ => by
    have hc := c.toNat_lt
    have hst : strOfNums (([(c.toNat : Int)] : List Int)) = bs [c] := by
      show (⟨[UInt8.ofNat ((c.toNat : Int)).toNat].toArray⟩ : ByteArray) = _
      rw [Int.toNat_natCast, UInt8.ofNat_toNat]; rfl
    refine Ev.step (f := fun _ => some (14, bs [c], (p : Int), 0, (p : Int))) (fun j => ?_) (Ev.now _)
    show token_lettered.l1 (j + 1) (bs l) (c.toNat : Int) p = _
    rw [token_lettered.l1, hst]
    by_cases h : p < l.length
    · obtain ⟨x, q, hx⟩ : ∃ x q, r = x :: q := by
        cases r with
        | nil => have := congrArg List.length hd; rw [List.length_drop] at this; simp at this; omega
        | cons x q => exact ⟨x, q, rfl⟩
      have hg : l.getD p 0 = x := by rw [getD_drop, hd, hx]; rfl
      have hne := hr x q hx
      rw [if_pos (by rw [bs_size]; omega), if_pos (by omega), bt_bs, hg, small_f _ x.toNat_lt, Option.bind_some, if_neg (by omega)]
    · rw [if_neg (by rw [bs_size]; omega)]
  | x :: pre, p, hd, hp, ha => by
    have hx := ha x (by simp)
    have hlen : p < l.length := by
      have := congrArg List.length hd; rw [List.length_drop, List.length_append, List.length_cons] at this; omega
    have hg : l.getD p 0 = x := by rw [getD_drop, hd]; rfl
    have hd2 : l.drop (p + 1) = pre ++ r := by rw [← List.drop_drop, hd]; rfl
    have ih := date_loop l hl c r hr pre (p + 1) hd2 (by omega) (fun y hy => ha y (by simp [hy]))
    have e : p + (x :: pre).length = p + 1 + pre.length := by rw [List.length_cons]; omega
    rw [e]
    refine Ev.step (fun j => ?_) ih
    show token_lettered.l1 (j + 1) (bs l) (c.toNat : Int) p = _
    rw [token_lettered.l1, if_pos (by rw [bs_size]; omega), if_pos (by omega), bt_bs, hg, small_f _ x.toNat_lt, Option.bind_some, if_pos (by omega), w64q _ (by omega) (by omega)]; rfl
theorem lettered_date (c b : UInt8) (pre r : List UInt8) (hc : isLet c.toNat) (hb : smallN b.toNat = c.toNat) (ha : ∀ x ∈ pre, smallN x.toNat = c.toNat) (hr : ∀ x r', r = x :: r' → smallN x.toNat ≠ c.toNat) (hl : (b :: pre ++ r).length ≤ 4096) :
    Ev (fun j => token_lettered.f j (bs (b :: pre ++ r))) (14, bs [c], (pre.length : Int) + 1, 0, (pre.length : Int) + 1) := by
  obtain ⟨x1, x2, x3⟩ := let_small _ hc
  obtain ⟨n1, n2, n3⟩ := no_words b (pre ++ r) (by omega) (by omega)
  obtain ⟨i, hi, hneg⟩ := let_index c.toNat c.toNat_lt
  refine lettered_go _ hl b (pre ++ r) rfl _ ?_
  refine Ev.congr (f := fun j => token_lettered.j1 j (bs (b :: pre ++ r)) (c.toNat : Int) false) (fun j => (if_neg n1).trans ((if_neg n2).trans ((if_neg n3).trans ((if_neg (fun h => by omega)).trans (by rw [hb]))))) ?_
  have h := date_loop (b :: pre ++ r) hl c r hr pre 1 rfl (by simp) ha
  have e : ((1 + pre.length : Nat) : Int) = (pre.length : Int) + 1 := by omega
  rw [e] at h
  refine Ev.step (fun j => ?_) h
  show token_lettered.j1 (j + 1) (bs (b :: pre ++ r)) (c.toNat : Int) false = _
  rw [token_lettered.j1, if_neg (by simp)]
  show (strings_IndexByte.f letB (c.toNat : Int)).bind _ = _
  rw [hi, Option.bind_some, if_neg (fun h => (hneg.1 h) hc)]; rfl
theorem lettered_none (b : UInt8) (q : List UInt8) (hw : ∀ w k, isWord w k → ¬ sm ((b :: q).take w.size) = sm w.data.toList) (hp : smallN b.toNat = 101 → ∀ x r', q = x :: r' → x ≠ 43 ∧ x ≠ 45) (hn : ¬ isLet (smallN b.toNat)) (hl : (b :: q).length ≤ 4096) :
    Ev (fun j => token_lettered.f j (bs (b :: q))) (0, (⟨#[]⟩ : ByteArray), 0, 0, 0) := by
  have n1 : ¬ sm ((b :: q).take 5) = sm wAm.data.toList := hw wAm 15 (.inl ⟨rfl, rfl⟩)
  have n2 : ¬ sm ((b :: q).take 3) = sm wA.data.toList := hw wA 15 (.inr (.inl ⟨rfl, rfl⟩))
  have n3 : ¬ sm ((b :: q).take 7) = sm wGen.data.toList := hw wGen 16 (.inr (.inr ⟨rfl, rfl⟩))
  have n4 : ¬ (smallN b.toNat = 101 ∧ 1 < (b :: q).length ∧ ((b :: q).getD 1 0 = 43 ∨ (b :: q).getD 1 0 = 45)) := fun h => by
    cases q with
    | nil => simp at h
    | cons x r' =>
      have := hp h.1 x r' rfl
      rcases h.2.2 with h | h
      · exact this.1 h
      · exact this.2 h
  have hlt : smallN b.toNat < 256 := by have := b.toNat_lt; unfold smallN; split <;> omega
  obtain ⟨i, hi, hneg⟩ := let_index (smallN b.toNat) hlt
  refine lettered_go _ hl b q rfl _ ?_
  refine Ev.congr (f := fun j => token_lettered.j1 j (bs (b :: q)) ((smallN b.toNat : Nat) : Int) false) (fun j => (if_neg n1).trans ((if_neg n2).trans ((if_neg n3).trans (if_neg n4)))) ?_
  refine Ev.step (f := fun _ => some (0, (⟨#[]⟩ : ByteArray), 0, 0, 0)) (fun j => ?_) (Ev.now _)
  show token_lettered.j1 (j + 1) (bs (b :: q)) _ false = _
  rw [token_lettered.j1, if_neg (by simp)]
  show (strings_IndexByte.f letB ((smallN b.toNat : Nat) : Int)).bind _ = _
  rw [hi, Option.bind_some, if_pos (hneg.2 hn)]
/-- behind the marks and the single signs -/
theorem first_more (b : UInt8) (q : List UInt8) (hm : NoMark b) (hs : (singleP b.toNat).2 = false) (x : Int × ByteArray × Int × Int × Int) (res : R7) (hx : Ev (fun k => token_lettered.f k (bs (b :: q))) x)
    (h : (if x.2.2.2.2 > 0 then some (x.1, x.2.1, x.2.2.1, x.2.2.2.1, x.2.2.2.2, 0, 0) else ((runes_First.f (bs (b :: q))).bind fun bt180 => (if bt180.2.2 = true then (if (bt (bs (b :: q)) 0) < 128 then ((strings_IndexByte.f plainB (bt (bs (b :: q)) 0)).bind fun t183 => (if t183 < 0 then (some (0, (⟨#[]⟩ : ByteArray), 0, 0, 0, 0, 9)) else (if 0 ≤ bt180.2.1 then (if bt180.2.1 ≤ ((bs (b :: q)).size : Int) then (some (17, (bs (b :: q)).extract 0 (bt180.2.1 : Int).toNat, 1, 0, bt180.2.1, 0, 0)) else (none)) else (none)))) else (if 0 ≤ bt180.2.1 then (if bt180.2.1 ≤ ((bs (b :: q)).size : Int) then (some (17, (bs (b :: q)).extract 0 (bt180.2.1 : Int).toNat, 1, 0, bt180.2.1, 0, 0)) else (none)) else (none))) else (some (0, (⟨#[]⟩ : ByteArray), 0, 0, 0, 0, 4))))) = some res) :
    Ev (fun k => token_first.f k (bs (b :: q))) res := by
  have h0 : (0 : Int) < ((bs (b :: q)).size : Int) := by rw [bs_size, List.length_cons]; omega
  have hb : bt (bs (b :: q)) 0 = (b.toNat : Int) := bt_bs0 _
  have hb2 := b.toNat_lt
  obtain ⟨sk, hsk⟩ : ∃ sk, token_single.f (b.toNat : Int) = some (sk, false) := by
    refine ⟨(singleP b.toNat).1, ?_⟩
    unfold token_single.f
    rw [if_pos (by omega)]
    congr 1
    rw [← hs]
  refine Ev.congr (f := fun k => (token_lettered.f k (bs (b :: q))).bind fun x => (if x.2.2.2.2 > 0 then some (x.1, x.2.1, x.2.2.1, x.2.2.2.1, x.2.2.2.2, 0, 0) else ((runes_First.f (bs (b :: q))).bind fun bt180 => (if bt180.2.2 = true then (if (bt (bs (b :: q)) 0) < 128 then ((strings_IndexByte.f plainB (bt (bs (b :: q)) 0)).bind fun t183 => (if t183 < 0 then (some (0, (⟨#[]⟩ : ByteArray), 0, 0, 0, 0, 9)) else (if 0 ≤ bt180.2.1 then (if bt180.2.1 ≤ ((bs (b :: q)).size : Int) then (some (17, (bs (b :: q)).extract 0 (bt180.2.1 : Int).toNat, 1, 0, bt180.2.1, 0, 0)) else (none)) else (none)))) else (if 0 ≤ bt180.2.1 then (if bt180.2.1 ≤ ((bs (b :: q)).size : Int) then (some (17, (bs (b :: q)).extract 0 (bt180.2.1 : Int).toNat, 1, 0, bt180.2.1, 0, 0)) else (none)) else (none))) else (some (0, (⟨#[]⟩ : ByteArray), 0, 0, 0, 0, 4)))))) (fun k => ?_) ?_
  · unfold token_first.f
    rw [begun_none k b q hm, Option.bind_some, if_neg (by simp), if_pos h0, hb, hsk, Option.bind_some, if_neg (by simp)]
    rfl
  · refine Ev.bind hx ?_
    rw [h]
    exact Ev.now res
end Go.Proofs.YtpefkehcibdjgaaDoor.T
