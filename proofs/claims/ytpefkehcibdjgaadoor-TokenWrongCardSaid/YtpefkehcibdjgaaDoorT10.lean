/- Proved here: the printed form of the law TokenWrong answers true at every input of its kinds; no further condition. -/
import Derived.Test.YtpefkehcibdjgaaDoorQTokx5
import Derived.Test.YtpefkehcibdjgaaDoorT8
import Derived.Test.YtpefkehcibdjgaaDoorT1
set_option linter.unusedVariables false
namespace Go.Proofs.YtpefkehcibdjgaaDoor.T
open Go.RowKit Go.Proofs.YtpefkehcibdjgaaDoor.QTok Go.Proofs.YtpefkehcibdjgaaDoorW.PrintLast Go.Proofs.YtpefkehcibdjgaaDoorW.PrintMore Go.Proofs.YtpefkehcibdjgaaDoor.H Go.Proofs.YtpefkehcibdjgaaDoor.R Go.Lib
open Go.Proofs.YtpefkehcibdjgaaDoorW.PrintWords hiding encs
theorem bs_app' (a b : List UInt8) : bs a ++ bs b = bs (a ++ b) := by
  apply ByteArray.ext
  apply Array.toList_inj.1
  rw [app_l]; rfl
where app_l (a b : ByteArray) : (a ++ b).data.toList = a.data.toList ++ b.data.toList := by simp
theorem single_kind' (b : UInt8) (k : Int) (h : singleP b.toNat = (k, true)) : 6 ≤ k ∧ k ≤ 12 := by
  unfold singleP at h
  repeat' split at h
  all_goals (first | (obtain ⟨rfl, -⟩ := Prod.mk.inj h; omega) | (exfalso; simp at h))
/-- a date's letter, and what isn't behind it -/
theorem Tk.day {pre r : List UInt8} {k : Int} {t : List UInt8} {c : Int} (h : Tk pre r k t c) (hk : k = 14) (b : UInt8) (p : List UInt8) (hp : pre = b :: p) : isLet (smallN b.toNat) ∧ ∀ x q, r = x :: q → smallN x.toNat ≠ smallN b.toNat := by
  cases h with
  | ends a z _ e vs _ h1 h2 => rcases h1 with ⟨_, _, h, _⟩ | ⟨_, _, h, _⟩ <;> omega
  | mark b' _ e v _ h1 h2 => rcases h1 with ⟨_, h, _⟩ | ⟨_, h, _⟩ | ⟨_, h, _⟩ <;> omega
  | single b' _ _ h1 => have := single_kind' b' k h1; omega
  | word w _ _ _ h1 h2 => rcases h1 with ⟨_, h⟩ | ⟨_, h⟩ | ⟨_, h⟩ <;> omega
  | power b' s _ h1 h2 => omega
  | date c' b' p' _ h1 h2 h3 h4 =>
    obtain ⟨rfl, rfl⟩ := List.cons.inj hp
    exact ⟨by rw [h2]; exact h1, fun x q hr => by have := h4 x q hr; omega⟩
  | plain v _ h1 h2 => omega
/-- a wrong code: the tokens ahead stay, whatever follows that goes on as the code did, or with no letter -/
theorem cut {p : Nat} {l : List UInt8} {a : Nat} {e : Int} (h : CBad p l a e) : ∃ l1 l2 n, l = l1 ++ l2 ∧ Bad l2 n e ∧ a = p + l1.length + n ∧
    ∀ l3, (∀ x q, l3 = x :: q → (∃ q', l2 = x :: q') ∨ ¬ isLet (smallN x.toNat)) → (∀ us, Code (p + l1.length) l3 us → ∃ ts, Code p (l1 ++ l3) ts) ∧ (∀ a' e', CBad (p + l1.length) l3 a' e' → CBad p (l1 ++ l3) a' e') := by
  induction h with
  | here p l n e hb => exact ⟨[], l, n, rfl, hb, rfl, fun l3 _ => ⟨fun us h => ⟨us, h⟩, fun a' e' h => h⟩⟩
  | cons p pre r k t c a e ht hc ih =>
    obtain ⟨l1, l2, n, h1, h2, h3, h4⟩ := ih
    refine ⟨pre ++ l1, l2, n, by rw [h1, List.append_assoc], h2, by rw [h3, List.length_append]; omega, fun l3 hn => ?_⟩
    obtain ⟨g1, g2⟩ := h4 l3 hn
    have ht' : Tk pre (l1 ++ l3) k t c := by
      refine ht.turn (fun hk x q hx b w hb => ?_)
      obtain ⟨d1, d2⟩ := ht.day hk b w hb
      cases l1 with
      | cons y l1' =>
        obtain ⟨rfl, -⟩ := List.cons.inj hx
        exact d2 y (l1' ++ l2) (by rw [h1]; rfl)
      | nil =>
        rcases hn x q hx with ⟨q', hq⟩ | hl
        · exact d2 x q' (by rw [h1, hq]; rfl)
        · intro hh; rw [hh] at hl; exact hl d1
    have e1 : p + (pre ++ l1).length = p + pre.length + l1.length := by rw [List.length_append]; omega
    rw [e1, List.append_assoc]
    refine ⟨fun us h => ?_, fun a' e' h => .cons p pre (l1 ++ l3) k t c a' e' ht' (g2 a' e' h)⟩
    obtain ⟨ts, hts⟩ := g1 us h
    exact ⟨_, .cons p pre (l1 ++ l3) k t c ts ht' hts⟩
theorem code_one {p : Nat} {pre : List UInt8} {k : Int} {t : List UInt8} {c : Int} (h : Tk pre [] k t c) : ∃ us, Code p pre us := by
  have := Code.cons p pre [] k t c [] h (.nil _)
  rw [List.append_nil] at this
  exact ⟨_, this⟩
theorem ends_nolet {a z : UInt8} {k e : Int} (h : isEnds a z k e) : ¬ isLet (smallN a.toNat) := by
  rcases h with ⟨rfl, _⟩ | ⟨rfl, _⟩ <;> decide
theorem mark_nolet {b : UInt8} {k e : Int} (h : isMark b k e) : ¬ isLet (smallN b.toNat) := by
  rcases h with ⟨rfl, _⟩ | ⟨rfl, _⟩ | ⟨rfl, _⟩ <;> decide
def endsL : List (List UInt8) := [[], [34], [120], [93]]
/-- some end makes what stands ahead a code -/
theorem some_end {l1 l2 : List UInt8} {n : Nat} {e : Int} (hb : Bad l2 n e) (hk : ∀ l3, (∀ x q, l3 = x :: q → (∃ q', l2 = x :: q') ∨ ¬ isLet (smallN x.toNat)) → (∀ us, Code (0 + l1.length) l3 us → ∃ ts, Code 0 (l1 ++ l3) ts)) :
    ∃ z ∈ endsL, ∃ ts, Code 0 ((l1 ++ l2).take (0 + l1.length + n) ++ z) ts := by
  have ht : (l1 ++ l2).take (0 + l1.length + n) = l1 ++ l2.take n := by rw [Nat.zero_add, List.take_append, List.take_of_length_le (show l1.length ≤ l1.length + n by omega), Nat.add_sub_cancel_left]
  rw [ht]
  cases hb with
  | open_ a z k _ vs h1 h2 =>
    have e1 : (a :: encs vs).take (1 + (encs vs).length) = a :: encs vs := List.take_of_length_le (by simp; omega)
    obtain ⟨us, hu⟩ := code_one (p := 0 + l1.length) (Tk.ends a z k e vs [] h1 h2)
    obtain ⟨ts, hts⟩ := hk _ (fun x q hx => by obtain ⟨rfl, -⟩ := List.cons.inj hx; exact .inr (ends_nolet h1)) us hu
    refine ⟨[z], ?_, ts, ?_⟩
    · rcases h1 with ⟨_, rfl, _⟩ | ⟨_, rfl, _⟩ <;> simp [endsL]
    · rw [e1, List.append_assoc]; exact hts
  | inUtf a z k e' vs r h1 h2 h3 h4 =>
    have e1 : (a :: (encs vs ++ r)).take (1 + (encs vs).length) = a :: encs vs := by
      rw [Nat.add_comm, List.take_succ_cons, List.take_left]
    obtain ⟨us, hu⟩ := code_one (p := 0 + l1.length) (Tk.ends a z k e' vs [] h1 h2)
    obtain ⟨ts, hts⟩ := hk _ (fun x q hx => by obtain ⟨rfl, -⟩ := List.cons.inj hx; exact .inr (ends_nolet h1)) us hu
    refine ⟨[z], ?_, ts, ?_⟩
    · rcases h1 with ⟨_, rfl, _⟩ | ⟨_, rfl, _⟩ <;> simp [endsL]
    · rw [e1, List.append_assoc]; exact hts
  | markEnd b k _ h1 =>
    have hx : Tk [b, 120] [] k [120] 0 := Tk.mark b k e 120 [] h1 (by decide)
    obtain ⟨us, hu⟩ := code_one (p := 0 + l1.length) hx
    obtain ⟨ts, hts⟩ := hk _ (fun x q hx => by obtain ⟨rfl, -⟩ := List.cons.inj hx; exact .inr (mark_nolet h1)) us hu
    exact ⟨[120], by simp [endsL], ts, by rw [List.append_assoc]; exact hts⟩
  | markUtf b k e' r h1 h2 h3 =>
    have hx : Tk [b, 120] [] k [120] 0 := Tk.mark b k e' 120 [] h1 (by decide)
    obtain ⟨us, hu⟩ := code_one (p := 0 + l1.length) hx
    obtain ⟨ts, hts⟩ := hk _ (fun x q hx => by obtain ⟨rfl, -⟩ := List.cons.inj hx; exact .inr (mark_nolet h1)) us hu
    exact ⟨[120], by simp [endsL], ts, by rw [List.append_assoc]; exact hts⟩
  | utf _ h1 h2 =>
    obtain ⟨ts, hts⟩ := hk [] (fun x q hx => by cases hx) [] (.nil _)
    exact ⟨[], by simp [endsL], ts, by rw [List.append_nil] at hts; simpa using hts⟩
  | sign b r h1 h2 h3 h4 h5 h6 h7 h8 h9 h10 h11 =>
    obtain ⟨ts, hts⟩ := hk [] (fun x q hx => by cases hx) [] (.nil _)
    exact ⟨[], by simp [endsL], ts, by rw [List.append_nil] at hts; simpa using hts⟩
theorem bad_le {l : List UInt8} {n : Nat} {e : Int} (h : Bad l n e) : n ≤ l.length := by
  cases h with
  | open_ a z k _ vs h1 h2 => simp; omega
  | inUtf a z k e' vs r h1 h2 h3 h4 => simp; omega
  | markEnd b k _ h1 => simp
  | markUtf b k e' r h1 h2 h3 => simp
  | utf _ h1 h2 => exact Nat.zero_le _
  | sign b r h1 h2 h3 h4 h5 h6 h7 h8 h9 h10 h11 => exact Nat.zero_le _
theorem orB (c : Nat) (hc : c < 256) : (smallN c = 97 → Go.bits .or .u8 (c : Int) 32 = 97) ∧ (smallN c = 103 → Go.bits .or .u8 (c : Int) 32 = 103) ∧ (smallN c = 101 → Go.bits .or .u8 (c : Int) 32 = 101) := by
  have key : ∀ c : Nat, c < 256 → (smallN c = 97 → Go.bits .or .u8 (c : Int) 32 = 97) ∧ (smallN c = 103 → Go.bits .or .u8 (c : Int) 32 = 103) ∧ (smallN c = 101 → Go.bits .or .u8 (c : Int) 32 = 101) := by decide +kernel
  exact key c hc
def endsB : List ByteArray := [(⟨#[]⟩ : ByteArray), (⟨#[34]⟩ : ByteArray), (⟨#[120]⟩ : ByteArray), (⟨#[93]⟩ : ByteArray)]
theorem ends_step (x0 x1 : ByteArray) (x6 x7 : Int) (u : List UInt8) (x9 : Bool) (i : Nat) (hi : i < 4) (z : List UInt8) (hz : rdOf ByteArray.empty endsB (i : Int) = bs z) (hu : u.length + z.length ≤ 4096) (r : List S31 × Int × Int) (hr : Ev (fun k => token_All.f k (bs (u ++ z))) r) (res : Bool)
    (h : Ev (fun k => numerarylaw11_TokenWrong.l0 k x0 x1 x6 x7 (bs u) (x9 || (r.2.2 == 0)) endsB 4 ((i + 1 : Nat) : Int)) res) : Ev (fun k => numerarylaw11_TokenWrong.l0 k x0 x1 x6 x7 (bs u) x9 endsB 4 i) res := by
  refine Ev.step (f := fun k => (token_All.f k (bs (u ++ z))).bind fun bt233 => (if x9 = true then (numerarylaw11_TokenWrong.l0 k x0 x1 x6 x7 (bs u) true endsB 4 ((i + 1 : Nat) : Int)) else (numerarylaw11_TokenWrong.l0 k x0 x1 x6 x7 (bs u) (bt233.2.2 == 0) endsB 4 ((i + 1 : Nat) : Int)))) (fun k => ?_) ?_
  · show numerarylaw11_TokenWrong.l0 (k + 1) x0 x1 x6 x7 (bs u) x9 endsB 4 i = _
    rw [numerarylaw11_TokenWrong.l0, if_pos (by omega), if_pos (by omega), if_pos (by show (i : Int) < 4; omega), hz, if_pos (by rw [bs_size, bs_size]; omega), bs_app', w64q _ (by omega) (by omega)]; rfl
  · refine Ev.bind hr (Ev.congr (fun k => ?_) h)
    cases x9 with
    | true => rw [if_pos rfl]; rfl
    | false => rw [if_neg (by simp)]; simp
theorem TokenWrong : numerarylaw11_TokenWrong.Pure := by
  intro a0 a1 hz0 hz1
  refine Ev.rounds ?_
  have hm0 : 0 ≤ mn (a0.size : Int) 200 := by unfold mn; split <;> omega
  have hm1 : mn (a0.size : Int) 200 ≤ a0.size := by unfold mn; split <;> omega
  have hm2 : mn (a0.size : Int) 200 ≤ 200 := by unfold mn; split <;> omega
  have hn0 : 0 ≤ mn (a1.size : Int) 20 := by unfold mn; split <;> omega
  have hn1 : mn (a1.size : Int) 20 ≤ a1.size := by unfold mn; split <;> omega
  have hn2 : mn (a1.size : Int) 20 ≤ 20 := by unfold mn; split <;> omega
  obtain ⟨s, hs⟩ : ∃ s, a0.extract 0 ((mn (a0.size : Int) 200) : Int).toNat = s := ⟨_, rfl⟩
  obtain ⟨t, ht⟩ : ∃ t, a1.extract 0 ((mn (a1.size : Int) 20) : Int).toNat = t := ⟨_, rfl⟩
  have hsl : s.size ≤ 200 := by rw [← hs, ByteArray.size_extract]; omega
  have htl : t.size ≤ 20 := by rw [← ht, ByteArray.size_extract]; omega
  obtain ⟨l, rfl⟩ : ∃ l, s = bs l := ⟨s.data.toList, by unfold bs; simp⟩
  obtain ⟨m, rfl⟩ : ∃ m, t = bs m := ⟨t.data.toList, by unfold bs; simp⟩
  rw [bs_size] at hsl htl
  refine Ev.congr (f := fun k => (token_All.f k (bs l)).bind fun bt223 => (if bt223.2.2 = 0 then ((numerarylaw11_wakes.f k).bind fun t228 => (if t228 = true then (some (bt223.2.1 == ((bs l).size : Int))) else (some false))) else (if bt223.2.1 < 0 then (numerarylaw11_TokenWrong.j0 k (bs l) (bs m) bt223.2.1 bt223.2.2 true) else (numerarylaw11_TokenWrong.j0 k (bs l) (bs m) bt223.2.1 bt223.2.2 (decide (bt223.2.1 > ((bs l).size : Int))))))) (fun k => ?_) ?_
  · show numerarylaw11_TokenWrong.f k a0 a1 = _
    unfold numerarylaw11_TokenWrong.f
    rw [if_pos hm0, if_pos hm1, if_pos hn0, if_pos hn1, hs, ht]
  rcases code_total l.length l 0 (Nat.le_refl _) with ⟨ts, hc⟩ | ⟨at_, e, hb⟩
  · refine Ev.bind (all_code l (by omega) ts hc) ?_
    refine Ev.congr (f := fun k => (numerarylaw11_wakes.f k).bind fun t228 => (if t228 = true then (some true) else (some false))) (fun k => ?_) (Ev.bind wakes_ev (Ev.congr (fun k => if_pos rfl) (Ev.now true)))
    rw [if_pos rfl]
    have : (((l.length : Int)) == ((bs l).size : Int)) = true := by rw [bs_size]; simp
    simp only [this]
  · obtain ⟨l1, l2, n, h1, h2, h3, h4⟩ := cut hb
    have hle := bad_le h2
    have hatl : at_ ≤ l.length := by rw [h3, h1, List.length_append]; omega
    refine Ev.bind (all_bad l (by omega) at_ e hb) ?_
    refine Ev.congr (f := fun k => numerarylaw11_TokenWrong.j0 k (bs l) (bs m) (at_ : Int) e false) (fun k => ?_) ?_
    · rw [if_neg hb.ne]
      show (if (at_ : Int) < 0 then _ else _) = _
      rw [if_neg (by omega)]
      congr 1
      rw [decide_eq_false_iff_not, bs_size]
      show ¬ (at_ : Int) > _
      omega
    obtain ⟨u, hu⟩ : ∃ u, l.take at_ = u := ⟨_, rfl⟩
    have hul : u.length ≤ 200 := by rw [← hu, List.length_take]; omega
    have hx : (bs l).extract 0 at_ = bs u := by rw [bs_ext, List.drop_zero, Nat.sub_zero, hu]
    refine Ev.step (f := fun k => numerarylaw11_TokenWrong.l0 k (bs l) (bs m) (at_ : Int) e (bs u) false endsB 4 ((0 : Nat) : Int)) (fun k => ?_) ?_
    · show numerarylaw11_TokenWrong.j0 (k + 1) (bs l) (bs m) (at_ : Int) e false = _
      rw [numerarylaw11_TokenWrong.j0, if_neg (by simp), if_pos (by omega), if_pos (by rw [bs_size]; omega), Int.toNat_natCast, hx]; rfl
    obtain ⟨r0, v0, o0, -⟩ := all_some (u ++ []) (by rw [List.append_nil]; omega)
    obtain ⟨r1, v1, o1, -⟩ := all_some (u ++ [34]) (by rw [List.length_append, List.length_singleton]; omega)
    obtain ⟨r2, v2, o2, -⟩ := all_some (u ++ [120]) (by rw [List.length_append, List.length_singleton]; omega)
    obtain ⟨r3, v3, o3, -⟩ := all_some (u ++ [93]) (by rw [List.length_append, List.length_singleton]; omega)
    have hE : ((((false || (r0.2.2 == 0)) || (r1.2.2 == 0)) || (r2.2.2 == 0)) || (r3.2.2 == 0)) = true := by
      have he := some_end (l1 := l1) h2 (fun l3 hn => (h4 l3 hn).1)
      rw [← h1, ← h3, hu] at he
      obtain ⟨z, hz, hts⟩ := he
      simp only [endsL, List.mem_cons, List.mem_nil_iff, or_false] at hz
      rcases hz with rfl | rfl | rfl | rfl
      · simp [o0 hts]
      · simp [o1 hts]
      · simp [o2 hts]
      · simp [o3 hts]
    refine ends_step _ _ _ _ u _ 0 (by omega) [] rfl (by simp; omega) r0 v0 true ?_
    refine ends_step _ _ _ _ u _ 1 (by omega) [34] rfl (by simp; omega) r1 v1 true ?_
    refine ends_step _ _ _ _ u _ 2 (by omega) [120] rfl (by simp; omega) r2 v2 true ?_
    refine ends_step _ _ _ _ u _ 3 (by omega) [93] rfl (by simp; omega) r3 v3 true ?_
    rw [hE]
    by_cases hend : at_ = l.length
    · refine Ev.step (f := fun k => (numerarylaw11_wakes.f k).bind fun t238 => (if t238 = true then (some true) else (some false))) (fun k => ?_) (Ev.bind wakes_ev (Ev.congr (fun k => if_pos rfl) (Ev.now true)))
      show numerarylaw11_TokenWrong.l0 (k + 1) _ _ _ _ _ _ _ _ _ = _
      rw [numerarylaw11_TokenWrong.l0, if_neg (by omega), if_pos (by rw [bs_size]; omega)]
    · have hat : at_ < l.length := by omega
      obtain ⟨v, hv⟩ : ∃ v, l.take (at_ + 1) = v := ⟨_, rfl⟩
      have hvl : v.length ≤ 200 := by rw [← hv, List.length_take]; omega
      have hx2 : (bs l).extract 0 (at_ + 1) = bs v := by rw [bs_ext, List.drop_zero, Nat.sub_zero, hv]
      obtain ⟨r4, v4, -, o4⟩ := all_some (v ++ m) (by rw [List.length_append]; omega)
      have e1 : ((at_ : Int) + 1).toNat = at_ + 1 := by omega
      refine Ev.step (f := fun k => (token_All.f k (bs (v ++ m))).bind fun bt239 => ((numerarylaw11_wakes.f k).bind fun t244 => (if t244 = true then (if bt239.2.2 = 0 then (if e = 4 then (some true) else (if 0 ≤ (at_ : Int) then (if (at_ : Int) < ((bs l).size : Int) then (if (Go.bits .or .u8 (bt (bs l) (at_ : Int)) 32) = 97 then (some true) else (if (Go.bits .or .u8 (bt (bs l) (at_ : Int)) 32) = 103 then (some true) else (some ((Go.bits .or .u8 (bt (bs l) (at_ : Int)) 32) == 101)))) else (none)) else (none))) else (some true)) else (some false)))) (fun k => ?_) ?_
      · show numerarylaw11_TokenWrong.l0 (k + 1) _ _ _ _ _ _ _ _ _ = _
        rw [numerarylaw11_TokenWrong.l0, if_neg (by omega), if_neg (by rw [bs_size]; omega), w64q ((at_ : Int) + 1) (by omega) (by omega), if_pos (by omega), if_pos (by rw [bs_size]; omega), e1, hx2, if_pos (by rw [bs_size, bs_size]; omega), bs_app']
        simp only [if_true]
      · refine Ev.bind v4 (Ev.bind wakes_ev ?_)
        refine Ev.congr (f := fun _ => some true) (fun k => ?_) (Ev.now true)
        rw [if_pos rfl]
        by_cases hg : r4.2.2 = 0
        · rw [if_pos hg]
          by_cases he : e = 4
          · rw [if_pos he]
          · rw [if_neg he, if_pos (by omega), if_pos (by rw [bs_size]; omega)]
            cases h2 with
            | open_ a z k' _ vs g1 g2 => rw [h3, h1, List.length_append] at hat; simp at hat; omega
            | inUtf a z k' e' vs r g1 g2 g3 g4 => exact absurd rfl he
            | markEnd b k' _ g1 => rw [h3, h1, List.length_append] at hat; simp at hat
            | markUtf b k' e' r g1 g2 g3 => exact absurd rfl he
            | utf _ g1 g2 => exact absurd rfl he
            | sign b r g1 g2 g3 g4 g5 g6 g7 g8 g9 g10 g11 =>
              have hv2 : v = l1 ++ [b] := by
                rw [← hv, h3, h1, Nat.zero_add, Nat.add_zero, List.take_append, List.take_of_length_le (show l1.length ≤ l1.length + 1 by omega), Nat.add_sub_cancel_left]; rfl
              have hbt : bt (bs l) (at_ : Int) = (b.toNat : Int) := by
                rw [bt_bs, getD_drop, h1, h3, Nat.zero_add, Nat.add_zero, List.drop_left]; rfl
              obtain ⟨q1, q2, q3⟩ := orB b.toNat b.toNat_lt
              rw [hbt]
              by_cases c1 : smallN b.toNat = 97
              · rw [if_pos (q1 c1)]
              · by_cases c2 : smallN b.toNat = 103
                · rw [q2 c2]; rfl
                · by_cases c3 : smallN b.toNat = 101
                  · rw [q3 c3]; rfl
                  · exfalso
                    obtain ⟨n1, n2, n3⟩ := no_words b m c1 c2
                    have hbad : Bad (b :: m) 0 9 := .sign b m g1 g2 g3 g4 g5 g6 g7 g8 g9 (by
                      rintro w k' (⟨rfl, _⟩ | ⟨rfl, _⟩ | ⟨rfl, _⟩)
                      · exact n1
                      · exact n2
                      · exact n3) (fun h => absurd h c3)
                    have hcb : CBad 0 (l1 ++ (b :: m)) (0 + l1.length + 0) 9 := (h4 (b :: m) (fun x q hx => by obtain ⟨rfl, -⟩ := List.cons.inj hx; exact .inl ⟨r, rfl⟩)).2 (0 + l1.length + 0) 9 (.here _ _ 0 9 hbad)
                    have hcb2 : CBad 0 (v ++ m) (0 + l1.length + 0) 9 := by rw [hv2, List.append_assoc]; exact hcb
                    exact o4 ⟨_, _, hcb2⟩ hg
        · rw [if_neg hg]
end Go.Proofs.YtpefkehcibdjgaaDoor.T
