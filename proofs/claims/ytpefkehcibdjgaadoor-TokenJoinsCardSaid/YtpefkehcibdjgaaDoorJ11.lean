/- Proved here: the printed form of the law TokenJoins answers true at every input of its kinds; no further condition. -/
import Derived.Test.YtpefkehcibdjgaaDoorQTjnx5
import Derived.Test.YtpefkehcibdjgaaDoorJ8
import Derived.Test.YtpefkehcibdjgaaDoorJ1
set_option linter.unusedVariables false
namespace Go.Proofs.YtpefkehcibdjgaaDoor.T
open Go.RowKit Go.Proofs.YtpefkehcibdjgaaDoor.QTjn Go.Proofs.YtpefkehcibdjgaaDoorW.PrintLast Go.Proofs.YtpefkehcibdjgaaDoorW.PrintMore Go.Proofs.YtpefkehcibdjgaaDoor.H Go.Proofs.YtpefkehcibdjgaaDoor.R Go.Lib
open Go.Proofs.YtpefkehcibdjgaaDoorW.PrintWords hiding encs
theorem bs_app3 (a b : List UInt8) : bs a ++ bs b = bs (a ++ b) := by
  apply ByteArray.ext
  apply Array.toList_inj.1
  rw [app_l]; rfl
where app_l (a b : ByteArray) : (a ++ b).data.toList = a.data.toList ++ b.data.toList := by simp
theorem single_kind3 (b : UInt8) (k : Int) (h : singleP b.toNat = (k, true)) : 6 ≤ k ∧ k ≤ 12 := by
  unfold singleP at h
  repeat' split at h
  all_goals (first | (obtain ⟨rfl, -⟩ := Prod.mk.inj h; omega) | (exfalso; simp at h))
theorem Tk.day3 {pre r : List UInt8} {k : Int} {t : List UInt8} {c : Int} (h : Tk pre r k t c) (hk : k = 14) (b : UInt8) (p : List UInt8) (hp : pre = b :: p) : isLet (smallN b.toNat) ∧ ∀ x q, r = x :: q → smallN x.toNat ≠ smallN b.toNat := by
  cases h with
  | ends a z _ e vs _ h1 h2 => rcases h1 with ⟨_, _, h, _⟩ | ⟨_, _, h, _⟩ <;> omega
  | mark b' _ e v _ h1 h2 => rcases h1 with ⟨_, h, _⟩ | ⟨_, h, _⟩ | ⟨_, h, _⟩ <;> omega
  | single b' _ _ h1 => have := single_kind3 b' k h1; omega
  | word w _ _ _ h1 h2 => rcases h1 with ⟨_, h⟩ | ⟨_, h⟩ | ⟨_, h⟩ <;> omega
  | power b' s _ h1 h2 => omega
  | date c' b' p' _ h1 h2 h3 h4 =>
    obtain ⟨rfl, rfl⟩ := List.cons.inj hp
    exact ⟨by rw [h2]; exact h1, fun x q hr => by have := h4 x q hr; omega⟩
  | plain v _ h1 h2 => omega
/-- a token so many bytes on -/
def sh (d : Nat) (x : S31) : S31 := ⟨x.f0, x.f1, x.f2, x.f3 + d⟩
theorem code_shift (d : Nat) {p : Nat} {l : List UInt8} {us : List S31} (h : Code p l us) : Code (p + d) l (us.map (sh d)) := by
  induction h with
  | nil p => exact .nil _
  | cons p pre r k t c ts ht hc ih =>
    have e : p + pre.length + d = p + d + pre.length := by omega
    rw [e] at ih
    have := Code.cons (p + d) pre r k t c _ ht ih
    have e2 : (⟨k, bs t, c, ((p + d : Nat) : Int)⟩ : S31) = sh d ⟨k, bs t, c, (p : Int)⟩ := by
      show _ = (⟨k, bs t, c, (p : Int) + (d : Int)⟩ : S31)
      congr 1
    rw [e2] at this
    exact this
theorem bad_shift (d : Nat) {p : Nat} {l : List UInt8} {a : Nat} {e : Int} (h : CBad p l a e) : CBad (p + d) l (a + d) e := by
  induction h with
  | here p l n e hb =>
    have e1 : p + n + d = p + d + n := by omega
    rw [e1]; exact .here _ _ _ _ hb
  | cons p pre r k t c a e ht hc ih =>
    have e1 : p + pre.length + d = p + d + pre.length := by omega
    rw [e1] at ih
    exact .cons _ _ _ k t c _ _ ht ih
theorem code_app {p : Nat} {l1 : List UInt8} {ts : List S31} (h : Code p l1 ts) (l2 : List UInt8) (hn : ∀ x q, l2 = x :: q → ¬ isLet (smallN x.toNat)) :
    (∀ us, Code (p + l1.length) l2 us → Code p (l1 ++ l2) (ts ++ us)) ∧ (∀ a e, CBad (p + l1.length) l2 a e → CBad p (l1 ++ l2) a e) := by
  induction h with
  | nil p => exact ⟨fun us h => h, fun a e h => h⟩
  | cons p pre r k t c ts ht hc ih =>
    have ht' : Tk pre (r ++ l2) k t c := by
      refine ht.turn (fun hk x q hx b w hb => ?_)
      obtain ⟨d1, d2⟩ := ht.day3 hk b w hb
      cases r with
      | cons y r' =>
        obtain ⟨rfl, -⟩ := List.cons.inj hx
        exact d2 y r' rfl
      | nil =>
        intro hh
        exact hn x q hx (by rw [hh]; exact d1)
    have e1 : p + (pre ++ r).length = p + pre.length + r.length := by rw [List.length_append]; omega
    rw [e1, List.append_assoc]
    exact ⟨fun us h => .cons p pre (r ++ l2) k t c _ ht' (ih.1 us h), fun a e h => .cons p pre (r ++ l2) k t c a e ht' (ih.2 a e h)⟩
theorem code_len {p : Nat} {r : List UInt8} {ts : List S31} (h : Code p r ts) : ts.length ≤ r.length := by
  induction h with
  | nil p => exact Nat.le_refl _
  | cons p pre r k t c ts ht hc ih =>
    have hpos : 0 < pre.length := List.length_pos_iff.2 ht.ne
    rw [List.length_cons, List.length_append]; omega
theorem rd_l (a b : List S31) (i : Nat) (h : i < a.length) : rd_T31 (a ++ b) (i : Int) = rd_T31 a (i : Int) := by
  unfold rd_T31
  simp only [Int.toNat_natCast, List.getD_eq_getElem?_getD]
  rw [List.getElem?_append_left h]
theorem rd_r (a b : List S31) (i : Nat) : rd_T31 (a ++ b) ((a.length + i : Nat) : Int) = rd_T31 b (i : Int) := by
  unfold rd_T31
  simp only [Int.toNat_natCast, List.getD_eq_getElem?_getD]
  rw [List.getElem?_append_right (by omega), Nat.add_sub_cancel_left]
theorem rd_sh (d : Nat) (us : List S31) (i : Nat) (h : i < us.length) : rd_T31 (us.map (sh d)) (i : Int) = sh d (rd_T31 us (i : Int)) := by
  unfold rd_T31
  simp only [Int.toNat_natCast, List.getD_eq_getElem?_getD]
  rw [List.getElem?_map, List.getElem?_eq_getElem h]; rfl
theorem eq4 (x y : S31) (h : x = y) : (!((x.f0) == (y.f0)) || (!(((x.f1).toList) == ((y.f1).toList)) || (!((x.f2) == (y.f2)) || (!((x.f3) == (y.f3)))))) = false := by
  subst h; simp
theorem join_l1 (s : ByteArray) (d : Nat) (hd : (s.size : Int) + 1 = d) (hsz : s.size ≤ 1000000) (ts us : List S31) (X : S31) (ht : ts.length ≤ 1000000) (hu : us.length ≤ 1000000) (hf : ∀ x ∈ us, 0 ≤ x.f3 ∧ x.f3 ≤ 1000000) (m : Nat) :
    ∀ i : Nat, us.length ≤ i + m → i ≤ us.length → Ev (fun k => numerarylaw11_TokenJoins.l1 k s ts (ts ++ X :: us.map (sh d)) us (us.length : Int) i) true := by
  have last : ∀ i : Nat, ¬ i < us.length → Ev (fun k => numerarylaw11_TokenJoins.l1 k s ts (ts ++ X :: us.map (sh d)) us (us.length : Int) i) true := by
    intro i hi
    refine Ev.step (f := fun _ => some true) (fun k => ?_) (Ev.now true)
    show numerarylaw11_TokenJoins.l1 (k + 1) _ _ _ _ _ _ = _
    rw [numerarylaw11_TokenJoins.l1, if_neg (by omega)]
  induction m with
  | zero => intro i hm hi; exact last i (by omega)
  | succ m ih =>
    intro i hm hi
    by_cases h : i < us.length
    · refine Ev.step (fun k => ?_) (ih (i + 1) (by omega) (by omega))
      show numerarylaw11_TokenJoins.l1 (k + 1) s ts (ts ++ X :: us.map (sh d)) us (us.length : Int) i = _
      have hmem : rd_T31 us (i : Int) ∈ us := by
        unfold rd_T31
        rw [Int.toNat_natCast, List.getD_eq_getElem?_getD, List.getElem?_eq_getElem h]
        exact List.getElem_mem h
      obtain ⟨f1, f2⟩ := hf _ hmem
      have e1 : wrap64 ((ts.length : Int) + 1) = (ts.length : Int) + 1 := w64q _ (by omega) (by omega)
      have e2 : wrap64 ((ts.length : Int) + 1 + (i : Int)) = ((ts.length + (i + 1) : Nat) : Int) := by rw [w64q _ (by omega) (by omega)]; omega
      have e3 : wrap64 ((s.size : Int) + 1) = (d : Int) := by rw [w64q _ (by omega) (by omega)]; exact hd
      have e4 : wrap64 ((rd_T31 us (i : Int)).f3 + (d : Int)) = (rd_T31 us (i : Int)).f3 + (d : Int) := w64q _ (by omega) (by omega)
      have hlen : ((ts ++ X :: us.map (sh d)).length : Int) = (ts.length : Int) + 1 + us.length := by simp; omega
      have hrd : rd_T31 (ts ++ X :: us.map (sh d)) ((ts.length + (i + 1) : Nat) : Int) = sh d (rd_T31 us (i : Int)) := by
        rw [rd_r]
        have : rd_T31 (X :: us.map (sh d)) ((i + 1 : Nat) : Int) = rd_T31 (us.map (sh d)) (i : Int) := by
          have := rd_r [X] (us.map (sh d)) i
          rw [← this]; congr 1; simp; omega
        rw [this, rd_sh d us i h]
      rw [numerarylaw11_TokenJoins.l1, if_pos (by omega), if_pos (by omega), if_pos (by omega), e1, e2, if_pos (by omega), if_pos (by rw [hlen]; omega), hrd, e3, e4, if_neg (by simp [sh]), w64q ((i : Int) + 1) (by omega) (by omega)]
      rfl
    · exact last i h
theorem join_l0 (s : ByteArray) (d : Nat) (hd : (s.size : Int) + 1 = d) (hsz : s.size ≤ 1000000) (ts us : List S31) (X : S31) (ht : ts.length ≤ 1000000) (hu : us.length ≤ 1000000) (hf : ∀ x ∈ us, 0 ≤ x.f3 ∧ x.f3 ≤ 1000000) (m : Nat) :
    ∀ i : Nat, ts.length ≤ i + m → i ≤ ts.length → Ev (fun k => numerarylaw11_TokenJoins.l0 k s ts us (ts ++ X :: us.map (sh d)) ts (ts.length : Int) i) true := by
  have last : ∀ i : Nat, ¬ i < ts.length → Ev (fun k => numerarylaw11_TokenJoins.l0 k s ts us (ts ++ X :: us.map (sh d)) ts (ts.length : Int) i) true := by
    intro i hi
    refine Ev.step (f := fun k => numerarylaw11_TokenJoins.l1 k s ts (ts ++ X :: us.map (sh d)) us (us.length : Int) ((0 : Nat) : Int)) (fun k => ?_) (join_l1 s d hd hsz ts us X ht hu hf us.length 0 (by omega) (Nat.zero_le _))
    show numerarylaw11_TokenJoins.l0 (k + 1) _ _ _ _ _ _ _ = _
    rw [numerarylaw11_TokenJoins.l0, if_neg (by omega)]; rfl
  induction m with
  | zero => intro i hm hi; exact last i (by omega)
  | succ m ih =>
    intro i hm hi
    by_cases h : i < ts.length
    · refine Ev.step (fun k => ?_) (ih (i + 1) (by omega) (by omega))
      show numerarylaw11_TokenJoins.l0 (k + 1) s ts us (ts ++ X :: us.map (sh d)) ts (ts.length : Int) i = _
      have hlen : ((ts ++ X :: us.map (sh d)).length : Int) = (ts.length : Int) + 1 + us.length := by simp; omega
      rw [numerarylaw11_TokenJoins.l0, if_pos (by omega), if_pos (by omega), if_pos (by omega), if_pos (by rw [hlen]; omega), rd_l _ _ i h, if_neg (by rw [eq4 _ _ rfl]; simp), w64q _ (by omega) (by omega)]; rfl
    · exact last i h
theorem code_at {p : Nat} {r : List UInt8} {ts : List S31} (h : Code p r ts) : ∀ x ∈ ts, 0 ≤ x.f3 ∧ x.f3 ≤ ((p + r.length : Nat) : Int) := by
  induction h with
  | nil p => simp
  | cons p pre r k t c ts ht hc ih =>
    intro x hx
    rw [List.length_append]
    rcases List.mem_cons.1 hx with rfl | hx
    · show 0 ≤ (p : Int) ∧ (p : Int) ≤ _
      omega
    · have := ih x hx
      omega
theorem TokenJoins : numerarylaw11_TokenJoins.Pure := by
  intro a0 a1 hz0 hz1
  refine Ev.rounds ?_
  have hm0 : 0 ≤ mn (a0.size : Int) 200 := by unfold mn; split <;> omega
  have hm1 : mn (a0.size : Int) 200 ≤ a0.size := by unfold mn; split <;> omega
  have hm2 : mn (a0.size : Int) 200 ≤ 200 := by unfold mn; split <;> omega
  have hn0 : 0 ≤ mn (a1.size : Int) 200 := by unfold mn; split <;> omega
  have hn1 : mn (a1.size : Int) 200 ≤ a1.size := by unfold mn; split <;> omega
  have hn2 : mn (a1.size : Int) 200 ≤ 200 := by unfold mn; split <;> omega
  obtain ⟨s, hs⟩ : ∃ s, a0.extract 0 ((mn (a0.size : Int) 200) : Int).toNat = s := ⟨_, rfl⟩
  obtain ⟨t, ht⟩ : ∃ t, a1.extract 0 ((mn (a1.size : Int) 200) : Int).toNat = t := ⟨_, rfl⟩
  have hsl : s.size ≤ 200 := by rw [← hs, ByteArray.size_extract]; omega
  have htl : t.size ≤ 200 := by rw [← ht, ByteArray.size_extract]; omega
  obtain ⟨l, rfl⟩ : ∃ l, s = bs l := ⟨s.data.toList, by unfold bs; simp⟩
  obtain ⟨m, rfl⟩ : ∃ m, t = bs m := ⟨t.data.toList, by unfold bs; simp⟩
  rw [bs_size] at hsl htl
  have hu : (bs l ++ (⟨#[59]⟩ : ByteArray)) ++ bs m = bs (l ++ (59 :: m)) := by
    show (bs l ++ bs [59]) ++ bs m = _
    rw [bs_app3, bs_app3]; simp
  have hul : (l ++ (59 :: m)).length ≤ 4096 := by rw [List.length_append, List.length_cons]; omega
  refine Ev.congr (f := fun k => (token_All.f k (bs l)).bind fun bt245 => ((token_All.f k (bs m)).bind fun bt250 => ((token_All.f k (bs (l ++ (59 :: m)))).bind fun bt255 => (if bt245.2.2 = 0 then (numerarylaw11_TokenJoins.j0 k (bs l) (bs m) bt245.1 bt245.2.2 bt250.1 bt250.2.2 bt255.1 bt255.2.1 bt255.2.2 (bt250.2.2 != 0)) else (numerarylaw11_TokenJoins.j0 k (bs l) (bs m) bt245.1 bt245.2.2 bt250.1 bt250.2.2 bt255.1 bt255.2.1 bt255.2.2 true))))) (fun k => ?_) ?_
  · show numerarylaw11_TokenJoins.f k a0 a1 = _
    unfold numerarylaw11_TokenJoins.f
    have c1 : (bs l).size + 1 ≤ 9223372036854775807 := by rw [bs_size]; omega
    have c2 : (bs l).size + 1 + (bs m).size ≤ 9223372036854775807 := by rw [bs_size, bs_size]; omega
    rw [if_pos hm0, if_pos hm1, if_pos hn0, if_pos hn1, hs, ht]
    simp only [if_pos c1, if_pos c2, hu]
  have hsemi : ∀ x q, (59 : UInt8) :: m = x :: q → ¬ isLet (smallN x.toNat) := fun x q hx => by
    obtain ⟨rfl, -⟩ := List.cons.inj hx
    decide
  have tsemi : Tk [59] m 11 [59] 1 := .single 59 11 m rfl
  rcases code_total l.length l 0 (Nat.le_refl _) with ⟨ts, hc⟩ | ⟨at_, e, hb⟩
  · have hA := all_code l (by omega) ts hc
    obtain ⟨g1, g2⟩ := code_app hc (59 :: m) hsemi
    rcases code_total m.length m 0 (Nat.le_refl _) with ⟨us, hd⟩ | ⟨at_, e, hb⟩
    · have hB := all_code m (by omega) us hd
      have hsh := code_shift (l.length + 1) hd
      have e0 : 0 + (l.length + 1) = 0 + l.length + ([59] : List UInt8).length := by simp
      rw [e0] at hsh
      have hcd : Code 0 (l ++ (59 :: m)) (ts ++ (⟨11, bs [59], 1, ((0 + l.length : Nat) : Int)⟩ : S31) :: us.map (sh (l.length + 1))) := g1 _ (.cons (0 + l.length) [59] m 11 [59] 1 _ tsemi hsh)
      have hU := all_code _ hul _ hcd
      refine Ev.bind hA (Ev.bind hB (Ev.bind hU ?_))
      have hf : ∀ x ∈ us, 0 ≤ x.f3 ∧ x.f3 ≤ 1000000 := fun x hx => by
        have := code_at hd x hx
        omega
      have l1 := code_len hc
      have l2 := code_len hd
      obtain ⟨X, hX⟩ : ∃ X, (⟨11, bs [59], 1, ((0 + l.length : Nat) : Int)⟩ : S31) = X := ⟨_, rfl⟩
      have hX0 : X.f0 = 11 := by rw [← hX]
      rw [hX]
      have hlen : ((ts ++ X :: us.map (sh (l.length + 1))).length : Int) = (ts.length : Int) + 1 + us.length := by simp; omega
      have hrd : rd_T31 (ts ++ X :: us.map (sh (l.length + 1))) (ts.length : Int) = X := by
        show rd_T31 (ts ++ X :: us.map (sh (l.length + 1))) ((ts.length + 0 : Nat) : Int) = X
        rw [rd_r]; rfl
      have hfin : Ev (fun k => numerarylaw11_TokenJoins.l0 k (bs l) ts us (ts ++ X :: us.map (sh (l.length + 1))) ts (ts.length : Int) ((0 : Nat) : Int)) true := join_l0 (bs l) (l.length + 1) (by rw [bs_size]; omega) (by rw [bs_size]; omega) ts us X (by omega) (by omega) hf ts.length 0 (by omega) (Nat.zero_le _)
      obtain ⟨C, hC⟩ : ∃ C, ts ++ X :: us.map (sh (l.length + 1)) = C := ⟨_, rfl⟩
      rw [hC] at hlen hrd hfin ⊢
      obtain ⟨L, hL⟩ : ∃ L : Int, ((l ++ (59 :: m)).length : Int) = L := ⟨_, rfl⟩
      have h5 : 0 ≤ (ts.length : Int) := by omega
      have h6 : (ts.length : Int) < (C.length : Int) := by rw [hlen]; omega
      have c1 : L = wrap64 ((wrap64 (((bs l).size : Int) + 1)) + ((bs m).size : Int)) := by
        rw [← hL, bs_size, bs_size, w64q ((l.length : Int) + 1) (by omega) (by omega), w64q ((l.length : Int) + 1 + (m.length : Int)) (by omega) (by omega), List.length_append, List.length_cons]; omega
      have c2 : (C.length : Int) = wrap64 ((wrap64 ((ts.length : Int) + 1)) + (us.length : Int)) := by
        clear c1
        rw [w64q ((ts.length : Int) + 1) (by omega) (by omega), w64q ((ts.length : Int) + 1 + (us.length : Int)) (by omega) (by omega), hlen]
      rw [hL]
      clear hC hU hcd hsh hA hB
      refine Ev.congr (f := fun k => numerarylaw11_TokenJoins.j0 k (bs l) (bs m) ts 0 us 0 C L 0 false) (fun k => if_pos rfl) ?_
      refine Ev.step (f := fun k => (numerarylaw11_wakes.f k).bind fun t261 => (if t261 = true then (if (0 : Int) = 0 then (if L = (wrap64 ((wrap64 (((bs l).size : Int) + 1)) + ((bs m).size : Int))) then (if (C.length : Int) = (wrap64 ((wrap64 ((ts.length : Int) + 1)) + (us.length : Int))) then (if 0 ≤ (ts.length : Int) then (if (ts.length : Int) < (C.length : Int) then (numerarylaw11_TokenJoins.j1 k (bs l) ts us C (((rd_T31 C (ts.length : Int)).f0) != 11)) else (none)) else (none)) else (numerarylaw11_TokenJoins.j1 k (bs l) ts us C true)) else (numerarylaw11_TokenJoins.j1 k (bs l) ts us C true)) else (numerarylaw11_TokenJoins.j1 k (bs l) ts us C true)) else (numerarylaw11_TokenJoins.j1 k (bs l) ts us C true))) (fun k => ?_) ?_
      · rw [numerarylaw11_TokenJoins.j0, if_neg (by simp)]
      · refine Ev.bind wakes_ev (Ev.congr (f := fun k => numerarylaw11_TokenJoins.j1 k (bs l) ts us C false) (fun k => ?_) ?_)
        · have h7 : ((rd_T31 C (ts.length : Int)).f0 != 11) = false := by rw [hrd, hX0]; rfl
          have h8 : numerarylaw11_TokenJoins.j1 k (bs l) ts us C ((rd_T31 C (ts.length : Int)).f0 != 11) = numerarylaw11_TokenJoins.j1 k (bs l) ts us C false := by rw [h7]
          exact (if_pos (rfl : true = true)).trans ((if_pos (rfl : (0 : Int) = 0)).trans ((if_pos c1).trans ((if_pos c2).trans ((if_pos h5).trans ((if_pos h6).trans h8)))))
        · refine Ev.step (fun k => ?_) hfin
          rw [numerarylaw11_TokenJoins.j1, if_neg (by simp)]; rfl
    · have hB := all_bad m (by omega) at_ e hb
      have hsh := bad_shift (l.length + 1) hb
      have e0 : 0 + (l.length + 1) = 0 + l.length + ([59] : List UInt8).length := by simp
      rw [e0] at hsh
      have hcb : CBad 0 (l ++ (59 :: m)) (at_ + (l.length + 1)) e := g2 _ _ (.cons (0 + l.length) [59] m 11 [59] 1 _ _ tsemi hsh)
      have hU := all_bad _ hul _ _ hcb
      refine Ev.bind hA (Ev.bind hB (Ev.bind hU ?_))
      refine Ev.congr (f := fun k => numerarylaw11_TokenJoins.j0 k (bs l) (bs m) ts 0 [] e [] ((at_ + (l.length + 1) : Nat) : Int) e true) (fun k => ?_) ?_
      · rw [if_pos rfl]
        have : (e != 0) = true := by rw [bne_iff_ne]; exact hb.ne
        show numerarylaw11_TokenJoins.j0 k (bs l) (bs m) ts 0 [] e [] ((at_ + (l.length + 1) : Nat) : Int) e (e != 0) = _
        rw [this]
      refine Ev.step (f := fun k => (numerarylaw11_wakes.f k).bind fun t260 => (if t260 = true then (some true) else (some false))) (fun k => ?_) (Ev.bind wakes_ev (Ev.congr (fun k => if_pos rfl) (Ev.now true)))
      show numerarylaw11_TokenJoins.j0 (k + 1) _ _ _ _ _ _ _ _ _ _ = _
      rw [numerarylaw11_TokenJoins.j0, if_pos rfl, if_pos rfl, beq_self_eq_true]
  · have hA := all_bad l (by omega) at_ e hb
    obtain ⟨r2, v2, -, -⟩ := all_some m (by omega)
    obtain ⟨r3, v3, -, -⟩ := all_some (l ++ (59 :: m)) hul
    refine Ev.bind hA (Ev.bind v2 (Ev.bind v3 ?_))
    refine Ev.congr (f := fun k => numerarylaw11_TokenJoins.j0 k (bs l) (bs m) [] e r2.1 r2.2.2 r3.1 r3.2.1 r3.2.2 true) (fun k => if_neg hb.ne) ?_
    refine Ev.step (f := fun k => (numerarylaw11_wakes.f k).bind fun t260 => (if t260 = true then (some true) else (some false))) (fun k => ?_) (Ev.bind wakes_ev (Ev.congr (fun k => if_pos rfl) (Ev.now true)))
    show numerarylaw11_TokenJoins.j0 (k + 1) _ _ _ _ _ _ _ _ _ _ = _
    rw [numerarylaw11_TokenJoins.j0, if_pos rfl, if_neg hb.ne]
end Go.Proofs.YtpefkehcibdjgaaDoor.T
