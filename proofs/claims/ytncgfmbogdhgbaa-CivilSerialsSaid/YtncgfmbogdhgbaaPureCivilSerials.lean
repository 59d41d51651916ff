/- Proved here: what the printed functions of package civil compute is plain calendar arithmetic, and so the printed form of the law answers true, at every input of its kinds; no further condition. -/
import Derived.Test.YtncgfmbogdhgbaaQCivilSerialsx8
import Derived.Test.YtncgfmbogdhgbaaCal
namespace Go.Proofs.Ytncgfmbogdhgbaa.PureCivilSerialsF
open Go.RowKit Go.Proofs.Ytncgfmbogdhgbaa.QCivilSerials Go.Proofs.YtncgfmbogdhgbaaW.PrintWords Go.Proofs.YtncgfmbogdhgbaaW.PrintLast Go.Proofs.YtncgfmbogdhgbaaW.PrintMore Go.Proofs.Ytncgfmbogdhgbaa.Cal
theorem w64 (n : Int) (h1 : -9223372036854775808 ≤ n) (h2 : n ≤ 9223372036854775807) : wrap64 n = n := by unfold wrap64; omega
theorem mn_eq (a b : Int) : mn a b = min a b := by unfold mn; split <;> omega
theorem mx_eq (a b : Int) : mx a b = max a b := by unfold mx; split <;> omega
theorem tmod_zero (a b : Int) : Int.tmod a b = 0 ↔ a % b = 0 := by
  rw [← Int.dvd_iff_tmod_eq_zero, ← Int.dvd_iff_emod_eq_zero]
theorem leap_eq (y : Int) : civil_Leap.f y = some (leapB y) := by
  unfold civil_Leap.f leapB
  simp only [tmod_zero]
  by_cases h4 : y % 4 = 0
  · by_cases h100 : y % 100 = 0
    · rw [if_pos h4, if_pos h100]
      congr 1
      rw [Bool.eq_iff_iff]
      simp [tmod_zero, h4, h100]
    · rw [if_pos h4, if_neg h100]
      simp [h4, h100]
  · rw [if_neg h4]; simp [h4]
theorem ev_days (y m : Int) : Ev (fun k => civil_Days.f k y m) (dm y m) := by
  refine ⟨1, fun k hk => ?_⟩
  obtain ⟨k, rfl⟩ : ∃ j, k = j + 1 := ⟨k - 1, by omega⟩
  simp only [civil_Days.f, civil_Days.j0, leap_eq, Option.bind_some, dm, lp]
  by_cases h2 : m = 2
  · rw [if_pos h2, if_pos h2]; split <;> rfl
  · rw [if_neg h2, if_neg h2]
    by_cases h4 : m = 4
    · subst h4; simp
    · rw [if_neg h4]
      by_cases h6 : m = 6
      · subst h6; simp
      · rw [if_neg h6]
        by_cases h9 : m = 9
        · subst h9; simp
        · rw [if_neg h9]
          by_cases h11 : m = 11
          · subst h11; simp
          · have e : ((m == 11) = true) = False := by simp [h11]
            rw [if_neg (by simp [h11])]
            rw [if_neg (show ¬ (m = 4 ∨ m = 6 ∨ m = 9 ∨ m = 11) by omega)]
            by_cases hl : m < 1
            · rw [if_pos hl, if_pos (by omega)]
            · rw [if_neg hl]
              by_cases hh : m > 12
              · rw [if_pos hh, if_pos (by omega)]
              · rw [if_neg hh, if_neg (by omega)]
theorem last_eq (s : Int) : civil_last.f s = some (lastP s) := by
  unfold civil_last.f lastP
  split
  · rfl
  · split <;> rfl
theorem ahead_eq (y : Int) (h1 : 1 ≤ y) (h2 : y ≤ 10000) : civil_ahead.f y = some (A y) := by
  unfold civil_ahead.f A
  simp (disch := omega) only [w64, Int.tdiv_eq_ediv_of_nonneg]
theorem count_eq (k s : Int) (h1 : 0 ≤ k) (h2 : k ≤ 3000000) : civil_count.f k s = some (cnt k s) := by
  unfold civil_count.f cnt
  rw [ahead_eq 1904 (by omega) (by omega), ahead_eq 1900 (by omega) (by omega), A_1900, A_1904]
  simp (disch := omega) only [w64, Option.bind_some]
  split
  · rfl
  · split
    · congr 1; omega
    · rfl
theorem day_loop (y : Int) (j : Nat) : ∀ m d : Int, 12 - m = j → 1 ≤ m → 1 ≤ d → d ≤ 400 → cum y m + d ≤ 365 + lp y →
    ∃ m' d', Ev (fun k => civil_day.l0 k y m d) (y, m', d') ∧ Valid y m' d' ∧ cum y m' + d' = cum y m + d := by
  induction j with
  | zero =>
    intro m d hm h1 hd hd4 hc
    obtain rfl : m = 12 := by omega
    have c1 := cum_succ y 12 (by omega) (by omega)
    have c2 := cum_13 y
    rw [show (12 : Int) + 1 = 13 from rfl] at c1
    refine ⟨12, d, Ev.step (f := fun k => (civil_Days.f k y 12).bind fun t105 => (if d > t105 then ((civil_Days.f k y 12).bind fun t106 => (civil_day.l0 k y (wrap64 (12 + 1)) (wrap64 (d - t106)))) else (some (y, 12, d)))) (fun k => rfl) ?_, ⟨by omega, by omega, hd, by omega⟩, rfl⟩
    refine Ev.bind (ev_days y 12) ?_
    refine Ev.congr (f := fun _ => some (y, 12, d)) (fun k => ?_) (Ev.now _)
    exact if_neg (by omega)
  | succ j ih =>
    intro m d hm h1 hd hd4 hc
    have c1 := cum_succ y m (by omega) (by omega)
    have c3 := dm_bd y m
    by_cases hgt : d > dm y m
    · obtain ⟨m', d', hE, hV, hn⟩ := ih (m + 1) (d - dm y m) (by omega) (by omega) (by omega) (by omega) (by omega)
      refine ⟨m', d', Ev.step (f := fun k => (civil_Days.f k y m).bind fun t105 => (if d > t105 then ((civil_Days.f k y m).bind fun t106 => (civil_day.l0 k y (wrap64 (m + 1)) (wrap64 (d - t106)))) else (some (y, m, d)))) (fun k => rfl) ?_, hV, by omega⟩
      refine Ev.bind (ev_days y m) ?_
      refine Ev.congr (f := fun k => (civil_Days.f k y m).bind fun t106 => (civil_day.l0 k y (wrap64 (m + 1)) (wrap64 (d - t106)))) (fun k => if_pos hgt) ?_
      refine Ev.bind (ev_days y m) ?_
      rw [w64 (m + 1) (by omega) (by omega), w64 (d - dm y m) (by omega) (by omega)]
      exact hE
    · refine ⟨m, d, Ev.step (f := fun k => (civil_Days.f k y m).bind fun t105 => (if d > t105 then ((civil_Days.f k y m).bind fun t106 => (civil_day.l0 k y (wrap64 (m + 1)) (wrap64 (d - t106)))) else (some (y, m, d)))) (fun k => rfl) ?_, ⟨h1, by omega, hd, by omega⟩, rfl⟩
      refine Ev.bind (ev_days y m) ?_
      refine Ev.congr (f := fun _ => some (y, m, d)) (fun k => ?_) (Ev.now _)
      exact if_neg hgt
theorem day_at (n : Int) (h0 : 0 ≤ n) (h1 : n < 3652059) : ∃ y m d, Ev (fun k => civil_day.f k n) (y, m, d) ∧ Valid y m d ∧ num y m d = n := by
  have e : ∀ k, civil_day.f k n = civil_day.l0 k
      (400 * (n / 146097) + 100 * min (n % 146097 / 36524) 3 + 4 * ((n % 146097 - min (n % 146097 / 36524) 3 * 36524) / 1461) + min ((n % 146097 - min (n % 146097 / 36524) 3 * 36524) % 1461 / 365) 3 + 1)
      1 ((n % 146097 - min (n % 146097 / 36524) 3 * 36524) % 1461 - 365 * min ((n % 146097 - min (n % 146097 / 36524) 3 * 36524) % 1461 / 365) 3 + 1) := by
    intro k
    unfold civil_day.f
    simp only [mn_eq]
    simp (disch := omega) only [w64, Int.tdiv_eq_ediv_of_nonneg, Int.tmod_eq_emod_of_nonneg]
  obtain ⟨c, hc⟩ : ∃ c, c = min (n % 146097 / 36524) 3 := ⟨_, rfl⟩
  rw [← hc] at e
  have c0 : 0 ≤ c ∧ c ≤ 3 := by omega
  obtain ⟨n1, hn1⟩ : ∃ x, x = n % 146097 := ⟨_, rfl⟩
  rw [← hn1] at e hc
  obtain ⟨a, ha⟩ : ∃ x, x = n / 146097 := ⟨_, rfl⟩
  rw [← ha] at e
  have g1 : n = 146097 * a + n1 ∧ 0 ≤ n1 ∧ n1 < 146097 ∧ 0 ≤ a := by omega
  clear hn1 ha
  obtain ⟨n2, hn2⟩ : ∃ x, x = n1 - c * 36524 := ⟨_, rfl⟩
  rw [← hn2] at e
  have f1 : 0 ≤ n2 ∧ n2 ≤ 36524 ∧ (n2 = 36524 → c = 3) := by omega
  have f2 : n1 = 36524 * c + n2 := by omega
  clear hn2 hc
  obtain ⟨b, hb⟩ : ∃ x, x = n2 / 1461 := ⟨_, rfl⟩
  rw [← hb] at e
  obtain ⟨n3, hn3⟩ : ∃ x, x = n2 % 1461 := ⟨_, rfl⟩
  rw [← hn3] at e
  have b0 : 0 ≤ b ∧ b ≤ 24 := by omega
  have f3 : n2 = 1461 * b + n3 ∧ 0 ≤ n3 ∧ n3 < 1461 := by omega
  clear hb hn3
  obtain ⟨q, hq⟩ : ∃ x, x = min (n3 / 365) 3 := ⟨_, rfl⟩
  rw [← hq] at e
  have q0 : 0 ≤ q ∧ q ≤ 3 := by omega
  obtain ⟨d, hd⟩ : ∃ x, x = n3 - 365 * q + 1 := ⟨_, rfl⟩
  rw [← hd] at e
  have f4 : 0 ≤ d - 1 ∧ (q < 3 → d - 1 < 365) ∧ d - 1 ≤ 365 := by omega
  have f5 : n3 = 365 * q + d - 1 := by omega
  clear hq hd
  have hA := A_parts a c b q c0 b0 q0
  have hdl := len_parts a c b q (d - 1) c0 b0 q0 f4.2.1 f4.2.2 (by omega)
  obtain ⟨y, hy⟩ : ∃ x, x = 400 * a + 100 * c + 4 * b + q + 1 := ⟨_, rfl⟩
  rw [← hy] at e hA hdl
  have hn : n = A y + d - 1 := by rw [hA]; omega
  obtain ⟨m', d', hE, hV, hs⟩ := day_loop y 11 1 d (by omega) (by omega) (by omega) (by omega) (by rw [cum_1]; omega)
  refine ⟨y, m', d', ?_, hV, ?_⟩
  · exact Ev.congr e hE
  · rw [cum_1] at hs; unfold num; omega
theorem odd_yes {k s y m d : Int} (h : odd k s y m d) : civil_odd.f k s = some (y, m, d, true) := by
  unfold civil_odd.f
  rcases h with ⟨rfl, ⟨rfl, rfl, rfl, rfl⟩ | ⟨rfl, rfl, rfl, rfl⟩⟩ <;> simp
theorem odd_no {k s : Int} (h : ¬ (s = 0 ∧ (k = 0 ∨ k = 60))) : civil_odd.f k s = some (0, 0, 0, false) := by
  unfold civil_odd.f
  by_cases hs : s = 0
  · rw [if_pos hs, if_neg (by omega), if_neg (by omega)]
  · rw [if_neg hs]
theorem of_no {k s : Int} (h : ¬ InR k s) : Ev (fun j => civil_Of.f j k s) (0, 0, 0, false) := by
  refine ⟨1, fun j hj => ?_⟩
  obtain ⟨j, rfl⟩ : ∃ i, j = i + 1 := ⟨j - 1, by omega⟩
  show civil_Of.f (j + 1) k s = _
  unfold civil_Of.f
  rw [last_eq, Option.bind_some]
  by_cases h0 : k < 0
  · rw [if_pos h0]; simp [civil_Of.j0]
  · rw [if_neg h0]
    have : k > lastP s := by
      apply Decidable.byContradiction; intro hc; exact h ⟨by omega, by omega⟩
    simp [civil_Of.j0, this]
theorem of_yes {k s : Int} (h : InR k s) : ∃ y m d, IsDate k s y m d ∧ Ev (fun j => civil_Of.f j k s) (y, m, d, true) := by
  have hk0 := h.k0; have hk1 := h.k1
  have e : ∀ j, civil_Of.f (j + 1) k s = ((civil_odd.f k s).bind fun bt112 => (if bt112.2.2.2 = true then (some (bt112.1, bt112.2.1, bt112.2.2.1, true)) else ((civil_count.f k s).bind fun t117 => ((civil_day.f j t117).bind fun bt118 => (some (bt118.1, bt118.2.1, bt118.2.2, true)))))) := by
    intro j
    unfold civil_Of.f
    rw [last_eq, Option.bind_some, if_neg (by omega)]
    have : decide (k > lastP s) = false := by simp; omega
    rw [this]; rfl
  by_cases hn : s = 0 ∧ (k = 0 ∨ k = 60)
  · obtain ⟨y, m, d, ho⟩ : ∃ y m d, odd k s y m d := by
      rcases hn with ⟨hs, hk | hk⟩
      · exact ⟨1900, 1, 0, hs, .inl ⟨hk, rfl, rfl, rfl⟩⟩
      · exact ⟨1900, 2, 29, hs, .inr ⟨hk, rfl, rfl, rfl⟩⟩
    refine ⟨y, m, d, .inl ho, Ev.step e ?_⟩
    rw [odd_yes ho]
    exact Ev.now _
  · have hb := cnt_bd h
    obtain ⟨y, m, d, hE, hV, hN⟩ := day_at (cnt k s) (by omega) (by omega)
    refine ⟨y, m, d, .inr ⟨hn, hV, hN⟩, Ev.step e ?_⟩
    rw [odd_no hn, count_eq k s hk0 (by rcases h.sys with rfl | rfl <;> simp [lastP] at hk1 <;> omega)]
    refine Ev.congr (f := fun j => (civil_day.f j (cnt k s)).bind fun bt118 => (some (bt118.1, bt118.2.1, bt118.2.2, true))) (fun j => rfl) ?_
    refine Ev.bind hE ?_
    exact Ev.now _
theorem of_at {k s y m d : Int} (h : InR k s) (hd : IsDate k s y m d) : Ev (fun j => civil_Of.f j k s) (y, m, d, true) := by
  obtain ⟨y', m', d', h1, h2⟩ := of_yes h
  obtain ⟨rfl, rfl, rfl⟩ := date_uniq hd h1
  exact h2
theorem serial_rest {s y m d : Int} (h1 : 1 ≤ y) (h2 : y ≤ 9999) (hV : Valid y m d) (j : Nat) : ∀ (c r : Int) (b : Int × Bool), m - c = j → 1 ≤ c → c ≤ m → r = A y + cum y c + d - 1 →
    Ev (fun k => civil_Date_Serial.j3 k s (num y m d - cnt 0 s) (decide (s = 0 ∧ num y m d - cnt 0 s ≥ 60)) y m d) b → Ev (fun k => civil_Date_Serial.l1 k s r c y m d) b := by
  have hA := A_mono 1 y h1
  have hA2 := A_mono y 10000 (by omega)
  rw [A_1] at hA; rw [A_10000] at hA2
  have hlp := lp_01 y
  have hm1 := hV.m1; have hm2 := hV.m2; have hd1 := hV.d1; have hd2 := hV.d2; have hdm := dm_bd y m
  induction j with
  | zero =>
    intro c r b hc h1 h2 hr hE
    obtain rfl : c = m := by omega
    refine Ev.step (f := fun k => if c < c then ((civil_Days.f k y c).bind fun t141 => (civil_Date_Serial.l1 k s (wrap64 (r + t141)) (wrap64 (c + 1)) y c d)) else ((civil_count.f 0 s).bind fun t142 => (if s = 0 then (civil_Date_Serial.j3 k s (wrap64 (r - t142)) (decide ((wrap64 (r - t142)) ≥ 60)) y c d) else (civil_Date_Serial.j3 k s (wrap64 (r - t142)) false y c d)))) (fun k => rfl) ?_
    refine Ev.congr (fun k => ?_) hE
    show (if c < c then _ else _) = _
    rw [if_neg (by omega), count_eq 0 s (by omega) (by omega), Option.bind_some]
    have e : r = num y c d := hr
    have b1 := hV.lo
    have b2 := hV.hi
    have b3 : 693594 ≤ cnt 0 s ∧ cnt 0 s ≤ 695055 := by
      unfold cnt; split
      · omega
      · rw [if_neg (by omega)]; omega
    rw [w64 (r - cnt 0 s) (by omega) (by omega), e]
    by_cases hs : s = 0
    · rw [if_pos hs]; congr 1; simp [hs]
    · rw [if_neg hs]; congr 1; simp [hs]
  | succ j ih =>
    intro c r b hc h1 h2 hr hE
    refine Ev.step (f := fun k => if c < m then ((civil_Days.f k y c).bind fun t141 => (civil_Date_Serial.l1 k s (wrap64 (r + t141)) (wrap64 (c + 1)) y m d)) else ((civil_count.f 0 s).bind fun t142 => (if s = 0 then (civil_Date_Serial.j3 k s (wrap64 (r - t142)) (decide ((wrap64 (r - t142)) ≥ 60)) y m d) else (civil_Date_Serial.j3 k s (wrap64 (r - t142)) false y m d)))) (fun k => rfl) ?_
    refine Ev.congr (f := fun k => (civil_Days.f k y c).bind fun t141 => (civil_Date_Serial.l1 k s (wrap64 (r + t141)) (wrap64 (c + 1)) y m d)) (fun k => if_pos (by omega)) ?_
    refine Ev.bind (ev_days y c) ?_
    have c1 := cum_succ y c (by omega) (by omega)
    have c2 := dm_bd y c
    have c3 := cum_le y 1 c (by omega) (by omega) (by omega)
    rw [cum_1] at c3
    have c4 := cum_le y c 13 (by omega) (by omega) (by omega)
    rw [cum_13] at c4
    rw [w64 (r + dm y c) (by omega) (by omega), w64 (c + 1) (by omega) (by omega)]
    exact ih (c + 1) (r + dm y c) b (by omega) (by omega) (by omega) (by omega) hE

def guardB (y m d : Int) : Bool := decide (1 ≤ y ∧ y ≤ 9999 ∧ 1 ≤ d ∧ d ≤ dm y m)
theorem guard_valid {y m d : Int} (h : guardB y m d = true) : 1 ≤ y ∧ y ≤ 9999 ∧ Valid y m d := by
  unfold guardB at h; rw [decide_eq_true_eq] at h
  obtain ⟨h1, h2, h3, h4⟩ := h
  have := dm_pos y m (by omega)
  exact ⟨h1, h2, this.1, this.2, h3, h4⟩
theorem valid_guard {y m d : Int} (h1 : 1 ≤ y) (h2 : y ≤ 9999) (h : Valid y m d) : guardB y m d = true := by
  unfold guardB; rw [decide_eq_true_eq]; exact ⟨h1, h2, h.d1, h.d2⟩
/-- behind the two odd days -/
theorem serial_tail (s y m d : Int) (b : Int × Bool) (h : Ev (fun k => civil_Date_Serial.j1 k s (!guardB y m d) y m d) b) :
    Ev (fun k => civil_Date_Serial.l0 k s [0, 60] 2 2 y m d) b := by
  refine Ev.step (f := fun k => if y < 1 then (civil_Date_Serial.j1 k s true y m d) else (if y > 9999 then (civil_Date_Serial.j1 k s true y m d) else (if d < 1 then (civil_Date_Serial.j1 k s true y m d) else ((civil_Days.f k y m).bind fun t139 => (civil_Date_Serial.j1 k s (decide (d > t139)) y m d))))) (fun k => rfl) ?_
  by_cases h1 : y < 1
  · refine Ev.congr (fun k => if_pos h1) ?_
    rw [show guardB y m d = false by unfold guardB; rw [decide_eq_false_iff_not]; omega] at h
    exact h
  · by_cases h2 : y > 9999
    · refine Ev.congr (fun k => (if_neg h1).trans (if_pos h2)) ?_
      rw [show guardB y m d = false by unfold guardB; rw [decide_eq_false_iff_not]; omega] at h
      exact h
    · by_cases h3 : d < 1
      · refine Ev.congr (fun k => (if_neg h1).trans ((if_neg h2).trans (if_pos h3))) ?_
        rw [show guardB y m d = false by unfold guardB; rw [decide_eq_false_iff_not]; omega] at h
        exact h
      · refine Ev.congr (fun k => (if_neg h1).trans ((if_neg h2).trans (if_neg h3))) ?_
        refine Ev.bind (ev_days y m) ?_
        rw [show guardB y m d = !decide (d > dm y m) by unfold guardB; rw [Bool.eq_iff_iff]; simp; omega, Bool.not_not] at h
        exact h
theorem serial_step (s y m d : Int) (i n : Int) (hi : i = 0 ∧ n = 0 ∨ i = 1 ∧ n = 60) (h : ¬ odd n s y m d) (b : Int × Bool)
    (hE : Ev (fun k => civil_Date_Serial.l0 k s [0, 60] 2 (i + 1) y m d) b) : Ev (fun k => civil_Date_Serial.l0 k s [0, 60] 2 i y m d) b := by
  have hr : rd [0, 60] i = n := by rcases hi with ⟨rfl, rfl⟩ | ⟨rfl, rfl⟩ <;> rfl
  have hw : wrap64 (i + 1) = i + 1 := w64 _ (by omega) (by omega)
  refine Ev.step (fun k => ?_) hE
  show civil_Date_Serial.l0 (k + 1) s [0, 60] 2 i y m d = _
  rw [civil_Date_Serial.l0]
  rw [if_pos (by omega), if_pos (by omega), if_pos (by simp; omega), hr, hw]
  by_cases hn : s = 0 ∧ (n = 0 ∨ n = 60)
  · obtain ⟨rfl, hn⟩ := hn
    rcases hn with rfl | rfl
    · rw [odd_yes (y := 1900) (m := 1) (d := 0) ⟨rfl, .inl ⟨rfl, rfl, rfl, rfl⟩⟩, Option.bind_some, if_pos rfl, if_neg]
      intro hc
      simp at hc
      exact h ⟨rfl, .inl ⟨rfl, hc.1.symm, hc.2.1.symm, hc.2.2.symm⟩⟩
    · rw [odd_yes (y := 1900) (m := 2) (d := 29) ⟨rfl, .inr ⟨rfl, rfl, rfl, rfl⟩⟩, Option.bind_some, if_pos rfl, if_neg]
      intro hc
      simp at hc
      exact h ⟨rfl, .inr ⟨rfl, hc.1.symm, hc.2.1.symm, hc.2.2.symm⟩⟩
  · rw [odd_no hn, Option.bind_some, if_neg (by simp)]
theorem serial_hit (s y m d : Int) (i n : Int) (hi : i = 0 ∧ n = 0 ∨ i = 1 ∧ n = 60) (h : odd n s y m d) : Ev (fun k => civil_Date_Serial.l0 k s [0, 60] 2 i y m d) (n, true) := by
  have hr : rd [0, 60] i = n := by rcases hi with ⟨rfl, rfl⟩ | ⟨rfl, rfl⟩ <;> rfl
  refine Ev.step (fun k => ?_) (Ev.now (n, true))
  show civil_Date_Serial.l0 (k + 1) s [0, 60] 2 i y m d = _
  rw [civil_Date_Serial.l0]
  rw [if_pos (by omega), if_pos (by omega), if_pos (by simp; omega), hr, odd_yes h, Option.bind_some, if_pos rfl, if_pos (by simp)]
theorem serial_start (s y m d : Int) (b : Int × Bool) (h : Ev (fun k => civil_Date_Serial.l0 k s [0, 60] 2 0 y m d) b) : Ev (fun k => civil_Date_Serial.f k y m d s) b :=
  Ev.congr (fun _ => rfl) h
/-- no odd day: what is behind the loop -/
theorem serial_plain (s y m d : Int) (h0 : ¬ odd 0 s y m d) (h6 : ¬ odd 60 s y m d) (b : Int × Bool) (h : Ev (fun k => civil_Date_Serial.j1 k s (!guardB y m d) y m d) b) : Ev (fun k => civil_Date_Serial.f k y m d s) b :=
  serial_start s y m d b (serial_step s y m d 0 0 (.inl ⟨rfl, rfl⟩) h0 b (serial_step s y m d 1 60 (.inr ⟨rfl, rfl⟩) h6 b (serial_tail s y m d b h)))
theorem j3_yes {n s y m d : Int} (x : Bool) (k0 : Int) (hk : k0 = if x = true then n + 1 else n) (hn : -4000000 ≤ n ∧ n ≤ 4000000) (h : Ev (fun k => civil_Of.f k k0 s) (y, m, d, true)) : Ev (fun k => civil_Date_Serial.j3 k s n x y m d) (k0, true) := by
  cases x with
  | true =>
    rw [if_pos rfl] at hk
    refine Ev.step (f := fun k => (civil_Of.f k (wrap64 (n + 1)) s).bind fun bt143 => (if bt143.2.2.2 = true then (if (!(bt143.1 == y) || (!(bt143.2.1 == m) || (!(bt143.2.2.1 == d)))) = true then (some (0, false)) else (some (wrap64 (n + 1), true))) else (some (0, false)))) (fun k => rfl) ?_
    rw [w64 (n + 1) (by omega) (by omega), ← hk]
    refine Ev.bind h ?_
    refine Ev.congr (fun k => ?_) (Ev.now _)
    simp
  | false =>
    rw [if_neg (by simp)] at hk
    rw [hk] at h ⊢
    refine Ev.step (f := fun k => (civil_Of.f k n s).bind fun bt143 => (if bt143.2.2.2 = true then (if (!(bt143.1 == y) || (!(bt143.2.1 == m) || (!(bt143.2.2.1 == d)))) = true then (some (0, false)) else (some (n, true))) else (some (0, false)))) (fun k => rfl) ?_
    refine Ev.bind h ?_
    refine Ev.congr (fun k => ?_) (Ev.now _)
    simp
theorem j3_no {n s y m d : Int} (x : Bool) (k0 : Int) (hk : k0 = if x = true then n + 1 else n) (hn : -4000000 ≤ n ∧ n ≤ 4000000) (h : ¬ (InR k0 s ∧ IsDate k0 s y m d)) : Ev (fun k => civil_Date_Serial.j3 k s n x y m d) (0, false) := by
  obtain ⟨y', m', d', c, hE, hne⟩ : ∃ y' m' d' c, Ev (fun k => civil_Of.f k k0 s) (y', m', d', c) ∧ (c = true → ¬ (y' = y ∧ m' = m ∧ d' = d)) := by
    by_cases hin : InR k0 s
    · obtain ⟨y', m', d', hd, hE⟩ := of_yes hin
      refine ⟨y', m', d', true, hE, fun _ hc => ?_⟩
      obtain ⟨rfl, rfl, rfl⟩ := hc
      exact h ⟨hin, hd⟩
    · exact ⟨0, 0, 0, false, of_no hin, fun hc => by cases hc⟩
  have key : ∀ q : Int, (if (y', m', d', c).2.2.2 = true then (if (!((y', m', d', c).1 == y) || (!((y', m', d', c).2.1 == m) || (!((y', m', d', c).2.2.1 == d)))) = true then (some (0, false)) else (some (q, true))) else (some (0, false))) = some ((0 : Int), false) := by
    intro q
    cases c with
    | false => rfl
    | true =>
      have := hne rfl
      rw [if_pos rfl, if_pos]
      simp only [Bool.or_eq_true, Bool.not_eq_true', beq_eq_false_iff_ne]
      by_cases e1 : y' = y
      · by_cases e2 : m' = m
        · exact .inr (.inr fun e3 => this ⟨e1, e2, e3⟩)
        · exact .inr (.inl e2)
      · exact .inl e1
  cases x with
  | true =>
    rw [if_pos rfl] at hk
    refine Ev.step (f := fun k => (civil_Of.f k (wrap64 (n + 1)) s).bind fun bt143 => (if bt143.2.2.2 = true then (if (!(bt143.1 == y) || (!(bt143.2.1 == m) || (!(bt143.2.2.1 == d)))) = true then (some (0, false)) else (some (wrap64 (n + 1), true))) else (some (0, false)))) (fun k => rfl) ?_
    rw [w64 (n + 1) (by omega) (by omega), ← hk]
    refine Ev.bind hE ?_
    exact Ev.congr (fun k => key _) (Ev.now _)
  | false =>
    rw [if_neg (by simp)] at hk
    rw [hk] at hE
    refine Ev.step (f := fun k => (civil_Of.f k n s).bind fun bt143 => (if bt143.2.2.2 = true then (if (!(bt143.1 == y) || (!(bt143.2.1 == m) || (!(bt143.2.2.1 == d)))) = true then (some (0, false)) else (some (n, true))) else (some (0, false)))) (fun k => rfl) ?_
    refine Ev.bind hE ?_
    exact Ev.congr (fun k => key _) (Ev.now _)
theorem num_bd {y m d : Int} (h1 : 1 ≤ y) (h2 : y ≤ 9999) (hV : Valid y m d) : 0 ≤ num y m d ∧ num y m d < 3652059 := by
  have := hV.year
  have hA := A_mono 1 y h1
  have hA2 := A_mono (y + 1) 10000 (by omega)
  rw [A_1] at hA; rw [A_10000] at hA2
  omega
theorem cnt_0 (s : Int) : cnt 0 s = if s = 1 then 695055 else 693594 := by
  unfold cnt; split
  · rfl
  · rw [if_neg (by omega)]; rfl
theorem serP_if {n s : Int} (hs : s = 0 ∨ s = 1) : serP n s = if (decide (s = 0 ∧ n - cnt 0 s ≥ 60)) = true then n - cnt 0 s + 1 else n - cnt 0 s := by
  rw [cnt_0 s]
  unfold serP
  rcases hs with rfl | rfl <;> simp
theorem j1_go {s y m d : Int} (hg : guardB y m d = true) (b : Int × Bool)
    (hE : Ev (fun k => civil_Date_Serial.j3 k s (num y m d - cnt 0 s) (decide (s = 0 ∧ num y m d - cnt 0 s ≥ 60)) y m d) b) : Ev (fun k => civil_Date_Serial.j1 k s (!guardB y m d) y m d) b := by
  obtain ⟨h1, h2, hV⟩ := guard_valid hg
  rw [hg]
  have hA := A_mono 1 y h1
  have hA2 := A_mono y 10000 (by omega)
  rw [A_1] at hA; rw [A_10000] at hA2
  have hd1 := hV.d1; have hd2 := hV.d2; have hdm := dm_bd y m; have hm1 := hV.m1
  refine Ev.step (f := fun k => civil_Date_Serial.l1 k s (A y + d - 1) 1 y m d) (fun k => ?_) ?_
  · show civil_Date_Serial.j1 (k + 1) s (!true) y m d = _
    rw [civil_Date_Serial.j1, if_neg (by simp), ahead_eq y (by omega) (by omega), Option.bind_some, w64 (A y + d) (by omega) (by omega), w64 (A y + d - 1) (by omega) (by omega)]
  · exact serial_rest h1 h2 hV (m - 1).toNat 1 (A y + d - 1) b (by omega) (by omega) (by omega) (by rw [cum_1]; omega) hE
theorem j1_stop {s y m d : Int} (hg : guardB y m d = false) : Ev (fun k => civil_Date_Serial.j1 k s (!guardB y m d) y m d) (0, false) := by
  rw [hg]
  exact Ev.step (f := fun _ => some (0, false)) (fun k => rfl) (Ev.now _)
theorem serial_yes {k s y m d : Int} (hin : InR k s) (hd : IsDate k s y m d) : Ev (fun j => civil_Date_Serial.f j y m d s) (k, true) := by
  rcases hd with h | ⟨hn, hV, hN⟩
  · refine serial_start s y m d _ ?_
    have h' := h
    rcases h with ⟨rfl, ⟨rfl, rfl, rfl, rfl⟩ | ⟨rfl, rfl, rfl, rfl⟩⟩
    · exact serial_hit 0 1900 1 0 0 0 (.inl ⟨rfl, rfl⟩) h'
    · refine serial_step 0 1900 2 29 0 0 (.inl ⟨rfl, rfl⟩) (fun hc => ?_) _ (serial_hit 0 1900 2 29 1 60 (.inr ⟨rfl, rfl⟩) h')
      rcases hc with ⟨_, ⟨_, _, h3, _⟩ | ⟨h3, _⟩⟩ <;> omega
  · have hb := cnt_bd hin
    have hl := cnt_lo hin hn
    obtain ⟨hy1, hy2⟩ := valid_years hV (by omega) (by omega)
    refine serial_plain s y m d (fun hc => odd_not_valid hc hV) (fun hc => odd_not_valid hc hV) _ ?_
    refine j1_go (valid_guard (by omega) hy2 hV) _ ?_
    have hnb := num_bd (by omega) hy2 hV
    have hc0 := cnt_0 s
    refine j3_yes _ k ?_ (by rw [hc0]; split <;> omega) (of_at hin (.inr ⟨hn, hV, hN⟩))
    rw [← serP_if hin.sys, hN, serP_cnt hin hn]
theorem serial_no {s y m d : Int} (h : ∀ k, ¬ (InR k s ∧ IsDate k s y m d)) : Ev (fun j => civil_Date_Serial.f j y m d s) (0, false) := by
  have i0 : s = 0 → InR 0 s := fun e => by subst e; exact ⟨by omega, by simp [lastP]⟩
  have i6 : s = 0 → InR 60 s := fun e => by subst e; exact ⟨by omega, by simp [lastP]⟩
  refine serial_plain s y m d (fun hc => h 0 ⟨i0 hc.1, .inl hc⟩) (fun hc => h 60 ⟨i6 hc.1, .inl hc⟩) _ ?_
  by_cases hg : guardB y m d = true
  case neg => exact j1_stop (by simpa using hg)
  case pos =>
    obtain ⟨h1, h2, hV⟩ := guard_valid hg
    refine j1_go hg _ ?_
    have hnb := num_bd (by omega) h2 hV
    have hc0 := cnt_0 s
    exact j3_no _ _ rfl (by rw [hc0]; split <;> omega) (h _)
theorem weekday_no {k s : Int} (h : ¬ InR k s) : Ev (fun j => civil_Weekday.f j k s) (0, false) := by
  refine Ev.step (f := fun _ => some (0, false)) (fun j => ?_) (Ev.now _)
  show civil_Weekday.f (j + 1) k s = _
  unfold civil_Weekday.f
  rw [last_eq, Option.bind_some]
  by_cases h0 : k < 0
  · rw [if_pos h0]; simp [civil_Weekday.j0]
  · rw [if_neg h0]
    have : k > lastP s := by
      apply Decidable.byContradiction; intro hc; exact h ⟨by omega, by omega⟩
    simp [civil_Weekday.j0, this]
def wdP (k s : Int) : Int := if s = 1 then (k + 12) % 7 + 1 else (k + 6) % 7 + 1
theorem weekday_yes {k s : Int} (h : InR k s) : Ev (fun j => civil_Weekday.f j k s) (wdP k s, true) := by
  have hk0 := h.k0; have hk1 := h.k1
  have hk2 : k ≤ 3000000 := by rcases h.sys with rfl | rfl <;> simp [lastP] at hk1 <;> omega
  refine Ev.step (f := fun _ => some (wdP k s, true)) (fun j => ?_) (Ev.now _)
  show civil_Weekday.f (j + 1) k s = _
  unfold civil_Weekday.f
  rw [last_eq, Option.bind_some, if_neg (by omega)]
  have : decide (k > lastP s) = false := by simp; omega
  rw [this, civil_Weekday.j0, if_neg (by simp)]
  unfold wdP
  rcases h.sys with rfl | rfl
  · rw [if_neg (by omega), if_neg (by omega)]
    simp (disch := omega) only [w64, Int.tmod_eq_emod_of_nonneg]
    congr 2; omega
  · rw [if_pos rfl, if_pos rfl]
    simp (disch := omega) only [w64, Int.tmod_eq_emod_of_nonneg]
    congr 2; omega
theorem isDate_45000 : IsDate 45000 0 2023 3 15 := .inr ⟨by omega, ⟨by omega, by omega, by omega, by decide⟩, by decide⟩
theorem isDate_43538 : IsDate 43538 1 2023 3 15 := .inr ⟨by omega, ⟨by omega, by omega, by omega, by decide⟩, by decide⟩
theorem isDate_0 : IsDate 0 1 1904 1 1 := .inr ⟨by omega, ⟨by omega, by omega, by omega, by decide⟩, by decide⟩
theorem isDate_60 : IsDate 60 0 1900 2 29 := .inl ⟨rfl, .inr ⟨rfl, rfl, rfl, rfl⟩⟩
theorem wakes_ev : Ev (fun k => numerarylaw24_wakes.f k) true := by
  refine Ev.congr (fun k => rfl) (Ev.bind (of_at (k := 60) (s := 0) ⟨by decide, by decide⟩ isDate_60) (Ev.bind (of_at (k := 45000) (s := 0) ⟨by decide, by decide⟩ isDate_45000)
    (Ev.bind (of_at (k := 0) (s := 1) ⟨by decide, by decide⟩ isDate_0) (Ev.bind (serial_yes (k := 43538) (s := 1) (y := 2023) (m := 3) (d := 15) ⟨by decide, by decide⟩ isDate_43538) (Ev.bind (weekday_yes (k := 45000) (s := 0) ⟨by decide, by decide⟩) ?_)))))
  exact Ev.congr (fun k => rfl) (Ev.now true)
theorem ref_leap_eq (y : Int) : numeraryref24_Leap.f y = some (leapB y) := by
  unfold numeraryref24_Leap.f leapB
  simp only [tmod_zero]
  by_cases h400 : y % 400 = 0
  · rw [if_pos h400]
    congr 1
    symm; rw [decide_eq_true_eq]
    exact ⟨by omega, .inr h400⟩
  · rw [if_neg h400]
    by_cases h4 : y % 4 = 0
    · rw [if_pos h4]
      congr 1
      rw [Bool.eq_iff_iff]
      simp [tmod_zero, h4, h400]
    · rw [if_neg h4]; simp [h4]
theorem ref_days (y m : Int) : Ev (fun k => numeraryref24_Days.f k y m) (dm y m) := by
  refine ⟨2, fun k hk => ?_⟩
  obtain ⟨k, rfl⟩ : ∃ j, k = j + 2 := ⟨k - 2, by omega⟩
  show numeraryref24_Days.f (k + 1 + 1) y m = _
  unfold numeraryref24_Days.f dm lp
  by_cases hl : m < 1
  · rw [if_pos hl, if_neg (by omega), if_neg (by omega), if_pos (by omega)]; rfl
  · rw [if_neg hl]
    by_cases hh : m > 12
    · rw [if_neg (by omega), if_neg (by omega), if_pos (by omega), numeraryref24_Days.j0, if_pos (by simp; omega)]
    · rw [numeraryref24_Days.j0, if_neg (by simp; omega)]
      by_cases h4 : m = 4
      · subst h4; simp [numeraryref24_Days.j1]
      · rw [if_neg h4]
        by_cases h6 : m = 6
        · subst h6; simp [numeraryref24_Days.j1]
        · rw [if_neg h6]
          by_cases h9 : m = 9
          · subst h9; simp [numeraryref24_Days.j1]
          · rw [if_neg h9, numeraryref24_Days.j1]
            by_cases h11 : m = 11
            · subst h11; simp
            · rw [if_neg (by simp [h11])]
              by_cases h2 : m = 2
              · rw [if_pos h2, if_pos h2, ref_leap_eq, Option.bind_some]
                split <;> rfl
              · rw [if_neg h2, if_neg h2, if_neg (by omega), if_neg (by omega)]
theorem ref_last_eq (s : Int) : numeraryref24_Last.f s = some (lastP s) := by
  unfold numeraryref24_Last.f lastP
  split
  · rfl
  · split <;> rfl
theorem ref_months (y : Int) (j : Nat) : ∀ m r : Int, 12 - m = j → 1 ≤ m → 0 ≤ r → r ≤ 400 → cum y m + r < 365 + lp y →
    ∃ m' d', Ev (fun k => numeraryref24_Of.l1 k r y m) (y, m', d', true) ∧ Valid y m' d' ∧ cum y m' + d' = cum y m + r + 1 := by
  induction j with
  | zero =>
    intro m r hm h1 hr hr4 hc
    obtain rfl : m = 12 := by omega
    have c1 := cum_succ y 12 (by omega) (by omega)
    have c2 := cum_13 y
    rw [show (12 : Int) + 1 = 13 from rfl] at c1
    refine ⟨12, r + 1, Ev.step (f := fun k => (numeraryref24_Days.f k y 12).bind fun t126 => (if r < t126 then (some (y, 12, wrap64 (r + 1), true)) else (numeraryref24_Of.l1 k (wrap64 (r - t126)) y (wrap64 (12 + 1))))) (fun k => rfl) ?_, ⟨by omega, by omega, by omega, by omega⟩, by omega⟩
    refine Ev.bind (ref_days y 12) ?_
    refine Ev.congr (fun k => ?_) (Ev.now _)
    rw [if_pos (by omega), w64 (r + 1) (by omega) (by omega)]
  | succ j ih =>
    intro m r hm h1 hr hr4 hc
    have c1 := cum_succ y m (by omega) (by omega)
    have c3 := dm_bd y m
    by_cases hlt : r < dm y m
    · refine ⟨m, r + 1, Ev.step (f := fun k => (numeraryref24_Days.f k y m).bind fun t126 => (if r < t126 then (some (y, m, wrap64 (r + 1), true)) else (numeraryref24_Of.l1 k (wrap64 (r - t126)) y (wrap64 (m + 1))))) (fun k => rfl) ?_, ⟨h1, by omega, by omega, by omega⟩, by omega⟩
      refine Ev.bind (ref_days y m) ?_
      refine Ev.congr (fun k => ?_) (Ev.now _)
      rw [if_pos hlt, w64 (r + 1) (by omega) (by omega)]
    · obtain ⟨m', d', hE, hV, hn⟩ := ih (m + 1) (r - dm y m) (by omega) (by omega) (by omega) (by omega) (by omega)
      refine ⟨m', d', Ev.step (f := fun k => (numeraryref24_Days.f k y m).bind fun t126 => (if r < t126 then (some (y, m, wrap64 (r + 1), true)) else (numeraryref24_Of.l1 k (wrap64 (r - t126)) y (wrap64 (m + 1))))) (fun k => rfl) ?_, hV, by omega⟩
      refine Ev.bind (ref_days y m) ?_
      rw [w64 (m + 1) (by omega) (by omega), w64 (r - dm y m) (by omega) (by omega)]
      exact Ev.congr (fun k => if_neg hlt) hE
theorem ref_years (j : Nat) : ∀ y n : Int, n ≤ j → 0 ≤ n → 1 ≤ y → A y + n < 3652059 →
    ∃ y' m' d', Ev (fun k => numeraryref24_Of.l0 k n y) (y', m', d', true) ∧ Valid y' m' d' ∧ num y' m' d' = A y + n := by
  induction j with
  | zero =>
    intro y n hn h0 h1 hb
    obtain rfl : n = 0 := by omega
    have hl := lp_01 y
    obtain ⟨m', d', hE, hV, hs⟩ := ref_months y 11 1 0 (by omega) (by omega) (by omega) (by omega) (by rw [cum_1]; omega)
    rw [cum_1] at hs
    refine ⟨y, m', d', ?_, hV, by unfold num; omega⟩
    refine Ev.step (f := fun k => numeraryref24_Of.j3 k 0 y) (fun k => ?_) (Ev.step (f := fun k => numeraryref24_Of.l1 k 0 y 1) (fun k => rfl) hE)
    show numeraryref24_Of.l0 (k + 1) 0 y = _
    rw [numeraryref24_Of.l0, ref_leap_eq, Option.bind_some]
    split <;> rw [if_pos (by omega)]
  | succ j ih =>
    intro y n hn h0 h1 hb
    have hl := lp_of y
    have hA1 := A_mono 1 y h1
    rw [A_1] at hA1
    have hy : y ≤ 9999 := by
      apply Decidable.byContradiction; intro hc
      have := A_mono 10000 y (by omega); rw [A_10000] at this; omega
    have e : ∀ k, numeraryref24_Of.l0 (k + 1) n y = if n < 365 + lp y then numeraryref24_Of.j3 k n y else numeraryref24_Of.l0 k (n - (365 + lp y)) (y + 1) := by
      intro k
      rw [numeraryref24_Of.l0, ref_leap_eq, Option.bind_some, w64 (n - 366) (by omega) (by omega), w64 (n - 365) (by omega) (by omega), w64 (y + 1) (by omega) (by omega)]
      cases hb : leapB y with
      | true =>
        have : lp y = 1 := by unfold lp; rw [hb]; rfl
        rw [this, if_pos rfl]; rfl
      | false =>
        have : lp y = 0 := by unfold lp; rw [hb]; rfl
        rw [this, if_neg (by simp)]; rfl
    by_cases hlt : n < 365 + lp y
    · obtain ⟨m', d', hE, hV, hs⟩ := ref_months y 11 1 n (by omega) (by omega) (by omega) (by omega) (by rw [cum_1]; omega)
      rw [cum_1] at hs
      exact ⟨y, m', d', Ev.step (f := fun k => numeraryref24_Of.j3 k n y) (fun k => (e k).trans (if_pos hlt)) (Ev.step (f := fun k => numeraryref24_Of.l1 k n y 1) (fun k => rfl) hE), hV, by unfold num; omega⟩
    · have hs := A_succ y
      obtain ⟨y', m', d', hE, hV, hN⟩ := ih (y + 1) (n - (365 + lp y)) (by omega) (by omega) (by omega) (by omega)
      exact ⟨y', m', d', Ev.step (fun k => (e k).trans (if_neg hlt)) hE, hV, by omega⟩
theorem ref_of_no {k s : Int} (h : ¬ InR k s) : Ev (fun j => numeraryref24_Of.f j k s) (0, 0, 0, false) := by
  refine Ev.step (f := fun _ => some (0, 0, 0, false)) (fun j => ?_) (Ev.now _)
  show numeraryref24_Of.f (j + 1) k s = _
  unfold numeraryref24_Of.f
  rw [ref_last_eq, Option.bind_some]
  by_cases h0 : k < 0
  · rw [if_pos h0]; simp [numeraryref24_Of.j0]
  · rw [if_neg h0]
    have : k > lastP s := by
      apply Decidable.byContradiction; intro hc; exact h ⟨by omega, by omega⟩
    simp [numeraryref24_Of.j0, this]
theorem ref_of_yes {k s : Int} (h : InR k s) : ∃ y m d, IsDate k s y m d ∧ Ev (fun j => numeraryref24_Of.f j k s) (y, m, d, true) := by
  have hk0 := h.k0; have hk1 := h.k1
  have hk2 : k ≤ 3000000 := by rcases h.sys with rfl | rfl <;> simp [lastP] at hk1 <;> omega
  have e : ∀ j, numeraryref24_Of.f (j + 1) k s = (if s = 0 then (if k = 0 then (some (1900, 1, 0, true)) else (if k = 60 then (some (1900, 2, 29, true)) else (if k - 1 > 59 then (numeraryref24_Of.j1 j (k - 1 - 1) 1900) else (numeraryref24_Of.j1 j (k - 1) 1900)))) else (numeraryref24_Of.j1 j k 1904)) := by
    intro j
    unfold numeraryref24_Of.f
    rw [ref_last_eq, Option.bind_some, if_neg (by omega)]
    have : decide (k > lastP s) = false := by simp; omega
    rw [this, numeraryref24_Of.j0, if_neg (by simp), w64 (k - 1) (by omega) (by omega), w64 (k - 1 - 1) (by omega) (by omega)]
  by_cases hn : s = 0 ∧ (k = 0 ∨ k = 60)
  · rcases hn with ⟨rfl, rfl | rfl⟩
    · exact ⟨1900, 1, 0, .inl ⟨rfl, .inl ⟨rfl, rfl, rfl, rfl⟩⟩, Ev.step (f := fun _ => some (1900, 1, 0, true)) (fun j => e j) (Ev.now _)⟩
    · exact ⟨1900, 2, 29, .inl ⟨rfl, .inr ⟨rfl, rfl, rfl, rfl⟩⟩, Ev.step (f := fun _ => some (1900, 2, 29, true)) (fun j => e j) (Ev.now _)⟩
  · have hb := cnt_bd h
    have a0 := A_1900; have a4 := A_1904
    rcases h.sys with rfl | rfl
    · have k1 : k ≠ 0 ∧ k ≠ 60 := ⟨fun h => hn ⟨rfl, .inl h⟩, fun h => hn ⟨rfl, .inr h⟩⟩
      by_cases hg : k - 1 > 59
      · have hc : cnt k 0 = 693595 + (k - 1 - 1) := by unfold cnt; rw [if_neg (by omega), if_pos (by omega)]; omega
        obtain ⟨y', m', d', hE, hV, hN⟩ := ref_years (k - 1 - 1).toNat 1900 (k - 1 - 1) (by omega) (by omega) (by omega) (by omega)
        refine ⟨y', m', d', .inr ⟨hn, hV, by omega⟩, Ev.step (f := fun j => numeraryref24_Of.j1 j (k - 1 - 1) 1900) (fun j => ?_) (Ev.step (f := fun j => numeraryref24_Of.l0 j (k - 1 - 1) 1900) (fun _ => rfl) hE)⟩
        rw [e, if_pos rfl, if_neg k1.1, if_neg k1.2, if_pos hg]
      · have hc : cnt k 0 = 693595 + (k - 1) := by unfold cnt; rw [if_neg (by omega), if_neg (by omega)]; omega
        obtain ⟨y', m', d', hE, hV, hN⟩ := ref_years (k - 1).toNat 1900 (k - 1) (by omega) (by omega) (by omega) (by omega)
        refine ⟨y', m', d', .inr ⟨hn, hV, by omega⟩, Ev.step (f := fun j => numeraryref24_Of.j1 j (k - 1) 1900) (fun j => ?_) (Ev.step (f := fun j => numeraryref24_Of.l0 j (k - 1) 1900) (fun _ => rfl) hE)⟩
        rw [e, if_pos rfl, if_neg k1.1, if_neg k1.2, if_neg hg]
    · have hc : cnt k 1 = 695055 + k := by unfold cnt; rw [if_pos rfl]
      obtain ⟨y', m', d', hE, hV, hN⟩ := ref_years k.toNat 1904 k (by omega) (by omega) (by omega) (by omega)
      refine ⟨y', m', d', .inr ⟨hn, hV, by omega⟩, Ev.step (f := fun j => numeraryref24_Of.j1 j k 1904) (fun j => ?_) (Ev.step (f := fun j => numeraryref24_Of.l0 j k 1904) (fun _ => rfl) hE)⟩
      rw [e, if_neg (by omega)]
theorem ref_of_at {k s y m d : Int} (h : InR k s) (hd : IsDate k s y m d) : Ev (fun j => numeraryref24_Of.f j k s) (y, m, d, true) := by
  obtain ⟨y', m', d', h1, h2⟩ := ref_of_yes h
  obtain ⟨rfl, rfl, rfl⟩ := date_uniq hd h1
  exact h2
theorem has_number {s y m d : Int} (hs : s = 0 ∨ s = 1) (hy : (if s = 1 then 1904 else 1900) ≤ y) (hy2 : y ≤ 9999) (hV : Valid y m d) : ∃ k, InR k s ∧ IsDate k s y m d := by
  have hyr := hV.year
  have a1 := A_1900; have a2 := A_1904; have a3 := A_10000
  have hA := A_mono (y + 1) 10000 (by omega)
  have hA2 : (if s = 1 then 695055 else 693595) ≤ A y := by
    rcases hs with rfl | rfl
    · have := A_mono 1900 y (by simpa using hy); rw [if_neg (by omega)]; omega
    · have := A_mono 1904 y (by simpa using hy); rw [if_pos rfl]; omega
  have hin : InR (serP (num y m d) s) s := by
    rcases hs with rfl | rfl
    · rw [if_neg (by omega)] at hA2
      rw [serP_0]
      split
      · exact ⟨by omega, by simp [lastP]; omega⟩
      · exact ⟨by omega, by simp [lastP]; omega⟩
    · rw [if_pos rfl] at hA2
      rw [serP_1]
      exact ⟨by omega, by simp [lastP]; omega⟩
  refine ⟨_, hin, .inr ⟨?_, hV, (cnt_serP hs).symm⟩⟩
  rintro ⟨rfl, h⟩
  rw [if_neg (by omega)] at hA2
  rw [serP_0] at h
  split at h <;> omega
theorem serials_go (x1 : Int) (a : List S24) (n i : Int) (c : List Int) (m j : Int) (y mo d : Int) (r : Bool) (hw : wrap64 (j + 1) = j + 1)
    (h : Ev (fun q => numerarylaw24_CivilSerials.l1 q x1 a n i c m (j + 1) y mo d) r) : Ev (fun q => numerarylaw24_CivilSerials.j3 q x1 a n i c m j false y mo d) r := by
  refine Ev.step (fun q => ?_) h
  show numerarylaw24_CivilSerials.j3 (q + 1) x1 a n i c m j false y mo d = _
  rw [numerarylaw24_CivilSerials.j3, if_neg (by simp), hw]
theorem serials_one (x1 : Int) (a : List S24) (n i : Int) (c : List Int) (m j s : Int) (y mo d : Int) (r : Bool) (hj : j < m) (hj0 : 0 ≤ j) (hjl : j < (c.length : Int)) (hs : rd c j = s) (hw : wrap64 (j + 1) = j + 1)
    (h : Ev (fun q => numerarylaw24_CivilSerials.l1 q x1 a n i c m (j + 1) y mo d) r) : Ev (fun q => numerarylaw24_CivilSerials.l1 q x1 a n i c m j y mo d) r := by
  refine Ev.step (f := fun q => (civil_Date_Serial.f q y mo d s).bind fun bt182 => (if bt182.2 = true then ((numeraryref24_Of.f q bt182.1 s).bind fun bt184 => (if bt184.2.2.2 = true then (if (!(bt184.1 == y) || (!(bt184.2.1 == mo) || (!(bt184.2.2.1 == d)))) = true then (some false) else (numerarylaw24_CivilSerials.l1 q x1 a n i c m (wrap64 (j + 1)) y mo d)) else (some false))) else (if bt182.1 = 0 then (if s = 1 then (numerarylaw24_CivilSerials.j2 q x1 s 1904 a n i c m j y mo d) else (numerarylaw24_CivilSerials.j2 q x1 s 1900 a n i c m j y mo d)) else (some false)))) (fun q => ?_) ?_
  · show numerarylaw24_CivilSerials.l1 (q + 1) x1 a n i c m j y mo d = _
    rw [numerarylaw24_CivilSerials.l1, if_pos hj, if_pos hj0, if_pos hjl, hs]
  by_cases hk : ∃ k, InR k s ∧ IsDate k s y mo d
  · obtain ⟨k, hin, hd⟩ := hk
    refine Ev.bind (serial_yes hin hd) ?_
    refine Ev.congr (f := fun q => (numeraryref24_Of.f q k s).bind fun bt184 => (if bt184.2.2.2 = true then (if (!(bt184.1 == y) || (!(bt184.2.1 == mo) || (!(bt184.2.2.1 == d)))) = true then (some false) else (numerarylaw24_CivilSerials.l1 q x1 a n i c m (wrap64 (j + 1)) y mo d)) else (some false))) (fun q => if_pos rfl) ?_
    refine Ev.bind (ref_of_at hin hd) ?_
    rw [hw]
    exact Ev.congr (fun q => (if_pos rfl).trans (if_neg (by simp))) h
  · refine Ev.bind (serial_no (fun k hc => hk ⟨k, hc⟩)) ?_
    refine Ev.congr (f := fun q => numerarylaw24_CivilSerials.j2 q x1 s (if s = 1 then 1904 else 1900) a n i c m j y mo d) (fun q => ?_) ?_
    · refine (if_neg (by simp)).trans ((if_pos rfl).trans ?_)
      by_cases h1 : s = 1
      · rw [if_pos h1, if_pos h1]
      · rw [if_neg h1, if_neg h1]
    · generalize hf : (if s = 1 then (1904 : Int) else 1900) = f
      refine Ev.step (f := fun q => if s ≥ 0 then (if s ≤ 1 then (if y ≥ f then (if y ≤ 9999 then (if d ≥ 1 then ((numeraryref24_Days.f q y mo).bind fun t189 => (numerarylaw24_CivilSerials.j3 q x1 a n i c m j (decide (d ≤ t189)) y mo d)) else (numerarylaw24_CivilSerials.j3 q x1 a n i c m j false y mo d)) else (numerarylaw24_CivilSerials.j3 q x1 a n i c m j false y mo d)) else (numerarylaw24_CivilSerials.j3 q x1 a n i c m j false y mo d)) else (numerarylaw24_CivilSerials.j3 q x1 a n i c m j false y mo d)) else (numerarylaw24_CivilSerials.j3 q x1 a n i c m j false y mo d)) (fun q => rfl) ?_
      have g := serials_go x1 a n i c m j y mo d r hw h
      by_cases h1 : s ≥ 0
      · by_cases h2 : s ≤ 1
        · by_cases h3 : y ≥ f
          · by_cases h4 : y ≤ 9999
            · by_cases h5 : d ≥ 1
              · refine Ev.congr (f := fun q => (numeraryref24_Days.f q y mo).bind fun t189 => (numerarylaw24_CivilSerials.j3 q x1 a n i c m j (decide (d ≤ t189)) y mo d)) (fun q => (if_pos h1).trans ((if_pos h2).trans ((if_pos h3).trans ((if_pos h4).trans (if_pos h5))))) ?_
                refine Ev.bind (ref_days y mo) ?_
                have : decide (d ≤ dm y mo) = false := by
                  rw [decide_eq_false_iff_not]
                  intro h6
                  have := dm_pos y mo (by omega)
                  exact hk (has_number (by omega) (by rw [hf]; exact h3) h4 ⟨this.1, this.2, h5, h6⟩)
                rw [this]
                exact g
              · exact Ev.congr (fun q => (if_pos h1).trans ((if_pos h2).trans ((if_pos h3).trans ((if_pos h4).trans (if_neg h5))))) g
            · exact Ev.congr (fun q => (if_pos h1).trans ((if_pos h2).trans ((if_pos h3).trans (if_neg h4)))) g
          · exact Ev.congr (fun q => (if_pos h1).trans ((if_pos h2).trans (if_neg h3))) g
        · exact Ev.congr (fun q => (if_pos h1).trans (if_neg h2)) g
      · exact Ev.congr (fun q => if_neg h1) g
theorem serials_round (x1 : Int) (a : List S24) (i : Int) (hi0 : 0 ≤ i) (hi : i < (a.length : Int)) (hl : a.length = 2) (r : Bool)
    (h : Ev (fun q => numerarylaw24_CivilSerials.l0 q x1 a (a.length : Int) (i + 1)) r) : Ev (fun q => numerarylaw24_CivilSerials.l0 q x1 a (a.length : Int) i) r := by
  refine Ev.step (f := fun q => numerarylaw24_CivilSerials.l1 q x1 a (a.length : Int) i [x1, (mx 0 x1) % 2] 2 0 ((rd_T24 a i).f0) ((rd_T24 a i).f1) ((rd_T24 a i).f2)) (fun q => ?_) ?_
  · show numerarylaw24_CivilSerials.l0 (q + 1) x1 a (a.length : Int) i = _
    rw [numerarylaw24_CivilSerials.l0, if_pos hi, if_pos hi0, if_pos hi]; rfl
  refine serials_one x1 a _ i _ 2 0 _ _ _ _ r (by omega) (by omega) (by simp) rfl (w64 _ (by omega) (by omega)) ?_
  refine serials_one x1 a _ i _ 2 1 _ _ _ _ r (by omega) (by omega) (by simp) rfl (w64 _ (by omega) (by omega)) ?_
  refine Ev.step (fun q => ?_) h
  show numerarylaw24_CivilSerials.l1 (q + 1) x1 a (a.length : Int) i [x1, (mx 0 x1) % 2] 2 (1 + 1) _ _ _ = _
  rw [numerarylaw24_CivilSerials.l1, if_neg (by omega), w64 (i + 1) (by omega) (by omega)]
/-- the whole law, as it is printed, at whatever three numbers and system -/
theorem serials_pure (x y z s : Int) : ∃ k, numerarylaw24_CivilSerials.f k x y z s = some true := by
  refine Ev.rounds ?_
  refine Ev.congr (f := fun q => numerarylaw24_CivilSerials.l0 q s [(⟨x, y, z⟩ : S24), (⟨1890 + ((mx 0 x) % 8115), 1 + ((mx 0 y) % 13), (mx 0 z) % 33⟩ : S24)] (([(⟨x, y, z⟩ : S24), (⟨1890 + ((mx 0 x) % 8115), 1 + ((mx 0 y) % 13), (mx 0 z) % 33⟩ : S24)] : List S24).length : Int) 0) (fun _ => rfl) ?_
  refine serials_round s _ 0 (by omega) (by simp) rfl true (serials_round s _ 1 (by omega) (by simp) rfl true ?_)
  refine Ev.step (f := fun q => (numerarylaw24_wakes.f q).bind fun t => some t) (fun q => ?_) (Ev.bind wakes_ev (Ev.now true))
  show numerarylaw24_CivilSerials.l0 (q + 1) s _ _ (1 + 1) = _
  rw [numerarylaw24_CivilSerials.l0, if_neg (by simp)]
end Go.Proofs.Ytncgfmbogdhgbaa.PureCivilSerialsF
