/- Proved here: the document's token at a text's beginning (numeraryref11.First): what it calls, in which order, and what it returns; texts of 1 to 2^46 bytes. -/
import Derived.Test.YtpefkehcibdjgaaDoorARfax2
import Derived.Test.YtpefkehcibdjgaaDoorHS
import Derived.Test.YtpefkehcibdjgaaDoorR1
import Derived.KernelRfl
import Derived.RowKit3
import Derived.WalkKit
import Derived.Deep.QuietTactic
import Derived.BigQuiet
import Derived.Lib.Walk
import Derived.Lib.Strings
import Derived.Lib.Hide
import Derived.Deep.LoopGhost
set_option linter.unusedVariables false
namespace Go.Proofs.YtpefkehcibdjgaaDoor.H
open Go.RowKit Go.Proofs.YtpefkehcibdjgaaDoorW.PrintWords Go.Proofs.YtpefkehcibdjgaaDoorW.PrintLast Go.Proofs.YtpefkehcibdjgaaDoorW.PrintMore Go.Proofs.YtpefkehcibdjgaaDoor.ARfa
abbrev Z4 : Array Value := #[.int .i64 0, .string (⟨#[]⟩ : ByteArray), .int .i64 0, .int .i64 0]
/-- the two cells of the function's own: the result and 'none' -/
structure RI (w : World) (g2 g6 : Nat) (W : World) : Prop where
  b2 : W.heap[g2]? = some (.cells #[.int .i64 0, .string (⟨#[]⟩ : ByteArray), .int .i64 0, .int .i64 0] 55 (0, 0))
  b6 : W.heap[g6]? = some (.cells #[.int .i64 0, .string (⟨#[]⟩ : ByteArray), .int .i64 0, .int .i64 0] 55 (0, 0))
  hb : Below w.heap.size w W
  e2 : w.heap.size ≤ g2
  e6 : w.heap.size ≤ g6
  ne : g2 ≠ g6
theorem RI.step {w W w1 : World} {g2 g6 : Nat} (h : RI w g2 g6 W) (hb : Below W.heap.size W w1) : RI w g2 g6 w1 :=
  ⟨blk_below h.b2 hb, blk_below h.b6 hb, below_step h.hb hb, h.e2, h.e6, h.ne⟩
theorem RI.drawn {w W w1 : World} {g2 g6 : Nat} (h : RI w g2 g6 W) (hb : Drawn0 W w1) : RI w g2 g6 w1 := by
  obtain ⟨n, rfl⟩ := hb.out
  exact ⟨h.b2, h.b6, pw_below_drewN h.hb n, h.e2, h.e6, h.ne⟩
theorem RI.drewN {w W : World} {g2 g6 : Nat} (h : RI w g2 g6 W) (n : Nat) : RI w g2 g6 (W.drewN n) := h.drawn ⟨n, rfl⟩
/-- 'none' stored -/
theorem RI.zero {w W : World} {g2 g6 : Nat} (h : RI w g2 g6 W) : RI w g2 g6 ((((W.setCell ⟨g6, 0, none⟩ (.int .i64 0)).setCell ⟨g6, 1, none⟩ (.string (⟨#[]⟩ : ByteArray))).setCell ⟨g6, 2, none⟩ (.int .i64 0)).setCell ⟨g6, 3, none⟩ (.int .i64 0)) :=
  ⟨blk_far (blk_far (blk_far (blk_far h.b2 h.ne _) h.ne _) h.ne _) h.ne _, put4 h.b6, below_set (below_set (below_set (below_set h.hb h.e6) h.e6) h.e6) h.e6, h.e2, h.e6, h.ne⟩
theorem RI.put {w W : World} {g2 g6 : Nat} (h : RI w g2 g6 W) (a b c d : Value) : Below w.heap.size w ((((W.setCell ⟨g2, 0, none⟩ a).setCell ⟨g2, 1, none⟩ b).setCell ⟨g2, 2, none⟩ c).setCell ⟨g2, 3, none⟩ d) :=
  below_set (below_set (below_set (below_set h.hb h.e2) h.e2) h.e2) h.e2
theorem ret35 {R : Ending → World → Prop} {a : Act} {W : World} {g : Nat} {x y z u : Value} (hp : a.tmps.getD 2 undef = .pointer (some ⟨g, 0, none⟩)) (hd : a.defers = [])
    (hb : W.heap[g]? = some (.cells #[x, y, z, u] 55 (0, 0))) (hR : R (.returned (.tuple #[.agg #[x, y, z, u], a.tmps.getD 3 undef, a.tmps.getD 4 undef, a.tmps.getD 5 undef])) W) : bodyPost Tryd.prog Tryd.f35 R .ret a W :=
  bodyPost_ret (results_list (rs := [.cell 2 55, .tmp 3, .tmp 4, .tmp 5]) rfl (by simp) (.cell g 55 #[x, y, z, u] (0, 0) _ hp hb Tryd.underlying55 rfl (by kernel_rfl) (.tmp (.tmp (.tmp .nil))))) hd hR
abbrev Ret7 (w : World) (r1 : Int) (r2 : ByteArray) (r3 r4 r5 r6 r7 : Int) (e : Ending) (w' : World) : Prop := e = .returned (.tuple #[.agg #[.int .i64 r1, .string r2, .int .i64 r3, .int .i64 r4], .int .i64 r5, .int .i64 r6, .int .i64 r7]) ∧ Below w.heap.size w w'
set_option maxHeartbeats 8000000 in
set_option maxRecDepth 100000 in
theorem ref_34 (k : Nat) (s : ByteArray) (r1 : Int) (r2 : ByteArray) (r3 r4 r5 r6 r7 : Int) (w : World) (h0 : 0 < s.size) (hc : bt s 0 = 34) (h : numeraryref11_closed.f k s 1 34 5 = some (r1, r2, r3, r4, r5, r6, r7)) :
    Calls Tryd.prog 35 #[.string s] w (Ret7 w r1 r2 r3 r4 r5 r6 r7) := by
  have hu55 := Tryd.underlying55
  have HB := Aside0.mk (Below.refl w.heap.size w)
  have hx : ∀ h : 0 < s.size, ((s[0]'h).toNat : Int) = 34 := fun hh => (bt_at s 0 hh).trans hc
  have q0 : (0 < s.size) = True := eq_true h0
  have q1 : (0 < (s.size : Int)) = True := eq_true (by omega)
  have q2 : decide (0 < (s.size : Int)) = true := decide_eq_true (by omega)
  have H := Lib.hid h
  clear h hc h0
  go_enter Tryd.func35, Tryd.ntmps35
  go_wp2_with (first
    | ((with_reducible refine gate_dst (N := 2) rfl ?_); refine box_event ?hg (N := 2) ?hd (cs := #[.int .i64 0, .string (⟨#[]⟩ : ByteArray), .int .i64 0, .int .i64 0]) (t := 55) ?hr ?_; (case hd => rfl); (case hg => rfl); (case hr => first | (go_simp; done) | (go_simp; rfl)); intro g2 hg w2 hbox hb; have n0_ := Aside0.mk (below_step HB.out hb); have BK2 := Aside0.mk hbox; have GE2 := Aside0.mk ((by rw [hg]; exact below_size HB.out) : w.heap.size ≤ g2); clear HB hb hbox hg; have HB := n0_; clear n0_)
    | ((with_reducible refine gate_dst (N := 6) rfl ?_); refine box_event ?hg (N := 6) ?hd (cs := #[.int .i64 0, .string (⟨#[]⟩ : ByteArray), .int .i64 0, .int .i64 0]) (t := 55) ?hr ?_; (case hd => rfl); (case hg => rfl); (case hr => first | (go_simp; done) | (go_simp; rfl)); intro g6 hg w6 hbox hb; have I0 := Aside0.mk (RI.mk (blk_below BK2.out hb) hbox (below_step HB.out hb) GE2.out (by rw [hg]; exact below_size HB.out) (by rw [hg]; exact Nat.ne_of_lt (blk_lt BK2.out))); clear HB hb hbox hg GE2 BK2; obtain ⟨hz0, hz1, hz2, hz3, hy0, hy1, hy2, hy3⟩ := cells4 (Aside0.mk I0.out.b6)))
  have I1 := Aside0.mk I0.out.zero
  refine (numeraryref11_closed.calls k s 1 34 5 r1 r2 r3 r4 r5 r6 r7 _ H.out).mono ?_
  rintro e w1 ⟨rfl, hb⟩
  have I2 := Aside0.mk (I1.out.step hb)
  clear I0 I1 hb hz0 hz1 hz2 hz3 hy0 hy1 hy2 hy3
  obtain ⟨hz0, hz1, hz2, hz3, hy0, hy1, hy2, hy3⟩ := cells4 (Aside0.mk I2.out.b2)
  go_wp2
  exact ret35 rfl rfl (put4 I2.out.b2) ⟨rfl, I2.out.put _ _ _ _⟩
set_option maxHeartbeats 8000000 in
set_option maxRecDepth 100000 in
theorem ref_92 (k : Nat) (s : ByteArray) (r1 : Int) (r2 : ByteArray) (r3 r4 r5 r6 r7 : Int) (w : World) (h0 : 0 < s.size) (hc : bt s 0 = 92) (h : numeraryref11_marked.f k s 2 6 = some (r1, r2, r3, r4, r5, r6, r7)) :
    Calls Tryd.prog 35 #[.string s] w (Ret7 w r1 r2 r3 r4 r5 r6 r7) := by
  have hu55 := Tryd.underlying55
  have HB := Aside0.mk (Below.refl w.heap.size w)
  have hx : ∀ h : 0 < s.size, ((s[0]'h).toNat : Int) = 92 := fun hh => (bt_at s 0 hh).trans hc
  have q0 : (0 < s.size) = True := eq_true h0
  have q1 : (0 < (s.size : Int)) = True := eq_true (by omega)
  have q2 : decide (0 < (s.size : Int)) = true := decide_eq_true (by omega)
  have H := Lib.hid h
  clear h hc h0
  go_enter Tryd.func35, Tryd.ntmps35
  go_wp2_with (first
    | ((with_reducible refine gate_dst (N := 2) rfl ?_); refine box_event ?hg (N := 2) ?hd (cs := #[.int .i64 0, .string (⟨#[]⟩ : ByteArray), .int .i64 0, .int .i64 0]) (t := 55) ?hr ?_; (case hd => rfl); (case hg => rfl); (case hr => first | (go_simp; done) | (go_simp; rfl)); intro g2 hg w2 hbox hb; have n0_ := Aside0.mk (below_step HB.out hb); have BK2 := Aside0.mk hbox; have GE2 := Aside0.mk ((by rw [hg]; exact below_size HB.out) : w.heap.size ≤ g2); clear HB hb hbox hg; have HB := n0_; clear n0_)
    | ((with_reducible refine gate_dst (N := 6) rfl ?_); refine box_event ?hg (N := 6) ?hd (cs := #[.int .i64 0, .string (⟨#[]⟩ : ByteArray), .int .i64 0, .int .i64 0]) (t := 55) ?hr ?_; (case hd => rfl); (case hg => rfl); (case hr => first | (go_simp; done) | (go_simp; rfl)); intro g6 hg w6 hbox hb; have I0 := Aside0.mk (RI.mk (blk_below BK2.out hb) hbox (below_step HB.out hb) GE2.out (by rw [hg]; exact below_size HB.out) (by rw [hg]; exact Nat.ne_of_lt (blk_lt BK2.out))); clear HB hb hbox hg GE2 BK2; obtain ⟨hz0, hz1, hz2, hz3, hy0, hy1, hy2, hy3⟩ := cells4 (Aside0.mk I0.out.b6)))
  have I1 := Aside0.mk I0.out.zero
  refine (numeraryref11_marked.calls k s 2 6 r1 r2 r3 r4 r5 r6 r7 _ H.out).mono ?_
  rintro e w1 ⟨rfl, hb⟩
  have I2 := Aside0.mk (I1.out.step hb)
  clear I0 I1 hb hz0 hz1 hz2 hz3 hy0 hy1 hy2 hy3
  obtain ⟨hz0, hz1, hz2, hz3, hy0, hy1, hy2, hy3⟩ := cells4 (Aside0.mk I2.out.b2)
  go_wp2
  exact ret35 rfl rfl (put4 I2.out.b2) ⟨rfl, I2.out.put _ _ _ _⟩
set_option maxHeartbeats 8000000 in
set_option maxRecDepth 100000 in
theorem ref_95 (k : Nat) (s : ByteArray) (r1 : Int) (r2 : ByteArray) (r3 r4 r5 r6 r7 : Int) (w : World) (h0 : 0 < s.size) (hc : bt s 0 = 95) (h : numeraryref11_marked.f k s 3 8 = some (r1, r2, r3, r4, r5, r6, r7)) :
    Calls Tryd.prog 35 #[.string s] w (Ret7 w r1 r2 r3 r4 r5 r6 r7) := by
  have hu55 := Tryd.underlying55
  have HB := Aside0.mk (Below.refl w.heap.size w)
  have hx : ∀ h : 0 < s.size, ((s[0]'h).toNat : Int) = 95 := fun hh => (bt_at s 0 hh).trans hc
  have q0 : (0 < s.size) = True := eq_true h0
  have q1 : (0 < (s.size : Int)) = True := eq_true (by omega)
  have q2 : decide (0 < (s.size : Int)) = true := decide_eq_true (by omega)
  have H := Lib.hid h
  clear h hc h0
  go_enter Tryd.func35, Tryd.ntmps35
  go_wp2_with (first
    | ((with_reducible refine gate_dst (N := 2) rfl ?_); refine box_event ?hg (N := 2) ?hd (cs := #[.int .i64 0, .string (⟨#[]⟩ : ByteArray), .int .i64 0, .int .i64 0]) (t := 55) ?hr ?_; (case hd => rfl); (case hg => rfl); (case hr => first | (go_simp; done) | (go_simp; rfl)); intro g2 hg w2 hbox hb; have n0_ := Aside0.mk (below_step HB.out hb); have BK2 := Aside0.mk hbox; have GE2 := Aside0.mk ((by rw [hg]; exact below_size HB.out) : w.heap.size ≤ g2); clear HB hb hbox hg; have HB := n0_; clear n0_)
    | ((with_reducible refine gate_dst (N := 6) rfl ?_); refine box_event ?hg (N := 6) ?hd (cs := #[.int .i64 0, .string (⟨#[]⟩ : ByteArray), .int .i64 0, .int .i64 0]) (t := 55) ?hr ?_; (case hd => rfl); (case hg => rfl); (case hr => first | (go_simp; done) | (go_simp; rfl)); intro g6 hg w6 hbox hb; have I0 := Aside0.mk (RI.mk (blk_below BK2.out hb) hbox (below_step HB.out hb) GE2.out (by rw [hg]; exact below_size HB.out) (by rw [hg]; exact Nat.ne_of_lt (blk_lt BK2.out))); clear HB hb hbox hg GE2 BK2; obtain ⟨hz0, hz1, hz2, hz3, hy0, hy1, hy2, hy3⟩ := cells4 (Aside0.mk I0.out.b6)))
  have I1 := Aside0.mk I0.out.zero
  refine (numeraryref11_marked.calls k s 3 8 r1 r2 r3 r4 r5 r6 r7 _ H.out).mono ?_
  rintro e w1 ⟨rfl, hb⟩
  have I2 := Aside0.mk (I1.out.step hb)
  clear I0 I1 hb hz0 hz1 hz2 hz3 hy0 hy1 hy2 hy3
  obtain ⟨hz0, hz1, hz2, hz3, hy0, hy1, hy2, hy3⟩ := cells4 (Aside0.mk I2.out.b2)
  go_wp2
  exact ret35 rfl rfl (put4 I2.out.b2) ⟨rfl, I2.out.put _ _ _ _⟩
set_option maxHeartbeats 8000000 in
set_option maxRecDepth 100000 in
theorem ref_42 (k : Nat) (s : ByteArray) (r1 : Int) (r2 : ByteArray) (r3 r4 r5 r6 r7 : Int) (w : World) (h0 : 0 < s.size) (hc : bt s 0 = 42) (h : numeraryref11_marked.f k s 4 8 = some (r1, r2, r3, r4, r5, r6, r7)) :
    Calls Tryd.prog 35 #[.string s] w (Ret7 w r1 r2 r3 r4 r5 r6 r7) := by
  have hu55 := Tryd.underlying55
  have HB := Aside0.mk (Below.refl w.heap.size w)
  have hx : ∀ h : 0 < s.size, ((s[0]'h).toNat : Int) = 42 := fun hh => (bt_at s 0 hh).trans hc
  have q0 : (0 < s.size) = True := eq_true h0
  have q1 : (0 < (s.size : Int)) = True := eq_true (by omega)
  have q2 : decide (0 < (s.size : Int)) = true := decide_eq_true (by omega)
  have H := Lib.hid h
  clear h hc h0
  go_enter Tryd.func35, Tryd.ntmps35
  go_wp2_with (first
    | ((with_reducible refine gate_dst (N := 2) rfl ?_); refine box_event ?hg (N := 2) ?hd (cs := #[.int .i64 0, .string (⟨#[]⟩ : ByteArray), .int .i64 0, .int .i64 0]) (t := 55) ?hr ?_; (case hd => rfl); (case hg => rfl); (case hr => first | (go_simp; done) | (go_simp; rfl)); intro g2 hg w2 hbox hb; have n0_ := Aside0.mk (below_step HB.out hb); have BK2 := Aside0.mk hbox; have GE2 := Aside0.mk ((by rw [hg]; exact below_size HB.out) : w.heap.size ≤ g2); clear HB hb hbox hg; have HB := n0_; clear n0_)
    | ((with_reducible refine gate_dst (N := 6) rfl ?_); refine box_event ?hg (N := 6) ?hd (cs := #[.int .i64 0, .string (⟨#[]⟩ : ByteArray), .int .i64 0, .int .i64 0]) (t := 55) ?hr ?_; (case hd => rfl); (case hg => rfl); (case hr => first | (go_simp; done) | (go_simp; rfl)); intro g6 hg w6 hbox hb; have I0 := Aside0.mk (RI.mk (blk_below BK2.out hb) hbox (below_step HB.out hb) GE2.out (by rw [hg]; exact below_size HB.out) (by rw [hg]; exact Nat.ne_of_lt (blk_lt BK2.out))); clear HB hb hbox hg GE2 BK2; obtain ⟨hz0, hz1, hz2, hz3, hy0, hy1, hy2, hy3⟩ := cells4 (Aside0.mk I0.out.b6)))
  have I1 := Aside0.mk I0.out.zero
  refine (numeraryref11_marked.calls k s 4 8 r1 r2 r3 r4 r5 r6 r7 _ H.out).mono ?_
  rintro e w1 ⟨rfl, hb⟩
  have I2 := Aside0.mk (I1.out.step hb)
  clear I0 I1 hb hz0 hz1 hz2 hz3 hy0 hy1 hy2 hy3
  obtain ⟨hz0, hz1, hz2, hz3, hy0, hy1, hy2, hy3⟩ := cells4 (Aside0.mk I2.out.b2)
  go_wp2
  exact ret35 rfl rfl (put4 I2.out.b2) ⟨rfl, I2.out.put _ _ _ _⟩
set_option maxHeartbeats 8000000 in
set_option maxRecDepth 100000 in
theorem ref_91 (k : Nat) (s : ByteArray) (r1 : Int) (r2 : ByteArray) (r3 r4 r5 r6 r7 : Int) (w : World) (h0 : 0 < s.size) (hc : bt s 0 = 91) (h : numeraryref11_closed.f k s 5 93 7 = some (r1, r2, r3, r4, r5, r6, r7)) :
    Calls Tryd.prog 35 #[.string s] w (Ret7 w r1 r2 r3 r4 r5 r6 r7) := by
  have hu55 := Tryd.underlying55
  have HB := Aside0.mk (Below.refl w.heap.size w)
  have hx : ∀ h : 0 < s.size, ((s[0]'h).toNat : Int) = 91 := fun hh => (bt_at s 0 hh).trans hc
  have q0 : (0 < s.size) = True := eq_true h0
  have q1 : (0 < (s.size : Int)) = True := eq_true (by omega)
  have q2 : decide (0 < (s.size : Int)) = true := decide_eq_true (by omega)
  have H := Lib.hid h
  clear h hc h0
  go_enter Tryd.func35, Tryd.ntmps35
  go_wp2_with (first
    | ((with_reducible refine gate_dst (N := 2) rfl ?_); refine box_event ?hg (N := 2) ?hd (cs := #[.int .i64 0, .string (⟨#[]⟩ : ByteArray), .int .i64 0, .int .i64 0]) (t := 55) ?hr ?_; (case hd => rfl); (case hg => rfl); (case hr => first | (go_simp; done) | (go_simp; rfl)); intro g2 hg w2 hbox hb; have n0_ := Aside0.mk (below_step HB.out hb); have BK2 := Aside0.mk hbox; have GE2 := Aside0.mk ((by rw [hg]; exact below_size HB.out) : w.heap.size ≤ g2); clear HB hb hbox hg; have HB := n0_; clear n0_)
    | ((with_reducible refine gate_dst (N := 6) rfl ?_); refine box_event ?hg (N := 6) ?hd (cs := #[.int .i64 0, .string (⟨#[]⟩ : ByteArray), .int .i64 0, .int .i64 0]) (t := 55) ?hr ?_; (case hd => rfl); (case hg => rfl); (case hr => first | (go_simp; done) | (go_simp; rfl)); intro g6 hg w6 hbox hb; have I0 := Aside0.mk (RI.mk (blk_below BK2.out hb) hbox (below_step HB.out hb) GE2.out (by rw [hg]; exact below_size HB.out) (by rw [hg]; exact Nat.ne_of_lt (blk_lt BK2.out))); clear HB hb hbox hg GE2 BK2; obtain ⟨hz0, hz1, hz2, hz3, hy0, hy1, hy2, hy3⟩ := cells4 (Aside0.mk I0.out.b6)))
  have I1 := Aside0.mk I0.out.zero
  refine (numeraryref11_closed.calls k s 5 93 7 r1 r2 r3 r4 r5 r6 r7 _ H.out).mono ?_
  rintro e w1 ⟨rfl, hb⟩
  have I2 := Aside0.mk (I1.out.step hb)
  clear I0 I1 hb hz0 hz1 hz2 hz3 hy0 hy1 hy2 hy3
  obtain ⟨hz0, hz1, hz2, hz3, hy0, hy1, hy2, hy3⟩ := cells4 (Aside0.mk I2.out.b2)
  go_wp2
  exact ret35 rfl rfl (put4 I2.out.b2) ⟨rfl, I2.out.put _ _ _ _⟩
set_option maxHeartbeats 8000000 in
set_option maxRecDepth 100000 in
theorem ref_digit (s : ByteArray) (c : Int) (w : World) (h0 : 0 < s.size) (hc : bt s 0 = c) (hd : c = 48 ∨ c = 35 ∨ c = 63) :
    Calls Tryd.prog 35 #[.string s] w (Ret7 w 6 (s.extract 0 1) 1 0 1 0 0) := by
  have hu55 := Tryd.underlying55
  have HB := Aside0.mk (Below.refl w.heap.size w)
  have hx : ∀ h : 0 < s.size, ((s[0]'h).toNat : Int) = c := fun hh => (bt_at s 0 hh).trans hc
  have q0 : (0 < s.size) = True := eq_true h0
  have q1 : (0 < (s.size : Int)) = True := eq_true (by omega)
  have q2 : decide (0 < (s.size : Int)) = true := decide_eq_true (by omega)
  have q3 : decide (1 ≤ (s.size : Int)) = true := decide_eq_true (by omega)
  have q4 : (1 ≤ s.size) = True := eq_true h0
  have q5 : (1 ≤ (s.size : Int)) = True := eq_true (by omega)
  clear hc h0
  rcases hd with rfl | rfl | rfl
  all_goals
    go_enter Tryd.func35, Tryd.ntmps35
    go_wp2_with (first
    | ((with_reducible refine gate_dst (N := 2) rfl ?_); refine box_event ?hg (N := 2) ?hd (cs := #[.int .i64 0, .string (⟨#[]⟩ : ByteArray), .int .i64 0, .int .i64 0]) (t := 55) ?hr ?_; (case hd => rfl); (case hg => rfl); (case hr => first | (go_simp; done) | (go_simp; rfl)); intro g2 hg w2 hbox hb; have n0_ := Aside0.mk (below_step HB.out hb); have BK2 := Aside0.mk hbox; have GE2 := Aside0.mk ((by rw [hg]; exact below_size HB.out) : w.heap.size ≤ g2); clear HB hb hbox hg; have HB := n0_; clear n0_)
    | ((with_reducible refine gate_dst (N := 6) rfl ?_); refine box_event ?hg (N := 6) ?hd (cs := #[.int .i64 0, .string (⟨#[]⟩ : ByteArray), .int .i64 0, .int .i64 0]) (t := 55) ?hr ?_; (case hd => rfl); (case hg => rfl); (case hr => first | (go_simp; done) | (go_simp; rfl)); intro g6 hg w6 hbox hb; have I0 := Aside0.mk (RI.mk (blk_below BK2.out hb) hbox (below_step HB.out hb) GE2.out (by rw [hg]; exact below_size HB.out) (by rw [hg]; exact Nat.ne_of_lt (blk_lt BK2.out))); clear HB hb hbox hg GE2 BK2; obtain ⟨hz0, hz1, hz2, hz3, hy0, hy1, hy2, hy3⟩ := cells4 (Aside0.mk I0.out.b6); have hn1 := I0.out.ne; have hn2 := I0.out.ne.symm; obtain ⟨hv0, hv1, hv2, hv3, hu0, hu1, hu2, hu3⟩ := cells4 (Aside0.mk I0.out.b2)))
    have I1 := Aside0.mk I0.out.zero
    exact ret35 rfl rfl (put4 I1.out.b2) ⟨rfl, I1.out.put _ _ _ _⟩
/-- a first byte that no test ahead of the loop takes -/
structure Other (c : Int) : Prop where
  n34 : c ≠ 34
  n92 : c ≠ 92
  n95 : c ≠ 95
  n42 : c ≠ 42
  n91 : c ≠ 91
  n48 : c ≠ 48
  n35 : c ≠ 35
  n63 : c ≠ 63
def tabs : List Int := [46, 44, 37, 47, 59, 64]
set_option maxHeartbeats 8000000 in
set_option maxRecDepth 100000 in
theorem ref_six (s : ByteArray) (j : Int) (c : Int) (w : World) (h0 : 0 < s.size) (hc : bt s 0 = c) (hm : Other c) (hj0 : 0 ≤ j) (hj : j < 6) (h : tabs.getD j.toNat 0 = c) (ht : ∀ i : Nat, i < j.toNat → (tabs.getD i 0 == c) = false) :
    Calls Tryd.prog 35 #[.string s] w (Ret7 w (7 + j) (s.extract 0 1) 1 0 1 0 0) := by
  have hu55 := Tryd.underlying55
  have HB := Aside0.mk (Below.refl w.heap.size w)
  have hx : ∀ h : 0 < s.size, ((s[0]'h).toNat : Int) = c := fun hh => (bt_at s 0 hh).trans hc
  have q0 : (0 < s.size) = True := eq_true h0
  have q1 : (0 < (s.size : Int)) = True := eq_true (by omega)
  have q2 : decide (0 < (s.size : Int)) = true := decide_eq_true (by omega)
  have q3 : decide (1 ≤ (s.size : Int)) = true := decide_eq_true (by omega)
  have q4 : (1 ≤ s.size) = True := eq_true h0
  have q5 : (1 ≤ (s.size : Int)) = True := eq_true (by omega)
  have m34 : (c == 34) = false := beq_eq_false_iff_ne.2 hm.n34
  have m92 : (c == 92) = false := beq_eq_false_iff_ne.2 hm.n92
  have m95 : (c == 95) = false := beq_eq_false_iff_ne.2 hm.n95
  have m42 : (c == 42) = false := beq_eq_false_iff_ne.2 hm.n42
  have m91 : (c == 91) = false := beq_eq_false_iff_ne.2 hm.n91
  have m48 : (c == 48) = false := beq_eq_false_iff_ne.2 hm.n48
  have m35 : (c == 35) = false := beq_eq_false_iff_ne.2 hm.n35
  have m63 : (c == 63) = false := beq_eq_false_iff_ne.2 hm.n63
  have hl0 : ∀ h : 0 < (⟨#[46, 44, 37, 47, 59, 64]⟩ : ByteArray).size, (((⟨#[46, 44, 37, 47, 59, 64]⟩ : ByteArray)[0]'h).toNat : Int) = 46 := fun _ => rfl
  have hl1 : ∀ h : 1 < (⟨#[46, 44, 37, 47, 59, 64]⟩ : ByteArray).size, (((⟨#[46, 44, 37, 47, 59, 64]⟩ : ByteArray)[1]'h).toNat : Int) = 44 := fun _ => rfl
  have hl2 : ∀ h : 2 < (⟨#[46, 44, 37, 47, 59, 64]⟩ : ByteArray).size, (((⟨#[46, 44, 37, 47, 59, 64]⟩ : ByteArray)[2]'h).toNat : Int) = 37 := fun _ => rfl
  have hl3 : ∀ h : 3 < (⟨#[46, 44, 37, 47, 59, 64]⟩ : ByteArray).size, (((⟨#[46, 44, 37, 47, 59, 64]⟩ : ByteArray)[3]'h).toNat : Int) = 47 := fun _ => rfl
  have hl4 : ∀ h : 4 < (⟨#[46, 44, 37, 47, 59, 64]⟩ : ByteArray).size, (((⟨#[46, 44, 37, 47, 59, 64]⟩ : ByteArray)[4]'h).toNat : Int) = 59 := fun _ => rfl
  have hl5 : ∀ h : 5 < (⟨#[46, 44, 37, 47, 59, 64]⟩ : ByteArray).size, (((⟨#[46, 44, 37, 47, 59, 64]⟩ : ByteArray)[5]'h).toNat : Int) = 64 := fun _ => rfl
  have HT := Lib.hid ht
  have HJ := Lib.hid h
  clear hc h0 ht h hm
  go_enter Tryd.func35, Tryd.ntmps35
  go_wp2_with (first
    | ((with_reducible refine gate_dst (N := 2) rfl ?_); refine box_event ?hg (N := 2) ?hd (cs := #[.int .i64 0, .string (⟨#[]⟩ : ByteArray), .int .i64 0, .int .i64 0]) (t := 55) ?hr ?_; (case hd => rfl); (case hg => rfl); (case hr => first | (go_simp; done) | (go_simp; rfl)); intro g2 hg w2 hbox hb; have n0_ := Aside0.mk (below_step HB.out hb); have BK2 := Aside0.mk hbox; have GE2 := Aside0.mk ((by rw [hg]; exact below_size HB.out) : w.heap.size ≤ g2); clear HB hb hbox hg; have HB := n0_; clear n0_)
    | ((with_reducible refine gate_dst (N := 6) rfl ?_); refine box_event ?hg (N := 6) ?hd (cs := #[.int .i64 0, .string (⟨#[]⟩ : ByteArray), .int .i64 0, .int .i64 0]) (t := 55) ?hr ?_; (case hd => rfl); (case hg => rfl); (case hr => first | (go_simp; done) | (go_simp; rfl)); intro g6 hg w6 hbox hb; have I0 := Aside0.mk (RI.mk (blk_below BK2.out hb) hbox (below_step HB.out hb) GE2.out (by rw [hg]; exact below_size HB.out) (by rw [hg]; exact Nat.ne_of_lt (blk_lt BK2.out))); clear HB hb hbox hg GE2 BK2; obtain ⟨hz0, hz1, hz2, hz3, hy0, hy1, hy2, hy3⟩ := cells4 (Aside0.mk I0.out.b6)))
  have I1 := Aside0.mk I0.out.zero
  clear I0
  clear hz0 hz1 hz2 hz3 hy0 hy1 hy2 hy3
  go_loopg [9] 6 (fun gk x9 wx => ∃ i : Int, x9 = .int .i64 i ∧ 0 ≤ i ∧ i ≤ j ∧ 6 ≤ i + gk ∧ Aside0 (RI w g2 g6 wx))
  case atStart => exact ⟨0, rfl, by omega, by omega, by omega, I1⟩
  case round =>
    obtain ⟨i, rfl, hi0, hij, hfu, I2⟩ := hrel
    clear I1
    by_cases hlt : i < j
    · obtain ⟨g', rfl⟩ : ∃ g', gk = g' + 1 := ⟨gk - 1, by omega⟩
      rcases (by omega : i = 0 ∨ i = 1 ∨ i = 2 ∨ i = 3 ∨ i = 4 ∨ i = 5) with rfl | rfl | rfl | rfl | rfl | rfl
      all_goals
        try have hn0 : ((46 : Int) == c) = false := HT.out 0 (by omega)
        try have hn1 : ((44 : Int) == c) = false := HT.out 1 (by omega)
        try have hn2 : ((37 : Int) == c) = false := HT.out 2 (by omega)
        try have hn3 : ((47 : Int) == c) = false := HT.out 3 (by omega)
        try have hn4 : ((59 : Int) == c) = false := HT.out 4 (by omega)
        try have hn5 : ((64 : Int) == c) = false := HT.out 5 (by omega)
        go_wp2
        go_roundg g'
        case measure => omega
        case rel => exact ⟨_, rfl, by omega, by omega, by omega, I2⟩
    · obtain rfl : i = j := by omega
      obtain ⟨hz0, hz1, hz2, hz3, hy0, hy1, hy2, hy3⟩ := cells4 (Aside0.mk I2.out.b2)
      rcases (by omega : i = 0 ∨ i = 1 ∨ i = 2 ∨ i = 3 ∨ i = 4 ∨ i = 5) with rfl | rfl | rfl | rfl | rfl | rfl
      all_goals
        first | (obtain rfl : (46 : Int) = c := HJ.out) | (obtain rfl : (44 : Int) = c := HJ.out) | (obtain rfl : (37 : Int) = c := HJ.out) | (obtain rfl : (47 : Int) = c := HJ.out) | (obtain rfl : (59 : Int) = c := HJ.out) | (obtain rfl : (64 : Int) = c := HJ.out)
        go_wp2
        exact ret35 rfl rfl (put4 I2.out.b2) ⟨rfl, I2.out.put _ _ _ _⟩
/-- how many first bytes of a text are alike -/
def runN (l : List UInt8) : Nat := (l.takeWhile (fun b => b == l.headD 0)).length
def refL (k : Nat) (s : ByteArray) : Option (Int × ByteArray × Int × Int × Int × Int × Int) :=
  (numeraryref11_begins.f s (⟨#[97, 109, 47, 112, 109]⟩ : ByteArray)).bind fun b1 => if b1 = true then some (15, (⟨#[65, 77, 47, 80, 77]⟩ : ByteArray), 1, 0, 5, 0, 0) else
  (numeraryref11_begins.f s (⟨#[97, 47, 112]⟩ : ByteArray)).bind fun b2 => if b2 = true then some (15, (⟨#[65, 47, 80]⟩ : ByteArray), 1, 0, 3, 0, 0) else
  (numeraryref11_begins.f s (⟨#[103, 101, 110, 101, 114, 97, 108]⟩ : ByteArray)).bind fun b3 => if b3 = true then some (16, (⟨#[71, 101, 110, 101, 114, 97, 108]⟩ : ByteArray), 1, 0, 7, 0, 0) else
  (numeraryref11_low.f s).bind fun l => if 0 < l.size ∧ l.size ≤ big then
    (numeraryref11_has.f k (⟨#[121, 109, 100, 104, 115]⟩ : ByteArray) (bt l 0)).bind fun d => if d = true then some (14, l.extract 0 1, runN l.data.toList, 0, runN l.data.toList, 0, 0) else
    (numeraryref01_First.f k s).bind fun t => if t.2.2 = true then
      (if 0 ≤ t.2.1 ∧ t.2.1 ≤ (s.size : Int) then (numeraryref11_has.f k (⟨#[36, 45, 43, 40, 41, 58, 33, 94, 38, 39, 126, 123, 125, 60, 62, 61, 32, 49, 50, 51, 52, 53, 54, 55, 56, 57]⟩ : ByteArray) (bt s 0)).bind fun p => if p = false ∧ bt s 0 < 128 then some (0, (⟨#[]⟩ : ByteArray), 0, 0, 0, 0, 9) else some (17, s.extract 0 t.2.1.toNat, 1, 0, t.2.1, 0, 0) else none)
      else some (0, (⟨#[]⟩ : ByteArray), 0, 0, 0, 0, 4)
    else none
theorem bt_l (s : ByteArray) (j : Nat) : bt s (j : Int) = ((s.data.toList.getD j 0).toNat : Int) := R.bt_list s.data.toList j
theorem bt_l0 (s : ByteArray) : bt s 0 = ((s.data.toList.getD 0 0).toNat : Int) := R.bt_list s.data.toList 0
theorem run_le (l : List UInt8) : runN l ≤ l.length := (List.takeWhile_sublist _).length_le
theorem run_at (l : List UInt8) (n : Nat) (h : n < runN l) : l.getD n 0 = l.getD 0 0 := by
  have h1 : n < l.length := Nat.lt_of_lt_of_le h (run_le l)
  have h2 : (l.takeWhile (fun b => b == l.headD 0))[n]'h = l[n] := by
    have := List.takeWhile_prefix (p := fun b => b == l.headD 0) (l := l)
    exact this.getElem h
  have h3 := List.all_takeWhile (p := fun b => b == l.headD 0) (l := l)
  have h4 := List.all_eq_true.1 h3 _ (List.getElem_mem h)
  rw [h2] at h4
  have h5 : l[n] = l.headD 0 := by simpa using h4
  cases l with
  | nil => simp at h1
  | cons a l => simpa [List.getD_eq_getElem?_getD, List.getElem?_eq_getElem h1] using h5
theorem run_end (l : List UInt8) (h : runN l < l.length) : l.getD (runN l) 0 ≠ l.getD 0 0 := by
  have key : ∀ (x : UInt8) (l : List UInt8) (h : (l.takeWhile (fun b => b == x)).length < l.length), l.getD (l.takeWhile (fun b => b == x)).length 0 ≠ x := by
    intro x l
    induction l with
    | nil => intro h; simp at h
    | cons a l ih =>
      intro h
      by_cases e : (a == x) = true
      · rw [List.takeWhile_cons_of_pos (p := fun b => b == x) e] at h ⊢
        have := ih (by simpa using h)
        simpa using this
      · rw [List.takeWhile_cons_of_neg (p := fun b => b == x) e]
        simpa using e
  have := key (l.headD 0) l h
  cases l with
  | nil => simp at h
  | cons a l => exact this
set_option maxHeartbeats 8000000 in
set_option maxRecDepth 100000 in
theorem ref_rest (k : Nat) (s : ByteArray) (c d : Int) (r1 : Int) (r2 : ByteArray) (r3 r4 r5 r6 r7 : Int) (w : World) (h0 : 0 < s.size) (hs : s.size ≤ big) (hc : bt s 0 = c) (hd : bt s 1 = d) (hm : Other c) (ht : ∀ i : Nat, i < 6 → (tabs.getD i 0 == c) = false)
    (hp : s.size = 1 ∨ (1 < s.size ∧ c ≠ 69 ∧ c ≠ 101) ∨ (1 < s.size ∧ c = 69 ∧ d ≠ 43 ∧ d ≠ 45) ∨ (1 < s.size ∧ c = 101 ∧ d ≠ 43 ∧ d ≠ 45))
    (h : refL k s = some (r1, r2, r3, r4, r5, r6, r7)) :
    Calls Tryd.prog 35 #[.string s] w (Ret7 w r1 r2 r3 r4 r5 r6 r7) := by
  have hu55 := Tryd.underlying55
  have HB := Aside0.mk (Below.refl w.heap.size w)
  have hx : ∀ h : 0 < s.size, ((s[0]'h).toNat : Int) = c := fun hh => (bt_at s 0 hh).trans hc
  have q0 : (0 < s.size) = True := eq_true h0
  have q1 : (0 < (s.size : Int)) = True := eq_true (by omega)
  have q2 : decide (0 < (s.size : Int)) = true := decide_eq_true (by omega)
  have m34 : (c == 34) = false := beq_eq_false_iff_ne.2 hm.n34
  have m92 : (c == 92) = false := beq_eq_false_iff_ne.2 hm.n92
  have m95 : (c == 95) = false := beq_eq_false_iff_ne.2 hm.n95
  have m42 : (c == 42) = false := beq_eq_false_iff_ne.2 hm.n42
  have m91 : (c == 91) = false := beq_eq_false_iff_ne.2 hm.n91
  have m48 : (c == 48) = false := beq_eq_false_iff_ne.2 hm.n48
  have m35 : (c == 35) = false := beq_eq_false_iff_ne.2 hm.n35
  have m63 : (c == 63) = false := beq_eq_false_iff_ne.2 hm.n63
  have hl0 : ∀ h : 0 < (⟨#[46, 44, 37, 47, 59, 64]⟩ : ByteArray).size, (((⟨#[46, 44, 37, 47, 59, 64]⟩ : ByteArray)[0]'h).toNat : Int) = 46 := fun _ => rfl
  have hl1 : ∀ h : 1 < (⟨#[46, 44, 37, 47, 59, 64]⟩ : ByteArray).size, (((⟨#[46, 44, 37, 47, 59, 64]⟩ : ByteArray)[1]'h).toNat : Int) = 44 := fun _ => rfl
  have hl2 : ∀ h : 2 < (⟨#[46, 44, 37, 47, 59, 64]⟩ : ByteArray).size, (((⟨#[46, 44, 37, 47, 59, 64]⟩ : ByteArray)[2]'h).toNat : Int) = 37 := fun _ => rfl
  have hl3 : ∀ h : 3 < (⟨#[46, 44, 37, 47, 59, 64]⟩ : ByteArray).size, (((⟨#[46, 44, 37, 47, 59, 64]⟩ : ByteArray)[3]'h).toNat : Int) = 47 := fun _ => rfl
  have hl4 : ∀ h : 4 < (⟨#[46, 44, 37, 47, 59, 64]⟩ : ByteArray).size, (((⟨#[46, 44, 37, 47, 59, 64]⟩ : ByteArray)[4]'h).toNat : Int) = 59 := fun _ => rfl
  have hl5 : ∀ h : 5 < (⟨#[46, 44, 37, 47, 59, 64]⟩ : ByteArray).size, (((⟨#[46, 44, 37, 47, 59, 64]⟩ : ByteArray)[5]'h).toNat : Int) = 64 := fun _ => rfl
  unfold refL at h
  obtain ⟨b1, A1, hh⟩ := Option.bind_eq_some_iff.1 h
  replace A1 := Lib.hid A1
  have H := Lib.hid hh
  have HC := Lib.hid hc
  have HS := Lib.hid (And.intro h0 hs)
  obtain ⟨j, hj⟩ : ∃ j : Int, j = 6 := ⟨6, rfl⟩
  have HT : Hid (∀ i : Nat, i < j.toNat → (tabs.getD i 0 == c) = false) := Lib.hid (by rw [hj]; exact ht)
  have hj0 : 0 ≤ j := by omega
  have hj6 : j ≤ 6 := by omega
  have HJ := Lib.hid hj
  have HD := Lib.hid hd
  clear hj hh h hc ht hd hm
  have hx1 : ∀ h : 1 < s.size, ((s[1]'h).toNat : Int) = d := fun hh => (bt_at s 1 hh).trans HD.out
  rcases hp with hp | ⟨hp1, hp2, hp3⟩ | ⟨hp1, hp2, hp3, hp4⟩ | ⟨hp1, hp2, hp3, hp4⟩
  all_goals try have z1 : decide (1 < (s.size : Int)) = true := decide_eq_true (by omega)
  all_goals try have z1 : decide (1 < (s.size : Int)) = false := decide_eq_false (by omega)
  all_goals try have z2 : (1 < s.size) = True := eq_true (by omega)
  all_goals try have z7 : ((s.size : Int) ≤ 1) = False := eq_false (by omega)
  all_goals try have z8 : (1 < (s.size : Int)) = True := eq_true (by omega)
  all_goals try have z3 : (c == 69) = false := beq_eq_false_iff_ne.2 (by omega)
  all_goals try have z3 : (c == 69) = true := beq_iff_eq.2 (by omega)
  all_goals try have z4 : (c == 101) = false := beq_eq_false_iff_ne.2 (by omega)
  all_goals try have z4 : (c == 101) = true := beq_iff_eq.2 (by omega)
  all_goals try have z5 : (d == 43) = false := beq_eq_false_iff_ne.2 (by omega)
  all_goals try have z6 : (d == 45) = false := beq_eq_false_iff_ne.2 (by omega)
  all_goals (try clear hp); (try clear hp1 hp2 hp3); (try clear hp4)
  all_goals
    clear h0 hs
    go_enter Tryd.func35, Tryd.ntmps35
    go_wp2_with (first
    | ((with_reducible refine gate_dst (N := 2) rfl ?_); refine box_event ?hg (N := 2) ?hd (cs := #[.int .i64 0, .string (⟨#[]⟩ : ByteArray), .int .i64 0, .int .i64 0]) (t := 55) ?hr ?_; (case hd => rfl); (case hg => rfl); (case hr => first | (go_simp; done) | (go_simp; rfl)); intro g2 hg w2 hbox hb; have n0_ := Aside0.mk (below_step HB.out hb); have BK2 := Aside0.mk hbox; have GE2 := Aside0.mk ((by rw [hg]; exact below_size HB.out) : w.heap.size ≤ g2); clear HB hb hbox hg; have HB := n0_; clear n0_)
    | ((with_reducible refine gate_dst (N := 6) rfl ?_); refine box_event ?hg (N := 6) ?hd (cs := #[.int .i64 0, .string (⟨#[]⟩ : ByteArray), .int .i64 0, .int .i64 0]) (t := 55) ?hr ?_; (case hd => rfl); (case hg => rfl); (case hr => first | (go_simp; done) | (go_simp; rfl)); intro g6 hg w6 hbox hb; have I0 := Aside0.mk (RI.mk (blk_below BK2.out hb) hbox (below_step HB.out hb) GE2.out (by rw [hg]; exact below_size HB.out) (by rw [hg]; exact Nat.ne_of_lt (blk_lt BK2.out))); clear HB hb hbox hg GE2 BK2; obtain ⟨hz0, hz1, hz2, hz3, hy0, hy1, hy2, hy3⟩ := cells4 (Aside0.mk I0.out.b6)))
    have I1 := Aside0.mk I0.out.zero
    clear I0
    clear hz0 hz1 hz2 hz3 hy0 hy1 hy2 hy3
    go_loopg [9] 6 (fun gk x9 wx => ∃ i : Int, x9 = .int .i64 i ∧ 0 ≤ i ∧ i ≤ j ∧ 6 ≤ i + gk ∧ Aside0 (RI w g2 g6 wx))
    case atStart => exact ⟨0, rfl, by omega, by omega, by omega, I1⟩
    case round =>
      obtain ⟨i, rfl, hi0, hij, hfu, I2⟩ := hrel
      clear I1
      by_cases hlt : i < j
      · obtain ⟨g', rfl⟩ : ∃ g', gk = g' + 1 := ⟨gk - 1, by omega⟩
        rcases (by omega : i = 0 ∨ i = 1 ∨ i = 2 ∨ i = 3 ∨ i = 4 ∨ i = 5) with rfl | rfl | rfl | rfl | rfl | rfl
        all_goals
          try have hn0 : ((46 : Int) == c) = false := HT.out 0 (by omega)
          try have hn1 : ((44 : Int) == c) = false := HT.out 1 (by omega)
          try have hn2 : ((37 : Int) == c) = false := HT.out 2 (by omega)
          try have hn3 : ((47 : Int) == c) = false := HT.out 3 (by omega)
          try have hn4 : ((59 : Int) == c) = false := HT.out 4 (by omega)
          try have hn5 : ((64 : Int) == c) = false := HT.out 5 (by omega)
          go_wp2
          go_roundg g'
          case measure => omega
          case rel => exact ⟨_, rfl, by omega, by omega, by omega, I2⟩
      · have hj6 := HJ.out
        obtain rfl : i = 6 := by omega
        clear hij hj6 hlt hfu HT HJ
        go_wp2_with fail
        refine (numeraryref11_begins.calls s (⟨#[97, 109, 47, 112, 109]⟩ : ByteArray) b1 _ A1.out).mono ?_
        rintro e w1 ⟨rfl, hb⟩
        have I3 := Aside0.mk (I2.out.step hb)
        clear I2 hb
        cases b1 with
        | true =>
          have hh := H.out
          simp only [if_true, Option.some.injEq, Prod.mk.injEq] at hh
          obtain ⟨rfl, rfl, rfl, rfl, rfl, rfl, rfl⟩ := hh
          clear H
          obtain ⟨hz0, hz1, hz2, hz3, hy0, hy1, hy2, hy3⟩ := cells4 (Aside0.mk I3.out.b2)
          go_wp2
          exact ret35 rfl rfl (put4 I3.out.b2) ⟨rfl, I3.out.put _ _ _ _⟩
        | false =>
          have hh := H.out
          rw [if_neg (by simp)] at hh
          obtain ⟨b2, A2, hh⟩ := Option.bind_eq_some_iff.1 hh
          replace A2 := Lib.hid A2
          replace H := Lib.hid hh
          clear hh
          go_wp2_with fail
          refine (numeraryref11_begins.calls s (⟨#[97, 47, 112]⟩ : ByteArray) b2 _ A2.out).mono ?_
          rintro e w2 ⟨rfl, hb⟩
          have I4 := Aside0.mk (I3.out.step hb)
          clear I3 hb
          cases b2 with
          | true =>
            have hh := H.out
            simp only [if_true, Option.some.injEq, Prod.mk.injEq] at hh
            obtain ⟨rfl, rfl, rfl, rfl, rfl, rfl, rfl⟩ := hh
            clear H
            obtain ⟨hz0, hz1, hz2, hz3, hy0, hy1, hy2, hy3⟩ := cells4 (Aside0.mk I4.out.b2)
            go_wp2
            exact ret35 rfl rfl (put4 I4.out.b2) ⟨rfl, I4.out.put _ _ _ _⟩
          | false =>
            have hh := H.out
            rw [if_neg (by simp)] at hh
            obtain ⟨b3, A3, hh⟩ := Option.bind_eq_some_iff.1 hh
            replace A3 := Lib.hid A3
            replace H := Lib.hid hh
            clear hh
            go_wp2_with fail
            refine (numeraryref11_begins.calls s (⟨#[103, 101, 110, 101, 114, 97, 108]⟩ : ByteArray) b3 _ A3.out).mono ?_
            rintro e w3 ⟨rfl, hb⟩
            have I5 := Aside0.mk (I4.out.step hb)
            clear I4 hb
            cases b3 with
            | true =>
              have hh := H.out
              simp only [if_true, Option.some.injEq, Prod.mk.injEq] at hh
              obtain ⟨rfl, rfl, rfl, rfl, rfl, rfl, rfl⟩ := hh
              clear H
              obtain ⟨hz0, hz1, hz2, hz3, hy0, hy1, hy2, hy3⟩ := cells4 (Aside0.mk I5.out.b2)
              go_wp2
              exact ret35 rfl rfl (put4 I5.out.b2) ⟨rfl, I5.out.put _ _ _ _⟩
            | false =>
              have hh := H.out
              rw [if_neg (by simp)] at hh
              obtain ⟨l, A4, hh⟩ := Option.bind_eq_some_iff.1 hh
              replace A4 := Lib.hid A4
              replace H := Lib.hid hh
              clear hh
              go_wp2_with fail
              refine (numeraryref11_low.calls s l _ A4.out).mono ?_
              rintro e w4 ⟨rfl, hb⟩
              have I6 := Aside0.mk (I5.out.step hb)
              clear I5 hb
              by_cases hl : 0 < l.size ∧ l.size ≤ big
              · have hh := H.out
                rw [if_pos hl] at hh
                obtain ⟨d', A5, hh⟩ := Option.bind_eq_some_iff.1 hh
                obtain ⟨v, hv⟩ : ∃ v, bt l 0 = v := ⟨_, rfl⟩
                rw [hv] at A5
                have hx2 : ∀ h : 0 < l.size, ((l[0]'h).toNat : Int) = v := fun hh => (bt_at l 0 hh).trans hv
                have HV := Lib.hid hv
                replace A5 := Lib.hid A5
                replace H := Lib.hid hh
                have HL := Lib.hid hl
                have k0 : (0 < l.size) = True := eq_true hl.1
                have k1 : (0 < (l.size : Int)) = True := eq_true (by omega)
                have k2 : decide (0 < (l.size : Int)) = true := decide_eq_true (by omega)
                have k3 : decide (1 ≤ (l.size : Int)) = true := decide_eq_true (by omega)
                have k4 : (1 ≤ l.size) = True := eq_true (by omega)
                have k5 : (1 ≤ (l.size : Int)) = True := eq_true (by omega)
                clear hh hl hv
                go_wp2_with fail
                refine (numeraryref11_has.calls k (⟨#[121, 109, 100, 104, 115]⟩ : ByteArray) v d' _ A5.out).mono ?_
                rintro e w5 ⟨rfl, hb⟩
                have I7 := Aside0.mk (I6.out.drawn hb)
                clear I6 hb
                cases d' with
                | true =>
                  obtain ⟨R, hR⟩ : ∃ R, runN l.data.toList = R := ⟨_, rfl⟩
                  rw [hR] at H
                  have hh := H.out
                  simp only [if_true, Option.some.injEq, Prod.mk.injEq] at hh
                  obtain ⟨rfl, rfl, rfl, rfl, rfl, rfl, rfl⟩ := hh
                  clear H
                  have HR := Lib.hid hR
                  clear hR
                  go_wp2
                  go_loopg [13] R (fun gk x13 wx => ∃ n : Nat, x13 = .int .i64 n ∧ n ≤ R ∧ R ≤ n + gk ∧ Aside0 (RI w g2 g6 wx))
                  case atStart => exact ⟨0, rfl, by omega, by omega, I7⟩
                  case round =>
                    obtain ⟨n, rfl, hn, hfu, I8⟩ := hrel
                    clear I7
                    have hRl := run_le l.data.toList
                    rw [HR.out, ← Lib.size_eq] at hRl
                    have hL : 0 < l.size ∧ l.size ≤ 70368744177664 := HL.out
                    by_cases hlt : n < R
                    · obtain ⟨g', rfl⟩ : ∃ g', gk = g' + 1 := ⟨gk - 1, by omega⟩
                      have e1 : ∀ h : n < l.size, ((l[n]'h).toNat : Int) = v := fun h => by
                        rw [show ((l[n]'h).toNat : Int) = bt l (n : Int) from (bt_at l (n : Int) h), ← HV.out, bt_l l n, bt_l0 l, run_at _ _ (by rw [HR.out]; exact hlt)]
                      have d1 : decide (n < l.size) = true := decide_eq_true (by omega)
                      have d2 : decide ((n : Int) < (l.size : Int)) = true := decide_eq_true (by omega)
                      have d3 : (n < l.size) = True := eq_true (by omega)
                      have d4 : ((n : Int) < (l.size : Int)) = True := eq_true (by omega)
                      go_wp2_with fail
                      go_quiet (fail)
                      go_wp2
                      go_roundg g'
                      case measure => omega
                      case rel => exact ⟨n + 1, by go_num, by omega, by omega, by first | exact I8 | exact Aside0.mk (I8.out.drewN _)⟩
                    · obtain rfl : n = R := by omega
                      by_cases hnl : n < l.size
                      · obtain ⟨u, hu⟩ : ∃ u, bt l (n : Int) = u := ⟨_, rfl⟩
                        have e1 : ∀ h : n < l.size, ((l[n]'h).toNat : Int) = u := fun h => (bt_at l (n : Int) h).trans hu
                        have e2 : (u == v) = false := by
                          have := run_end l.data.toList (by rw [HR.out, ← Lib.size_eq]; exact hnl)
                          rw [HR.out] at this
                          rw [beq_eq_false_iff_ne, ← hu, ← HV.out, bt_l l n, bt_l0 l]
                          intro hh
                          exact this (UInt8.toNat_inj.1 (by omega))
                        have d1 : decide (n < l.size) = true := decide_eq_true (by omega)
                        have d2 : decide ((n : Int) < (l.size : Int)) = true := decide_eq_true (by omega)
                        have d3 : (n < l.size) = True := eq_true (by omega)
                        have d4 : ((n : Int) < (l.size : Int)) = True := eq_true (by omega)
                        clear hu
                        obtain ⟨hz0, hz1, hz2, hz3, hy0, hy1, hy2, hy3⟩ := cells4 (Aside0.mk I8.out.b2)
                        go_wp2_with fail
                        go_quiet (fail)
                        go_wp2
                        exact ret35 rfl rfl (put4 (I8.out.drewN _).b2) ⟨rfl, (I8.out.drewN _).put _ _ _ _⟩
                      · have d1 : decide (n < l.size) = false := decide_eq_false (by omega)
                        have d2 : decide ((n : Int) < (l.size : Int)) = false := decide_eq_false (by omega)
                        obtain ⟨hz0, hz1, hz2, hz3, hy0, hy1, hy2, hy3⟩ := cells4 (Aside0.mk I8.out.b2)
                        go_wp2_with fail
                        go_quiet (fail)
                        go_wp2
                        exact ret35 rfl rfl (put4 (I8.out.drewN _).b2) ⟨rfl, (I8.out.drewN _).put _ _ _ _⟩
                | false =>
                  have hh := H.out
                  rw [if_neg (by simp)] at hh
                  obtain ⟨⟨t1, t2, t3⟩, A6, hh⟩ := Option.bind_eq_some_iff.1 hh
                  replace A6 := Lib.hid A6
                  replace H := Lib.hid hh
                  clear hh
                  go_wp2_with fail
                  refine (numeraryref01_First.calls k s t1 t2 t3 _ A6.out).mono ?_
                  rintro e w6 ⟨rfl, hb⟩
                  have I8 := Aside0.mk (I7.out.step hb)
                  clear I7 hb
                  cases t3 with
                  | false =>
                    have hh := H.out
                    rw [if_neg (by simp)] at hh
                    simp only [Option.some.injEq, Prod.mk.injEq] at hh
                    obtain ⟨rfl, rfl, rfl, rfl, rfl, rfl, rfl⟩ := hh
                    obtain ⟨hz0, hz1, hz2, hz3, hy0, hy1, hy2, hy3⟩ := cells4 (Aside0.mk I8.out.b2)
                    obtain ⟨hv0, hv1, hv2, hv3, hu0, hu1, hu2, hu3⟩ := cells4 (Aside0.mk I8.out.b6)
                    go_wp2
                    exact ret35 rfl rfl (put4 I8.out.b2) ⟨rfl, I8.out.put _ _ _ _⟩
                  | true =>
                    have hh := H.out
                    simp only [if_true] at hh
                    by_cases hn : 0 ≤ t2 ∧ t2 ≤ (s.size : Int)
                    · rw [if_pos hn] at hh
                      obtain ⟨p, A7, hh⟩ := Option.bind_eq_some_iff.1 hh
                      rw [HC.out] at A7 hh
                      replace A7 := Lib.hid A7
                      replace H := Lib.hid hh
                      have n1 := eq_true hn.1
                      have n2 := eq_true hn.2
                      have n3 : decide (0 ≤ t2) = true := decide_eq_true hn.1
                      have n4 : decide (t2 ≤ (s.size : Int)) = true := decide_eq_true hn.2
                      clear hh hn
                      go_wp2_with fail
                      refine (numeraryref11_has.calls k (⟨#[36, 45, 43, 40, 41, 58, 33, 94, 38, 39, 126, 123, 125, 60, 62, 61, 32, 49, 50, 51, 52, 53, 54, 55, 56, 57]⟩ : ByteArray) c p _ A7.out).mono ?_
                      rintro e w7 ⟨rfl, hb⟩
                      have I9 := Aside0.mk (I8.out.drawn hb)
                      clear I8 hb
                      cases p with
                      | true =>
                        have hh := H.out
                        rw [if_neg (by simp)] at hh
                        simp only [Option.some.injEq, Prod.mk.injEq] at hh
                        obtain ⟨rfl, rfl, rfl, rfl, rfl, rfl, rfl⟩ := hh
                        by_cases ha : c < 128
                        · have a1 : decide (c < 128) = true := decide_eq_true ha
                          obtain ⟨hz0, hz1, hz2, hz3, hy0, hy1, hy2, hy3⟩ := cells4 (Aside0.mk I9.out.b2)
                          go_wp2
                          exact ret35 rfl rfl (put4 I9.out.b2) ⟨rfl, I9.out.put _ _ _ _⟩
                        · have a1 : decide (c < 128) = false := decide_eq_false ha
                          obtain ⟨hz0, hz1, hz2, hz3, hy0, hy1, hy2, hy3⟩ := cells4 (Aside0.mk I9.out.b2)
                          go_wp2
                          exact ret35 rfl rfl (put4 I9.out.b2) ⟨rfl, I9.out.put _ _ _ _⟩
                      | false =>
                        by_cases ha : c < 128
                        · have hh := H.out
                          rw [if_pos ⟨rfl, ha⟩] at hh
                          simp only [Option.some.injEq, Prod.mk.injEq] at hh
                          obtain ⟨rfl, rfl, rfl, rfl, rfl, rfl, rfl⟩ := hh
                          have a1 : decide (c < 128) = true := decide_eq_true ha
                          obtain ⟨hz0, hz1, hz2, hz3, hy0, hy1, hy2, hy3⟩ := cells4 (Aside0.mk I9.out.b2)
                          obtain ⟨hv0, hv1, hv2, hv3, hu0, hu1, hu2, hu3⟩ := cells4 (Aside0.mk I9.out.b6)
                          go_wp2
                          exact ret35 rfl rfl (put4 I9.out.b2) ⟨rfl, I9.out.put _ _ _ _⟩
                        · have hh := H.out
                          rw [if_neg (fun x => ha x.2)] at hh
                          simp only [Option.some.injEq, Prod.mk.injEq] at hh
                          obtain ⟨rfl, rfl, rfl, rfl, rfl, rfl, rfl⟩ := hh
                          have a1 : decide (c < 128) = false := decide_eq_false ha
                          obtain ⟨hz0, hz1, hz2, hz3, hy0, hy1, hy2, hy3⟩ := cells4 (Aside0.mk I9.out.b2)
                          go_wp2
                          exact ret35 rfl rfl (put4 I9.out.b2) ⟨rfl, I9.out.put _ _ _ _⟩
                    · rw [if_neg hn] at hh
                      cases hh
              · have hh := H.out
                rw [if_neg hl] at hh
                cases hh
set_option maxHeartbeats 8000000 in
set_option maxRecDepth 100000 in
theorem ref_power (s : ByteArray) (c d : Int) (w : World) (h1 : 1 < s.size) (hc : bt s 0 = c) (hd : bt s 1 = d) (hm : Other c) (ht : ∀ i : Nat, i < 6 → (tabs.getD i 0 == c) = false) (hp : c = 69 ∨ c = 101) (hq : d = 43 ∨ d = 45) :
    Calls Tryd.prog 35 #[.string s] w (Ret7 w 13 (s.extract 1 2) 1 0 2 0 0) := by
  have h0 : 0 < s.size := by omega
  have hu55 := Tryd.underlying55
  have HB := Aside0.mk (Below.refl w.heap.size w)
  have hx : ∀ h : 0 < s.size, ((s[0]'h).toNat : Int) = c := fun hh => (bt_at s 0 hh).trans hc
  have q0 : (0 < s.size) = True := eq_true h0
  have q1 : (0 < (s.size : Int)) = True := eq_true (by omega)
  have q2 : decide (0 < (s.size : Int)) = true := decide_eq_true (by omega)
  have m34 : (c == 34) = false := beq_eq_false_iff_ne.2 hm.n34
  have m92 : (c == 92) = false := beq_eq_false_iff_ne.2 hm.n92
  have m95 : (c == 95) = false := beq_eq_false_iff_ne.2 hm.n95
  have m42 : (c == 42) = false := beq_eq_false_iff_ne.2 hm.n42
  have m91 : (c == 91) = false := beq_eq_false_iff_ne.2 hm.n91
  have m48 : (c == 48) = false := beq_eq_false_iff_ne.2 hm.n48
  have m35 : (c == 35) = false := beq_eq_false_iff_ne.2 hm.n35
  have m63 : (c == 63) = false := beq_eq_false_iff_ne.2 hm.n63
  have hl0 : ∀ h : 0 < (⟨#[46, 44, 37, 47, 59, 64]⟩ : ByteArray).size, (((⟨#[46, 44, 37, 47, 59, 64]⟩ : ByteArray)[0]'h).toNat : Int) = 46 := fun _ => rfl
  have hl1 : ∀ h : 1 < (⟨#[46, 44, 37, 47, 59, 64]⟩ : ByteArray).size, (((⟨#[46, 44, 37, 47, 59, 64]⟩ : ByteArray)[1]'h).toNat : Int) = 44 := fun _ => rfl
  have hl2 : ∀ h : 2 < (⟨#[46, 44, 37, 47, 59, 64]⟩ : ByteArray).size, (((⟨#[46, 44, 37, 47, 59, 64]⟩ : ByteArray)[2]'h).toNat : Int) = 37 := fun _ => rfl
  have hl3 : ∀ h : 3 < (⟨#[46, 44, 37, 47, 59, 64]⟩ : ByteArray).size, (((⟨#[46, 44, 37, 47, 59, 64]⟩ : ByteArray)[3]'h).toNat : Int) = 47 := fun _ => rfl
  have hl4 : ∀ h : 4 < (⟨#[46, 44, 37, 47, 59, 64]⟩ : ByteArray).size, (((⟨#[46, 44, 37, 47, 59, 64]⟩ : ByteArray)[4]'h).toNat : Int) = 59 := fun _ => rfl
  have hl5 : ∀ h : 5 < (⟨#[46, 44, 37, 47, 59, 64]⟩ : ByteArray).size, (((⟨#[46, 44, 37, 47, 59, 64]⟩ : ByteArray)[5]'h).toNat : Int) = 64 := fun _ => rfl
  obtain ⟨j, hj⟩ : ∃ j : Int, j = 6 := ⟨6, rfl⟩
  have HT : Hid (∀ i : Nat, i < j.toNat → (tabs.getD i 0 == c) = false) := Lib.hid (by rw [hj]; exact ht)
  have hj0 : 0 ≤ j := by omega
  have hj6 : j ≤ 6 := by omega
  have HJ := Lib.hid hj
  have hx1 : ∀ h : 1 < s.size, ((s[1]'h).toNat : Int) = d := fun hh => (bt_at s 1 hh).trans hd
  have z1 : decide (1 < (s.size : Int)) = true := decide_eq_true (by omega)
  have z2 : (1 < s.size) = True := eq_true (by omega)
  have z7 : ((s.size : Int) ≤ 1) = False := eq_false (by omega)
  have z8 : (1 < (s.size : Int)) = True := eq_true (by omega)
  have z9 : decide (2 ≤ (s.size : Int)) = true := decide_eq_true (by omega)
  have za : (2 ≤ s.size) = True := eq_true (by omega)
  have zb : (2 ≤ (s.size : Int)) = True := eq_true (by omega)
  have HP := Lib.hid (And.intro hp hq)
  clear hj hc ht hd hm hp hq h0 h1
  go_enter Tryd.func35, Tryd.ntmps35
  go_wp2_with (first
    | ((with_reducible refine gate_dst (N := 2) rfl ?_); refine box_event ?hg (N := 2) ?hd (cs := #[.int .i64 0, .string (⟨#[]⟩ : ByteArray), .int .i64 0, .int .i64 0]) (t := 55) ?hr ?_; (case hd => rfl); (case hg => rfl); (case hr => first | (go_simp; done) | (go_simp; rfl)); intro g2 hg w2 hbox hb; have n0_ := Aside0.mk (below_step HB.out hb); have BK2 := Aside0.mk hbox; have GE2 := Aside0.mk ((by rw [hg]; exact below_size HB.out) : w.heap.size ≤ g2); clear HB hb hbox hg; have HB := n0_; clear n0_)
    | ((with_reducible refine gate_dst (N := 6) rfl ?_); refine box_event ?hg (N := 6) ?hd (cs := #[.int .i64 0, .string (⟨#[]⟩ : ByteArray), .int .i64 0, .int .i64 0]) (t := 55) ?hr ?_; (case hd => rfl); (case hg => rfl); (case hr => first | (go_simp; done) | (go_simp; rfl)); intro g6 hg w6 hbox hb; have I0 := Aside0.mk (RI.mk (blk_below BK2.out hb) hbox (below_step HB.out hb) GE2.out (by rw [hg]; exact below_size HB.out) (by rw [hg]; exact Nat.ne_of_lt (blk_lt BK2.out))); clear HB hb hbox hg GE2 BK2; obtain ⟨hz0, hz1, hz2, hz3, hy0, hy1, hy2, hy3⟩ := cells4 (Aside0.mk I0.out.b6)))
  have I1 := Aside0.mk I0.out.zero
  clear I0
  clear hz0 hz1 hz2 hz3 hy0 hy1 hy2 hy3
  go_loopg [9] 6 (fun gk x9 wx => ∃ i : Int, x9 = .int .i64 i ∧ 0 ≤ i ∧ i ≤ j ∧ 6 ≤ i + gk ∧ Aside0 (RI w g2 g6 wx))
  case atStart => exact ⟨0, rfl, by omega, by omega, by omega, I1⟩
  case round =>
    obtain ⟨i, rfl, hi0, hij, hfu, I2⟩ := hrel
    clear I1
    by_cases hlt : i < j
    · obtain ⟨g', rfl⟩ : ∃ g', gk = g' + 1 := ⟨gk - 1, by omega⟩
      rcases (by omega : i = 0 ∨ i = 1 ∨ i = 2 ∨ i = 3 ∨ i = 4 ∨ i = 5) with rfl | rfl | rfl | rfl | rfl | rfl
      all_goals
        try have hn0 : ((46 : Int) == c) = false := HT.out 0 (by omega)
        try have hn1 : ((44 : Int) == c) = false := HT.out 1 (by omega)
        try have hn2 : ((37 : Int) == c) = false := HT.out 2 (by omega)
        try have hn3 : ((47 : Int) == c) = false := HT.out 3 (by omega)
        try have hn4 : ((59 : Int) == c) = false := HT.out 4 (by omega)
        try have hn5 : ((64 : Int) == c) = false := HT.out 5 (by omega)
        go_wp2
        go_roundg g'
        case measure => omega
        case rel => exact ⟨_, rfl, by omega, by omega, by omega, I2⟩
    · have hj6 := HJ.out
      obtain rfl : i = 6 := by omega
      clear hij hj6 hlt hfu HT HJ
      obtain ⟨hz0, hz1, hz2, hz3, hy0, hy1, hy2, hy3⟩ := cells4 (Aside0.mk I2.out.b2)
      obtain ⟨hp | hp, hq⟩ := HP.out
      all_goals
        obtain hq | hq := hq
        all_goals
          try have z3 : (c == 69) = true := beq_iff_eq.2 hp
          try have z3 : (c == 69) = false := beq_eq_false_iff_ne.2 (by omega)
          try have z4 : (c == 101) = true := beq_iff_eq.2 hp
          try have z5 : (d == 43) = true := beq_iff_eq.2 hq
          try have z5 : (d == 43) = false := beq_eq_false_iff_ne.2 (by omega)
          try have z6 : (d == 45) = true := beq_iff_eq.2 hq
          clear hp hq
          go_wp2
          exact ret35 rfl rfl (put4 I2.out.b2) ⟨rfl, I2.out.put _ _ _ _⟩
abbrev R7' := Int × ByteArray × Int × Int × Int × Int × Int
/-- the document's token at a text's beginning, test by test -/
def refF (k : Nat) (s : ByteArray) : Option R7' :=
  if 0 < s.size ∧ s.size ≤ big then
    if bt s 0 = 34 then numeraryref11_closed.f k s 1 34 5
    else if bt s 0 = 92 then numeraryref11_marked.f k s 2 6
    else if bt s 0 = 95 then numeraryref11_marked.f k s 3 8
    else if bt s 0 = 42 then numeraryref11_marked.f k s 4 8
    else if bt s 0 = 91 then numeraryref11_closed.f k s 5 93 7
    else if (singleP (bt s 0)).2 = true then some ((singleP (bt s 0)).1, s.extract 0 1, 1, 0, 1, 0, 0)
    else if 1 < s.size ∧ (bt s 0 = 69 ∨ bt s 0 = 101) ∧ (bt s 1 = 43 ∨ bt s 1 = 45) then some (13, s.extract 1 2, 1, 0, 2, 0, 0)
    else refL k s
  else none
theorem tabs_cases (i : Nat) (h : i < 6) : tabs.getD i 0 = 46 ∧ i = 0 ∨ tabs.getD i 0 = 44 ∧ i = 1 ∨ tabs.getD i 0 = 37 ∧ i = 2 ∨ tabs.getD i 0 = 47 ∧ i = 3 ∨ tabs.getD i 0 = 59 ∧ i = 4 ∨ tabs.getD i 0 = 64 ∧ i = 5 := by
  rcases (by omega : i = 0 ∨ i = 1 ∨ i = 2 ∨ i = 3 ∨ i = 4 ∨ i = 5) with rfl | rfl | rfl | rfl | rfl | rfl <;> simp [tabs]
theorem single_cases (c : Int) : ((c = 48 ∨ c = 35 ∨ c = 63) ∧ singleP c = (6, true)) ∨ (∃ j : Int, 0 ≤ j ∧ j < 6 ∧ tabs.getD j.toNat 0 = c ∧ (∀ i : Nat, i < j.toNat → (tabs.getD i 0 == c) = false) ∧ singleP c = (7 + j, true) ∧ ¬ (c = 48 ∨ c = 35 ∨ c = 63)) ∨ ((∀ i : Nat, i < 6 → (tabs.getD i 0 == c) = false) ∧ (singleP c).2 = false ∧ ¬ (c = 48 ∨ c = 35 ∨ c = 63)) := by
  unfold singleP
  by_cases h : c = 48 ∨ c = 35 ∨ c = 63
  · exact .inl ⟨h, if_pos h⟩
  · rw [if_neg h]
    by_cases h0 : c = 46
    · exact .inr (.inl ⟨0, by omega, by omega, h0.symm, fun i hi => by simp at hi, by rw [if_pos h0]; rfl, h⟩)
    by_cases h1 : c = 44
    · exact .inr (.inl ⟨1, by omega, by omega, h1.symm, fun i hi => by have := tabs_cases i (by omega); rw [beq_eq_false_iff_ne]; omega, by rw [if_neg h0, if_pos h1]; rfl, h⟩)
    by_cases h2 : c = 37
    · exact .inr (.inl ⟨2, by omega, by omega, h2.symm, fun i hi => by have := tabs_cases i (by omega); rw [beq_eq_false_iff_ne]; omega, by rw [if_neg h0, if_neg h1, if_pos h2]; rfl, h⟩)
    by_cases h3 : c = 47
    · exact .inr (.inl ⟨3, by omega, by omega, h3.symm, fun i hi => by have := tabs_cases i (by omega); rw [beq_eq_false_iff_ne]; omega, by rw [if_neg h0, if_neg h1, if_neg h2, if_pos h3]; rfl, h⟩)
    by_cases h4 : c = 59
    · exact .inr (.inl ⟨4, by omega, by omega, h4.symm, fun i hi => by have := tabs_cases i (by omega); rw [beq_eq_false_iff_ne]; omega, by rw [if_neg h0, if_neg h1, if_neg h2, if_neg h3, if_pos h4]; rfl, h⟩)
    by_cases h5 : c = 64
    · exact .inr (.inl ⟨5, by omega, by omega, h5.symm, fun i hi => by have := tabs_cases i (by omega); rw [beq_eq_false_iff_ne]; omega, by rw [if_neg h0, if_neg h1, if_neg h2, if_neg h3, if_neg h4, if_pos h5]; rfl, h⟩)
    exact .inr (.inr ⟨fun i hi => by have := tabs_cases i hi; rw [beq_eq_false_iff_ne]; omega, by rw [if_neg h0, if_neg h1, if_neg h2, if_neg h3, if_neg h4, if_neg h5], h⟩)
theorem refF_calls (k : Nat) (s : ByteArray) (r1 : Int) (r2 : ByteArray) (r3 r4 r5 r6 r7 : Int) (w : World) (h : refF k s = some (r1, r2, r3, r4, r5, r6, r7)) :
    Calls Tryd.prog 35 #[.string s] w (Ret7 w r1 r2 r3 r4 r5 r6 r7) := by
  unfold refF at h
  split at h
  · rename_i hb
    split at h
    · exact ref_34 k s r1 r2 r3 r4 r5 r6 r7 w hb.1 (by assumption) h
    split at h
    · exact ref_92 k s r1 r2 r3 r4 r5 r6 r7 w hb.1 (by assumption) h
    split at h
    · exact ref_95 k s r1 r2 r3 r4 r5 r6 r7 w hb.1 (by assumption) h
    split at h
    · exact ref_42 k s r1 r2 r3 r4 r5 r6 r7 w hb.1 (by assumption) h
    split at h
    · exact ref_91 k s r1 r2 r3 r4 r5 r6 r7 w hb.1 (by assumption) h
    rcases single_cases (bt s 0) with ⟨h1, h2⟩ | ⟨j, hj0, hj6, ht, hn, h2, h3⟩ | ⟨ht, h2, h3⟩
    · rw [h2, if_pos rfl] at h
      simp only [Option.some.injEq, Prod.mk.injEq] at h
      obtain ⟨rfl, rfl, rfl, rfl, rfl, rfl, rfl⟩ := h
      exact ref_digit s _ w hb.1 rfl h1
    · have hm : Other (bt s 0) := ⟨by assumption, by assumption, by assumption, by assumption, by assumption, by omega, by omega, by omega⟩
      rw [h2, if_pos rfl] at h
      simp only [Option.some.injEq, Prod.mk.injEq] at h
      obtain ⟨rfl, rfl, rfl, rfl, rfl, rfl, rfl⟩ := h
      exact ref_six s j _ w hb.1 rfl hm hj0 hj6 ht hn
    · have hm : Other (bt s 0) := ⟨by assumption, by assumption, by assumption, by assumption, by assumption, by omega, by omega, by omega⟩
      rw [h2, if_neg (by simp)] at h
      split at h
      · rename_i hp
        simp only [Option.some.injEq, Prod.mk.injEq] at h
        obtain ⟨rfl, rfl, rfl, rfl, rfl, rfl, rfl⟩ := h
        exact ref_power s _ _ w hp.1 rfl rfl hm ht hp.2.1 hp.2.2
      · rename_i hp
        refine ref_rest k s _ _ r1 r2 r3 r4 r5 r6 r7 w hb.1 hb.2 rfl rfl hm ht ?_ h
        omega
  · cases h
def numeraryref11_First.f (k : Nat) (a0 : ByteArray) : Option R7' := refF k a0
theorem numeraryref11_First.mono : ∀ a0 k, LeO (numeraryref11_First.f k a0) (numeraryref11_First.f (k + 1) a0) := by
  intro a0 k
  unfold numeraryref11_First.f refF refL
  repeat' first
      | (with_reducible exact numeraryref11_closed.mono _ _ _ _ _)
      | (with_reducible exact numeraryref11_marked.mono _ _ _ _)
      | (with_reducible exact numeraryref11_has.mono _ _ _)
      | (with_reducible exact numeraryref01_First.mono _ _)
      | (with_reducible exact LeO.refl _)
      | (with_reducible refine LeO.ite ?_ ?_)
      | (with_reducible refine LeO.bind ?_ (fun _ => ?_))
theorem numeraryref11_First.calls (k : Nat) (a0 : ByteArray) (r1 : Int) (r2 : ByteArray) (r3 r4 r5 r6 r7 : Int) (w : World) (h : numeraryref11_First.f k a0 = some (r1, r2, r3, r4, r5, r6, r7)) :
    Calls Tryd.prog 35 #[.string a0] w fun e w' => e = .returned (.tuple #[.agg #[.int .i64 r1, .string r2, .int .i64 r3, .int .i64 r4], .int .i64 r5, .int .i64 r6, .int .i64 r7]) ∧ Below w.heap.size w w' :=
  refF_calls k a0 r1 r2 r3 r4 r5 r6 r7 w h
end Go.Proofs.YtpefkehcibdjgaaDoor.H
