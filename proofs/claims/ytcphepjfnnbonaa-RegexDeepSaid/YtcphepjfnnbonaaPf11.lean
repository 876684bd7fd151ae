/- The walk of sieveref07's parser: item, the bounds in braces. Condition: the text has fewer than 2^20 bytes, the place is within it. -/
import Derived.Test.YtcphepjfnnbonaaPf10
namespace Go.Proofs.Ytcphepjfnnbonaa
set_option linter.unusedVariables false
set_option linter.unusedSimpArgs false
open Go Go.RowKit
section
variable (b : Nat) (s : ByteArray) (i op : Nat) (w : World)
set_option maxHeartbeats 1600000 in
theorem pitem_n0 (Hs : Hid (s.size < 1048576)) (Hr : Hid (Ps w b s i (-1) op)) (a : Nd) (j : Nat) (c0 : Int) (Hc0 : Hid (nx s j = c0)) (hc : c0 = 123)
    (Hat : Hid (∀ W, Ps W b s i (-1) op → Calls Try.prog 35 #[.pointer (some ⟨b, 0, none⟩)] W (OutP (NewN W) W b s op (.ok a j)))) (k : Nat) (hn : Rx.number s (j + 1) = .bad k) :
    Calls Try.prog 32 #[.pointer (some ⟨b, 0, none⟩)] w (OutP (NewN w) w b s op (.bad k)) := by
  have hbw := Hr.out.lt
  have hB0 := Blk.new w 28 #[.int .i64 0, .int .u64 0, .int .u64 0, .int .u64 0, .int .u64 0, .int .i64 0, .int .i64 0, .slice none 0 0]
  have hF0 : Fr (At b) w _ := (Fr.refl (At b) w).alloc (.cells #[.int .i64 0, .int .u64 0, .int .u64 0, .int .u64 0, .int .u64 0, .int .i64 0, .int .i64 0, .slice none 0 0] 28)
  have hr0 := Hr.out.alloc (.cells #[.int .i64 0, .int .u64 0, .int .u64 0, .int .u64 0, .int .u64 0, .int .i64 0, .int .i64 0, .slice none 0 0] 28)
  have hsz := Hs.out
  have hI := fun W => in_c ⟨#[42, 43, 63, 123]⟩ c0 W (by decide)
  rw [in4, hc, show ((42 : Int) == 123 || (43 : Int) == 123 || (63 : Int) == 123 || (123 : Int) == 123) = true by decide] at hI
  rw [← hc] at hI
  have e1 : (c0 == 43) = false := by simp [hc]
  have e2 : (c0 == 63) = false := by simp [hc]
  have e3 : (c0 == 123) = true := by simp [hc]
  have hlt : j < s.size := nx_nonneg (by rw [Hc0.out]; omega)
  have hai : wrap64 ((j : Int) + 1) = ((j + 1 : Nat) : Int) := by unfold wrap64; omega
  have Hai := hid hai
  clear hai hc
  go_enter Try.func32, Try.ntmps32
  go_wp2_with fail
  refine (Hat.out _ hr0).mono ?_
  rintro e w1 ⟨⟨v, rfl, A, cap, rfl, hrep⟩, hP1, hj1, hf1⟩
  have hB1 := hf1.blk hB0 (by show ¬ w.heap.size = b; omega)
  have hF1 := Fr.trans hF0 hf1
  have hg1 := hB1.lt
  have hrep1 := hrep.sub (S' := fun k => w.heap.size < k ∧ k < w1.heap.size) (fun k hk hl => ⟨by rw [World.size_alloc] at hk; omega, hl⟩)
  clear hB0 hF0 hr0 hf1 hrep
  go_wp2_with ((with_reducible refine at_store 28 ?_); refine wpList_store_blk (w := w1.alloc _) (cs := nodeA a A cap) rfl rfl rfl rfl (Blk.new _ _ _) rfl infoNode (nodeA_one _ _ _) ?_; intro W2 hW2 hfW2 hsz2; have hP2 := (hP1.alloc (.cells #[.int .i64 0, .int .u64 0, .int .u64 0, .int .u64 0, .int .u64 0, .int .i64 0, .int .i64 0, .slice none 0 0] 28)).fr hfW2 (by show ¬ b = w1.heap.size; omega); have hB2 := hfW2.blk (hB1.alloc (.cells #[.int .i64 0, .int .u64 0, .int .u64 0, .int .u64 0, .int .u64 0, .int .i64 0, .int .i64 0, .slice none 0 0] 28)) (by show ¬ w.heap.size = w1.heap.size; omega); have hF2 := (hF1.alloc (.cells #[.int .i64 0, .int .u64 0, .int .u64 0, .int .u64 0, .int .u64 0, .int .i64 0, .int .i64 0, .slice none 0 0] 28)).callAt hfW2 (by omega); have hrep2 := (hrep1.alloc (.cells #[.int .i64 0, .int .u64 0, .int .u64 0, .int .u64 0, .int .u64 0, .int .i64 0, .int .i64 0, .slice none 0 0] 28)).fr hfW2 (S' := fun k => w.heap.size < k ∧ k < w1.heap.size) (fun k hk hl => ⟨by show ¬ k = w1.heap.size; omega, hk⟩); obtain ⟨h00, h1, h2, h3, f1, f2, f3⟩ := hP2.cells)
  refine (pnext_a b s j op _ hP2).mono ?_
  rintro e wn ⟨rfl, nn, rfl⟩
  rw [Hc0.out]
  clear hP1 hB1 hF1 hrep1
  go_upto_region 6 with (go_at_call 36; refine (hI _).mono ?_; rintro e w3 ⟨rfl, rfl⟩)
  refine wp_world (fun W => Ps W b s (j + 1 : Nat) (-1) op ∧ Blk W w.heap.size 28 #[.int .i64 0, .int .u64 0, .int .u64 0, .int .u64 0, .int .u64 0, .int .i64 0, .int .i64 0, .slice none 0 0] ∧ Fr (At b) w W ∧ Rep W (fun k => w.heap.size < k ∧ k < w1.heap.size) (.slice A a.subs.length cap) (.sl 28 a.subs.length (encNs a.subs)) ∧ Blk W w1.heap.size 28 (nodeA a A cap))
    ⟨(hP2.drewN nn).setAt (by first | exact Hai.out | rfl | omega), (hB2.drewN nn).far (p := ⟨b, 1, none⟩) (by show w.heap.size ≠ b; omega) _, (hF2.drewN nn).setB 1 _, (hrep2.drewN nn).set (p := ⟨b, 1, none⟩) (fun k hk => by show k ≠ b; omega) _, (hW2.drewN nn).far (p := ⟨b, 1, none⟩) (by show w1.heap.size ≠ b; omega) _⟩ ?_
  clear h00 h1 h2 h3 f1 f2 f3 hP2 hB2 hF2 hrep2 hW2 hfW2
  rintro W3 ⟨hP3, hB3, hF3, hrep3, hA3⟩
  have hg3 := hA3.lt
  go_upto_region 7 with ((with_reducible refine at_load 28 ?_); refine wpList_load_blk (w := W3) (cs := nodeA a A cap) rfl rfl rfl hA3 Try.underlying28 rfl infoNode ?_; unfold nodeA)
  refine wp_world (fun W => It w W b s (j + 1 : Nat) (-1) op a A cap W3.heap.size (W3.heap.size + 1) 0 (-1))
    ⟨(hP3.alloc _).alloc _, (hB3.alloc _).alloc _, by have := Blk.new (W3.alloc (.cells (nodeA a A cap) 28)) 28 (lit5 W3.heap.size 0 (-1)); rw [World.size_alloc] at this; exact this, (Blk.new W3 28 (nodeA a A cap)).alloc _, ((hrep3.alloc _).alloc _).sub (fun k hk _ => ⟨hk.1, by omega⟩), (hF3.alloc _).alloc _, by omega, by omega, hbw⟩ ?_
  clear hP3 hB3 hF3 hrep3 hA3
  intro W5 hIt
  generalize W3.heap.size = gs at hIt ⊢
  generalize Value.agg #[Value.int IntKind.i64 a.kind, Value.int IntKind.u64 (wd a.set 0), Value.int IntKind.u64 (wd a.set 1), Value.int IntKind.u64 (wd a.set 2), Value.int IntKind.u64 (wd a.set 3), Value.int IntKind.i64 a.mn, Value.int IntKind.i64 a.mx, Value.slice A a.subs.length cap] = junk
  obtain ⟨h00, h1, h2, f1, h5, h6, f5, f6⟩ := hIt.cells
  have hNum := fun (W : World) (h : Ps W b s (j + 1 : Nat) (-1) op) => pnumber_a b s (j + 1) op W (by omega) h hlt
  rw [hn] at hNum
  go_wp2_with (first | (go_at_call 37; refine (hNum _ hIt.ps).mono ?_; rintro e w6 ⟨⟨v, m, rfl, rfl, hm0, hm1⟩, ⟨x6, hP6⟩, hk6, hf6⟩; have hIt6 := hIt.call hf6 hP6; clear h00 h1 h2 f1 h5 h6 f5 f6; obtain ⟨h00, h1, h2, f1, h5, h6, f5, f6⟩ := hIt6.cells; have hIt7 := (hIt6.setMn m).setMx m) |
    (go_at_call 28; refine (pnext_d b s op _ _ _ hIt7.ps).mono ?_; rintro e wn2 ⟨rfl, n2, rfl⟩; have hIt8 := hIt7.drewN n2) |
    (go_at_call 38; refine (pmust_d b s op _ 125 _ _ hIt8.ps (by omega)).mono ?_; rintro e w8 ⟨rfl, ⟨x8, hP8⟩, hf8⟩; have hIt9 := hIt8.call hf8 hP8) |
    ((with_reducible refine at_load 28 ?_); refine wpList_load_blk (cs := lit5 gs m m) rfl rfl rfl hIt9.h5 Try.underlying28 rfl infoNode ?_) |
    ((with_reducible refine at_store 28 ?_); refine wpList_store_blk (cs := lit5 gs m m) rfl rfl rfl rfl hIt9.hb rfl infoNode (lit5_one _ _ _) ?_; intro W9 hW9 hfW9 _; obtain ⟨hN9, hP9, hF9⟩ := hIt9.fin hfW9))
  refine bodyPost_blk rfl rfl hW9 Try.underlying28 rfl infoNode rfl ?_
  exact ⟨⟨_, _, rfl, hN9⟩, ⟨_, hP9⟩, hk6, hF9⟩
set_option maxHeartbeats 1600000 in
theorem pitem_m_ok (Hs : Hid (s.size < 1048576)) (Hr : Hid (Ps w b s i (-1) op)) (a : Nd) (j : Nat) (c0 : Int) (Hc0 : Hid (nx s j = c0)) (hc : c0 = 123)
    (Hat : Hid (∀ W, Ps W b s i (-1) op → Calls Try.prog 35 #[.pointer (some ⟨b, 0, none⟩)] W (OutP (NewN W) W b s op (.ok a j)))) (m : Int) (j1 : Nat) (hn : Rx.number s (j + 1) = .ok m j1) (hj1 : j1 ≤ s.size) (c1 : Int) (Hc1 : Hid (nx s j1 = c1)) (hc1 : c1 ≠ 44) (k : Nat) (hm : Rx.must s 125 j1 = .ok () k) :
    Calls Try.prog 32 #[.pointer (some ⟨b, 0, none⟩)] w (OutP (NewN w) w b s op (.ok (.mk 5 0 m m [a]) k)) := by
  have hbw := Hr.out.lt
  have hB0 := Blk.new w 28 #[.int .i64 0, .int .u64 0, .int .u64 0, .int .u64 0, .int .u64 0, .int .i64 0, .int .i64 0, .slice none 0 0]
  have hF0 : Fr (At b) w _ := (Fr.refl (At b) w).alloc (.cells #[.int .i64 0, .int .u64 0, .int .u64 0, .int .u64 0, .int .u64 0, .int .i64 0, .int .i64 0, .slice none 0 0] 28)
  have hr0 := Hr.out.alloc (.cells #[.int .i64 0, .int .u64 0, .int .u64 0, .int .u64 0, .int .u64 0, .int .i64 0, .int .i64 0, .slice none 0 0] 28)
  have hsz := Hs.out
  have hI := fun W => in_c ⟨#[42, 43, 63, 123]⟩ c0 W (by decide)
  rw [in4, hc, show ((42 : Int) == 123 || (43 : Int) == 123 || (63 : Int) == 123 || (123 : Int) == 123) = true by decide] at hI
  rw [← hc] at hI
  have e1 : (c0 == 43) = false := by simp [hc]
  have e2 : (c0 == 63) = false := by simp [hc]
  have e3 : (c0 == 123) = true := by simp [hc]
  have hlt : j < s.size := nx_nonneg (by rw [Hc0.out]; omega)
  have hai : wrap64 ((j : Int) + 1) = ((j + 1 : Nat) : Int) := by unfold wrap64; omega
  have Hai := hid hai
  clear hai hc
  go_enter Try.func32, Try.ntmps32
  go_wp2_with fail
  refine (Hat.out _ hr0).mono ?_
  rintro e w1 ⟨⟨v, rfl, A, cap, rfl, hrep⟩, hP1, hj1', hf1⟩
  have hB1 := hf1.blk hB0 (by show ¬ w.heap.size = b; omega)
  have hF1 := Fr.trans hF0 hf1
  have hg1 := hB1.lt
  have hrep1 := hrep.sub (S' := fun k => w.heap.size < k ∧ k < w1.heap.size) (fun k hk hl => ⟨by rw [World.size_alloc] at hk; omega, hl⟩)
  clear hB0 hF0 hr0 hf1 hrep
  go_wp2_with ((with_reducible refine at_store 28 ?_); refine wpList_store_blk (w := w1.alloc _) (cs := nodeA a A cap) rfl rfl rfl rfl (Blk.new _ _ _) rfl infoNode (nodeA_one _ _ _) ?_; intro W2 hW2 hfW2 hsz2; have hP2 := (hP1.alloc (.cells #[.int .i64 0, .int .u64 0, .int .u64 0, .int .u64 0, .int .u64 0, .int .i64 0, .int .i64 0, .slice none 0 0] 28)).fr hfW2 (by show ¬ b = w1.heap.size; omega); have hB2 := hfW2.blk (hB1.alloc (.cells #[.int .i64 0, .int .u64 0, .int .u64 0, .int .u64 0, .int .u64 0, .int .i64 0, .int .i64 0, .slice none 0 0] 28)) (by show ¬ w.heap.size = w1.heap.size; omega); have hF2 := (hF1.alloc (.cells #[.int .i64 0, .int .u64 0, .int .u64 0, .int .u64 0, .int .u64 0, .int .i64 0, .int .i64 0, .slice none 0 0] 28)).callAt hfW2 (by omega); have hrep2 := (hrep1.alloc (.cells #[.int .i64 0, .int .u64 0, .int .u64 0, .int .u64 0, .int .u64 0, .int .i64 0, .int .i64 0, .slice none 0 0] 28)).fr hfW2 (S' := fun k => w.heap.size < k ∧ k < w1.heap.size) (fun k hk hl => ⟨by show ¬ k = w1.heap.size; omega, hk⟩); obtain ⟨h00, h1, h2, h3, f1, f2, f3⟩ := hP2.cells)
  refine (pnext_a b s j op _ hP2).mono ?_
  rintro e wn ⟨rfl, nn, rfl⟩
  rw [Hc0.out]
  clear hP1 hB1 hF1 hrep1
  go_upto_region 6 with (go_at_call 36; refine (hI _).mono ?_; rintro e w3 ⟨rfl, rfl⟩)
  refine wp_world (fun W => Ps W b s (j + 1 : Nat) (-1) op ∧ Blk W w.heap.size 28 #[.int .i64 0, .int .u64 0, .int .u64 0, .int .u64 0, .int .u64 0, .int .i64 0, .int .i64 0, .slice none 0 0] ∧ Fr (At b) w W ∧ Rep W (fun k => w.heap.size < k ∧ k < w1.heap.size) (.slice A a.subs.length cap) (.sl 28 a.subs.length (encNs a.subs)) ∧ Blk W w1.heap.size 28 (nodeA a A cap))
    ⟨(hP2.drewN nn).setAt (by first | exact Hai.out | rfl | omega), (hB2.drewN nn).far (p := ⟨b, 1, none⟩) (by show w.heap.size ≠ b; omega) _, (hF2.drewN nn).setB 1 _, (hrep2.drewN nn).set (p := ⟨b, 1, none⟩) (fun k hk => by show k ≠ b; omega) _, (hW2.drewN nn).far (p := ⟨b, 1, none⟩) (by show w1.heap.size ≠ b; omega) _⟩ ?_
  clear h00 h1 h2 h3 f1 f2 f3 hP2 hB2 hF2 hrep2 hW2 hfW2
  rintro W3 ⟨hP3, hB3, hF3, hrep3, hA3⟩
  have hg3 := hA3.lt
  go_upto_region 7 with ((with_reducible refine at_load 28 ?_); refine wpList_load_blk (w := W3) (cs := nodeA a A cap) rfl rfl rfl hA3 Try.underlying28 rfl infoNode ?_; unfold nodeA)
  refine wp_world (fun W => It w W b s (j + 1 : Nat) (-1) op a A cap W3.heap.size (W3.heap.size + 1) 0 (-1))
    ⟨(hP3.alloc _).alloc _, (hB3.alloc _).alloc _, by have := Blk.new (W3.alloc (.cells (nodeA a A cap) 28)) 28 (lit5 W3.heap.size 0 (-1)); rw [World.size_alloc] at this; exact this, (Blk.new W3 28 (nodeA a A cap)).alloc _, ((hrep3.alloc _).alloc _).sub (fun k hk _ => ⟨hk.1, by omega⟩), (hF3.alloc _).alloc _, by omega, by omega, hbw⟩ ?_
  clear hP3 hB3 hF3 hrep3 hA3
  intro W5 hIt
  generalize W3.heap.size = gs at hIt ⊢
  generalize Value.agg #[Value.int IntKind.i64 a.kind, Value.int IntKind.u64 (wd a.set 0), Value.int IntKind.u64 (wd a.set 1), Value.int IntKind.u64 (wd a.set 2), Value.int IntKind.u64 (wd a.set 3), Value.int IntKind.i64 a.mn, Value.int IntKind.i64 a.mx, Value.slice A a.subs.length cap] = junk
  obtain ⟨h00, h1, h2, f1, h5, h6, f5, f6⟩ := hIt.cells
  have hNum := fun (W : World) (h : Ps W b s (j + 1 : Nat) (-1) op) => pnumber_a b s (j + 1) op W (by omega) h hlt
  rw [hn] at hNum
  have e4 : (c1 == 44) = false := by simp [hc1]
  clear hc1
  have hM := fun (W : World) (h : Ps W b s j1 (-1) op) => pmust_a b s j1 op W 125 (by omega) h (by omega) hj1
  rw [hm] at hM
  go_wp2_with (first | (go_at_call 37; refine (hNum _ hIt.ps).mono ?_; rintro e w6 ⟨⟨v, rfl, rfl, hm0, hm1⟩, hP6, hk6, hf6⟩; have hIt6 := hIt.call hf6 hP6; clear h00 h1 h2 f1 h5 h6 f5 f6; obtain ⟨h00, h1, h2, f1, h5, h6, f5, f6⟩ := hIt6.cells; have hIt7 := (hIt6.setMn m).setMx m) |
    (go_at_call 28; refine (pnext_a b s j1 op _ hIt7.ps).mono ?_; rintro e wn2 ⟨rfl, n2, rfl⟩; rw [Hc1.out]; have hIt8 := hIt7.drewN n2) |
    (go_at_call 38; refine (hM _ hIt8.ps).mono ?_; rintro e w8 ⟨⟨v, rfl, rfl⟩, hP8, hk8, hf8⟩; have hIt9 := hIt8.call hf8 hP8) |
    ((with_reducible refine at_load 28 ?_); refine wpList_load_blk (cs := lit5 gs m m) rfl rfl rfl hIt9.h5 Try.underlying28 rfl infoNode ?_) |
    ((with_reducible refine at_store 28 ?_); refine wpList_store_blk (cs := lit5 gs m m) rfl rfl rfl rfl hIt9.hb rfl infoNode (lit5_one _ _ _) ?_; intro W9 hW9 hfW9 _; obtain ⟨hN9, hP9, hF9⟩ := hIt9.fin hfW9))
  refine bodyPost_blk rfl rfl hW9 Try.underlying28 rfl infoNode rfl ?_
  exact ⟨⟨_, rfl, hN9⟩, hP9, hk8, hF9⟩
set_option maxHeartbeats 1600000 in
theorem pitem_m_bad (Hs : Hid (s.size < 1048576)) (Hr : Hid (Ps w b s i (-1) op)) (a : Nd) (j : Nat) (c0 : Int) (Hc0 : Hid (nx s j = c0)) (hc : c0 = 123)
    (Hat : Hid (∀ W, Ps W b s i (-1) op → Calls Try.prog 35 #[.pointer (some ⟨b, 0, none⟩)] W (OutP (NewN W) W b s op (.ok a j)))) (m : Int) (j1 : Nat) (hn : Rx.number s (j + 1) = .ok m j1) (hj1 : j1 ≤ s.size) (c1 : Int) (Hc1 : Hid (nx s j1 = c1)) (hc1 : c1 ≠ 44) (k : Nat) (hm : Rx.must s 125 j1 = .bad k) :
    Calls Try.prog 32 #[.pointer (some ⟨b, 0, none⟩)] w (OutP (NewN w) w b s op (.bad k)) := by
  have hbw := Hr.out.lt
  have hB0 := Blk.new w 28 #[.int .i64 0, .int .u64 0, .int .u64 0, .int .u64 0, .int .u64 0, .int .i64 0, .int .i64 0, .slice none 0 0]
  have hF0 : Fr (At b) w _ := (Fr.refl (At b) w).alloc (.cells #[.int .i64 0, .int .u64 0, .int .u64 0, .int .u64 0, .int .u64 0, .int .i64 0, .int .i64 0, .slice none 0 0] 28)
  have hr0 := Hr.out.alloc (.cells #[.int .i64 0, .int .u64 0, .int .u64 0, .int .u64 0, .int .u64 0, .int .i64 0, .int .i64 0, .slice none 0 0] 28)
  have hsz := Hs.out
  have hI := fun W => in_c ⟨#[42, 43, 63, 123]⟩ c0 W (by decide)
  rw [in4, hc, show ((42 : Int) == 123 || (43 : Int) == 123 || (63 : Int) == 123 || (123 : Int) == 123) = true by decide] at hI
  rw [← hc] at hI
  have e1 : (c0 == 43) = false := by simp [hc]
  have e2 : (c0 == 63) = false := by simp [hc]
  have e3 : (c0 == 123) = true := by simp [hc]
  have hlt : j < s.size := nx_nonneg (by rw [Hc0.out]; omega)
  have hai : wrap64 ((j : Int) + 1) = ((j + 1 : Nat) : Int) := by unfold wrap64; omega
  have Hai := hid hai
  clear hai hc
  go_enter Try.func32, Try.ntmps32
  go_wp2_with fail
  refine (Hat.out _ hr0).mono ?_
  rintro e w1 ⟨⟨v, rfl, A, cap, rfl, hrep⟩, hP1, hj1', hf1⟩
  have hB1 := hf1.blk hB0 (by show ¬ w.heap.size = b; omega)
  have hF1 := Fr.trans hF0 hf1
  have hg1 := hB1.lt
  have hrep1 := hrep.sub (S' := fun k => w.heap.size < k ∧ k < w1.heap.size) (fun k hk hl => ⟨by rw [World.size_alloc] at hk; omega, hl⟩)
  clear hB0 hF0 hr0 hf1 hrep
  go_wp2_with ((with_reducible refine at_store 28 ?_); refine wpList_store_blk (w := w1.alloc _) (cs := nodeA a A cap) rfl rfl rfl rfl (Blk.new _ _ _) rfl infoNode (nodeA_one _ _ _) ?_; intro W2 hW2 hfW2 hsz2; have hP2 := (hP1.alloc (.cells #[.int .i64 0, .int .u64 0, .int .u64 0, .int .u64 0, .int .u64 0, .int .i64 0, .int .i64 0, .slice none 0 0] 28)).fr hfW2 (by show ¬ b = w1.heap.size; omega); have hB2 := hfW2.blk (hB1.alloc (.cells #[.int .i64 0, .int .u64 0, .int .u64 0, .int .u64 0, .int .u64 0, .int .i64 0, .int .i64 0, .slice none 0 0] 28)) (by show ¬ w.heap.size = w1.heap.size; omega); have hF2 := (hF1.alloc (.cells #[.int .i64 0, .int .u64 0, .int .u64 0, .int .u64 0, .int .u64 0, .int .i64 0, .int .i64 0, .slice none 0 0] 28)).callAt hfW2 (by omega); have hrep2 := (hrep1.alloc (.cells #[.int .i64 0, .int .u64 0, .int .u64 0, .int .u64 0, .int .u64 0, .int .i64 0, .int .i64 0, .slice none 0 0] 28)).fr hfW2 (S' := fun k => w.heap.size < k ∧ k < w1.heap.size) (fun k hk hl => ⟨by show ¬ k = w1.heap.size; omega, hk⟩); obtain ⟨h00, h1, h2, h3, f1, f2, f3⟩ := hP2.cells)
  refine (pnext_a b s j op _ hP2).mono ?_
  rintro e wn ⟨rfl, nn, rfl⟩
  rw [Hc0.out]
  clear hP1 hB1 hF1 hrep1
  go_upto_region 6 with (go_at_call 36; refine (hI _).mono ?_; rintro e w3 ⟨rfl, rfl⟩)
  refine wp_world (fun W => Ps W b s (j + 1 : Nat) (-1) op ∧ Blk W w.heap.size 28 #[.int .i64 0, .int .u64 0, .int .u64 0, .int .u64 0, .int .u64 0, .int .i64 0, .int .i64 0, .slice none 0 0] ∧ Fr (At b) w W ∧ Rep W (fun k => w.heap.size < k ∧ k < w1.heap.size) (.slice A a.subs.length cap) (.sl 28 a.subs.length (encNs a.subs)) ∧ Blk W w1.heap.size 28 (nodeA a A cap))
    ⟨(hP2.drewN nn).setAt (by first | exact Hai.out | rfl | omega), (hB2.drewN nn).far (p := ⟨b, 1, none⟩) (by show w.heap.size ≠ b; omega) _, (hF2.drewN nn).setB 1 _, (hrep2.drewN nn).set (p := ⟨b, 1, none⟩) (fun k hk => by show k ≠ b; omega) _, (hW2.drewN nn).far (p := ⟨b, 1, none⟩) (by show w1.heap.size ≠ b; omega) _⟩ ?_
  clear h00 h1 h2 h3 f1 f2 f3 hP2 hB2 hF2 hrep2 hW2 hfW2
  rintro W3 ⟨hP3, hB3, hF3, hrep3, hA3⟩
  have hg3 := hA3.lt
  go_upto_region 7 with ((with_reducible refine at_load 28 ?_); refine wpList_load_blk (w := W3) (cs := nodeA a A cap) rfl rfl rfl hA3 Try.underlying28 rfl infoNode ?_; unfold nodeA)
  refine wp_world (fun W => It w W b s (j + 1 : Nat) (-1) op a A cap W3.heap.size (W3.heap.size + 1) 0 (-1))
    ⟨(hP3.alloc _).alloc _, (hB3.alloc _).alloc _, by have := Blk.new (W3.alloc (.cells (nodeA a A cap) 28)) 28 (lit5 W3.heap.size 0 (-1)); rw [World.size_alloc] at this; exact this, (Blk.new W3 28 (nodeA a A cap)).alloc _, ((hrep3.alloc _).alloc _).sub (fun k hk _ => ⟨hk.1, by omega⟩), (hF3.alloc _).alloc _, by omega, by omega, hbw⟩ ?_
  clear hP3 hB3 hF3 hrep3 hA3
  intro W5 hIt
  generalize W3.heap.size = gs at hIt ⊢
  generalize Value.agg #[Value.int IntKind.i64 a.kind, Value.int IntKind.u64 (wd a.set 0), Value.int IntKind.u64 (wd a.set 1), Value.int IntKind.u64 (wd a.set 2), Value.int IntKind.u64 (wd a.set 3), Value.int IntKind.i64 a.mn, Value.int IntKind.i64 a.mx, Value.slice A a.subs.length cap] = junk
  obtain ⟨h00, h1, h2, f1, h5, h6, f5, f6⟩ := hIt.cells
  have hNum := fun (W : World) (h : Ps W b s (j + 1 : Nat) (-1) op) => pnumber_a b s (j + 1) op W (by omega) h hlt
  rw [hn] at hNum
  have e4 : (c1 == 44) = false := by simp [hc1]
  clear hc1
  have hM := fun (W : World) (h : Ps W b s j1 (-1) op) => pmust_a b s j1 op W 125 (by omega) h (by omega) hj1
  rw [hm] at hM
  go_wp2_with (first | (go_at_call 37; refine (hNum _ hIt.ps).mono ?_; rintro e w6 ⟨⟨v, rfl, rfl, hm0, hm1⟩, hP6, hk6, hf6⟩; have hIt6 := hIt.call hf6 hP6; clear h00 h1 h2 f1 h5 h6 f5 f6; obtain ⟨h00, h1, h2, f1, h5, h6, f5, f6⟩ := hIt6.cells; have hIt7 := (hIt6.setMn m).setMx m) |
    (go_at_call 28; refine (pnext_a b s j1 op _ hIt7.ps).mono ?_; rintro e wn2 ⟨rfl, n2, rfl⟩; rw [Hc1.out]; have hIt8 := hIt7.drewN n2) |
    (go_at_call 38; refine (hM _ hIt8.ps).mono ?_; rintro e w8 ⟨⟨v, u, rfl, rfl⟩, ⟨x8, hP8⟩, hk8, hf8⟩; have hIt9 := hIt8.call hf8 hP8) |
    ((with_reducible refine at_load 28 ?_); refine wpList_load_blk (cs := lit5 gs m m) rfl rfl rfl hIt9.h5 Try.underlying28 rfl infoNode ?_) |
    ((with_reducible refine at_store 28 ?_); refine wpList_store_blk (cs := lit5 gs m m) rfl rfl rfl rfl hIt9.hb rfl infoNode (lit5_one _ _ _) ?_; intro W9 hW9 hfW9 _; obtain ⟨hN9, hP9, hF9⟩ := hIt9.fin hfW9))
  refine bodyPost_blk rfl rfl hW9 Try.underlying28 rfl infoNode rfl ?_
  exact ⟨⟨_, _, rfl, hN9⟩, ⟨_, hP9⟩, hk8, hF9⟩
set_option maxHeartbeats 1600000 in
theorem pitem_open (Hs : Hid (s.size < 1048576)) (Hr : Hid (Ps w b s i (-1) op)) (a : Nd) (j : Nat) (c0 : Int) (Hc0 : Hid (nx s j = c0)) (hc : c0 = 123)
    (Hat : Hid (∀ W, Ps W b s i (-1) op → Calls Try.prog 35 #[.pointer (some ⟨b, 0, none⟩)] W (OutP (NewN W) W b s op (.ok a j)))) (m : Int) (j1 : Nat) (hn : Rx.number s (j + 1) = .ok m j1) (c1 : Int) (Hc1 : Hid (nx s j1 = c1)) (hc1 : c1 = 44) (c2 : Int) (Hc2 : Hid (nx s (j1 + 1) = c2)) (hc2 : c2 = 125) :
    Calls Try.prog 32 #[.pointer (some ⟨b, 0, none⟩)] w (OutP (NewN w) w b s op (.ok (.mk 5 0 m (-1) [a]) (j1 + 2))) := by
  have hbw := Hr.out.lt
  have hB0 := Blk.new w 28 #[.int .i64 0, .int .u64 0, .int .u64 0, .int .u64 0, .int .u64 0, .int .i64 0, .int .i64 0, .slice none 0 0]
  have hF0 : Fr (At b) w _ := (Fr.refl (At b) w).alloc (.cells #[.int .i64 0, .int .u64 0, .int .u64 0, .int .u64 0, .int .u64 0, .int .i64 0, .int .i64 0, .slice none 0 0] 28)
  have hr0 := Hr.out.alloc (.cells #[.int .i64 0, .int .u64 0, .int .u64 0, .int .u64 0, .int .u64 0, .int .i64 0, .int .i64 0, .slice none 0 0] 28)
  have hsz := Hs.out
  have hI := fun W => in_c ⟨#[42, 43, 63, 123]⟩ c0 W (by decide)
  rw [in4, hc, show ((42 : Int) == 123 || (43 : Int) == 123 || (63 : Int) == 123 || (123 : Int) == 123) = true by decide] at hI
  rw [← hc] at hI
  have e1 : (c0 == 43) = false := by simp [hc]
  have e2 : (c0 == 63) = false := by simp [hc]
  have e3 : (c0 == 123) = true := by simp [hc]
  have hlt : j < s.size := nx_nonneg (by rw [Hc0.out]; omega)
  have hai : wrap64 ((j : Int) + 1) = ((j + 1 : Nat) : Int) := by unfold wrap64; omega
  have Hai := hid hai
  clear hai hc
  go_enter Try.func32, Try.ntmps32
  go_wp2_with fail
  refine (Hat.out _ hr0).mono ?_
  rintro e w1 ⟨⟨v, rfl, A, cap, rfl, hrep⟩, hP1, hj1', hf1⟩
  have hB1 := hf1.blk hB0 (by show ¬ w.heap.size = b; omega)
  have hF1 := Fr.trans hF0 hf1
  have hg1 := hB1.lt
  have hrep1 := hrep.sub (S' := fun k => w.heap.size < k ∧ k < w1.heap.size) (fun k hk hl => ⟨by rw [World.size_alloc] at hk; omega, hl⟩)
  clear hB0 hF0 hr0 hf1 hrep
  go_wp2_with ((with_reducible refine at_store 28 ?_); refine wpList_store_blk (w := w1.alloc _) (cs := nodeA a A cap) rfl rfl rfl rfl (Blk.new _ _ _) rfl infoNode (nodeA_one _ _ _) ?_; intro W2 hW2 hfW2 hsz2; have hP2 := (hP1.alloc (.cells #[.int .i64 0, .int .u64 0, .int .u64 0, .int .u64 0, .int .u64 0, .int .i64 0, .int .i64 0, .slice none 0 0] 28)).fr hfW2 (by show ¬ b = w1.heap.size; omega); have hB2 := hfW2.blk (hB1.alloc (.cells #[.int .i64 0, .int .u64 0, .int .u64 0, .int .u64 0, .int .u64 0, .int .i64 0, .int .i64 0, .slice none 0 0] 28)) (by show ¬ w.heap.size = w1.heap.size; omega); have hF2 := (hF1.alloc (.cells #[.int .i64 0, .int .u64 0, .int .u64 0, .int .u64 0, .int .u64 0, .int .i64 0, .int .i64 0, .slice none 0 0] 28)).callAt hfW2 (by omega); have hrep2 := (hrep1.alloc (.cells #[.int .i64 0, .int .u64 0, .int .u64 0, .int .u64 0, .int .u64 0, .int .i64 0, .int .i64 0, .slice none 0 0] 28)).fr hfW2 (S' := fun k => w.heap.size < k ∧ k < w1.heap.size) (fun k hk hl => ⟨by show ¬ k = w1.heap.size; omega, hk⟩); obtain ⟨h00, h1, h2, h3, f1, f2, f3⟩ := hP2.cells)
  refine (pnext_a b s j op _ hP2).mono ?_
  rintro e wn ⟨rfl, nn, rfl⟩
  rw [Hc0.out]
  clear hP1 hB1 hF1 hrep1
  go_upto_region 6 with (go_at_call 36; refine (hI _).mono ?_; rintro e w3 ⟨rfl, rfl⟩)
  refine wp_world (fun W => Ps W b s (j + 1 : Nat) (-1) op ∧ Blk W w.heap.size 28 #[.int .i64 0, .int .u64 0, .int .u64 0, .int .u64 0, .int .u64 0, .int .i64 0, .int .i64 0, .slice none 0 0] ∧ Fr (At b) w W ∧ Rep W (fun k => w.heap.size < k ∧ k < w1.heap.size) (.slice A a.subs.length cap) (.sl 28 a.subs.length (encNs a.subs)) ∧ Blk W w1.heap.size 28 (nodeA a A cap))
    ⟨(hP2.drewN nn).setAt (by first | exact Hai.out | rfl | omega), (hB2.drewN nn).far (p := ⟨b, 1, none⟩) (by show w.heap.size ≠ b; omega) _, (hF2.drewN nn).setB 1 _, (hrep2.drewN nn).set (p := ⟨b, 1, none⟩) (fun k hk => by show k ≠ b; omega) _, (hW2.drewN nn).far (p := ⟨b, 1, none⟩) (by show w1.heap.size ≠ b; omega) _⟩ ?_
  clear h00 h1 h2 h3 f1 f2 f3 hP2 hB2 hF2 hrep2 hW2 hfW2
  rintro W3 ⟨hP3, hB3, hF3, hrep3, hA3⟩
  have hg3 := hA3.lt
  go_upto_region 7 with ((with_reducible refine at_load 28 ?_); refine wpList_load_blk (w := W3) (cs := nodeA a A cap) rfl rfl rfl hA3 Try.underlying28 rfl infoNode ?_; unfold nodeA)
  refine wp_world (fun W => It w W b s (j + 1 : Nat) (-1) op a A cap W3.heap.size (W3.heap.size + 1) 0 (-1))
    ⟨(hP3.alloc _).alloc _, (hB3.alloc _).alloc _, by have := Blk.new (W3.alloc (.cells (nodeA a A cap) 28)) 28 (lit5 W3.heap.size 0 (-1)); rw [World.size_alloc] at this; exact this, (Blk.new W3 28 (nodeA a A cap)).alloc _, ((hrep3.alloc _).alloc _).sub (fun k hk _ => ⟨hk.1, by omega⟩), (hF3.alloc _).alloc _, by omega, by omega, hbw⟩ ?_
  clear hP3 hB3 hF3 hrep3 hA3
  intro W5 hIt
  generalize W3.heap.size = gs at hIt ⊢
  generalize Value.agg #[Value.int IntKind.i64 a.kind, Value.int IntKind.u64 (wd a.set 0), Value.int IntKind.u64 (wd a.set 1), Value.int IntKind.u64 (wd a.set 2), Value.int IntKind.u64 (wd a.set 3), Value.int IntKind.i64 a.mn, Value.int IntKind.i64 a.mx, Value.slice A a.subs.length cap] = junk
  obtain ⟨h00, h1, h2, f1, h5, h6, f5, f6⟩ := hIt.cells
  have hNum := fun (W : World) (h : Ps W b s (j + 1 : Nat) (-1) op) => pnumber_a b s (j + 1) op W (by omega) h hlt
  rw [hn] at hNum
  have e4 : (c1 == 44) = true := by simp [hc1]
  have hlt1 : j1 < s.size := nx_nonneg (by rw [Hc1.out]; omega)
  have hai1 : wrap64 ((j1 : Int) + 1) = ((j1 + 1 : Nat) : Int) := by unfold wrap64; omega
  have Hai1 := hid hai1
  clear hc1 hai1
  have e5 : (c2 != 125) = false := by simp [hc2]
  have hM := fun (W : World) (h : Ps W b s (j1 + 1 : Nat) (-1) op) => pmust_a b s (j1 + 1) op W 125 (by omega) h (by omega) hlt1
  rw [show Rx.must s 125 (j1 + 1) = .ok () (j1 + 2) by unfold Rx.must; rw [Hc2.out, if_pos hc2]] at hM
  clear hc2
  go_wp2_with (first | (go_at_call 28; refine (pnext_a b s (j1 + 1) op _ hItc.ps).mono ?_; rintro e wn3 ⟨rfl, n3, rfl⟩; rw [Hc2.out]; have hItd := hItc.drewN n3) |
    (go_at_call 37; refine (hNum _ hIt.ps).mono ?_; rintro e w6 ⟨⟨v, rfl, rfl, hm0, hm1⟩, hP6, hk6, hf6⟩; have hIt6 := hIt.call hf6 hP6; clear h00 h1 h2 f1 h5 h6 f5 f6; obtain ⟨h00, h1, h2, f1, h5, h6, f5, f6⟩ := hIt6.cells; have hIt7 := (hIt6.setMn m).setMx m) |
    (go_at_call 28; refine (pnext_a b s j1 op _ hIt7.ps).mono ?_; rintro e wn2 ⟨rfl, n2, rfl⟩; rw [Hc1.out]; have hIt8 := hIt7.drewN n2; have hItc := (hIt8.setAt (y := (j1 : Int) + 1) (z := ((j1 + 1 : Nat) : Int)) (by first | exact Hai1.out | rfl | omega)).setMx (-1)) |
    (go_at_call 38; refine (hM _ hItd.ps).mono ?_; rintro e w8 ⟨⟨v, rfl, rfl⟩, hP8, hk8, hf8⟩; have hIt9 := hItd.call hf8 hP8) |
    ((with_reducible refine at_load 28 ?_); refine wpList_load_blk (cs := lit5 gs m (-1)) rfl rfl rfl hIt9.h5 Try.underlying28 rfl infoNode ?_) |
    ((with_reducible refine at_store 28 ?_); refine wpList_store_blk (cs := lit5 gs m (-1)) rfl rfl rfl rfl hIt9.hb rfl infoNode (lit5_one _ _ _) ?_; intro W9 hW9 hfW9 _; obtain ⟨hN9, hP9, hF9⟩ := hIt9.fin hfW9))
  refine bodyPost_blk rfl rfl hW9 Try.underlying28 rfl infoNode rfl ?_
  exact ⟨⟨_, rfl, hN9⟩, hP9, hk8, hF9⟩
set_option maxHeartbeats 1600000 in
theorem pitem_n2 (Hs : Hid (s.size < 1048576)) (Hr : Hid (Ps w b s i (-1) op)) (a : Nd) (j : Nat) (c0 : Int) (Hc0 : Hid (nx s j = c0)) (hc : c0 = 123)
    (Hat : Hid (∀ W, Ps W b s i (-1) op → Calls Try.prog 35 #[.pointer (some ⟨b, 0, none⟩)] W (OutP (NewN W) W b s op (.ok a j)))) (m : Int) (j1 : Nat) (hn : Rx.number s (j + 1) = .ok m j1) (c1 : Int) (Hc1 : Hid (nx s j1 = c1)) (hc1 : c1 = 44) (c2 : Int) (Hc2 : Hid (nx s (j1 + 1) = c2)) (hc2 : c2 ≠ 125) (k : Nat) (hn2 : Rx.number s (j1 + 1) = .bad k) :
    Calls Try.prog 32 #[.pointer (some ⟨b, 0, none⟩)] w (OutP (NewN w) w b s op (.bad k)) := by
  have hbw := Hr.out.lt
  have hB0 := Blk.new w 28 #[.int .i64 0, .int .u64 0, .int .u64 0, .int .u64 0, .int .u64 0, .int .i64 0, .int .i64 0, .slice none 0 0]
  have hF0 : Fr (At b) w _ := (Fr.refl (At b) w).alloc (.cells #[.int .i64 0, .int .u64 0, .int .u64 0, .int .u64 0, .int .u64 0, .int .i64 0, .int .i64 0, .slice none 0 0] 28)
  have hr0 := Hr.out.alloc (.cells #[.int .i64 0, .int .u64 0, .int .u64 0, .int .u64 0, .int .u64 0, .int .i64 0, .int .i64 0, .slice none 0 0] 28)
  have hsz := Hs.out
  have hI := fun W => in_c ⟨#[42, 43, 63, 123]⟩ c0 W (by decide)
  rw [in4, hc, show ((42 : Int) == 123 || (43 : Int) == 123 || (63 : Int) == 123 || (123 : Int) == 123) = true by decide] at hI
  rw [← hc] at hI
  have e1 : (c0 == 43) = false := by simp [hc]
  have e2 : (c0 == 63) = false := by simp [hc]
  have e3 : (c0 == 123) = true := by simp [hc]
  have hlt : j < s.size := nx_nonneg (by rw [Hc0.out]; omega)
  have hai : wrap64 ((j : Int) + 1) = ((j + 1 : Nat) : Int) := by unfold wrap64; omega
  have Hai := hid hai
  clear hai hc
  go_enter Try.func32, Try.ntmps32
  go_wp2_with fail
  refine (Hat.out _ hr0).mono ?_
  rintro e w1 ⟨⟨v, rfl, A, cap, rfl, hrep⟩, hP1, hj1', hf1⟩
  have hB1 := hf1.blk hB0 (by show ¬ w.heap.size = b; omega)
  have hF1 := Fr.trans hF0 hf1
  have hg1 := hB1.lt
  have hrep1 := hrep.sub (S' := fun k => w.heap.size < k ∧ k < w1.heap.size) (fun k hk hl => ⟨by rw [World.size_alloc] at hk; omega, hl⟩)
  clear hB0 hF0 hr0 hf1 hrep
  go_wp2_with ((with_reducible refine at_store 28 ?_); refine wpList_store_blk (w := w1.alloc _) (cs := nodeA a A cap) rfl rfl rfl rfl (Blk.new _ _ _) rfl infoNode (nodeA_one _ _ _) ?_; intro W2 hW2 hfW2 hsz2; have hP2 := (hP1.alloc (.cells #[.int .i64 0, .int .u64 0, .int .u64 0, .int .u64 0, .int .u64 0, .int .i64 0, .int .i64 0, .slice none 0 0] 28)).fr hfW2 (by show ¬ b = w1.heap.size; omega); have hB2 := hfW2.blk (hB1.alloc (.cells #[.int .i64 0, .int .u64 0, .int .u64 0, .int .u64 0, .int .u64 0, .int .i64 0, .int .i64 0, .slice none 0 0] 28)) (by show ¬ w.heap.size = w1.heap.size; omega); have hF2 := (hF1.alloc (.cells #[.int .i64 0, .int .u64 0, .int .u64 0, .int .u64 0, .int .u64 0, .int .i64 0, .int .i64 0, .slice none 0 0] 28)).callAt hfW2 (by omega); have hrep2 := (hrep1.alloc (.cells #[.int .i64 0, .int .u64 0, .int .u64 0, .int .u64 0, .int .u64 0, .int .i64 0, .int .i64 0, .slice none 0 0] 28)).fr hfW2 (S' := fun k => w.heap.size < k ∧ k < w1.heap.size) (fun k hk hl => ⟨by show ¬ k = w1.heap.size; omega, hk⟩); obtain ⟨h00, h1, h2, h3, f1, f2, f3⟩ := hP2.cells)
  refine (pnext_a b s j op _ hP2).mono ?_
  rintro e wn ⟨rfl, nn, rfl⟩
  rw [Hc0.out]
  clear hP1 hB1 hF1 hrep1
  go_upto_region 6 with (go_at_call 36; refine (hI _).mono ?_; rintro e w3 ⟨rfl, rfl⟩)
  refine wp_world (fun W => Ps W b s (j + 1 : Nat) (-1) op ∧ Blk W w.heap.size 28 #[.int .i64 0, .int .u64 0, .int .u64 0, .int .u64 0, .int .u64 0, .int .i64 0, .int .i64 0, .slice none 0 0] ∧ Fr (At b) w W ∧ Rep W (fun k => w.heap.size < k ∧ k < w1.heap.size) (.slice A a.subs.length cap) (.sl 28 a.subs.length (encNs a.subs)) ∧ Blk W w1.heap.size 28 (nodeA a A cap))
    ⟨(hP2.drewN nn).setAt (by first | exact Hai.out | rfl | omega), (hB2.drewN nn).far (p := ⟨b, 1, none⟩) (by show w.heap.size ≠ b; omega) _, (hF2.drewN nn).setB 1 _, (hrep2.drewN nn).set (p := ⟨b, 1, none⟩) (fun k hk => by show k ≠ b; omega) _, (hW2.drewN nn).far (p := ⟨b, 1, none⟩) (by show w1.heap.size ≠ b; omega) _⟩ ?_
  clear h00 h1 h2 h3 f1 f2 f3 hP2 hB2 hF2 hrep2 hW2 hfW2
  rintro W3 ⟨hP3, hB3, hF3, hrep3, hA3⟩
  have hg3 := hA3.lt
  go_upto_region 7 with ((with_reducible refine at_load 28 ?_); refine wpList_load_blk (w := W3) (cs := nodeA a A cap) rfl rfl rfl hA3 Try.underlying28 rfl infoNode ?_; unfold nodeA)
  refine wp_world (fun W => It w W b s (j + 1 : Nat) (-1) op a A cap W3.heap.size (W3.heap.size + 1) 0 (-1))
    ⟨(hP3.alloc _).alloc _, (hB3.alloc _).alloc _, by have := Blk.new (W3.alloc (.cells (nodeA a A cap) 28)) 28 (lit5 W3.heap.size 0 (-1)); rw [World.size_alloc] at this; exact this, (Blk.new W3 28 (nodeA a A cap)).alloc _, ((hrep3.alloc _).alloc _).sub (fun k hk _ => ⟨hk.1, by omega⟩), (hF3.alloc _).alloc _, by omega, by omega, hbw⟩ ?_
  clear hP3 hB3 hF3 hrep3 hA3
  intro W5 hIt
  generalize W3.heap.size = gs at hIt ⊢
  generalize Value.agg #[Value.int IntKind.i64 a.kind, Value.int IntKind.u64 (wd a.set 0), Value.int IntKind.u64 (wd a.set 1), Value.int IntKind.u64 (wd a.set 2), Value.int IntKind.u64 (wd a.set 3), Value.int IntKind.i64 a.mn, Value.int IntKind.i64 a.mx, Value.slice A a.subs.length cap] = junk
  obtain ⟨h00, h1, h2, f1, h5, h6, f5, f6⟩ := hIt.cells
  have hNum := fun (W : World) (h : Ps W b s (j + 1 : Nat) (-1) op) => pnumber_a b s (j + 1) op W (by omega) h hlt
  rw [hn] at hNum
  have e4 : (c1 == 44) = true := by simp [hc1]
  have hlt1 : j1 < s.size := nx_nonneg (by rw [Hc1.out]; omega)
  have hai1 : wrap64 ((j1 : Int) + 1) = ((j1 + 1 : Nat) : Int) := by unfold wrap64; omega
  have Hai1 := hid hai1
  clear hc1 hai1
  have e5 : (c2 != 125) = true := by simp [hc2]
  clear hc2
  have hNum2 := fun (W : World) (h : Ps W b s (j1 + 1 : Nat) (-1) op) => pnumber_a b s (j1 + 1) op W (by omega) h hlt1
  rw [hn2] at hNum2
  have hk0 : decide ((k : Int) < 0) = false := decide_eq_false (by omega)
  go_wp2_with (first | (go_at_call 28; refine (pnext_a b s (j1 + 1) op _ hItc.ps).mono ?_; rintro e wn3 ⟨rfl, n3, rfl⟩; rw [Hc2.out]; have hItd := hItc.drewN n3) |
    (go_at_call 37; refine (hNum2 _ hItd.ps).mono ?_; rintro e w7 ⟨⟨v, n, rfl, rfl, hn0, hn1⟩, ⟨x7, hP7⟩, hk7, hf7⟩; have hIt7b := hItd.call hf7 hP7; clear h00 h1 h2 f1 h5 h6 f5 f6; obtain ⟨h00, h1, h2, f1, h5, h6, f5, f6⟩ := hIt7b.cells; have hIte := hIt7b.setMx n) |
    (go_at_call 37; refine (hNum _ hIt.ps).mono ?_; rintro e w6 ⟨⟨v, rfl, rfl, hm0, hm1⟩, hP6, hk6, hf6⟩; have hIt6 := hIt.call hf6 hP6; clear h00 h1 h2 f1 h5 h6 f5 f6; obtain ⟨h00, h1, h2, f1, h5, h6, f5, f6⟩ := hIt6.cells; have hIt7 := (hIt6.setMn m).setMx m) |
    (go_at_call 28; refine (pnext_a b s j1 op _ hIt7.ps).mono ?_; rintro e wn2 ⟨rfl, n2, rfl⟩; rw [Hc1.out]; have hIt8 := hIt7.drewN n2; have hItc := (hIt8.setAt (y := (j1 : Int) + 1) (z := ((j1 + 1 : Nat) : Int)) (by first | exact Hai1.out | rfl | omega)).setMx (-1)) |
    (go_at_call 38; refine (pmust_d b s op _ 125 _ _ hIte.ps (by omega)).mono ?_; rintro e w8 ⟨rfl, ⟨x8, hP8⟩, hf8⟩; have hIt9 := hIte.call hf8 hP8) |
    ((with_reducible refine at_load 28 ?_); refine wpList_load_blk (cs := lit5 gs m n) rfl rfl rfl hIt9.h5 Try.underlying28 rfl infoNode ?_) |
    ((with_reducible refine at_store 28 ?_); refine wpList_store_blk (cs := lit5 gs m n) rfl rfl rfl rfl hIt9.hb rfl infoNode (lit5_one _ _ _) ?_; intro W9 hW9 hfW9 _; obtain ⟨hN9, hP9, hF9⟩ := hIt9.fin hfW9))
  refine bodyPost_blk rfl rfl hW9 Try.underlying28 rfl infoNode rfl ?_
  exact ⟨⟨_, _, rfl, hN9⟩, ⟨_, hP9⟩, hk7, hF9⟩
set_option maxHeartbeats 1600000 in
theorem pitem_mn_ok (Hs : Hid (s.size < 1048576)) (Hr : Hid (Ps w b s i (-1) op)) (a : Nd) (j : Nat) (c0 : Int) (Hc0 : Hid (nx s j = c0)) (hc : c0 = 123)
    (Hat : Hid (∀ W, Ps W b s i (-1) op → Calls Try.prog 35 #[.pointer (some ⟨b, 0, none⟩)] W (OutP (NewN W) W b s op (.ok a j)))) (m : Int) (j1 : Nat) (hn : Rx.number s (j + 1) = .ok m j1) (c1 : Int) (Hc1 : Hid (nx s j1 = c1)) (hc1 : c1 = 44) (c2 : Int) (Hc2 : Hid (nx s (j1 + 1) = c2)) (hc2 : c2 ≠ 125) (n : Int) (j2 : Nat) (hn2 : Rx.number s (j1 + 1) = .ok n j2) (hj2 : j2 ≤ s.size) (hle : m ≤ n) (k : Nat) (hm : Rx.must s 125 j2 = .ok () k) :
    Calls Try.prog 32 #[.pointer (some ⟨b, 0, none⟩)] w (OutP (NewN w) w b s op (.ok (.mk 5 0 m n [a]) k)) := by
  have hbw := Hr.out.lt
  have hB0 := Blk.new w 28 #[.int .i64 0, .int .u64 0, .int .u64 0, .int .u64 0, .int .u64 0, .int .i64 0, .int .i64 0, .slice none 0 0]
  have hF0 : Fr (At b) w _ := (Fr.refl (At b) w).alloc (.cells #[.int .i64 0, .int .u64 0, .int .u64 0, .int .u64 0, .int .u64 0, .int .i64 0, .int .i64 0, .slice none 0 0] 28)
  have hr0 := Hr.out.alloc (.cells #[.int .i64 0, .int .u64 0, .int .u64 0, .int .u64 0, .int .u64 0, .int .i64 0, .int .i64 0, .slice none 0 0] 28)
  have hsz := Hs.out
  have hI := fun W => in_c ⟨#[42, 43, 63, 123]⟩ c0 W (by decide)
  rw [in4, hc, show ((42 : Int) == 123 || (43 : Int) == 123 || (63 : Int) == 123 || (123 : Int) == 123) = true by decide] at hI
  rw [← hc] at hI
  have e1 : (c0 == 43) = false := by simp [hc]
  have e2 : (c0 == 63) = false := by simp [hc]
  have e3 : (c0 == 123) = true := by simp [hc]
  have hlt : j < s.size := nx_nonneg (by rw [Hc0.out]; omega)
  have hai : wrap64 ((j : Int) + 1) = ((j + 1 : Nat) : Int) := by unfold wrap64; omega
  have Hai := hid hai
  clear hai hc
  go_enter Try.func32, Try.ntmps32
  go_wp2_with fail
  refine (Hat.out _ hr0).mono ?_
  rintro e w1 ⟨⟨v, rfl, A, cap, rfl, hrep⟩, hP1, hj1', hf1⟩
  have hB1 := hf1.blk hB0 (by show ¬ w.heap.size = b; omega)
  have hF1 := Fr.trans hF0 hf1
  have hg1 := hB1.lt
  have hrep1 := hrep.sub (S' := fun k => w.heap.size < k ∧ k < w1.heap.size) (fun k hk hl => ⟨by rw [World.size_alloc] at hk; omega, hl⟩)
  clear hB0 hF0 hr0 hf1 hrep
  go_wp2_with ((with_reducible refine at_store 28 ?_); refine wpList_store_blk (w := w1.alloc _) (cs := nodeA a A cap) rfl rfl rfl rfl (Blk.new _ _ _) rfl infoNode (nodeA_one _ _ _) ?_; intro W2 hW2 hfW2 hsz2; have hP2 := (hP1.alloc (.cells #[.int .i64 0, .int .u64 0, .int .u64 0, .int .u64 0, .int .u64 0, .int .i64 0, .int .i64 0, .slice none 0 0] 28)).fr hfW2 (by show ¬ b = w1.heap.size; omega); have hB2 := hfW2.blk (hB1.alloc (.cells #[.int .i64 0, .int .u64 0, .int .u64 0, .int .u64 0, .int .u64 0, .int .i64 0, .int .i64 0, .slice none 0 0] 28)) (by show ¬ w.heap.size = w1.heap.size; omega); have hF2 := (hF1.alloc (.cells #[.int .i64 0, .int .u64 0, .int .u64 0, .int .u64 0, .int .u64 0, .int .i64 0, .int .i64 0, .slice none 0 0] 28)).callAt hfW2 (by omega); have hrep2 := (hrep1.alloc (.cells #[.int .i64 0, .int .u64 0, .int .u64 0, .int .u64 0, .int .u64 0, .int .i64 0, .int .i64 0, .slice none 0 0] 28)).fr hfW2 (S' := fun k => w.heap.size < k ∧ k < w1.heap.size) (fun k hk hl => ⟨by show ¬ k = w1.heap.size; omega, hk⟩); obtain ⟨h00, h1, h2, h3, f1, f2, f3⟩ := hP2.cells)
  refine (pnext_a b s j op _ hP2).mono ?_
  rintro e wn ⟨rfl, nn, rfl⟩
  rw [Hc0.out]
  clear hP1 hB1 hF1 hrep1
  go_upto_region 6 with (go_at_call 36; refine (hI _).mono ?_; rintro e w3 ⟨rfl, rfl⟩)
  refine wp_world (fun W => Ps W b s (j + 1 : Nat) (-1) op ∧ Blk W w.heap.size 28 #[.int .i64 0, .int .u64 0, .int .u64 0, .int .u64 0, .int .u64 0, .int .i64 0, .int .i64 0, .slice none 0 0] ∧ Fr (At b) w W ∧ Rep W (fun k => w.heap.size < k ∧ k < w1.heap.size) (.slice A a.subs.length cap) (.sl 28 a.subs.length (encNs a.subs)) ∧ Blk W w1.heap.size 28 (nodeA a A cap))
    ⟨(hP2.drewN nn).setAt (by first | exact Hai.out | rfl | omega), (hB2.drewN nn).far (p := ⟨b, 1, none⟩) (by show w.heap.size ≠ b; omega) _, (hF2.drewN nn).setB 1 _, (hrep2.drewN nn).set (p := ⟨b, 1, none⟩) (fun k hk => by show k ≠ b; omega) _, (hW2.drewN nn).far (p := ⟨b, 1, none⟩) (by show w1.heap.size ≠ b; omega) _⟩ ?_
  clear h00 h1 h2 h3 f1 f2 f3 hP2 hB2 hF2 hrep2 hW2 hfW2
  rintro W3 ⟨hP3, hB3, hF3, hrep3, hA3⟩
  have hg3 := hA3.lt
  go_upto_region 7 with ((with_reducible refine at_load 28 ?_); refine wpList_load_blk (w := W3) (cs := nodeA a A cap) rfl rfl rfl hA3 Try.underlying28 rfl infoNode ?_; unfold nodeA)
  refine wp_world (fun W => It w W b s (j + 1 : Nat) (-1) op a A cap W3.heap.size (W3.heap.size + 1) 0 (-1))
    ⟨(hP3.alloc _).alloc _, (hB3.alloc _).alloc _, by have := Blk.new (W3.alloc (.cells (nodeA a A cap) 28)) 28 (lit5 W3.heap.size 0 (-1)); rw [World.size_alloc] at this; exact this, (Blk.new W3 28 (nodeA a A cap)).alloc _, ((hrep3.alloc _).alloc _).sub (fun k hk _ => ⟨hk.1, by omega⟩), (hF3.alloc _).alloc _, by omega, by omega, hbw⟩ ?_
  clear hP3 hB3 hF3 hrep3 hA3
  intro W5 hIt
  generalize W3.heap.size = gs at hIt ⊢
  generalize Value.agg #[Value.int IntKind.i64 a.kind, Value.int IntKind.u64 (wd a.set 0), Value.int IntKind.u64 (wd a.set 1), Value.int IntKind.u64 (wd a.set 2), Value.int IntKind.u64 (wd a.set 3), Value.int IntKind.i64 a.mn, Value.int IntKind.i64 a.mx, Value.slice A a.subs.length cap] = junk
  obtain ⟨h00, h1, h2, f1, h5, h6, f5, f6⟩ := hIt.cells
  have hNum := fun (W : World) (h : Ps W b s (j + 1 : Nat) (-1) op) => pnumber_a b s (j + 1) op W (by omega) h hlt
  rw [hn] at hNum
  have e4 : (c1 == 44) = true := by simp [hc1]
  have hlt1 : j1 < s.size := nx_nonneg (by rw [Hc1.out]; omega)
  have hai1 : wrap64 ((j1 : Int) + 1) = ((j1 + 1 : Nat) : Int) := by unfold wrap64; omega
  have Hai1 := hid hai1
  clear hc1 hai1
  have e5 : (c2 != 125) = true := by simp [hc2]
  clear hc2
  have hNum2 := fun (W : World) (h : Ps W b s (j1 + 1 : Nat) (-1) op) => pnumber_a b s (j1 + 1) op W (by omega) h hlt1
  rw [hn2] at hNum2
  have e6 : decide (n < m) = false := decide_eq_false (by omega)
  clear hle
  have hM := fun (W : World) (h : Ps W b s j2 (-1) op) => pmust_a b s j2 op W 125 (by omega) h (by omega) hj2
  rw [hm] at hM
  go_wp2_with (first | (go_at_call 28; refine (pnext_a b s (j1 + 1) op _ hItc.ps).mono ?_; rintro e wn3 ⟨rfl, n3, rfl⟩; rw [Hc2.out]; have hItd := hItc.drewN n3) |
    (go_at_call 37; refine (hNum2 _ hItd.ps).mono ?_; rintro e w7 ⟨⟨v, rfl, rfl, hn0, hn1⟩, hP7, hk7, hf7⟩; have hIt7b := hItd.call hf7 hP7; clear h00 h1 h2 f1 h5 h6 f5 f6; obtain ⟨h00, h1, h2, f1, h5, h6, f5, f6⟩ := hIt7b.cells; have hIte := hIt7b.setMx n) |
    (go_at_call 37; refine (hNum _ hIt.ps).mono ?_; rintro e w6 ⟨⟨v, rfl, rfl, hm0, hm1⟩, hP6, hk6, hf6⟩; have hIt6 := hIt.call hf6 hP6; clear h00 h1 h2 f1 h5 h6 f5 f6; obtain ⟨h00, h1, h2, f1, h5, h6, f5, f6⟩ := hIt6.cells; have hIt7 := (hIt6.setMn m).setMx m) |
    (go_at_call 28; refine (pnext_a b s j1 op _ hIt7.ps).mono ?_; rintro e wn2 ⟨rfl, n2, rfl⟩; rw [Hc1.out]; have hIt8 := hIt7.drewN n2; have hItc := (hIt8.setAt (y := (j1 : Int) + 1) (z := ((j1 + 1 : Nat) : Int)) (by first | exact Hai1.out | rfl | omega)).setMx (-1)) |
    (go_at_call 38; refine (hM _ hIte.ps).mono ?_; rintro e w8 ⟨⟨v, rfl, rfl⟩, hP8, hk8, hf8⟩; have hIt9 := hIte.call hf8 hP8) |
    ((with_reducible refine at_load 28 ?_); refine wpList_load_blk (cs := lit5 gs m n) rfl rfl rfl hIt9.h5 Try.underlying28 rfl infoNode ?_) |
    ((with_reducible refine at_store 28 ?_); refine wpList_store_blk (cs := lit5 gs m n) rfl rfl rfl rfl hIt9.hb rfl infoNode (lit5_one _ _ _) ?_; intro W9 hW9 hfW9 _; obtain ⟨hN9, hP9, hF9⟩ := hIt9.fin hfW9))
  refine bodyPost_blk rfl rfl hW9 Try.underlying28 rfl infoNode rfl ?_
  exact ⟨⟨_, rfl, hN9⟩, hP9, hk8, hF9⟩
set_option maxHeartbeats 1600000 in
theorem pitem_mn_bad (Hs : Hid (s.size < 1048576)) (Hr : Hid (Ps w b s i (-1) op)) (a : Nd) (j : Nat) (c0 : Int) (Hc0 : Hid (nx s j = c0)) (hc : c0 = 123)
    (Hat : Hid (∀ W, Ps W b s i (-1) op → Calls Try.prog 35 #[.pointer (some ⟨b, 0, none⟩)] W (OutP (NewN W) W b s op (.ok a j)))) (m : Int) (j1 : Nat) (hn : Rx.number s (j + 1) = .ok m j1) (c1 : Int) (Hc1 : Hid (nx s j1 = c1)) (hc1 : c1 = 44) (c2 : Int) (Hc2 : Hid (nx s (j1 + 1) = c2)) (hc2 : c2 ≠ 125) (n : Int) (j2 : Nat) (hn2 : Rx.number s (j1 + 1) = .ok n j2) (hj2 : j2 ≤ s.size) (hle : m ≤ n) (k : Nat) (hm : Rx.must s 125 j2 = .bad k) :
    Calls Try.prog 32 #[.pointer (some ⟨b, 0, none⟩)] w (OutP (NewN w) w b s op (.bad k)) := by
  have hbw := Hr.out.lt
  have hB0 := Blk.new w 28 #[.int .i64 0, .int .u64 0, .int .u64 0, .int .u64 0, .int .u64 0, .int .i64 0, .int .i64 0, .slice none 0 0]
  have hF0 : Fr (At b) w _ := (Fr.refl (At b) w).alloc (.cells #[.int .i64 0, .int .u64 0, .int .u64 0, .int .u64 0, .int .u64 0, .int .i64 0, .int .i64 0, .slice none 0 0] 28)
  have hr0 := Hr.out.alloc (.cells #[.int .i64 0, .int .u64 0, .int .u64 0, .int .u64 0, .int .u64 0, .int .i64 0, .int .i64 0, .slice none 0 0] 28)
  have hsz := Hs.out
  have hI := fun W => in_c ⟨#[42, 43, 63, 123]⟩ c0 W (by decide)
  rw [in4, hc, show ((42 : Int) == 123 || (43 : Int) == 123 || (63 : Int) == 123 || (123 : Int) == 123) = true by decide] at hI
  rw [← hc] at hI
  have e1 : (c0 == 43) = false := by simp [hc]
  have e2 : (c0 == 63) = false := by simp [hc]
  have e3 : (c0 == 123) = true := by simp [hc]
  have hlt : j < s.size := nx_nonneg (by rw [Hc0.out]; omega)
  have hai : wrap64 ((j : Int) + 1) = ((j + 1 : Nat) : Int) := by unfold wrap64; omega
  have Hai := hid hai
  clear hai hc
  go_enter Try.func32, Try.ntmps32
  go_wp2_with fail
  refine (Hat.out _ hr0).mono ?_
  rintro e w1 ⟨⟨v, rfl, A, cap, rfl, hrep⟩, hP1, hj1', hf1⟩
  have hB1 := hf1.blk hB0 (by show ¬ w.heap.size = b; omega)
  have hF1 := Fr.trans hF0 hf1
  have hg1 := hB1.lt
  have hrep1 := hrep.sub (S' := fun k => w.heap.size < k ∧ k < w1.heap.size) (fun k hk hl => ⟨by rw [World.size_alloc] at hk; omega, hl⟩)
  clear hB0 hF0 hr0 hf1 hrep
  go_wp2_with ((with_reducible refine at_store 28 ?_); refine wpList_store_blk (w := w1.alloc _) (cs := nodeA a A cap) rfl rfl rfl rfl (Blk.new _ _ _) rfl infoNode (nodeA_one _ _ _) ?_; intro W2 hW2 hfW2 hsz2; have hP2 := (hP1.alloc (.cells #[.int .i64 0, .int .u64 0, .int .u64 0, .int .u64 0, .int .u64 0, .int .i64 0, .int .i64 0, .slice none 0 0] 28)).fr hfW2 (by show ¬ b = w1.heap.size; omega); have hB2 := hfW2.blk (hB1.alloc (.cells #[.int .i64 0, .int .u64 0, .int .u64 0, .int .u64 0, .int .u64 0, .int .i64 0, .int .i64 0, .slice none 0 0] 28)) (by show ¬ w.heap.size = w1.heap.size; omega); have hF2 := (hF1.alloc (.cells #[.int .i64 0, .int .u64 0, .int .u64 0, .int .u64 0, .int .u64 0, .int .i64 0, .int .i64 0, .slice none 0 0] 28)).callAt hfW2 (by omega); have hrep2 := (hrep1.alloc (.cells #[.int .i64 0, .int .u64 0, .int .u64 0, .int .u64 0, .int .u64 0, .int .i64 0, .int .i64 0, .slice none 0 0] 28)).fr hfW2 (S' := fun k => w.heap.size < k ∧ k < w1.heap.size) (fun k hk hl => ⟨by show ¬ k = w1.heap.size; omega, hk⟩); obtain ⟨h00, h1, h2, h3, f1, f2, f3⟩ := hP2.cells)
  refine (pnext_a b s j op _ hP2).mono ?_
  rintro e wn ⟨rfl, nn, rfl⟩
  rw [Hc0.out]
  clear hP1 hB1 hF1 hrep1
  go_upto_region 6 with (go_at_call 36; refine (hI _).mono ?_; rintro e w3 ⟨rfl, rfl⟩)
  refine wp_world (fun W => Ps W b s (j + 1 : Nat) (-1) op ∧ Blk W w.heap.size 28 #[.int .i64 0, .int .u64 0, .int .u64 0, .int .u64 0, .int .u64 0, .int .i64 0, .int .i64 0, .slice none 0 0] ∧ Fr (At b) w W ∧ Rep W (fun k => w.heap.size < k ∧ k < w1.heap.size) (.slice A a.subs.length cap) (.sl 28 a.subs.length (encNs a.subs)) ∧ Blk W w1.heap.size 28 (nodeA a A cap))
    ⟨(hP2.drewN nn).setAt (by first | exact Hai.out | rfl | omega), (hB2.drewN nn).far (p := ⟨b, 1, none⟩) (by show w.heap.size ≠ b; omega) _, (hF2.drewN nn).setB 1 _, (hrep2.drewN nn).set (p := ⟨b, 1, none⟩) (fun k hk => by show k ≠ b; omega) _, (hW2.drewN nn).far (p := ⟨b, 1, none⟩) (by show w1.heap.size ≠ b; omega) _⟩ ?_
  clear h00 h1 h2 h3 f1 f2 f3 hP2 hB2 hF2 hrep2 hW2 hfW2
  rintro W3 ⟨hP3, hB3, hF3, hrep3, hA3⟩
  have hg3 := hA3.lt
  go_upto_region 7 with ((with_reducible refine at_load 28 ?_); refine wpList_load_blk (w := W3) (cs := nodeA a A cap) rfl rfl rfl hA3 Try.underlying28 rfl infoNode ?_; unfold nodeA)
  refine wp_world (fun W => It w W b s (j + 1 : Nat) (-1) op a A cap W3.heap.size (W3.heap.size + 1) 0 (-1))
    ⟨(hP3.alloc _).alloc _, (hB3.alloc _).alloc _, by have := Blk.new (W3.alloc (.cells (nodeA a A cap) 28)) 28 (lit5 W3.heap.size 0 (-1)); rw [World.size_alloc] at this; exact this, (Blk.new W3 28 (nodeA a A cap)).alloc _, ((hrep3.alloc _).alloc _).sub (fun k hk _ => ⟨hk.1, by omega⟩), (hF3.alloc _).alloc _, by omega, by omega, hbw⟩ ?_
  clear hP3 hB3 hF3 hrep3 hA3
  intro W5 hIt
  generalize W3.heap.size = gs at hIt ⊢
  generalize Value.agg #[Value.int IntKind.i64 a.kind, Value.int IntKind.u64 (wd a.set 0), Value.int IntKind.u64 (wd a.set 1), Value.int IntKind.u64 (wd a.set 2), Value.int IntKind.u64 (wd a.set 3), Value.int IntKind.i64 a.mn, Value.int IntKind.i64 a.mx, Value.slice A a.subs.length cap] = junk
  obtain ⟨h00, h1, h2, f1, h5, h6, f5, f6⟩ := hIt.cells
  have hNum := fun (W : World) (h : Ps W b s (j + 1 : Nat) (-1) op) => pnumber_a b s (j + 1) op W (by omega) h hlt
  rw [hn] at hNum
  have e4 : (c1 == 44) = true := by simp [hc1]
  have hlt1 : j1 < s.size := nx_nonneg (by rw [Hc1.out]; omega)
  have hai1 : wrap64 ((j1 : Int) + 1) = ((j1 + 1 : Nat) : Int) := by unfold wrap64; omega
  have Hai1 := hid hai1
  clear hc1 hai1
  have e5 : (c2 != 125) = true := by simp [hc2]
  clear hc2
  have hNum2 := fun (W : World) (h : Ps W b s (j1 + 1 : Nat) (-1) op) => pnumber_a b s (j1 + 1) op W (by omega) h hlt1
  rw [hn2] at hNum2
  have e6 : decide (n < m) = false := decide_eq_false (by omega)
  clear hle
  have hM := fun (W : World) (h : Ps W b s j2 (-1) op) => pmust_a b s j2 op W 125 (by omega) h (by omega) hj2
  rw [hm] at hM
  go_wp2_with (first | (go_at_call 28; refine (pnext_a b s (j1 + 1) op _ hItc.ps).mono ?_; rintro e wn3 ⟨rfl, n3, rfl⟩; rw [Hc2.out]; have hItd := hItc.drewN n3) |
    (go_at_call 37; refine (hNum2 _ hItd.ps).mono ?_; rintro e w7 ⟨⟨v, rfl, rfl, hn0, hn1⟩, hP7, hk7, hf7⟩; have hIt7b := hItd.call hf7 hP7; clear h00 h1 h2 f1 h5 h6 f5 f6; obtain ⟨h00, h1, h2, f1, h5, h6, f5, f6⟩ := hIt7b.cells; have hIte := hIt7b.setMx n) |
    (go_at_call 37; refine (hNum _ hIt.ps).mono ?_; rintro e w6 ⟨⟨v, rfl, rfl, hm0, hm1⟩, hP6, hk6, hf6⟩; have hIt6 := hIt.call hf6 hP6; clear h00 h1 h2 f1 h5 h6 f5 f6; obtain ⟨h00, h1, h2, f1, h5, h6, f5, f6⟩ := hIt6.cells; have hIt7 := (hIt6.setMn m).setMx m) |
    (go_at_call 28; refine (pnext_a b s j1 op _ hIt7.ps).mono ?_; rintro e wn2 ⟨rfl, n2, rfl⟩; rw [Hc1.out]; have hIt8 := hIt7.drewN n2; have hItc := (hIt8.setAt (y := (j1 : Int) + 1) (z := ((j1 + 1 : Nat) : Int)) (by first | exact Hai1.out | rfl | omega)).setMx (-1)) |
    (go_at_call 38; refine (hM _ hIte.ps).mono ?_; rintro e w8 ⟨⟨v, u, rfl, rfl⟩, ⟨x8, hP8⟩, hk8, hf8⟩; have hIt9 := hIte.call hf8 hP8) |
    ((with_reducible refine at_load 28 ?_); refine wpList_load_blk (cs := lit5 gs m n) rfl rfl rfl hIt9.h5 Try.underlying28 rfl infoNode ?_) |
    ((with_reducible refine at_store 28 ?_); refine wpList_store_blk (cs := lit5 gs m n) rfl rfl rfl rfl hIt9.hb rfl infoNode (lit5_one _ _ _) ?_; intro W9 hW9 hfW9 _; obtain ⟨hN9, hP9, hF9⟩ := hIt9.fin hfW9))
  refine bodyPost_blk rfl rfl hW9 Try.underlying28 rfl infoNode rfl ?_
  exact ⟨⟨_, _, rfl, hN9⟩, ⟨_, hP9⟩, hk8, hF9⟩
set_option maxHeartbeats 1600000 in
theorem pitem_gt (Hs : Hid (s.size < 1048576)) (Hr : Hid (Ps w b s i (-1) op)) (a : Nd) (j : Nat) (c0 : Int) (Hc0 : Hid (nx s j = c0)) (hc : c0 = 123)
    (Hat : Hid (∀ W, Ps W b s i (-1) op → Calls Try.prog 35 #[.pointer (some ⟨b, 0, none⟩)] W (OutP (NewN W) W b s op (.ok a j)))) (m : Int) (j1 : Nat) (hn : Rx.number s (j + 1) = .ok m j1) (c1 : Int) (Hc1 : Hid (nx s j1 = c1)) (hc1 : c1 = 44) (c2 : Int) (Hc2 : Hid (nx s (j1 + 1) = c2)) (hc2 : c2 ≠ 125) (n : Int) (j2 : Nat) (hn2 : Rx.number s (j1 + 1) = .ok n j2) (hj2 : j2 ≤ s.size) (hle : ¬ m ≤ n) :
    Calls Try.prog 32 #[.pointer (some ⟨b, 0, none⟩)] w (OutP (NewN w) w b s op (.bad (j1 + 1))) := by
  have hbw := Hr.out.lt
  have hB0 := Blk.new w 28 #[.int .i64 0, .int .u64 0, .int .u64 0, .int .u64 0, .int .u64 0, .int .i64 0, .int .i64 0, .slice none 0 0]
  have hF0 : Fr (At b) w _ := (Fr.refl (At b) w).alloc (.cells #[.int .i64 0, .int .u64 0, .int .u64 0, .int .u64 0, .int .u64 0, .int .i64 0, .int .i64 0, .slice none 0 0] 28)
  have hr0 := Hr.out.alloc (.cells #[.int .i64 0, .int .u64 0, .int .u64 0, .int .u64 0, .int .u64 0, .int .i64 0, .int .i64 0, .slice none 0 0] 28)
  have hsz := Hs.out
  have hI := fun W => in_c ⟨#[42, 43, 63, 123]⟩ c0 W (by decide)
  rw [in4, hc, show ((42 : Int) == 123 || (43 : Int) == 123 || (63 : Int) == 123 || (123 : Int) == 123) = true by decide] at hI
  rw [← hc] at hI
  have e1 : (c0 == 43) = false := by simp [hc]
  have e2 : (c0 == 63) = false := by simp [hc]
  have e3 : (c0 == 123) = true := by simp [hc]
  have hlt : j < s.size := nx_nonneg (by rw [Hc0.out]; omega)
  have hai : wrap64 ((j : Int) + 1) = ((j + 1 : Nat) : Int) := by unfold wrap64; omega
  have Hai := hid hai
  clear hai hc
  go_enter Try.func32, Try.ntmps32
  go_wp2_with fail
  refine (Hat.out _ hr0).mono ?_
  rintro e w1 ⟨⟨v, rfl, A, cap, rfl, hrep⟩, hP1, hj1', hf1⟩
  have hB1 := hf1.blk hB0 (by show ¬ w.heap.size = b; omega)
  have hF1 := Fr.trans hF0 hf1
  have hg1 := hB1.lt
  have hrep1 := hrep.sub (S' := fun k => w.heap.size < k ∧ k < w1.heap.size) (fun k hk hl => ⟨by rw [World.size_alloc] at hk; omega, hl⟩)
  clear hB0 hF0 hr0 hf1 hrep
  go_wp2_with ((with_reducible refine at_store 28 ?_); refine wpList_store_blk (w := w1.alloc _) (cs := nodeA a A cap) rfl rfl rfl rfl (Blk.new _ _ _) rfl infoNode (nodeA_one _ _ _) ?_; intro W2 hW2 hfW2 hsz2; have hP2 := (hP1.alloc (.cells #[.int .i64 0, .int .u64 0, .int .u64 0, .int .u64 0, .int .u64 0, .int .i64 0, .int .i64 0, .slice none 0 0] 28)).fr hfW2 (by show ¬ b = w1.heap.size; omega); have hB2 := hfW2.blk (hB1.alloc (.cells #[.int .i64 0, .int .u64 0, .int .u64 0, .int .u64 0, .int .u64 0, .int .i64 0, .int .i64 0, .slice none 0 0] 28)) (by show ¬ w.heap.size = w1.heap.size; omega); have hF2 := (hF1.alloc (.cells #[.int .i64 0, .int .u64 0, .int .u64 0, .int .u64 0, .int .u64 0, .int .i64 0, .int .i64 0, .slice none 0 0] 28)).callAt hfW2 (by omega); have hrep2 := (hrep1.alloc (.cells #[.int .i64 0, .int .u64 0, .int .u64 0, .int .u64 0, .int .u64 0, .int .i64 0, .int .i64 0, .slice none 0 0] 28)).fr hfW2 (S' := fun k => w.heap.size < k ∧ k < w1.heap.size) (fun k hk hl => ⟨by show ¬ k = w1.heap.size; omega, hk⟩); obtain ⟨h00, h1, h2, h3, f1, f2, f3⟩ := hP2.cells)
  refine (pnext_a b s j op _ hP2).mono ?_
  rintro e wn ⟨rfl, nn, rfl⟩
  rw [Hc0.out]
  clear hP1 hB1 hF1 hrep1
  go_upto_region 6 with (go_at_call 36; refine (hI _).mono ?_; rintro e w3 ⟨rfl, rfl⟩)
  refine wp_world (fun W => Ps W b s (j + 1 : Nat) (-1) op ∧ Blk W w.heap.size 28 #[.int .i64 0, .int .u64 0, .int .u64 0, .int .u64 0, .int .u64 0, .int .i64 0, .int .i64 0, .slice none 0 0] ∧ Fr (At b) w W ∧ Rep W (fun k => w.heap.size < k ∧ k < w1.heap.size) (.slice A a.subs.length cap) (.sl 28 a.subs.length (encNs a.subs)) ∧ Blk W w1.heap.size 28 (nodeA a A cap))
    ⟨(hP2.drewN nn).setAt (by first | exact Hai.out | rfl | omega), (hB2.drewN nn).far (p := ⟨b, 1, none⟩) (by show w.heap.size ≠ b; omega) _, (hF2.drewN nn).setB 1 _, (hrep2.drewN nn).set (p := ⟨b, 1, none⟩) (fun k hk => by show k ≠ b; omega) _, (hW2.drewN nn).far (p := ⟨b, 1, none⟩) (by show w1.heap.size ≠ b; omega) _⟩ ?_
  clear h00 h1 h2 h3 f1 f2 f3 hP2 hB2 hF2 hrep2 hW2 hfW2
  rintro W3 ⟨hP3, hB3, hF3, hrep3, hA3⟩
  have hg3 := hA3.lt
  go_upto_region 7 with ((with_reducible refine at_load 28 ?_); refine wpList_load_blk (w := W3) (cs := nodeA a A cap) rfl rfl rfl hA3 Try.underlying28 rfl infoNode ?_; unfold nodeA)
  refine wp_world (fun W => It w W b s (j + 1 : Nat) (-1) op a A cap W3.heap.size (W3.heap.size + 1) 0 (-1))
    ⟨(hP3.alloc _).alloc _, (hB3.alloc _).alloc _, by have := Blk.new (W3.alloc (.cells (nodeA a A cap) 28)) 28 (lit5 W3.heap.size 0 (-1)); rw [World.size_alloc] at this; exact this, (Blk.new W3 28 (nodeA a A cap)).alloc _, ((hrep3.alloc _).alloc _).sub (fun k hk _ => ⟨hk.1, by omega⟩), (hF3.alloc _).alloc _, by omega, by omega, hbw⟩ ?_
  clear hP3 hB3 hF3 hrep3 hA3
  intro W5 hIt
  generalize W3.heap.size = gs at hIt ⊢
  generalize Value.agg #[Value.int IntKind.i64 a.kind, Value.int IntKind.u64 (wd a.set 0), Value.int IntKind.u64 (wd a.set 1), Value.int IntKind.u64 (wd a.set 2), Value.int IntKind.u64 (wd a.set 3), Value.int IntKind.i64 a.mn, Value.int IntKind.i64 a.mx, Value.slice A a.subs.length cap] = junk
  obtain ⟨h00, h1, h2, f1, h5, h6, f5, f6⟩ := hIt.cells
  have hNum := fun (W : World) (h : Ps W b s (j + 1 : Nat) (-1) op) => pnumber_a b s (j + 1) op W (by omega) h hlt
  rw [hn] at hNum
  have e4 : (c1 == 44) = true := by simp [hc1]
  have hlt1 : j1 < s.size := nx_nonneg (by rw [Hc1.out]; omega)
  have hai1 : wrap64 ((j1 : Int) + 1) = ((j1 + 1 : Nat) : Int) := by unfold wrap64; omega
  have Hai1 := hid hai1
  clear hc1 hai1
  have e5 : (c2 != 125) = true := by simp [hc2]
  clear hc2
  have hNum2 := fun (W : World) (h : Ps W b s (j1 + 1 : Nat) (-1) op) => pnumber_a b s (j1 + 1) op W (by omega) h hlt1
  rw [hn2] at hNum2
  have e6 : decide (n < m) = true := decide_eq_true (by omega)
  clear hle
  go_wp2_with (first | (go_at_call 28; refine (pnext_a b s (j1 + 1) op _ hItc.ps).mono ?_; rintro e wn3 ⟨rfl, n3, rfl⟩; rw [Hc2.out]; have hItd := hItc.drewN n3) |
    (go_at_call 37; refine (hNum2 _ hItd.ps).mono ?_; rintro e w7 ⟨⟨v, rfl, rfl, hn0, hn1⟩, hP7, hk7, hf7⟩; have hIt7b := hItd.call hf7 hP7; clear h00 h1 h2 f1 h5 h6 f5 f6; obtain ⟨h00, h1, h2, f1, h5, h6, f5, f6⟩ := hIt7b.cells; have hIte := hIt7b.setMx n) |
    (go_at_call 37; refine (hNum _ hIt.ps).mono ?_; rintro e w6 ⟨⟨v, rfl, rfl, hm0, hm1⟩, hP6, hk6, hf6⟩; have hIt6 := hIt.call hf6 hP6; clear h00 h1 h2 f1 h5 h6 f5 f6; obtain ⟨h00, h1, h2, f1, h5, h6, f5, f6⟩ := hIt6.cells; have hIt7 := (hIt6.setMn m).setMx m) |
    (go_at_call 28; refine (pnext_a b s j1 op _ hIt7.ps).mono ?_; rintro e wn2 ⟨rfl, n2, rfl⟩; rw [Hc1.out]; have hIt8 := hIt7.drewN n2; have hItc := (hIt8.setAt (y := (j1 : Int) + 1) (z := ((j1 + 1 : Nat) : Int)) (by first | exact Hai1.out | rfl | omega)).setMx (-1)) |
    (go_at_call 22; refine (pfail_a b s _ _ _ _ hIte.ps).mono ?_; rintro e w10 ⟨rfl, hP10, hf10⟩; have hIt10 := hIte.call hf10 hP10) |
    (go_at_call 38; refine (pmust_d b s op _ 125 _ (j1 + 1) hIt10.ps (by omega)).mono ?_; rintro e w8 ⟨rfl, ⟨x8, hP8⟩, hf8⟩; have hIt9 := hIt10.call hf8 hP8) |
    ((with_reducible refine at_load 28 ?_); refine wpList_load_blk (cs := lit5 gs m n) rfl rfl rfl hIt9.h5 Try.underlying28 rfl infoNode ?_) |
    ((with_reducible refine at_store 28 ?_); refine wpList_store_blk (cs := lit5 gs m n) rfl rfl rfl rfl hIt9.hb rfl infoNode (lit5_one _ _ _) ?_; intro W9 hW9 hfW9 _; obtain ⟨hN9, hP9, hF9⟩ := hIt9.fin hfW9))
  refine bodyPost_blk rfl rfl hW9 Try.underlying28 rfl infoNode rfl ?_
  exact ⟨⟨_, _, rfl, hN9⟩, ⟨_, hP9⟩, hlt1, hF9⟩
end
end Go.Proofs.Ytcphepjfnnbonaa
