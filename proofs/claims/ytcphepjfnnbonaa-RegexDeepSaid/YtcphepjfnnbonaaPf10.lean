/- The walk of sieveref07's parser: item. Condition: the text has fewer than 2^20 bytes, the place is within it. -/
import Derived.Test.YtcphepjfnnbonaaPf9
import Derived.Deep.Cut
namespace Go.Proofs.Ytcphepjfnnbonaa
set_option linter.unusedVariables false
set_option linter.unusedSimpArgs false
open Go Go.RowKit

theorem in4 (c : Int) : inB ⟨#[42, 43, 63, 123]⟩ c = ((42 : Int) == c || (43 : Int) == c || (63 : Int) == c || (123 : Int) == c) := by
  simp [inB, Bool.or_assoc]
section
variable (b : Nat) (s : ByteArray) (i op : Nat) (w : World)
set_option maxHeartbeats 1600000 in
theorem pitem_bad (Hs : Hid (s.size < 1048576)) (Hr : Hid (Ps w b s i (-1) op)) (k : Nat)
    (Hat : Hid (∀ W, Ps W b s i (-1) op → Calls Try.prog 35 #[.pointer (some ⟨b, 0, none⟩)] W (OutP (NewN W) W b s op (.bad k)))) :
    Calls Try.prog 32 #[.pointer (some ⟨b, 0, none⟩)] w (OutP (NewN w) w b s op (.bad k)) := by
  have hbw := Hr.out.lt
  have hB0 := Blk.new w 28 #[.int .i64 0, .int .u64 0, .int .u64 0, .int .u64 0, .int .u64 0, .int .i64 0, .int .i64 0, .slice none 0 0]
  have hF0 : Fr (At b) w _ := (Fr.refl (At b) w).alloc (.cells #[.int .i64 0, .int .u64 0, .int .u64 0, .int .u64 0, .int .u64 0, .int .i64 0, .int .i64 0, .slice none 0 0] 28)
  have hr0 := Hr.out.alloc (.cells #[.int .i64 0, .int .u64 0, .int .u64 0, .int .u64 0, .int .u64 0, .int .i64 0, .int .i64 0, .slice none 0 0] 28)
  have hsz := Hs.out
  have hI := fun W => in_c ⟨#[42, 43, 63, 123]⟩ (-1) W (by decide)
  rw [in4, show ((42 : Int) == -1 || (43 : Int) == -1 || (63 : Int) == -1 || (123 : Int) == -1) = false by decide] at hI
  go_enter Try.func32, Try.ntmps32
  go_wp2_with fail
  refine (Hat.out _ hr0).mono ?_
  rintro e w1 ⟨⟨v, a, rfl, A, cap, rfl, hrep⟩, ⟨x1, hP1⟩, hk1, hf1⟩
  have hB1 := hf1.blk hB0 (by show ¬ w.heap.size = b; omega)
  have hF1 := Fr.trans hF0 hf1
  have hg1 := hB1.lt
  have hrep1 := hrep.sub (S' := fun k => w.heap.size < k ∧ k < w1.heap.size) (fun k hk hl => ⟨by rw [World.size_alloc] at hk; omega, hl⟩)
  clear hB0 hF0 hr0 hf1 hrep
  go_wp2_with ((with_reducible refine at_store 28 ?_); refine wpList_store_blk (w := w1.alloc _) (cs := nodeA a A cap) rfl rfl rfl rfl (Blk.new _ _ _) rfl infoNode (nodeA_one _ _ _) ?_; intro W2 hW2 hfW2 hsz2; have hP2 := (hP1.alloc (.cells #[.int .i64 0, .int .u64 0, .int .u64 0, .int .u64 0, .int .u64 0, .int .i64 0, .int .i64 0, .slice none 0 0] 28)).fr hfW2 (by show ¬ b = w1.heap.size; omega); have hB2 := hfW2.blk (hB1.alloc (.cells #[.int .i64 0, .int .u64 0, .int .u64 0, .int .u64 0, .int .u64 0, .int .i64 0, .int .i64 0, .slice none 0 0] 28)) (by show ¬ w.heap.size = w1.heap.size; omega); have hF2 := (hF1.alloc (.cells #[.int .i64 0, .int .u64 0, .int .u64 0, .int .u64 0, .int .u64 0, .int .i64 0, .int .i64 0, .slice none 0 0] 28)).callAt hfW2 (by omega); have hrep2 := (hrep1.alloc (.cells #[.int .i64 0, .int .u64 0, .int .u64 0, .int .u64 0, .int .u64 0, .int .i64 0, .int .i64 0, .slice none 0 0] 28)).fr hfW2 (S' := fun k => w.heap.size < k ∧ k < w1.heap.size) (fun k hk hl => ⟨by show ¬ k = w1.heap.size; omega, hk⟩); obtain ⟨h00, h1, h2, h3, f1, f2, f3⟩ := hP2.cells)
  refine (pnext_d b s op _ _ _ hP2).mono ?_
  rintro e wn ⟨rfl, nn, rfl⟩
  clear hP1 hB1 hF1 hrep1
  go_wp2_with (first | (go_at_call 36; refine (hI _).mono ?_; rintro e w3 ⟨rfl, rfl⟩) |
    ((with_reducible refine at_load 28 ?_); refine wpList_load_blk (cs := nodeA a A cap) rfl rfl rfl (hW2.drewN nn) Try.underlying28 rfl infoNode ?_) |
    ((with_reducible refine at_store 28 ?_); refine wpList_store_blk (cs := nodeA a A cap) rfl rfl rfl rfl (hB2.drewN nn) rfl infoNode (nodeA_one _ _ _) ?_; intro W9 hW9 hfW9 _))
  refine bodyPost_blk rfl rfl hW9 Try.underlying28 rfl infoNode rfl ?_
  have hN9 : NewN w W9 (.agg (nodeA a A cap)) a := ⟨A, cap, rfl, (hrep2.drewN nn).fr hfW9 (fun k hk _ => ⟨by show ¬ k = w.heap.size; omega, by show w.heap.size ≤ k; omega⟩)⟩
  exact ⟨⟨_, _, rfl, hN9⟩, ⟨_, (hP2.drewN nn).fr hfW9 (by show ¬ b = w.heap.size; omega)⟩, hk1, (hF2.drewN nn).callAt hfW9 (Nat.le_refl _)⟩
set_option maxHeartbeats 1600000 in
theorem pitem_none (Hs : Hid (s.size < 1048576)) (Hr : Hid (Ps w b s i (-1) op)) (a : Nd) (j : Nat) (c0 : Int) (Hc0 : Hid (nx s j = c0)) (hc : c0 ≠ 42 ∧ c0 ≠ 43 ∧ c0 ≠ 63 ∧ c0 ≠ 123)
    (Hat : Hid (∀ W, Ps W b s i (-1) op → Calls Try.prog 35 #[.pointer (some ⟨b, 0, none⟩)] W (OutP (NewN W) W b s op (.ok a j)))) :
    Calls Try.prog 32 #[.pointer (some ⟨b, 0, none⟩)] w (OutP (NewN w) w b s op (.ok a j)) := by
  have hbw := Hr.out.lt
  have hB0 := Blk.new w 28 #[.int .i64 0, .int .u64 0, .int .u64 0, .int .u64 0, .int .u64 0, .int .i64 0, .int .i64 0, .slice none 0 0]
  have hF0 : Fr (At b) w _ := (Fr.refl (At b) w).alloc (.cells #[.int .i64 0, .int .u64 0, .int .u64 0, .int .u64 0, .int .u64 0, .int .i64 0, .int .i64 0, .slice none 0 0] 28)
  have hr0 := Hr.out.alloc (.cells #[.int .i64 0, .int .u64 0, .int .u64 0, .int .u64 0, .int .u64 0, .int .i64 0, .int .i64 0, .slice none 0 0] 28)
  have hsz := Hs.out
  have hI := fun W => in_c ⟨#[42, 43, 63, 123]⟩ c0 W (by decide)
  rw [in4, show ((42 : Int) == c0 || (43 : Int) == c0 || (63 : Int) == c0 || (123 : Int) == c0) = false by simp; omega] at hI
  clear hc
  go_enter Try.func32, Try.ntmps32
  go_wp2_with fail
  refine (Hat.out _ hr0).mono ?_
  rintro e w1 ⟨⟨v, rfl, A, cap, rfl, hrep⟩, hP1, hj1, hf1⟩
  have hB1 := hf1.blk hB0 (by show ¬ w.heap.size = b; omega)
  have hF1 := Fr.trans hF0 hf1
  have hg1 := hB1.lt
  have hrep1 := hrep.sub (S' := fun k => w.heap.size < k ∧ k < w1.heap.size) (fun k hk hl => ⟨by rw [World.size_alloc] at hk; omega, hl⟩)
  clear hB0 hF0 hr0 hf1 hrep
  go_wp2_with ((with_reducible refine at_store 28 ?_); refine wpList_store_blk (w := w1.alloc _) (cs := nodeA a A cap) rfl rfl rfl rfl (Blk.new _ _ _) rfl infoNode (nodeA_one _ _ _) ?_; intro W2 hW2 hfW2 hsz2; have hP2 := (hP1.alloc (.cells #[.int .i64 0, .int .u64 0, .int .u64 0, .int .u64 0, .int .u64 0, .int .i64 0, .int .i64 0, .slice none 0 0] 28)).fr hfW2 (by show ¬ b = w1.heap.size; omega); have hB2 := hfW2.blk (hB1.alloc (.cells #[.int .i64 0, .int .u64 0, .int .u64 0, .int .u64 0, .int .u64 0, .int .i64 0, .int .i64 0, .slice none 0 0] 28)) (by show ¬ w.heap.size = w1.heap.size; omega); have hF2 := (hF1.alloc (.cells #[.int .i64 0, .int .u64 0, .int .u64 0, .int .u64 0, .int .u64 0, .int .i64 0, .int .i64 0, .slice none 0 0] 28)).callAt hfW2 (by omega); have hrep2 := (hrep1.alloc (.cells #[.int .i64 0, .int .u64 0, .int .u64 0, .int .u64 0, .int .u64 0, .int .i64 0, .int .i64 0, .slice none 0 0] 28)).fr hfW2 (S' := fun k => w.heap.size < k ∧ k < w1.heap.size) (fun k hk hl => ⟨by show ¬ k = w1.heap.size; omega, hk⟩); obtain ⟨h00, h1, h2, h3, f1, f2, f3⟩ := hP2.cells)
  refine (pnext_a b s j op _ hP2).mono ?_
  rintro e wn ⟨rfl, nn, rfl⟩
  rw [Hc0.out]
  clear hP1 hB1 hF1 hrep1
  go_wp2_with (first | (go_at_call 36; refine (hI _).mono ?_; rintro e w3 ⟨rfl, rfl⟩) |
    ((with_reducible refine at_load 28 ?_); refine wpList_load_blk (cs := nodeA a A cap) rfl rfl rfl (hW2.drewN nn) Try.underlying28 rfl infoNode ?_) |
    ((with_reducible refine at_store 28 ?_); refine wpList_store_blk (cs := nodeA a A cap) rfl rfl rfl rfl (hB2.drewN nn) rfl infoNode (nodeA_one _ _ _) ?_; intro W9 hW9 hfW9 _))
  refine bodyPost_blk rfl rfl hW9 Try.underlying28 rfl infoNode rfl ?_
  have hN9 : NewN w W9 (.agg (nodeA a A cap)) a := ⟨A, cap, rfl, (hrep2.drewN nn).fr hfW9 (fun k hk _ => ⟨by show ¬ k = w.heap.size; omega, by show w.heap.size ≤ k; omega⟩)⟩
  exact ⟨⟨_, rfl, hN9⟩, (hP2.drewN nn).fr hfW9 (by show ¬ b = w.heap.size; omega), hj1, (hF2.drewN nn).callAt hfW9 (Nat.le_refl _)⟩
set_option maxHeartbeats 1600000 in
theorem pitem_42 (Hs : Hid (s.size < 1048576)) (Hr : Hid (Ps w b s i (-1) op)) (a : Nd) (j : Nat) (c0 : Int) (Hc0 : Hid (nx s j = c0)) (hc : c0 = 42)
    (Hat : Hid (∀ W, Ps W b s i (-1) op → Calls Try.prog 35 #[.pointer (some ⟨b, 0, none⟩)] W (OutP (NewN W) W b s op (.ok a j)))) :
    Calls Try.prog 32 #[.pointer (some ⟨b, 0, none⟩)] w (OutP (NewN w) w b s op (.ok (.mk 5 0 0 (-1) [a]) (j + 1))) := by
  have hbw := Hr.out.lt
  have hB0 := Blk.new w 28 #[.int .i64 0, .int .u64 0, .int .u64 0, .int .u64 0, .int .u64 0, .int .i64 0, .int .i64 0, .slice none 0 0]
  have hF0 : Fr (At b) w _ := (Fr.refl (At b) w).alloc (.cells #[.int .i64 0, .int .u64 0, .int .u64 0, .int .u64 0, .int .u64 0, .int .i64 0, .int .i64 0, .slice none 0 0] 28)
  have hr0 := Hr.out.alloc (.cells #[.int .i64 0, .int .u64 0, .int .u64 0, .int .u64 0, .int .u64 0, .int .i64 0, .int .i64 0, .slice none 0 0] 28)
  have hsz := Hs.out
  have hI := fun W => in_c ⟨#[42, 43, 63, 123]⟩ c0 W (by decide)
  rw [in4, hc, show ((42 : Int) == 42 || (43 : Int) == 42 || (63 : Int) == 42 || (123 : Int) == 42) = true by decide] at hI
  rw [← hc] at hI
  have e1 : (c0 == 43) = false := by simp [hc]
  have e2 : (c0 == 63) = false := by simp [hc]
  have e3 : (c0 == 123) = false := by simp [hc]
  have hlt : j < s.size := nx_nonneg (by rw [Hc0.out]; omega)
  have hai : wrap64 ((j : Int) + 1) = ((j + 1 : Nat) : Int) := by unfold wrap64; omega
  have Hai := hid hai
  clear hai hc
  go_enter Try.func32, Try.ntmps32
  go_wp2_with fail
  refine (Hat.out _ hr0).mono ?_
  rintro e w1 ⟨⟨v, rfl, A, cap, rfl, hrep⟩, hP1, hj1, hf1⟩
  have hB1 := hf1.blk hB0 (by show ¬ w.heap.size = b; omega)
  have hF1 := Fr.trans hF0 hf1
  have hg1 := hB1.lt
  have hrep1 := hrep.sub (S' := fun k => w.heap.size < k ∧ k < w1.heap.size) (fun k hk hl => ⟨by rw [World.size_alloc] at hk; omega, hl⟩)
  clear hB0 hF0 hr0 hf1 hrep
  go_wp2_with ((with_reducible refine at_store 28 ?_); refine wpList_store_blk (w := w1.alloc _) (cs := nodeA a A cap) rfl rfl rfl rfl (Blk.new _ _ _) rfl infoNode (nodeA_one _ _ _) ?_; intro W2 hW2 hfW2 hsz2; have hP2 := (hP1.alloc (.cells #[.int .i64 0, .int .u64 0, .int .u64 0, .int .u64 0, .int .u64 0, .int .i64 0, .int .i64 0, .slice none 0 0] 28)).fr hfW2 (by show ¬ b = w1.heap.size; omega); have hB2 := hfW2.blk (hB1.alloc (.cells #[.int .i64 0, .int .u64 0, .int .u64 0, .int .u64 0, .int .u64 0, .int .i64 0, .int .i64 0, .slice none 0 0] 28)) (by show ¬ w.heap.size = w1.heap.size; omega); have hF2 := (hF1.alloc (.cells #[.int .i64 0, .int .u64 0, .int .u64 0, .int .u64 0, .int .u64 0, .int .i64 0, .int .i64 0, .slice none 0 0] 28)).callAt hfW2 (by omega); have hrep2 := (hrep1.alloc (.cells #[.int .i64 0, .int .u64 0, .int .u64 0, .int .u64 0, .int .u64 0, .int .i64 0, .int .i64 0, .slice none 0 0] 28)).fr hfW2 (S' := fun k => w.heap.size < k ∧ k < w1.heap.size) (fun k hk hl => ⟨by show ¬ k = w1.heap.size; omega, hk⟩); obtain ⟨h00, h1, h2, h3, f1, f2, f3⟩ := hP2.cells)
  refine (pnext_a b s j op _ hP2).mono ?_
  rintro e wn ⟨rfl, nn, rfl⟩
  rw [Hc0.out]
  clear hP1 hB1 hF1 hrep1
  go_upto_region 6 with (go_at_call 36; refine (hI _).mono ?_; rintro e w3 ⟨rfl, rfl⟩)
  refine wp_world (fun W => Ps W b s (j + 1 : Nat) (-1) op ∧ Blk W w.heap.size 28 #[.int .i64 0, .int .u64 0, .int .u64 0, .int .u64 0, .int .u64 0, .int .i64 0, .int .i64 0, .slice none 0 0] ∧ Fr (At b) w W ∧ Rep W (fun k => w.heap.size < k ∧ k < w1.heap.size) (.slice A a.subs.length cap) (.sl 28 a.subs.length (encNs a.subs)) ∧ Blk W w1.heap.size 28 (nodeA a A cap))
    ⟨(hP2.drewN nn).setAt (by first | exact Hai.out | rfl | omega), (hB2.drewN nn).far (p := ⟨b, 1, none⟩) (by show w.heap.size ≠ b; omega) _, (hF2.drewN nn).setB 1 _, (hrep2.drewN nn).set (p := ⟨b, 1, none⟩) (fun k hk => by show k ≠ b; omega) _, (hW2.drewN nn).far (p := ⟨b, 1, none⟩) (by show w1.heap.size ≠ b; omega) _⟩ ?_
  clear h00 h1 h2 h3 f1 f2 f3 hP2 hB2 hF2 hrep2 hW2 hfW2
  rintro W3 ⟨hP3, hB3, hF3, hrep3, hA3⟩
  have hg3 := hA3.lt
  go_upto_region 7 with ((with_reducible refine at_load 28 ?_); refine wpList_load_blk (w := W3) (cs := nodeA a A cap) rfl rfl rfl hA3 Try.underlying28 rfl infoNode ?_; unfold nodeA)
  refine wp_world (fun W => It w W b s (j + 1 : Nat) (-1) op a A cap W3.heap.size (W3.heap.size + 1) 0 (-1))
    ⟨(hP3.alloc _).alloc _, (hB3.alloc _).alloc _, by have := Blk.new (W3.alloc (.cells (nodeA a A cap) 28)) 28 (lit5 W3.heap.size 0 (-1)); rw [World.size_alloc] at this; exact this, (Blk.new W3 28 (nodeA a A cap)).alloc _, ((hrep3.alloc _).alloc _).sub (fun k hk _ => ⟨hk.1, by omega⟩), (hF3.alloc _).alloc _, by omega, by omega, hbw⟩ ?_
  clear hP3 hB3 hF3 hrep3 hA3
  intro W5 hIt
  generalize W3.heap.size = gs at hIt ⊢
  generalize Value.agg #[Value.int IntKind.i64 a.kind, Value.int IntKind.u64 (wd a.set 0), Value.int IntKind.u64 (wd a.set 1), Value.int IntKind.u64 (wd a.set 2), Value.int IntKind.u64 (wd a.set 3), Value.int IntKind.i64 a.mn, Value.int IntKind.i64 a.mx, Value.slice A a.subs.length cap] = junk
  obtain ⟨h00, h1, h2, f1, h5, h6, f5, f6⟩ := hIt.cells
  go_wp2_with (first | ((with_reducible refine at_load 28 ?_); refine wpList_load_blk (cs := lit5 gs 0 (-1)) rfl rfl rfl hIt.h5 Try.underlying28 rfl infoNode ?_) | ((with_reducible refine at_store 28 ?_); refine wpList_store_blk (cs := lit5 gs 0 (-1)) rfl rfl rfl rfl hIt.hb rfl infoNode (lit5_one _ _ _) ?_; intro W9 hW9 hfW9 _; obtain ⟨hN9, hP9, hF9⟩ := hIt.fin hfW9))
  refine bodyPost_blk rfl rfl hW9 Try.underlying28 rfl infoNode rfl ?_
  exact ⟨⟨_, rfl, hN9⟩, hP9, hlt, hF9⟩
set_option maxHeartbeats 1600000 in
theorem pitem_43 (Hs : Hid (s.size < 1048576)) (Hr : Hid (Ps w b s i (-1) op)) (a : Nd) (j : Nat) (c0 : Int) (Hc0 : Hid (nx s j = c0)) (hc : c0 = 43)
    (Hat : Hid (∀ W, Ps W b s i (-1) op → Calls Try.prog 35 #[.pointer (some ⟨b, 0, none⟩)] W (OutP (NewN W) W b s op (.ok a j)))) :
    Calls Try.prog 32 #[.pointer (some ⟨b, 0, none⟩)] w (OutP (NewN w) w b s op (.ok (.mk 5 0 1 (-1) [a]) (j + 1))) := by
  have hbw := Hr.out.lt
  have hB0 := Blk.new w 28 #[.int .i64 0, .int .u64 0, .int .u64 0, .int .u64 0, .int .u64 0, .int .i64 0, .int .i64 0, .slice none 0 0]
  have hF0 : Fr (At b) w _ := (Fr.refl (At b) w).alloc (.cells #[.int .i64 0, .int .u64 0, .int .u64 0, .int .u64 0, .int .u64 0, .int .i64 0, .int .i64 0, .slice none 0 0] 28)
  have hr0 := Hr.out.alloc (.cells #[.int .i64 0, .int .u64 0, .int .u64 0, .int .u64 0, .int .u64 0, .int .i64 0, .int .i64 0, .slice none 0 0] 28)
  have hsz := Hs.out
  have hI := fun W => in_c ⟨#[42, 43, 63, 123]⟩ c0 W (by decide)
  rw [in4, hc, show ((42 : Int) == 43 || (43 : Int) == 43 || (63 : Int) == 43 || (123 : Int) == 43) = true by decide] at hI
  rw [← hc] at hI
  have e1 : (c0 == 43) = true := by simp [hc]
  have e2 : (c0 == 63) = false := by simp [hc]
  have e3 : (c0 == 123) = false := by simp [hc]
  have hlt : j < s.size := nx_nonneg (by rw [Hc0.out]; omega)
  have hai : wrap64 ((j : Int) + 1) = ((j + 1 : Nat) : Int) := by unfold wrap64; omega
  have Hai := hid hai
  clear hai hc
  go_enter Try.func32, Try.ntmps32
  go_wp2_with fail
  refine (Hat.out _ hr0).mono ?_
  rintro e w1 ⟨⟨v, rfl, A, cap, rfl, hrep⟩, hP1, hj1, hf1⟩
  have hB1 := hf1.blk hB0 (by show ¬ w.heap.size = b; omega)
  have hF1 := Fr.trans hF0 hf1
  have hg1 := hB1.lt
  have hrep1 := hrep.sub (S' := fun k => w.heap.size < k ∧ k < w1.heap.size) (fun k hk hl => ⟨by rw [World.size_alloc] at hk; omega, hl⟩)
  clear hB0 hF0 hr0 hf1 hrep
  go_wp2_with ((with_reducible refine at_store 28 ?_); refine wpList_store_blk (w := w1.alloc _) (cs := nodeA a A cap) rfl rfl rfl rfl (Blk.new _ _ _) rfl infoNode (nodeA_one _ _ _) ?_; intro W2 hW2 hfW2 hsz2; have hP2 := (hP1.alloc (.cells #[.int .i64 0, .int .u64 0, .int .u64 0, .int .u64 0, .int .u64 0, .int .i64 0, .int .i64 0, .slice none 0 0] 28)).fr hfW2 (by show ¬ b = w1.heap.size; omega); have hB2 := hfW2.blk (hB1.alloc (.cells #[.int .i64 0, .int .u64 0, .int .u64 0, .int .u64 0, .int .u64 0, .int .i64 0, .int .i64 0, .slice none 0 0] 28)) (by show ¬ w.heap.size = w1.heap.size; omega); have hF2 := (hF1.alloc (.cells #[.int .i64 0, .int .u64 0, .int .u64 0, .int .u64 0, .int .u64 0, .int .i64 0, .int .i64 0, .slice none 0 0] 28)).callAt hfW2 (by omega); have hrep2 := (hrep1.alloc (.cells #[.int .i64 0, .int .u64 0, .int .u64 0, .int .u64 0, .int .u64 0, .int .i64 0, .int .i64 0, .slice none 0 0] 28)).fr hfW2 (S' := fun k => w.heap.size < k ∧ k < w1.heap.size) (fun k hk hl => ⟨by show ¬ k = w1.heap.size; omega, hk⟩); obtain ⟨h00, h1, h2, h3, f1, f2, f3⟩ := hP2.cells)
  refine (pnext_a b s j op _ hP2).mono ?_
  rintro e wn ⟨rfl, nn, rfl⟩
  rw [Hc0.out]
  clear hP1 hB1 hF1 hrep1
  go_upto_region 6 with (go_at_call 36; refine (hI _).mono ?_; rintro e w3 ⟨rfl, rfl⟩)
  refine wp_world (fun W => Ps W b s (j + 1 : Nat) (-1) op ∧ Blk W w.heap.size 28 #[.int .i64 0, .int .u64 0, .int .u64 0, .int .u64 0, .int .u64 0, .int .i64 0, .int .i64 0, .slice none 0 0] ∧ Fr (At b) w W ∧ Rep W (fun k => w.heap.size < k ∧ k < w1.heap.size) (.slice A a.subs.length cap) (.sl 28 a.subs.length (encNs a.subs)) ∧ Blk W w1.heap.size 28 (nodeA a A cap))
    ⟨(hP2.drewN nn).setAt (by first | exact Hai.out | rfl | omega), (hB2.drewN nn).far (p := ⟨b, 1, none⟩) (by show w.heap.size ≠ b; omega) _, (hF2.drewN nn).setB 1 _, (hrep2.drewN nn).set (p := ⟨b, 1, none⟩) (fun k hk => by show k ≠ b; omega) _, (hW2.drewN nn).far (p := ⟨b, 1, none⟩) (by show w1.heap.size ≠ b; omega) _⟩ ?_
  clear h00 h1 h2 h3 f1 f2 f3 hP2 hB2 hF2 hrep2 hW2 hfW2
  rintro W3 ⟨hP3, hB3, hF3, hrep3, hA3⟩
  have hg3 := hA3.lt
  go_upto_region 7 with ((with_reducible refine at_load 28 ?_); refine wpList_load_blk (w := W3) (cs := nodeA a A cap) rfl rfl rfl hA3 Try.underlying28 rfl infoNode ?_; unfold nodeA)
  refine wp_world (fun W => It w W b s (j + 1 : Nat) (-1) op a A cap W3.heap.size (W3.heap.size + 1) 0 (-1))
    ⟨(hP3.alloc _).alloc _, (hB3.alloc _).alloc _, by have := Blk.new (W3.alloc (.cells (nodeA a A cap) 28)) 28 (lit5 W3.heap.size 0 (-1)); rw [World.size_alloc] at this; exact this, (Blk.new W3 28 (nodeA a A cap)).alloc _, ((hrep3.alloc _).alloc _).sub (fun k hk _ => ⟨hk.1, by omega⟩), (hF3.alloc _).alloc _, by omega, by omega, hbw⟩ ?_
  clear hP3 hB3 hF3 hrep3 hA3
  intro W5 hIt
  generalize W3.heap.size = gs at hIt ⊢
  generalize Value.agg #[Value.int IntKind.i64 a.kind, Value.int IntKind.u64 (wd a.set 0), Value.int IntKind.u64 (wd a.set 1), Value.int IntKind.u64 (wd a.set 2), Value.int IntKind.u64 (wd a.set 3), Value.int IntKind.i64 a.mn, Value.int IntKind.i64 a.mx, Value.slice A a.subs.length cap] = junk
  obtain ⟨h00, h1, h2, f1, h5, h6, f5, f6⟩ := hIt.cells
  have hIt2 := hIt.setMn 1
  go_wp2_with (first | ((with_reducible refine at_load 28 ?_); refine wpList_load_blk (cs := lit5 gs 1 (-1)) rfl rfl rfl hIt2.h5 Try.underlying28 rfl infoNode ?_) | ((with_reducible refine at_store 28 ?_); refine wpList_store_blk (cs := lit5 gs 1 (-1)) rfl rfl rfl rfl hIt2.hb rfl infoNode (lit5_one _ _ _) ?_; intro W9 hW9 hfW9 _; obtain ⟨hN9, hP9, hF9⟩ := hIt2.fin hfW9))
  refine bodyPost_blk rfl rfl hW9 Try.underlying28 rfl infoNode rfl ?_
  exact ⟨⟨_, rfl, hN9⟩, hP9, hlt, hF9⟩
set_option maxHeartbeats 1600000 in
theorem pitem_63 (Hs : Hid (s.size < 1048576)) (Hr : Hid (Ps w b s i (-1) op)) (a : Nd) (j : Nat) (c0 : Int) (Hc0 : Hid (nx s j = c0)) (hc : c0 = 63)
    (Hat : Hid (∀ W, Ps W b s i (-1) op → Calls Try.prog 35 #[.pointer (some ⟨b, 0, none⟩)] W (OutP (NewN W) W b s op (.ok a j)))) :
    Calls Try.prog 32 #[.pointer (some ⟨b, 0, none⟩)] w (OutP (NewN w) w b s op (.ok (.mk 5 0 0 1 [a]) (j + 1))) := by
  have hbw := Hr.out.lt
  have hB0 := Blk.new w 28 #[.int .i64 0, .int .u64 0, .int .u64 0, .int .u64 0, .int .u64 0, .int .i64 0, .int .i64 0, .slice none 0 0]
  have hF0 : Fr (At b) w _ := (Fr.refl (At b) w).alloc (.cells #[.int .i64 0, .int .u64 0, .int .u64 0, .int .u64 0, .int .u64 0, .int .i64 0, .int .i64 0, .slice none 0 0] 28)
  have hr0 := Hr.out.alloc (.cells #[.int .i64 0, .int .u64 0, .int .u64 0, .int .u64 0, .int .u64 0, .int .i64 0, .int .i64 0, .slice none 0 0] 28)
  have hsz := Hs.out
  have hI := fun W => in_c ⟨#[42, 43, 63, 123]⟩ c0 W (by decide)
  rw [in4, hc, show ((42 : Int) == 63 || (43 : Int) == 63 || (63 : Int) == 63 || (123 : Int) == 63) = true by decide] at hI
  rw [← hc] at hI
  have e1 : (c0 == 43) = false := by simp [hc]
  have e2 : (c0 == 63) = true := by simp [hc]
  have e3 : (c0 == 123) = false := by simp [hc]
  have hlt : j < s.size := nx_nonneg (by rw [Hc0.out]; omega)
  have hai : wrap64 ((j : Int) + 1) = ((j + 1 : Nat) : Int) := by unfold wrap64; omega
  have Hai := hid hai
  clear hai hc
  go_enter Try.func32, Try.ntmps32
  go_wp2_with fail
  refine (Hat.out _ hr0).mono ?_
  rintro e w1 ⟨⟨v, rfl, A, cap, rfl, hrep⟩, hP1, hj1, hf1⟩
  have hB1 := hf1.blk hB0 (by show ¬ w.heap.size = b; omega)
  have hF1 := Fr.trans hF0 hf1
  have hg1 := hB1.lt
  have hrep1 := hrep.sub (S' := fun k => w.heap.size < k ∧ k < w1.heap.size) (fun k hk hl => ⟨by rw [World.size_alloc] at hk; omega, hl⟩)
  clear hB0 hF0 hr0 hf1 hrep
  go_wp2_with ((with_reducible refine at_store 28 ?_); refine wpList_store_blk (w := w1.alloc _) (cs := nodeA a A cap) rfl rfl rfl rfl (Blk.new _ _ _) rfl infoNode (nodeA_one _ _ _) ?_; intro W2 hW2 hfW2 hsz2; have hP2 := (hP1.alloc (.cells #[.int .i64 0, .int .u64 0, .int .u64 0, .int .u64 0, .int .u64 0, .int .i64 0, .int .i64 0, .slice none 0 0] 28)).fr hfW2 (by show ¬ b = w1.heap.size; omega); have hB2 := hfW2.blk (hB1.alloc (.cells #[.int .i64 0, .int .u64 0, .int .u64 0, .int .u64 0, .int .u64 0, .int .i64 0, .int .i64 0, .slice none 0 0] 28)) (by show ¬ w.heap.size = w1.heap.size; omega); have hF2 := (hF1.alloc (.cells #[.int .i64 0, .int .u64 0, .int .u64 0, .int .u64 0, .int .u64 0, .int .i64 0, .int .i64 0, .slice none 0 0] 28)).callAt hfW2 (by omega); have hrep2 := (hrep1.alloc (.cells #[.int .i64 0, .int .u64 0, .int .u64 0, .int .u64 0, .int .u64 0, .int .i64 0, .int .i64 0, .slice none 0 0] 28)).fr hfW2 (S' := fun k => w.heap.size < k ∧ k < w1.heap.size) (fun k hk hl => ⟨by show ¬ k = w1.heap.size; omega, hk⟩); obtain ⟨h00, h1, h2, h3, f1, f2, f3⟩ := hP2.cells)
  refine (pnext_a b s j op _ hP2).mono ?_
  rintro e wn ⟨rfl, nn, rfl⟩
  rw [Hc0.out]
  clear hP1 hB1 hF1 hrep1
  go_upto_region 6 with (go_at_call 36; refine (hI _).mono ?_; rintro e w3 ⟨rfl, rfl⟩)
  refine wp_world (fun W => Ps W b s (j + 1 : Nat) (-1) op ∧ Blk W w.heap.size 28 #[.int .i64 0, .int .u64 0, .int .u64 0, .int .u64 0, .int .u64 0, .int .i64 0, .int .i64 0, .slice none 0 0] ∧ Fr (At b) w W ∧ Rep W (fun k => w.heap.size < k ∧ k < w1.heap.size) (.slice A a.subs.length cap) (.sl 28 a.subs.length (encNs a.subs)) ∧ Blk W w1.heap.size 28 (nodeA a A cap))
    ⟨(hP2.drewN nn).setAt (by first | exact Hai.out | rfl | omega), (hB2.drewN nn).far (p := ⟨b, 1, none⟩) (by show w.heap.size ≠ b; omega) _, (hF2.drewN nn).setB 1 _, (hrep2.drewN nn).set (p := ⟨b, 1, none⟩) (fun k hk => by show k ≠ b; omega) _, (hW2.drewN nn).far (p := ⟨b, 1, none⟩) (by show w1.heap.size ≠ b; omega) _⟩ ?_
  clear h00 h1 h2 h3 f1 f2 f3 hP2 hB2 hF2 hrep2 hW2 hfW2
  rintro W3 ⟨hP3, hB3, hF3, hrep3, hA3⟩
  have hg3 := hA3.lt
  go_upto_region 7 with ((with_reducible refine at_load 28 ?_); refine wpList_load_blk (w := W3) (cs := nodeA a A cap) rfl rfl rfl hA3 Try.underlying28 rfl infoNode ?_; unfold nodeA)
  refine wp_world (fun W => It w W b s (j + 1 : Nat) (-1) op a A cap W3.heap.size (W3.heap.size + 1) 0 (-1))
    ⟨(hP3.alloc _).alloc _, (hB3.alloc _).alloc _, by have := Blk.new (W3.alloc (.cells (nodeA a A cap) 28)) 28 (lit5 W3.heap.size 0 (-1)); rw [World.size_alloc] at this; exact this, (Blk.new W3 28 (nodeA a A cap)).alloc _, ((hrep3.alloc _).alloc _).sub (fun k hk _ => ⟨hk.1, by omega⟩), (hF3.alloc _).alloc _, by omega, by omega, hbw⟩ ?_
  clear hP3 hB3 hF3 hrep3 hA3
  intro W5 hIt
  generalize W3.heap.size = gs at hIt ⊢
  generalize Value.agg #[Value.int IntKind.i64 a.kind, Value.int IntKind.u64 (wd a.set 0), Value.int IntKind.u64 (wd a.set 1), Value.int IntKind.u64 (wd a.set 2), Value.int IntKind.u64 (wd a.set 3), Value.int IntKind.i64 a.mn, Value.int IntKind.i64 a.mx, Value.slice A a.subs.length cap] = junk
  obtain ⟨h00, h1, h2, f1, h5, h6, f5, f6⟩ := hIt.cells
  have hIt2 := hIt.setMx 1
  go_wp2_with (first | ((with_reducible refine at_load 28 ?_); refine wpList_load_blk (cs := lit5 gs 0 1) rfl rfl rfl hIt2.h5 Try.underlying28 rfl infoNode ?_) | ((with_reducible refine at_store 28 ?_); refine wpList_store_blk (cs := lit5 gs 0 1) rfl rfl rfl rfl hIt2.hb rfl infoNode (lit5_one _ _ _) ?_; intro W9 hW9 hfW9 _; obtain ⟨hN9, hP9, hF9⟩ := hIt2.fin hfW9))
  refine bodyPost_blk rfl rfl hW9 Try.underlying28 rfl infoNode rfl ?_
  exact ⟨⟨_, rfl, hN9⟩, hP9, hlt, hF9⟩
end
end Go.Proofs.Ytcphepjfnnbonaa
