/- The walk of sieveref07's parser: atom, a bracket. Condition: the text has fewer than 2^20 bytes, the place is within it. -/
import Derived.Test.YtcphepjfnnbonaaPf7
namespace Go.Proofs.Ytcphepjfnnbonaa
set_option linter.unusedVariables false
set_option linter.unusedSimpArgs false
open Go Go.RowKit

section
variable (b : Nat) (s : ByteArray) (i op : Nat) (w : World)
set_option maxHeartbeats 3200000 in
theorem patom_alt (Hs : Hid (s.size < 1048576)) (Hr : Hid (Ps w b s i (-1) op)) (Hi : Hid (i ≤ s.size)) (c0 : Int) (Hc0 : Hid (nx s i = c0)) (h40 : c0 = 40) (alt : Nat → R Nd) (hop : op < 12) (hgo : alt (i + 1) ≠ .out)
    (Halt : Hid (∀ (i b : Nat) (w : World), Ps w b s i (-1) (op + 1) → i ≤ s.size → alt i ≠ .out → Calls Try.prog 21 #[.pointer (some ⟨b, 0, none⟩)] w (OutP (NewN w) w b s (op + 1) (alt i)))) :
    Calls Try.prog 35 #[.pointer (some ⟨b, 0, none⟩)] w (OutP (NewN w) w b s op ((alt (i + 1)).bind fun n j => (Rx.must s 41 j).bind fun _ k => .ok n k)) := by
  have hbw := Hr.out.lt
  have hlt : i < s.size := nx_nonneg (by rw [Hc0.out]; omega)
  have hN := pnext_a b s i op (w.alloc (.cells #[.int .i64 0, .int .u64 0, .int .u64 0, .int .u64 0, .int .u64 0, .int .i64 0, .int .i64 0, .slice none 0 0] 28)) (Hr.out.alloc _)
  rw [Hc0.out] at hN
  have hB0 := Blk.new w 28 #[.int .i64 0, .int .u64 0, .int .u64 0, .int .u64 0, .int .u64 0, .int .i64 0, .int .i64 0, .slice none 0 0]
  have hF0 : Fr (At b) w _ := (Fr.refl (At b) w).alloc (.cells #[.int .i64 0, .int .u64 0, .int .u64 0, .int .u64 0, .int .u64 0, .int .i64 0, .int .i64 0, .slice none 0 0] 28)
  have hr0 := Hr.out.alloc (.cells #[.int .i64 0, .int .u64 0, .int .u64 0, .int .u64 0, .int .u64 0, .int .i64 0, .int .i64 0, .slice none 0 0] 28)
  obtain ⟨h00, h1, h2, h3, f1, f2, f3⟩ := hr0.cells
  have hsz := Hs.out
  have hq : (c0 == 40) = true := by simp [h40]
  have hq2 : ((op : Int) == 12) = false := by simp; omega
  have hai : wrap64 ((i : Int) + 1) = ((i + 1 : Nat) : Int) := by unfold wrap64; omega
  have Hai := hid hai
  have hA := fun (W : World) (h : Ps W b s (i + 1 : Nat) (-1) (op + 1)) => Halt.out (i + 1) b W h (by omega) hgo
  clear h40 hai
  cases hc : alt (i + 1) with
  | out => exact absurd hc hgo
  | bad k =>
    rw [hc] at hA
    clear hc
    go_enter Try.func35, Try.ntmps35
    go_wp2_with (go_at_call 28; refine hN.mono ?_; rintro e wn ⟨rfl, nn, rfl⟩)
    have hP1 := (((hr0.drewN nn).setAt (y := (i : Int) + 1) (z := ((i + 1 : Nat) : Int)) (by first | exact Hai.out | rfl | omega)).setOp (y := (op : Int) + 1) (j := op + 1) (by omega))
    have hF1 := ((hF0.drewN nn).setB 1 (.int .i64 ((i : Int) + 1))).setB 3 (.int .i64 ((op : Int) + 1))
    have hB1 := ((hB0.drewN nn).far (p := ⟨b, 1, none⟩) (by show w.heap.size ≠ b; omega) (.int .i64 ((i : Int) + 1))).far (p := ⟨b, 3, none⟩) (by show w.heap.size ≠ b; omega) (.int .i64 ((op : Int) + 1))
    clear hr0 hF0 hB0 h00 h1 h2 h3 f1 f2 f3
    refine calls_world (fun W => Ps W b s (i + 1 : Nat) (-1) (op + 1) ∧ Fr (At b) w W ∧ Blk W w.heap.size 28 #[.int .i64 0, .int .u64 0, .int .u64 0, .int .u64 0, .int .u64 0, .int .i64 0, .int .i64 0, .slice none 0 0]) ⟨hP1, hF1, hB1⟩ ?_
    clear hP1 hF1 hB1 hN
    rintro W1 ⟨hP1, hF1, hB1⟩
    refine (hA _ hP1).mono ?_
    rintro e w3 ⟨⟨v, n, rfl, A, cap, rfl, hrep⟩, ⟨x3, hP3⟩, hk3, hf3⟩
    have hg1 := hB1.lt
    have hb1 := hP1.lt
    have hs3 : W1.heap.size ≤ w3.heap.size := hf3.size
    have hB3 := hf3.blk hB1 (by show ¬ w.heap.size = b; omega)
    have hF3 := Fr.trans hF1 hf3
    have hrep3 := hrep.sub (S' := fun k => W1.heap.size ≤ k ∧ k < w3.heap.size) (fun k hk hl => ⟨hk, hl⟩)
    clear hP1 hF1 hB1 hA hrep
    go_wp2_with ((with_reducible refine at_store 28 ?_); refine wpList_store_blk (w := w3.alloc _) (cs := nodeA n A cap) rfl rfl rfl rfl (Blk.new _ _ _) rfl infoNode (nodeA_one _ _ _) ?_; intro W4 hW4 hfW4 hsz4; have hP4 := (hP3.alloc (.cells #[.int .i64 0, .int .u64 0, .int .u64 0, .int .u64 0, .int .u64 0, .int .i64 0, .int .i64 0, .slice none 0 0] 28)).fr hfW4 (by show ¬ b = w3.heap.size; omega); have hB4 := hfW4.blk (hB3.alloc (.cells #[.int .i64 0, .int .u64 0, .int .u64 0, .int .u64 0, .int .u64 0, .int .i64 0, .int .i64 0, .slice none 0 0] 28)) (by show ¬ w.heap.size = w3.heap.size; omega); have hF4 := (hF3.alloc (.cells #[.int .i64 0, .int .u64 0, .int .u64 0, .int .u64 0, .int .u64 0, .int .i64 0, .int .i64 0, .slice none 0 0] 28)).callAt hfW4 (by omega); have hrep4 := (hrep3.alloc (.cells #[.int .i64 0, .int .u64 0, .int .u64 0, .int .u64 0, .int .u64 0, .int .i64 0, .int .i64 0, .slice none 0 0] 28)).fr hfW4 (S' := fun k => W1.heap.size ≤ k ∧ k < w3.heap.size) (fun k hk hl => ⟨by show ¬ k = w3.heap.size; omega, hk⟩); obtain ⟨h00, h1, h2, h3, f1, f2, f3⟩ := hP4.cells)
    have hP5 := hP4.setOp (y := (op : Int)) (j := op) rfl
    have hB5 := hB4.far (p := ⟨b, 3, none⟩) (by show w.heap.size ≠ b; omega) (.int .i64 (op : Int))
    have hW5 := hW4.far (p := ⟨b, 3, none⟩) (by show w3.heap.size ≠ b; omega) (.int .i64 (op : Int))
    have hF5 := hF4.setB 3 (.int .i64 (op : Int))
    have hrep5 := hrep4.set (p := ⟨b, 3, none⟩) (fun k hk => by show k ≠ b; omega) (.int .i64 (op : Int))
    clear h00 h1 h2 h3 f1 f2 f3 hP4 hB4 hW4 hF4 hrep4 hrep3
    refine (pmust_d b s op _ 41 _ _ hP5 (by omega)).mono ?_
    rintro e w6 ⟨rfl, ⟨x6, hP6⟩, hf6⟩
    have hB6 := hf6.blk hB5 (by show ¬ w.heap.size = b; omega)
    have hW6 := hf6.blk hW5 (by show ¬ w3.heap.size = b; omega)
    have hF6 := Fr.trans hF5 hf6
    have hrep6 := hrep5.fr hf6 (S' := fun k => W1.heap.size ≤ k ∧ k < w3.heap.size) (fun k hk hl => ⟨by show ¬ k = b; omega, hk⟩)
    clear hB5 hW5 hF5 hrep5
    go_wp2_with (first | ((with_reducible refine at_load 28 ?_); refine wpList_load_blk (cs := nodeA n A cap) rfl rfl rfl hW6 Try.underlying28 rfl infoNode ?_) |
      ((with_reducible refine at_store 28 ?_); refine wpList_store_blk (cs := nodeA n A cap) rfl rfl rfl rfl hB6 rfl infoNode (nodeA_one _ _ _) ?_; intro W7 hW7 hfW7 _))
    refine bodyPost_blk rfl rfl hW7 Try.underlying28 rfl infoNode rfl ?_
    have hN7 : NewN w W7 (.agg (nodeA n A cap)) n := ⟨A, cap, rfl, hrep6.fr hfW7 (fun k hk hl => ⟨by show ¬ k = w.heap.size; omega, by show w.heap.size ≤ k; omega⟩)⟩
    have hP7 := hP6.fr hfW7 (by show ¬ b = w.heap.size; omega)
    have hF7 := hF6.callAt hfW7 (Nat.le_refl _)
    exact ⟨⟨_, _, rfl, hN7⟩, ⟨_, hP7⟩, hk3, hF7⟩
  | ok n j =>
    rw [hc] at hA
    clear hc
    show Calls _ _ _ w (OutP (NewN w) w b s op ((Rx.must s 41 j).bind fun _ k => .ok n k))
    have hM := fun (W : World) (hj : j ≤ s.size) (h : Ps W b s j (-1) op) => pmust_a b s j op W 41 (by omega) h (by omega) hj
    cases hm : Rx.must s 41 j with
    | out => unfold Rx.must at hm; split at hm <;> cases hm
    | bad k =>
      rw [hm] at hM
      have hM := hid hM
      clear hm
      go_enter Try.func35, Try.ntmps35
      go_wp2_with (go_at_call 28; refine hN.mono ?_; rintro e wn ⟨rfl, nn, rfl⟩)
      have hP1 := (((hr0.drewN nn).setAt (y := (i : Int) + 1) (z := ((i + 1 : Nat) : Int)) (by first | exact Hai.out | rfl | omega)).setOp (y := (op : Int) + 1) (j := op + 1) (by omega))
      have hF1 := ((hF0.drewN nn).setB 1 (.int .i64 ((i : Int) + 1))).setB 3 (.int .i64 ((op : Int) + 1))
      have hB1 := ((hB0.drewN nn).far (p := ⟨b, 1, none⟩) (by show w.heap.size ≠ b; omega) (.int .i64 ((i : Int) + 1))).far (p := ⟨b, 3, none⟩) (by show w.heap.size ≠ b; omega) (.int .i64 ((op : Int) + 1))
      clear hr0 hF0 hB0 h00 h1 h2 h3 f1 f2 f3
      refine calls_world (fun W => Ps W b s (i + 1 : Nat) (-1) (op + 1) ∧ Fr (At b) w W ∧ Blk W w.heap.size 28 #[.int .i64 0, .int .u64 0, .int .u64 0, .int .u64 0, .int .u64 0, .int .i64 0, .int .i64 0, .slice none 0 0]) ⟨hP1, hF1, hB1⟩ ?_
      clear hP1 hF1 hB1 hN
      rintro W1 ⟨hP1, hF1, hB1⟩
      refine (hA _ hP1).mono ?_
      rintro e w3 ⟨⟨v, rfl, A, cap, rfl, hrep⟩, hP3, hj3, hf3⟩
      have hg1 := hB1.lt
      have hb1 := hP1.lt
      have hs3 : W1.heap.size ≤ w3.heap.size := hf3.size
      have hB3 := hf3.blk hB1 (by show ¬ w.heap.size = b; omega)
      have hF3 := Fr.trans hF1 hf3
      have hrep3 := hrep.sub (S' := fun k => W1.heap.size ≤ k ∧ k < w3.heap.size) (fun k hk hl => ⟨hk, hl⟩)
      clear hP1 hF1 hB1 hA hrep
      go_wp2_with ((with_reducible refine at_store 28 ?_); refine wpList_store_blk (w := w3.alloc _) (cs := nodeA n A cap) rfl rfl rfl rfl (Blk.new _ _ _) rfl infoNode (nodeA_one _ _ _) ?_; intro W4 hW4 hfW4 hsz4; have hP4 := (hP3.alloc (.cells #[.int .i64 0, .int .u64 0, .int .u64 0, .int .u64 0, .int .u64 0, .int .i64 0, .int .i64 0, .slice none 0 0] 28)).fr hfW4 (by show ¬ b = w3.heap.size; omega); have hB4 := hfW4.blk (hB3.alloc (.cells #[.int .i64 0, .int .u64 0, .int .u64 0, .int .u64 0, .int .u64 0, .int .i64 0, .int .i64 0, .slice none 0 0] 28)) (by show ¬ w.heap.size = w3.heap.size; omega); have hF4 := (hF3.alloc (.cells #[.int .i64 0, .int .u64 0, .int .u64 0, .int .u64 0, .int .u64 0, .int .i64 0, .int .i64 0, .slice none 0 0] 28)).callAt hfW4 (by omega); have hrep4 := (hrep3.alloc (.cells #[.int .i64 0, .int .u64 0, .int .u64 0, .int .u64 0, .int .u64 0, .int .i64 0, .int .i64 0, .slice none 0 0] 28)).fr hfW4 (S' := fun k => W1.heap.size ≤ k ∧ k < w3.heap.size) (fun k hk hl => ⟨by show ¬ k = w3.heap.size; omega, hk⟩); obtain ⟨h00, h1, h2, h3, f1, f2, f3⟩ := hP4.cells)
      have hP5 := hP4.setOp (y := (op : Int)) (j := op) rfl
      have hB5 := hB4.far (p := ⟨b, 3, none⟩) (by show w.heap.size ≠ b; omega) (.int .i64 (op : Int))
      have hW5 := hW4.far (p := ⟨b, 3, none⟩) (by show w3.heap.size ≠ b; omega) (.int .i64 (op : Int))
      have hF5 := hF4.setB 3 (.int .i64 (op : Int))
      have hrep5 := hrep4.set (p := ⟨b, 3, none⟩) (fun k hk => by show k ≠ b; omega) (.int .i64 (op : Int))
      clear h00 h1 h2 h3 f1 f2 f3 hP4 hB4 hW4 hF4 hrep4 hrep3
      refine (hM.out _ hj3 hP5).mono ?_
      rintro e w6 ⟨⟨v, u, rfl, rfl⟩, ⟨x6, hP6⟩, hk6, hf6⟩
      have hB6 := hf6.blk hB5 (by show ¬ w.heap.size = b; omega)
      have hW6 := hf6.blk hW5 (by show ¬ w3.heap.size = b; omega)
      have hF6 := Fr.trans hF5 hf6
      have hrep6 := hrep5.fr hf6 (S' := fun k => W1.heap.size ≤ k ∧ k < w3.heap.size) (fun k hk hl => ⟨by show ¬ k = b; omega, hk⟩)
      clear hB5 hW5 hF5 hrep5
      go_wp2_with (first | ((with_reducible refine at_load 28 ?_); refine wpList_load_blk (cs := nodeA n A cap) rfl rfl rfl hW6 Try.underlying28 rfl infoNode ?_) |
        ((with_reducible refine at_store 28 ?_); refine wpList_store_blk (cs := nodeA n A cap) rfl rfl rfl rfl hB6 rfl infoNode (nodeA_one _ _ _) ?_; intro W7 hW7 hfW7 _))
      refine bodyPost_blk rfl rfl hW7 Try.underlying28 rfl infoNode rfl ?_
      have hN7 : NewN w W7 (.agg (nodeA n A cap)) n := ⟨A, cap, rfl, hrep6.fr hfW7 (fun k hk hl => ⟨by show ¬ k = w.heap.size; omega, by show w.heap.size ≤ k; omega⟩)⟩
      have hP7 := hP6.fr hfW7 (by show ¬ b = w.heap.size; omega)
      have hF7 := hF6.callAt hfW7 (Nat.le_refl _)
      exact ⟨⟨_, _, rfl, hN7⟩, ⟨_, hP7⟩, hk6, hF7⟩
    | ok u j2 =>
      rw [hm] at hM
      have hM := hid hM
      clear hm
      go_enter Try.func35, Try.ntmps35
      go_wp2_with (go_at_call 28; refine hN.mono ?_; rintro e wn ⟨rfl, nn, rfl⟩)
      have hP1 := (((hr0.drewN nn).setAt (y := (i : Int) + 1) (z := ((i + 1 : Nat) : Int)) (by first | exact Hai.out | rfl | omega)).setOp (y := (op : Int) + 1) (j := op + 1) (by omega))
      have hF1 := ((hF0.drewN nn).setB 1 (.int .i64 ((i : Int) + 1))).setB 3 (.int .i64 ((op : Int) + 1))
      have hB1 := ((hB0.drewN nn).far (p := ⟨b, 1, none⟩) (by show w.heap.size ≠ b; omega) (.int .i64 ((i : Int) + 1))).far (p := ⟨b, 3, none⟩) (by show w.heap.size ≠ b; omega) (.int .i64 ((op : Int) + 1))
      clear hr0 hF0 hB0 h00 h1 h2 h3 f1 f2 f3
      refine calls_world (fun W => Ps W b s (i + 1 : Nat) (-1) (op + 1) ∧ Fr (At b) w W ∧ Blk W w.heap.size 28 #[.int .i64 0, .int .u64 0, .int .u64 0, .int .u64 0, .int .u64 0, .int .i64 0, .int .i64 0, .slice none 0 0]) ⟨hP1, hF1, hB1⟩ ?_
      clear hP1 hF1 hB1 hN
      rintro W1 ⟨hP1, hF1, hB1⟩
      refine (hA _ hP1).mono ?_
      rintro e w3 ⟨⟨v, rfl, A, cap, rfl, hrep⟩, hP3, hj3, hf3⟩
      have hg1 := hB1.lt
      have hb1 := hP1.lt
      have hs3 : W1.heap.size ≤ w3.heap.size := hf3.size
      have hB3 := hf3.blk hB1 (by show ¬ w.heap.size = b; omega)
      have hF3 := Fr.trans hF1 hf3
      have hrep3 := hrep.sub (S' := fun k => W1.heap.size ≤ k ∧ k < w3.heap.size) (fun k hk hl => ⟨hk, hl⟩)
      clear hP1 hF1 hB1 hA hrep
      go_wp2_with ((with_reducible refine at_store 28 ?_); refine wpList_store_blk (w := w3.alloc _) (cs := nodeA n A cap) rfl rfl rfl rfl (Blk.new _ _ _) rfl infoNode (nodeA_one _ _ _) ?_; intro W4 hW4 hfW4 hsz4; have hP4 := (hP3.alloc (.cells #[.int .i64 0, .int .u64 0, .int .u64 0, .int .u64 0, .int .u64 0, .int .i64 0, .int .i64 0, .slice none 0 0] 28)).fr hfW4 (by show ¬ b = w3.heap.size; omega); have hB4 := hfW4.blk (hB3.alloc (.cells #[.int .i64 0, .int .u64 0, .int .u64 0, .int .u64 0, .int .u64 0, .int .i64 0, .int .i64 0, .slice none 0 0] 28)) (by show ¬ w.heap.size = w3.heap.size; omega); have hF4 := (hF3.alloc (.cells #[.int .i64 0, .int .u64 0, .int .u64 0, .int .u64 0, .int .u64 0, .int .i64 0, .int .i64 0, .slice none 0 0] 28)).callAt hfW4 (by omega); have hrep4 := (hrep3.alloc (.cells #[.int .i64 0, .int .u64 0, .int .u64 0, .int .u64 0, .int .u64 0, .int .i64 0, .int .i64 0, .slice none 0 0] 28)).fr hfW4 (S' := fun k => W1.heap.size ≤ k ∧ k < w3.heap.size) (fun k hk hl => ⟨by show ¬ k = w3.heap.size; omega, hk⟩); obtain ⟨h00, h1, h2, h3, f1, f2, f3⟩ := hP4.cells)
      have hP5 := hP4.setOp (y := (op : Int)) (j := op) rfl
      have hB5 := hB4.far (p := ⟨b, 3, none⟩) (by show w.heap.size ≠ b; omega) (.int .i64 (op : Int))
      have hW5 := hW4.far (p := ⟨b, 3, none⟩) (by show w3.heap.size ≠ b; omega) (.int .i64 (op : Int))
      have hF5 := hF4.setB 3 (.int .i64 (op : Int))
      have hrep5 := hrep4.set (p := ⟨b, 3, none⟩) (fun k hk => by show k ≠ b; omega) (.int .i64 (op : Int))
      clear h00 h1 h2 h3 f1 f2 f3 hP4 hB4 hW4 hF4 hrep4 hrep3
      refine (hM.out _ hj3 hP5).mono ?_
      rintro e w6 ⟨⟨v, rfl, rfl⟩, hP6, hk6, hf6⟩
      have hB6 := hf6.blk hB5 (by show ¬ w.heap.size = b; omega)
      have hW6 := hf6.blk hW5 (by show ¬ w3.heap.size = b; omega)
      have hF6 := Fr.trans hF5 hf6
      have hrep6 := hrep5.fr hf6 (S' := fun k => W1.heap.size ≤ k ∧ k < w3.heap.size) (fun k hk hl => ⟨by show ¬ k = b; omega, hk⟩)
      clear hB5 hW5 hF5 hrep5
      go_wp2_with (first | ((with_reducible refine at_load 28 ?_); refine wpList_load_blk (cs := nodeA n A cap) rfl rfl rfl hW6 Try.underlying28 rfl infoNode ?_) |
        ((with_reducible refine at_store 28 ?_); refine wpList_store_blk (cs := nodeA n A cap) rfl rfl rfl rfl hB6 rfl infoNode (nodeA_one _ _ _) ?_; intro W7 hW7 hfW7 _))
      refine bodyPost_blk rfl rfl hW7 Try.underlying28 rfl infoNode rfl ?_
      have hN7 : NewN w W7 (.agg (nodeA n A cap)) n := ⟨A, cap, rfl, hrep6.fr hfW7 (fun k hk hl => ⟨by show ¬ k = w.heap.size; omega, by show w.heap.size ≤ k; omega⟩)⟩
      have hP7 := hP6.fr hfW7 (by show ¬ b = w.heap.size; omega)
      have hF7 := hF6.callAt hfW7 (Nat.le_refl _)
      exact ⟨⟨_, rfl, hN7⟩, hP7, hk6, hF7⟩
theorem patom_a (sub : Option (Nat → R Nd)) (hs : s.size < 1048576) (hr : Ps w b s i (-1) op) (hi : i ≤ s.size) (hsub : PAltSpec s op sub) (hgo : Rx.atom s sub i ≠ .out) :
    Calls Try.prog 35 #[.pointer (some ⟨b, 0, none⟩)] w (OutP (NewN w) w b s op (Rx.atom s sub i)) := by
  unfold Rx.atom at hgo ⊢
  by_cases h40 : nx s i = 40
  · rw [if_pos h40] at hgo ⊢
    cases sub with
    | none => exact patom_deep b s i op w hs hr hi _ rfl h40 hsub
    | some alt =>
      refine patom_alt b s i op w hs hr hi _ rfl h40 alt hsub.1 (fun hc => ?_) hsub.2
      simp only [] at hgo
      rw [hc] at hgo
      exact hgo rfl
  · rw [if_neg h40] at hgo ⊢
    split
    · exact patom_dot b s i op w hs hr _ rfl (by assumption)
    split
    · exact patom_cls b s i op w hs hr hi _ rfl (by assumption)
    · exact patom_one b s i op w hs hr hi _ rfl h40 (by assumption) (by assumption)
end
end Go.Proofs.Ytcphepjfnnbonaa
