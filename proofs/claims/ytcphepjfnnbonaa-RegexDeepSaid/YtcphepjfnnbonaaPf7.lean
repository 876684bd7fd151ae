/- The walks of sieveref07's parser: atom, a class, a byte. Condition: the text has fewer than 2^20 bytes, the place is within it. -/
import Derived.Test.YtcphepjfnnbonaaPf6
namespace Go.Proofs.Ytcphepjfnnbonaa
set_option linter.unusedVariables false
set_option linter.unusedSimpArgs false
open Go Go.RowKit

theorem ints_one (w : World) (n : Nat) : IntsIn (w.alloc (.cells #[.int .i64 n] 3)) (fun _ => True) (.slice (some ⟨w.heap.size, 0, none⟩) 1 1) [n] :=
  .row (Nat.le_refl _) (by decide) trivial (Blk.new w 3 #[.int .i64 n]) rfl (.cons (.v rfl) .nil)
theorem bits_one (n : Nat) : bitsOf [n] = oneS (n : Int) := by simp [bitsOf, oneS]
section
variable (b : Nat) (s : ByteArray) (i op : Nat) (w : World)
set_option maxHeartbeats 1600000 in
theorem patom_cls (Hs : Hid (s.size < 1048576)) (Hr : Hid (Ps w b s i (-1) op)) (Hi : Hid (i ≤ s.size)) (c0 : Int) (Hc0 : Hid (nx s i = c0)) (h91 : c0 = 91) :
    Calls Try.prog 35 #[.pointer (some ⟨b, 0, none⟩)] w (OutP (NewN w) w b s op ((Rx.cls s (i + 1)).bind fun a j => .ok (.mk 2 a 0 0 []) j)) := by
  have hlt : i < s.size := nx_nonneg (by rw [Hc0.out]; omega)
  have hbw := Hr.out.lt
  have hN := pnext_a b s i op (w.alloc (.cells #[.int .i64 0, .int .u64 0, .int .u64 0, .int .u64 0, .int .u64 0, .int .i64 0, .int .i64 0, .slice none 0 0] 28)) (Hr.out.alloc _)
  rw [Hc0.out] at hN
  have hB0 := Blk.new w 28 #[.int .i64 0, .int .u64 0, .int .u64 0, .int .u64 0, .int .u64 0, .int .i64 0, .int .i64 0, .slice none 0 0]
  have hF0 : Fr (At b) w _ := (Fr.refl (At b) w).alloc (.cells #[.int .i64 0, .int .u64 0, .int .u64 0, .int .u64 0, .int .u64 0, .int .i64 0, .int .i64 0, .slice none 0 0] 28)
  have hr0 := Hr.out.alloc (.cells #[.int .i64 0, .int .u64 0, .int .u64 0, .int .u64 0, .int .u64 0, .int .i64 0, .int .i64 0, .slice none 0 0] 28)
  obtain ⟨h00, h1, h2, h3, f1, f2, f3⟩ := hr0.cells
  have hsz := Hs.out
  have hq : (c0 == 40) = false := by simp [h91]
  have hq2 : (c0 == 46) = false := by simp [h91]
  have hq3 : (c0 == 91) = true := by simp [h91]
  have hai : wrap64 ((i : Int) + 1) = ((i + 1 : Nat) : Int) := by unfold wrap64; omega
  have Hai := hid hai
  have hC := fun (W : World) (h : Ps W b s (i + 1 : Nat) (-1) op) => pclass_a b s (i + 1) op W hsz h (by omega)
  clear h91 hai
  cases hc : Rx.cls s (i + 1) with
  | out => exact absurd hc (cls_ne _ _ (by omega))
  | bad k =>
    rw [hc] at hC
    clear hsz hc
    go_enter Try.func35, Try.ntmps35
    go_wp2_with (first | (go_at_call 28; refine hN.mono ?_; rintro e wn ⟨rfl, nn, rfl⟩) |
      (go_at_call 45; refine (hC _ ((hr0.drewN nn).setAt (z := ((i + 1 : Nat) : Int)) (by first | exact Hai.out | rfl | omega))).mono ?_; rintro e w3 ⟨⟨v, a, rfl, rfl⟩, ⟨x3, hr3⟩, hk3, hf3⟩; have hB3 := hf3.blk ((hB0.drewN nn).far (p := ⟨b, 1, none⟩) (by show w.heap.size ≠ b; omega) _) (by show ¬ w.heap.size = b; omega); have hF3 := Fr.trans ((hF0.drewN nn).setB 1 _) hf3) |
      ((with_reducible refine at_store 28 ?_); refine wpList_store_blk (w := w3) (cs := nodeA (.mk 2 a 0 0 []) none 0) rfl rfl rfl rfl hB3 rfl infoNode (nodeA_one _ _ _) ?_; intro W hW hfW _))
    refine bodyPost_blk rfl rfl hW Try.underlying28 rfl infoNode rfl ?_
    exact ⟨⟨_, _, rfl, leaf_new _ _ a⟩, ⟨_, hr3.fr hfW (by show ¬ b = w.heap.size; omega)⟩, hk3, hF3.callAt hfW (Nat.le_refl _)⟩
  | ok a j =>
    rw [hc] at hC
    clear hsz hc
    go_enter Try.func35, Try.ntmps35
    go_wp2_with (first | (go_at_call 28; refine hN.mono ?_; rintro e wn ⟨rfl, nn, rfl⟩) |
      (go_at_call 45; refine (hC _ ((hr0.drewN nn).setAt (z := ((i + 1 : Nat) : Int)) (by first | exact Hai.out | rfl | omega))).mono ?_; rintro e w3 ⟨⟨v, rfl, rfl⟩, hr3, hk3, hf3⟩; have hB3 := hf3.blk ((hB0.drewN nn).far (p := ⟨b, 1, none⟩) (by show w.heap.size ≠ b; omega) _) (by show ¬ w.heap.size = b; omega); have hF3 := Fr.trans ((hF0.drewN nn).setB 1 _) hf3) |
      ((with_reducible refine at_store 28 ?_); refine wpList_store_blk (w := w3) (cs := nodeA (.mk 2 a 0 0 []) none 0) rfl rfl rfl rfl hB3 rfl infoNode (nodeA_one _ _ _) ?_; intro W hW hfW _))
    refine bodyPost_blk rfl rfl hW Try.underlying28 rfl infoNode rfl ?_
    exact ⟨⟨_, rfl, leaf_new _ _ a⟩, hr3.fr hfW (by show ¬ b = w.heap.size; omega), hk3, hF3.callAt hfW (Nat.le_refl _)⟩
set_option maxHeartbeats 1600000 in
theorem patom_one (Hs : Hid (s.size < 1048576)) (Hr : Hid (Ps w b s i (-1) op)) (Hi : Hid (i ≤ s.size)) (c0 : Int) (Hc0 : Hid (nx s i = c0)) (h40 : c0 ≠ 40) (h46 : c0 ≠ 46) (h91 : c0 ≠ 91) :
    Calls Try.prog 35 #[.pointer (some ⟨b, 0, none⟩)] w (OutP (NewN w) w b s op ((Rx.one s i).bind fun b j => .ok (.mk 2 (oneS b) 0 0 []) j)) := by
  have hbw := Hr.out.lt
  have hN := pnext_a b s i op (w.alloc (.cells #[.int .i64 0, .int .u64 0, .int .u64 0, .int .u64 0, .int .u64 0, .int .i64 0, .int .i64 0, .slice none 0 0] 28)) (Hr.out.alloc _)
  rw [Hc0.out] at hN
  have hB0 := Blk.new w 28 #[.int .i64 0, .int .u64 0, .int .u64 0, .int .u64 0, .int .u64 0, .int .i64 0, .int .i64 0, .slice none 0 0]
  have hF0 : Fr (At b) w _ := (Fr.refl (At b) w).alloc (.cells #[.int .i64 0, .int .u64 0, .int .u64 0, .int .u64 0, .int .u64 0, .int .i64 0, .int .i64 0, .slice none 0 0] 28)
  have hr0 := Hr.out.alloc (.cells #[.int .i64 0, .int .u64 0, .int .u64 0, .int .u64 0, .int .u64 0, .int .i64 0, .int .i64 0, .slice none 0 0] 28)
  obtain ⟨h00, h1, h2, h3, f1, f2, f3⟩ := hr0.cells
  have hsz := Hs.out
  have hq : (c0 == 40) = false := by simp [h40]
  have hq2 : (c0 == 46) = false := by simp [h46]
  have hq3 : (c0 == 91) = false := by simp [h91]
  have hC := fun (W : World) (h : Ps W b s i (-1) op) => pone_a b s i op W (by omega) h Hi.out
  clear h40 h46 h91
  cases hc : Rx.one s i with
  | out => exact absurd hc (one_ne _ _)
  | bad k =>
    rw [hc] at hC
    clear hsz hc
    go_enter Try.func35, Try.ntmps35
    go_wp2_with (first | (go_at_call 28; refine hN.mono ?_; rintro e wn ⟨rfl, nn, rfl⟩) |
      (go_at_call 46; refine (hC _ (hr0.drewN nn)).mono ?_; rintro e w3 ⟨⟨v, a, rfl, rfl, ha0, ha1⟩, ⟨x3, hr3⟩, hk3, hf3⟩; obtain ⟨n, rfl⟩ := Int.eq_ofNat_of_zero_le ha0; have hB3 := hf3.blk (hB0.drewN nn) (by show ¬ w.heap.size = b; omega); have hF3 := Fr.trans (hF0.drewN nn) hf3) |
      (go_at_call 47; refine (set_c [n] _ _ _ (fun y hy => by obtain rfl : y = n := (by simpa using hy); omega) (ints_one w3 n)).mono ?_; rw [bits_one]; rintro e w4 ⟨rfl, hf4⟩; unfold setA; have hB4 := hf4.blk (hB3.alloc _) id; have hr4 := (hr3.alloc (.cells #[.int .i64 n] 3)).fr hf4 id; have hF4 := (hF3.alloc (.cells #[.int .i64 n] 3)).no hf4) |
      ((with_reducible refine at_store 28 ?_); refine wpList_store_blk (w := w4) (cs := nodeA (.mk 2 (oneS (n : Int)) 0 0 []) none 0) rfl rfl rfl rfl hB4 rfl infoNode (nodeA_one _ _ _) ?_; intro W hW hfW _))
    refine bodyPost_blk rfl rfl hW Try.underlying28 rfl infoNode rfl ?_
    exact ⟨⟨_, _, rfl, leaf_new _ _ _⟩, ⟨_, hr4.fr hfW (by show ¬ b = w.heap.size; omega)⟩, hk3, hF4.callAt hfW (Nat.le_refl _)⟩
  | ok a j =>
    rw [hc] at hC
    clear hsz hc
    go_enter Try.func35, Try.ntmps35
    go_wp2_with (first | (go_at_call 28; refine hN.mono ?_; rintro e wn ⟨rfl, nn, rfl⟩) |
      (go_at_call 46; refine (hC _ (hr0.drewN nn)).mono ?_; rintro e w3 ⟨⟨v, rfl, rfl, ha0, ha1⟩, hr3, hk3, hf3⟩; obtain ⟨n, rfl⟩ := Int.eq_ofNat_of_zero_le ha0; have hB3 := hf3.blk (hB0.drewN nn) (by show ¬ w.heap.size = b; omega); have hF3 := Fr.trans (hF0.drewN nn) hf3) |
      (go_at_call 47; refine (set_c [n] _ _ _ (fun y hy => by obtain rfl : y = n := (by simpa using hy); omega) (ints_one w3 n)).mono ?_; rw [bits_one]; rintro e w4 ⟨rfl, hf4⟩; unfold setA; have hB4 := hf4.blk (hB3.alloc _) id; have hr4 := (hr3.alloc (.cells #[.int .i64 n] 3)).fr hf4 id; have hF4 := (hF3.alloc (.cells #[.int .i64 n] 3)).no hf4) |
      ((with_reducible refine at_store 28 ?_); refine wpList_store_blk (w := w4) (cs := nodeA (.mk 2 (oneS (n : Int)) 0 0 []) none 0) rfl rfl rfl rfl hB4 rfl infoNode (nodeA_one _ _ _) ?_; intro W hW hfW _))
    refine bodyPost_blk rfl rfl hW Try.underlying28 rfl infoNode rfl ?_
    exact ⟨⟨_, rfl, leaf_new _ _ _⟩, hr4.fr hfW (by show ¬ b = w.heap.size; omega), hk3, hF4.callAt hfW (Nat.le_refl _)⟩
end
end Go.Proofs.Ytcphepjfnnbonaa
