/- The walks of sieveref07's parser: atom. Condition: the text has fewer than 2^20 bytes, the place is within it. -/
import Derived.Test.YtcphepjfnnbonaaPf5
namespace Go.Proofs.Ytcphepjfnnbonaa
set_option linter.unusedVariables false
set_option linter.unusedSimpArgs false
open Go Go.RowKit

/-- What is asked of the reader of choices, one bracket further in. -/
def PAltSpec (s : ByteArray) (op : Nat) : Option (Nat → R Nd) → Prop
  | none => op = 12
  | some alt => op < 12 ∧ ∀ (i b : Nat) (w : World), Ps w b s i (-1) (op + 1) → i ≤ s.size → alt i ≠ .out → Calls Try.prog 21 #[.pointer (some ⟨b, 0, none⟩)] w (OutP (NewN w) w b s (op + 1) (alt i))
theorem zn_node : (#[.int .i64 0, .int .u64 0, .int .u64 0, .int .u64 0, .int .u64 0, .int .i64 0, .int .i64 0, .slice none 0 0] : Array Value) = nodeA (.mk 0 0 0 0 []) none 0 := by simp [nodeA, wd_zero, Nd.kind, Nd.set, Nd.mn, Nd.mx, Nd.subs]
theorem zn_new (w W : World) : NewN w W (.agg #[.int .i64 0, .int .u64 0, .int .u64 0, .int .u64 0, .int .u64 0, .int .i64 0, .int .i64 0, .slice none 0 0]) (.mk 0 0 0 0 []) := by rw [zn_node]; exact NodeIn.leaf W _ 0 0 0 0
section
variable (b : Nat) (s : ByteArray) (i op : Nat) (w : World)
set_option maxHeartbeats 1600000 in
theorem patom_deep (Hs : Hid (s.size < 1048576)) (Hr : Hid (Ps w b s i (-1) op)) (Hi : Hid (i ≤ s.size)) (c0 : Int) (Hc0 : Hid (nx s i = c0)) (h40 : c0 = 40) (hop : op = 12) :
    Calls Try.prog 35 #[.pointer (some ⟨b, 0, none⟩)] w (OutP (NewN w) w b s op (.bad i)) := by
  have hbw := Hr.out.lt
  have hN := pnext_a b s i op (w.alloc (.cells #[.int .i64 0, .int .u64 0, .int .u64 0, .int .u64 0, .int .u64 0, .int .i64 0, .int .i64 0, .slice none 0 0] 28)) (Hr.out.alloc _)
  rw [Hc0.out] at hN
  have hB0 := Blk.new w 28 #[.int .i64 0, .int .u64 0, .int .u64 0, .int .u64 0, .int .u64 0, .int .i64 0, .int .i64 0, .slice none 0 0]
  have hF0 : Fr (At b) w _ := (Fr.refl (At b) w).alloc (.cells #[.int .i64 0, .int .u64 0, .int .u64 0, .int .u64 0, .int .u64 0, .int .i64 0, .int .i64 0, .slice none 0 0] 28)
  have hr0 := Hr.out.alloc (.cells #[.int .i64 0, .int .u64 0, .int .u64 0, .int .u64 0, .int .u64 0, .int .i64 0, .int .i64 0, .slice none 0 0] 28)
  obtain ⟨h00, h1, h2, h3, f1, f2, f3⟩ := hr0.cells
  have hq : (c0 == 40) = true := by simp [h40]
  have hq2 : ((op : Int) == 12) = true := by simp [hop]
  have Hop := hid hop
  clear h40 hop
  go_enter Try.func35, Try.ntmps35
  go_wp2_with (first | (go_at_call 28; refine hN.mono ?_; rintro e wn ⟨rfl, nn, rfl⟩) |
    (go_at_call 22; refine (pfail_a b s _ _ _ _ (hr0.drewN nn)).mono ?_; rintro e w3 ⟨rfl, hr3, hf3⟩; have hB3 := hf3.blk (hB0.drewN nn) (by show ¬ w.heap.size = b; omega)) |
    ((with_reducible refine at_store 28 ?_); refine wpList_store_blk (w := w3) (cs := #[.int .i64 0, .int .u64 0, .int .u64 0, .int .u64 0, .int .u64 0, .int .i64 0, .int .i64 0, .slice none 0 0]) rfl rfl rfl rfl hB3 rfl infoNode zn_one ?_; intro W hW hfW _))
  refine bodyPost_blk rfl rfl hW Try.underlying28 rfl infoNode rfl ?_
  exact ⟨⟨_, _, rfl, zn_new _ _⟩, ⟨_, hr3.fr hfW (by show ¬ b = w.heap.size; omega)⟩, Hi.out, (Fr.trans (hF0.drewN nn) hf3).callAt hfW (Nat.le_refl _)⟩
set_option maxHeartbeats 1600000 in
theorem patom_dot (Hs : Hid (s.size < 1048576)) (Hr : Hid (Ps w b s i (-1) op)) (c0 : Int) (Hc0 : Hid (nx s i = c0)) (h46 : c0 = 46) :
    Calls Try.prog 35 #[.pointer (some ⟨b, 0, none⟩)] w (OutP (NewN w) w b s op (.ok (.mk 2 (ofS 0 255) 0 0 []) (i + 1))) := by
  have hbw := Hr.out.lt
  have hlt : i < s.size := nx_nonneg (by rw [Hc0.out]; omega)
  have hN := pnext_a b s i op (w.alloc (.cells #[.int .i64 0, .int .u64 0, .int .u64 0, .int .u64 0, .int .u64 0, .int .i64 0, .int .i64 0, .slice none 0 0] 28)) (Hr.out.alloc _)
  rw [Hc0.out] at hN
  have hB0 := Blk.new w 28 #[.int .i64 0, .int .u64 0, .int .u64 0, .int .u64 0, .int .u64 0, .int .i64 0, .int .i64 0, .slice none 0 0]
  have hF0 : Fr (At b) w _ := (Fr.refl (At b) w).alloc (.cells #[.int .i64 0, .int .u64 0, .int .u64 0, .int .u64 0, .int .u64 0, .int .i64 0, .int .i64 0, .slice none 0 0] 28)
  have hr0 := Hr.out.alloc (.cells #[.int .i64 0, .int .u64 0, .int .u64 0, .int .u64 0, .int .u64 0, .int .i64 0, .int .i64 0, .slice none 0 0] 28)
  obtain ⟨h00, h1, h2, h3, f1, f2, f3⟩ := hr0.cells
  have hq : (c0 == 40) = false := by simp [h46]
  have hq2 : (c0 == 46) = true := by simp [h46]
  have hnot := fun W => not04_c 0 W
  rw [show notS 0 = ofS 0 255 by decide] at hnot
  have hsz := Hs.out
  have hai : wrap64 ((i : Int) + 1) = ((i + 1 : Nat) : Int) := by unfold wrap64; omega
  have Hai := hid hai
  clear h46 hai hsz
  go_enter Try.func35, Try.ntmps35
  go_wp2_with (first | (go_at_call 28; refine hN.mono ?_; rintro e wn ⟨rfl, nn, rfl⟩) |
    (go_at_call 44; refine (hnot _).mono ?_; rintro e w3 ⟨rfl, hf3⟩; unfold setA; have hB3 := hf3.blk ((hB0.drewN nn).far (p := ⟨b, 1, none⟩) (by show w.heap.size ≠ b; omega) _) id; have hr3 := Ps.fr ((hr0.drewN nn).setAt (z := ((i + 1 : Nat) : Int)) (by first | exact Hai.out | rfl | omega)) hf3 id; have hF3 := Fr.no ((hF0.drewN nn).setB 1 _) hf3) |
    ((with_reducible refine at_store 28 ?_); refine wpList_store_blk (w := w3) (cs := nodeA (.mk 2 (ofS 0 255) 0 0 []) none 0) rfl rfl rfl rfl hB3 rfl infoNode (nodeA_one _ _ _) ?_; intro W hW hfW _))
  refine bodyPost_blk rfl rfl hW Try.underlying28 rfl infoNode rfl ?_
  exact ⟨⟨_, rfl, leaf_new _ _ _⟩, hr3.fr hfW (by show ¬ b = w.heap.size; omega), hlt, hF3.callAt hfW (Nat.le_refl _)⟩
end
end Go.Proofs.Ytcphepjfnnbonaa
