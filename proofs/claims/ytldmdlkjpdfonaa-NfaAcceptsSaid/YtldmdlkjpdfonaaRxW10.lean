/- The walks of the expression reader: atom. -/
import Derived.Test.YtldmdlkjpdfonaaRxW9
import Derived.Test.YtldmdlkjpdfonaaNode
namespace Go.Proofs.Ytldmdlkjpdfonaa
set_option linter.unusedVariables false
set_option linter.unusedSimpArgs false
open Go Go.RowKit

/-- What is asked of the reader of choices, one bracket further in. -/
def AltSpec (s : ByteArray) (op : Nat) : Option (Nat → R Nd) → Prop
  | none => 12 ≤ op
  | some alt => op < 12 ∧ ∀ (i b : Nat) (w : World), Rd w b s i (op + 1) → i ≤ s.size → alt i ≠ .out → Calls Try.prog 59 #[.pointer (some ⟨b, 0, none⟩)] w (Out (NewN w) w b s (op + 1) (alt i))

theorem cls_ne (s : ByteArray) (i : Nat) (hi : i ≤ s.size) : Rx.cls s i ≠ .out := by
  unfold Rx.cls
  have h : (if nx s i = 94 then i + 1 else i) ≤ s.size := by
    split
    · have := nx_nonneg (s := s) (i := i) (by omega); omega
    · exact hi
  cases h1 : Rx.classLoop s (s.size + 1) (if nx s i = 94 then i + 1 else i) 0 with
  | out => exact absurd h1 (classLoop_ne _ _ _ _ (by omega) h)
  | bad k => show R.bind _ _ ≠ _; rw [h1]; simp [R.bind]
  | ok a j => show R.bind _ _ ≠ _; rw [h1]; simp [R.bind]
/-- A leaf's value. -/
theorem leaf_new (w W : World) (s : Nat) : NewN w W (.agg (nodeA (.mk 2 s 0 0 []) none 0)) (.mk 2 s 0 0 []) := NodeIn.leaf W _ 2 s 0 0
section
variable (b : Nat) (s : ByteArray) (i op : Nat) (w : World)
set_option maxRecDepth 100000 in
set_option maxHeartbeats 1600000 in
theorem atom_dot (hs : s.size < 1099511627776) (hr : Rd w b s i op) (hx0 : nx s i ≠ 40) (hx : nx s i = 46) : Calls Try.prog 71 #[.pointer (some ⟨b, 0, none⟩)] w (Out (NewN w) w b s op (.ok (.mk 2 (ofS 0 255) 0 0 []) (i + 1))) := by
  have hbw := hr.lt; have hr0 := hr.alloc (.cells #[.int .i64 0, .int .u64 0, .int .u64 0, .int .u64 0, .int .u64 0, .int .i64 0, .int .i64 0, .slice none 0 0] 37); have hB0 := Blk.new w 37 #[.int .i64 0, .int .u64 0, .int .u64 0, .int .u64 0, .int .u64 0, .int .i64 0, .int .i64 0, .slice none 0 0]; have hF0 : Fr (At b) w _ := (Fr.refl (At b) w).alloc (.cells #[.int .i64 0, .int .u64 0, .int .u64 0, .int .u64 0, .int .u64 0, .int .i64 0, .int .i64 0, .slice none 0 0] 37); obtain ⟨h0, h1, h2, f1, f2⟩ := hr0.cells
  have hq : (nx s i == 40) = false := by simp [hx0]
  clear hx0
  go_enter Try.func71, Try.ntmps71
  go_wp2_with (first | (go_at_call 70; refine (next_c _ s i op _ (by repeat (first | assumption | apply Rd.drewN | apply Rd.drew | apply Rd.alloc | (apply Rd.setAt (hx := by omega)) | (apply Rd.setOp (hx := by omega)) | (apply Rd.far (hp := by simp only []; omega))))).mono ?_; rintro e w1 ⟨rfl, n, rfl⟩) |
    (go_at_call 66; refine (skip_t _ s i op _ 46 hs (by repeat (first | assumption | apply Rd.drewN | apply Rd.drew | apply Rd.alloc | (apply Rd.setAt (hx := by omega)) | (apply Rd.setOp (hx := by omega)) | (apply Rd.far (hp := by simp only []; omega)))) (by omega) hx).mono ?_; rintro e w2 ⟨rfl, hr2, hlt, hf2⟩) |
    (go_at_call 74; refine (bof_c 0 255 _ (by omega) (by omega)).mono ?_; rintro e w3 ⟨rfl, hf3⟩; unfold setA) |
    ((with_reducible refine at_store _ ?_); refine wpList_store_blk (cs := nodeA (.mk 2 (ofS 0 255) 0 0 []) none 0) rfl rfl rfl rfl (hf3.blk (hf2.blk (Blk.drewN hB0 n) (by show ¬ w.heap.size = b; omega)) id) rfl infoNode (nodeA_one _ _ _) ?_; intro W hW hfW _))
  refine bodyPost_blk rfl rfl hW Try.underlying37 rfl infoNode rfl ?_
  exact ⟨⟨_, rfl, leaf_new _ _ _⟩, (hr2.fr hf3 id).fr hfW (by show ¬ b = w.heap.size; omega), hlt, Fr.callAt (Fr.no (Fr.trans (Fr.drewN hF0 n) hf2) hf3) hfW (Nat.le_refl _)⟩
set_option maxRecDepth 100000 in
set_option maxHeartbeats 1600000 in
theorem atom_cls_bad {k : Nat} (hs : s.size < 1099511627776) (hr : Rd w b s i op) (hx0 : nx s i ≠ 40) (Hx1 : Hid (nx s i ≠ 46)) (hx : nx s i = 91) (hc : Rx.cls s (i + 1) = .bad k) : Calls Try.prog 71 #[.pointer (some ⟨b, 0, none⟩)] w (Out (NewN w) w b s op (.bad k)) := by
  have hbw := hr.lt; have hr0 := hr.alloc (.cells #[.int .i64 0, .int .u64 0, .int .u64 0, .int .u64 0, .int .u64 0, .int .i64 0, .int .i64 0, .slice none 0 0] 37); have hB0 := Blk.new w 37 #[.int .i64 0, .int .u64 0, .int .u64 0, .int .u64 0, .int .u64 0, .int .i64 0, .int .i64 0, .slice none 0 0]; have hF0 : Fr (At b) w _ := (Fr.refl (At b) w).alloc (.cells #[.int .i64 0, .int .u64 0, .int .u64 0, .int .u64 0, .int .u64 0, .int .i64 0, .int .i64 0, .slice none 0 0] 37); obtain ⟨h0, h1, h2, f1, f2⟩ := hr0.cells
  have hq : (nx s i == 40) = false := by simp [hx0]
  clear hx0
  have hlt := nx_nonneg (s := s) (i := i) (by omega)
  have Hcl := hid (fun (W : World) (hW : Rd W b s (i + 1) op) => class_c b s (i + 1) op W hs hW (by omega))
  rw [hc] at Hcl
  clear hc
  go_enter Try.func71, Try.ntmps71
  go_wp2_with (go_at_call 70; refine (next_c _ s i op _ (by repeat (first | assumption | apply Rd.drewN | apply Rd.drew | apply Rd.alloc | (apply Rd.setAt (hx := by omega)) | (apply Rd.setOp (hx := by omega)) | (apply Rd.far (hp := by simp only []; omega))))).mono ?_; rintro e w1 ⟨rfl, n, rfl⟩)
  refine (skip_f _ s i op _ 46 (by repeat (first | assumption | apply Rd.drewN | apply Rd.drew | apply Rd.alloc | (apply Rd.setAt (hx := by omega)) | (apply Rd.setOp (hx := by omega)) | (apply Rd.far (hp := by simp only []; omega)))) (by omega) Hx1.out).mono ?_
  rintro e w2 ⟨rfl, hr2, hf2⟩
  go_wp2_with fail
  refine (skip_t _ s i op _ 91 hs hr2 (by omega) hx).mono ?_
  rintro e w3 ⟨rfl, hr3, hlt3, hf3⟩
  go_wp2_with (first |
    (go_at_call 75; refine (Hcl.out _ hr3).mono ?_; rintro e w4 ⟨rfl, hf4⟩))
  exact ⟨rfl, rfl, Fr.trans (Fr.trans (Fr.no (Fr.drewN hF0 n) hf2) hf3) hf4⟩
set_option maxRecDepth 100000 in
set_option maxHeartbeats 1600000 in
theorem atom_cls_ok {a j : Nat} (hs : s.size < 1099511627776) (hr : Rd w b s i op) (hx0 : nx s i ≠ 40) (Hx1 : Hid (nx s i ≠ 46)) (hx : nx s i = 91) (hc : Rx.cls s (i + 1) = .ok a j) : Calls Try.prog 71 #[.pointer (some ⟨b, 0, none⟩)] w (Out (NewN w) w b s op (.ok (.mk 2 a 0 0 []) j)) := by
  have hbw := hr.lt; have hr0 := hr.alloc (.cells #[.int .i64 0, .int .u64 0, .int .u64 0, .int .u64 0, .int .u64 0, .int .i64 0, .int .i64 0, .slice none 0 0] 37); have hB0 := Blk.new w 37 #[.int .i64 0, .int .u64 0, .int .u64 0, .int .u64 0, .int .u64 0, .int .i64 0, .int .i64 0, .slice none 0 0]; have hF0 : Fr (At b) w _ := (Fr.refl (At b) w).alloc (.cells #[.int .i64 0, .int .u64 0, .int .u64 0, .int .u64 0, .int .u64 0, .int .i64 0, .int .i64 0, .slice none 0 0] 37); obtain ⟨h0, h1, h2, f1, f2⟩ := hr0.cells
  have hq : (nx s i == 40) = false := by simp [hx0]
  clear hx0
  have hlt := nx_nonneg (s := s) (i := i) (by omega)
  have Hcl := hid (fun (W : World) (hW : Rd W b s (i + 1) op) => class_c b s (i + 1) op W hs hW (by omega))
  rw [hc] at Hcl
  clear hc
  go_enter Try.func71, Try.ntmps71
  go_wp2_with (go_at_call 70; refine (next_c _ s i op _ (by repeat (first | assumption | apply Rd.drewN | apply Rd.drew | apply Rd.alloc | (apply Rd.setAt (hx := by omega)) | (apply Rd.setOp (hx := by omega)) | (apply Rd.far (hp := by simp only []; omega))))).mono ?_; rintro e w1 ⟨rfl, n, rfl⟩)
  refine (skip_f _ s i op _ 46 (by repeat (first | assumption | apply Rd.drewN | apply Rd.drew | apply Rd.alloc | (apply Rd.setAt (hx := by omega)) | (apply Rd.setOp (hx := by omega)) | (apply Rd.far (hp := by simp only []; omega)))) (by omega) Hx1.out).mono ?_
  rintro e w2 ⟨rfl, hr2, hf2⟩
  go_wp2_with fail
  refine (skip_t _ s i op _ 91 hs hr2 (by omega) hx).mono ?_
  rintro e w3 ⟨rfl, hr3, hlt3, hf3⟩
  go_wp2_with (first |
    (go_at_call 75; refine (Hcl.out _ hr3).mono ?_; rintro e w4 ⟨⟨v, rfl, rfl⟩, hr4, hj4, hf4⟩; unfold setA) |
    ((with_reducible refine at_store _ ?_); refine wpList_store_blk (cs := nodeA (.mk 2 a 0 0 []) none 0) rfl rfl rfl rfl (hf4.blk (hf3.blk (hf2.blk (Blk.drewN hB0 n) id) (by show ¬ w.heap.size = b; omega)) (by show ¬ w.heap.size = b; omega)) rfl infoNode (nodeA_one _ _ _) ?_; intro W hW hfW _))
  refine bodyPost_blk rfl rfl hW Try.underlying37 rfl infoNode rfl ?_
  exact ⟨⟨_, rfl, leaf_new _ _ _⟩, hr4.fr hfW (by show ¬ b = w.heap.size; omega), hj4, Fr.callAt (Fr.trans (Fr.trans (Fr.no (Fr.drewN hF0 n) hf2) hf3) hf4) hfW (Nat.le_refl _)⟩
set_option maxRecDepth 100000 in
set_option maxHeartbeats 1600000 in
theorem atom_one_bad {k : Nat} (hs : s.size < 1099511627776) (hr : Rd w b s i op) (hx0 : nx s i ≠ 40) (Hx1 : Hid (nx s i ≠ 46)) (Hx2 : Hid (nx s i ≠ 91)) (hc : Rx.one s i = .bad k) : Calls Try.prog 71 #[.pointer (some ⟨b, 0, none⟩)] w (Out (NewN w) w b s op (.bad k)) := by
  have hbw := hr.lt; have hr0 := hr.alloc (.cells #[.int .i64 0, .int .u64 0, .int .u64 0, .int .u64 0, .int .u64 0, .int .i64 0, .int .i64 0, .slice none 0 0] 37); have hB0 := Blk.new w 37 #[.int .i64 0, .int .u64 0, .int .u64 0, .int .u64 0, .int .u64 0, .int .i64 0, .int .i64 0, .slice none 0 0]; have hF0 : Fr (At b) w _ := (Fr.refl (At b) w).alloc (.cells #[.int .i64 0, .int .u64 0, .int .u64 0, .int .u64 0, .int .u64 0, .int .i64 0, .int .i64 0, .slice none 0 0] 37); obtain ⟨h0, h1, h2, f1, f2⟩ := hr0.cells
  have hq : (nx s i == 40) = false := by simp [hx0]
  clear hx0
  have Hone := hid (fun (W : World) (hW : Rd W b s i op) => one_c b s i op W hs hW)
  rw [hc] at Hone
  clear hc
  go_enter Try.func71, Try.ntmps71
  go_wp2_with (go_at_call 70; refine (next_c _ s i op _ (by repeat (first | assumption | apply Rd.drewN | apply Rd.drew | apply Rd.alloc | (apply Rd.setAt (hx := by omega)) | (apply Rd.setOp (hx := by omega)) | (apply Rd.far (hp := by simp only []; omega))))).mono ?_; rintro e w1 ⟨rfl, n, rfl⟩)
  refine (skip_f _ s i op _ 46 (by repeat (first | assumption | apply Rd.drewN | apply Rd.drew | apply Rd.alloc | (apply Rd.setAt (hx := by omega)) | (apply Rd.setOp (hx := by omega)) | (apply Rd.far (hp := by simp only []; omega)))) (by omega) Hx1.out).mono ?_
  rintro e w2 ⟨rfl, hr2, hf2⟩
  go_wp2_with fail
  refine (skip_f _ s i op _ 91 hr2 (by omega) Hx2.out).mono ?_
  rintro e w3 ⟨rfl, hr3, hf3⟩
  go_wp2_with (first |
    (go_at_call 77; refine (Hone.out _ hr3).mono ?_; rintro e w4 ⟨rfl, hf4⟩))
  exact ⟨rfl, rfl, Fr.trans (Fr.no (Fr.no (Fr.drewN hF0 n) hf2) hf3) hf4⟩
set_option maxRecDepth 100000 in
set_option maxHeartbeats 1600000 in
theorem atom_one_ok {a : Int} {j : Nat} (hs : s.size < 1099511627776) (hr : Rd w b s i op) (hx0 : nx s i ≠ 40) (Hx1 : Hid (nx s i ≠ 46)) (Hx2 : Hid (nx s i ≠ 91)) (hc : Rx.one s i = .ok a j) : Calls Try.prog 71 #[.pointer (some ⟨b, 0, none⟩)] w (Out (NewN w) w b s op (.ok (.mk 2 (oneS a) 0 0 []) j)) := by
  have hbw := hr.lt; have hr0 := hr.alloc (.cells #[.int .i64 0, .int .u64 0, .int .u64 0, .int .u64 0, .int .u64 0, .int .i64 0, .int .i64 0, .slice none 0 0] 37); have hB0 := Blk.new w 37 #[.int .i64 0, .int .u64 0, .int .u64 0, .int .u64 0, .int .u64 0, .int .i64 0, .int .i64 0, .slice none 0 0]; have hF0 : Fr (At b) w _ := (Fr.refl (At b) w).alloc (.cells #[.int .i64 0, .int .u64 0, .int .u64 0, .int .u64 0, .int .u64 0, .int .i64 0, .int .i64 0, .slice none 0 0] 37); obtain ⟨h0, h1, h2, f1, f2⟩ := hr0.cells
  have hq : (nx s i == 40) = false := by simp [hx0]
  clear hx0
  have Hone := hid (fun (W : World) (hW : Rd W b s i op) => one_c b s i op W hs hW)
  rw [hc] at Hone
  clear hc
  go_enter Try.func71, Try.ntmps71
  go_wp2_with (go_at_call 70; refine (next_c _ s i op _ (by repeat (first | assumption | apply Rd.drewN | apply Rd.drew | apply Rd.alloc | (apply Rd.setAt (hx := by omega)) | (apply Rd.setOp (hx := by omega)) | (apply Rd.far (hp := by simp only []; omega))))).mono ?_; rintro e w1 ⟨rfl, n, rfl⟩)
  refine (skip_f _ s i op _ 46 (by repeat (first | assumption | apply Rd.drewN | apply Rd.drew | apply Rd.alloc | (apply Rd.setAt (hx := by omega)) | (apply Rd.setOp (hx := by omega)) | (apply Rd.far (hp := by simp only []; omega)))) (by omega) Hx1.out).mono ?_
  rintro e w2 ⟨rfl, hr2, hf2⟩
  go_wp2_with fail
  refine (skip_f _ s i op _ 91 hr2 (by omega) Hx2.out).mono ?_
  rintro e w3 ⟨rfl, hr3, hf3⟩
  go_wp2_with (first |
    (go_at_call 77; refine (Hone.out _ hr3).mono ?_; rintro e w4 ⟨⟨v, rfl, rfl, ha0, ha1⟩, hr4, hj4, hf4⟩) |
    (go_at_call 76; refine (bone_c a _ ha0 ha1).mono ?_; rintro e w5 ⟨rfl, hf5⟩; unfold setA) |
    ((with_reducible refine at_store _ ?_); refine wpList_store_blk (cs := nodeA (.mk 2 (oneS a) 0 0 []) none 0) rfl rfl rfl rfl (hf5.blk (hf4.blk (hf3.blk (hf2.blk (Blk.drewN hB0 n) id) id) (by show ¬ w.heap.size = b; omega)) id) rfl infoNode (nodeA_one _ _ _) ?_; intro W hW hfW _))
  refine bodyPost_blk rfl rfl hW Try.underlying37 rfl infoNode rfl ?_
  exact ⟨⟨_, rfl, leaf_new _ _ _⟩, (hr4.fr hf5 id).fr hfW (by show ¬ b = w.heap.size; omega), hj4, Fr.callAt (Fr.no (Fr.trans (Fr.no (Fr.no (Fr.drewN hF0 n) hf2) hf3) hf4) hf5) hfW (Nat.le_refl _)⟩
set_option maxRecDepth 100000 in
set_option maxHeartbeats 1600000 in
theorem atom_deep (hs : s.size < 1099511627776) (hr : Rd w b s i op) (hx0 : nx s i = 40) (hop : 12 ≤ op) : Calls Try.prog 71 #[.pointer (some ⟨b, 0, none⟩)] w (Out (NewN w) w b s op (.bad i)) := by
  have hbw := hr.lt; have hr0 := hr.alloc (.cells #[.int .i64 0, .int .u64 0, .int .u64 0, .int .u64 0, .int .u64 0, .int .i64 0, .int .i64 0, .slice none 0 0] 37); have hB0 := Blk.new w 37 #[.int .i64 0, .int .u64 0, .int .u64 0, .int .u64 0, .int .u64 0, .int .i64 0, .int .i64 0, .slice none 0 0]; have hF0 : Fr (At b) w _ := (Fr.refl (At b) w).alloc (.cells #[.int .i64 0, .int .u64 0, .int .u64 0, .int .u64 0, .int .u64 0, .int .i64 0, .int .i64 0, .slice none 0 0] 37); obtain ⟨h0, h1, h2, f1, f2⟩ := hr0.cells
  have hq : (nx s i == 40) = true := by simp [hx0]
  have Hx0 := hid hx0
  clear hx0
  have hd : decide ((op : Int) < 12) = false := decide_eq_false (by omega)
  go_enter Try.func71, Try.ntmps71
  go_wp2_with (go_at_call 70; refine (next_c _ s i op _ (by repeat (first | assumption | apply Rd.drewN | apply Rd.drew | apply Rd.alloc | (apply Rd.setAt (hx := by omega)) | (apply Rd.setOp (hx := by omega)) | (apply Rd.far (hp := by simp only []; omega))))).mono ?_; rintro e w1 ⟨rfl, n, rfl⟩)
  refine wp_world (fun W => Rd W b s i op ∧ Blk W w.heap.size 37 #[.int .i64 0, .int .u64 0, .int .u64 0, .int .u64 0, .int .u64 0, .int .i64 0, .int .i64 0, .slice none 0 0] ∧ Fr (At b) w W) ⟨(by repeat (first | assumption | apply Rd.drewN | apply Rd.drew | apply Rd.alloc | (apply Rd.setAt (hx := by omega)) | (apply Rd.setOp (hx := by omega)) | (apply Rd.far (hp := by simp only []; omega)))), Blk.drewN hB0 n, Fr.drewN hF0 n⟩ ?_
  clear h0 h1 h2 f1 f2 hr0 hB0 hF0
  rintro W ⟨hr1, hB1, hF1⟩
  obtain ⟨h0, h1, h2, f1, f2⟩ := hr1.cells
  refine wp_region_still_tail 10 (by kernel_rfl) (by kernel_rfl) ?_
  simp only [List.take_succ_cons, List.take_zero, List.drop_succ_cons, List.drop_zero]
  repeat still_step
  refine wpStill_nil ?_
  change wpList _ _ _ _ _ W.drew
  go_wp2_with (go_at_call 60; refine (need_g _ _ _ _ (by first | rfl | assumption | (simp; omega))).mono ?_; rintro e wn ⟨rfl, rfl⟩)
  exact ⟨rfl, rfl, hF1.drew⟩
set_option maxRecDepth 100000 in
set_option maxHeartbeats 1600000 in
theorem atom_alt_bad {k : Nat} (hs : s.size < 1099511627776) (hr : Rd w b s i op) (hx0 : nx s i = 40) (hop : op < 12) (Halt : Hid (∀ W, Rd W b s (i + 1) (op + 1) → Calls Try.prog 59 #[.pointer (some ⟨b, 0, none⟩)] W (Out (NewN W) W b s (op + 1) (.bad k)))) : Calls Try.prog 71 #[.pointer (some ⟨b, 0, none⟩)] w (Out (NewN w) w b s op (.bad k)) := by
  have hbw := hr.lt; have hr0 := hr.alloc (.cells #[.int .i64 0, .int .u64 0, .int .u64 0, .int .u64 0, .int .u64 0, .int .i64 0, .int .i64 0, .slice none 0 0] 37); have hB0 := Blk.new w 37 #[.int .i64 0, .int .u64 0, .int .u64 0, .int .u64 0, .int .u64 0, .int .i64 0, .int .i64 0, .slice none 0 0]; have hF0 : Fr (At b) w _ := (Fr.refl (At b) w).alloc (.cells #[.int .i64 0, .int .u64 0, .int .u64 0, .int .u64 0, .int .u64 0, .int .i64 0, .int .i64 0, .slice none 0 0] 37); obtain ⟨h0, h1, h2, f1, f2⟩ := hr0.cells
  have hlt := nx_nonneg (s := s) (i := i) (by rw [hx0]; omega)
  have hq : (nx s i == 40) = true := by simp [hx0]
  have Hx0 := hid hx0
  clear hx0
  have hd : decide ((op : Int) < 12) = true := decide_eq_true (by omega)
  go_enter Try.func71, Try.ntmps71
  go_wp2_with (go_at_call 70; refine (next_c _ s i op _ (by repeat (first | assumption | apply Rd.drewN | apply Rd.drew | apply Rd.alloc | (apply Rd.setAt (hx := by omega)) | (apply Rd.setOp (hx := by omega)) | (apply Rd.far (hp := by simp only []; omega))))).mono ?_; rintro e w1 ⟨rfl, n, rfl⟩)
  refine wp_world (fun W => Rd W b s i op ∧ Blk W w.heap.size 37 #[.int .i64 0, .int .u64 0, .int .u64 0, .int .u64 0, .int .u64 0, .int .i64 0, .int .i64 0, .slice none 0 0] ∧ Fr (At b) w W) ⟨(by repeat (first | assumption | apply Rd.drewN | apply Rd.drew | apply Rd.alloc | (apply Rd.setAt (hx := by omega)) | (apply Rd.setOp (hx := by omega)) | (apply Rd.far (hp := by simp only []; omega)))), Blk.drewN hB0 n, Fr.drewN hF0 n⟩ ?_
  clear h0 h1 h2 f1 f2 hr0 hB0 hF0
  rintro W ⟨hr1, hB1, hF1⟩
  obtain ⟨h0, h1, h2, f1, f2⟩ := hr1.cells
  refine wp_region_still_tail 10 (by kernel_rfl) (by kernel_rfl) ?_
  simp only [List.take_succ_cons, List.take_zero, List.drop_succ_cons, List.drop_zero]
  repeat still_step
  refine wpStill_nil ?_
  change wpList _ _ _ _ _ W.drew
  go_wp2_with (go_at_call 60; refine (need_h _ _ _ _ (by first | rfl | assumption | (simp; omega))).mono ?_; rintro e wn ⟨rfl, rfl⟩)
  have hr2 : Rd ((W.drew.setCell ⟨b, 1, none⟩ (.int .i64 (i + 1))).setCell ⟨b, 2, none⟩ (.int .i64 (op + 1))) b s (i + 1) (op + 1) := Rd.setOp (Rd.setAt (i := i) hr1.drew (by omega)) (by omega)
  refine (Halt.out _ hr2).mono ?_
  rintro e w3 ⟨rfl, hf3⟩
  exact ⟨rfl, rfl, Fr.trans ((Fr.setB (Fr.setB hF1.drew 1 _) 2 _)) hf3⟩
set_option maxRecDepth 100000 in
set_option maxHeartbeats 1600000 in
theorem atom_paren_bad {kk : Nat} {nd : Nd} {j : Nat} (hs : s.size < 1099511627776) (hr : Rd w b s i op) (hx0 : nx s i = 40) (hop : op < 12) (hm : Rx.must s 41 j = .bad kk) (Halt : Hid (∀ W, Rd W b s (i + 1) (op + 1) → Calls Try.prog 59 #[.pointer (some ⟨b, 0, none⟩)] W (Out (NewN W) W b s (op + 1) (.ok nd j)))) : Calls Try.prog 71 #[.pointer (some ⟨b, 0, none⟩)] w (Out (NewN w) w b s op (.bad kk)) := by
  have hbw := hr.lt; have hr0 := hr.alloc (.cells #[.int .i64 0, .int .u64 0, .int .u64 0, .int .u64 0, .int .u64 0, .int .i64 0, .int .i64 0, .slice none 0 0] 37); have hB0 := Blk.new w 37 #[.int .i64 0, .int .u64 0, .int .u64 0, .int .u64 0, .int .u64 0, .int .i64 0, .int .i64 0, .slice none 0 0]; have hF0 : Fr (At b) w _ := (Fr.refl (At b) w).alloc (.cells #[.int .i64 0, .int .u64 0, .int .u64 0, .int .u64 0, .int .u64 0, .int .i64 0, .int .i64 0, .slice none 0 0] 37); obtain ⟨h0, h1, h2, f1, f2⟩ := hr0.cells
  have hlt := nx_nonneg (s := s) (i := i) (by rw [hx0]; omega)
  have hq : (nx s i == 40) = true := by simp [hx0]
  have Hx0 := hid hx0
  clear hx0
  have hd : decide ((op : Int) < 12) = true := decide_eq_true (by omega)
  go_enter Try.func71, Try.ntmps71
  go_wp2_with (go_at_call 70; refine (next_c _ s i op _ (by repeat (first | assumption | apply Rd.drewN | apply Rd.drew | apply Rd.alloc | (apply Rd.setAt (hx := by omega)) | (apply Rd.setOp (hx := by omega)) | (apply Rd.far (hp := by simp only []; omega))))).mono ?_; rintro e w1 ⟨rfl, n, rfl⟩)
  refine wp_world (fun W => Rd W b s i op ∧ Blk W w.heap.size 37 #[.int .i64 0, .int .u64 0, .int .u64 0, .int .u64 0, .int .u64 0, .int .i64 0, .int .i64 0, .slice none 0 0] ∧ Fr (At b) w W) ⟨(by repeat (first | assumption | apply Rd.drewN | apply Rd.drew | apply Rd.alloc | (apply Rd.setAt (hx := by omega)) | (apply Rd.setOp (hx := by omega)) | (apply Rd.far (hp := by simp only []; omega)))), Blk.drewN hB0 n, Fr.drewN hF0 n⟩ ?_
  clear h0 h1 h2 f1 f2 hr0 hB0 hF0
  rintro W ⟨hr1, hB1, hF1⟩
  obtain ⟨h0, h1, h2, f1, f2⟩ := hr1.cells
  refine wp_region_still_tail 10 (by kernel_rfl) (by kernel_rfl) ?_
  simp only [List.take_succ_cons, List.take_zero, List.drop_succ_cons, List.drop_zero]
  repeat still_step
  refine wpStill_nil ?_
  change wpList _ _ _ _ _ W.drew
  go_wp2_with (go_at_call 60; refine (need_h _ _ _ _ (by first | rfl | assumption | (simp; omega))).mono ?_; rintro e wn ⟨rfl, rfl⟩)
  have hr2 : Rd ((W.drew.setCell ⟨b, 1, none⟩ (.int .i64 (i + 1))).setCell ⟨b, 2, none⟩ (.int .i64 (op + 1))) b s (i + 1) (op + 1) := Rd.setOp (Rd.setAt (i := i) hr1.drew (by omega)) (by omega)
  refine (Halt.out _ hr2).mono ?_
  rintro e w3 ⟨⟨v, rfl, A, cap, rfl, hrep⟩, hr3, hj3, hf3⟩
  have hF3 : Fr (At b) w w3 := Fr.trans (Fr.setB (Fr.setB hF1.drew 1 _) 2 _) hf3
  have hsz : w.heap.size < w3.heap.size := by
    have h1 := (hf3.size); have h2 := hB1.lt
    simp [World.setCell] at h1
    omega
  have hB3 : Blk w3 w.heap.size 37 #[.int .i64 0, .int .u64 0, .int .u64 0, .int .u64 0, .int .u64 0, .int .i64 0, .int .i64 0, .slice none 0 0] := hf3.blk (((hB1.drew).far (p := ⟨b, 1, none⟩) (by simp only []; omega) _).far (p := ⟨b, 2, none⟩) (by simp only []; omega) _) (by show ¬ w.heap.size = b; omega)
  have hnew : ∀ k, w.heap.size ≤ k → w.heap.size ≤ k := fun _ h => h
  replace hrep := hrep.sub (S' := fun k => w.heap.size < k ∧ k < w3.heap.size) (by
    intro k hk hkl
    have h2 := hB1.lt
    simp [World.setCell] at hk
    omega)
  clear h0 h1 h2 f1 f2 hB1 hF1 hf3
  have hmu := hid (fun (W : World) (hW : Rd W b s j op) => must_c b s j op W 41 hs hW (by omega))
  go_wp2_with ((with_reducible refine at_store _ ?_); refine wpList_store_blk (cs := nodeA nd A cap) rfl rfl rfl rfl (Blk.new _ _ _) rfl infoNode (nodeA_one _ _ _) ?_; intro W2 hW2 hfW2 hsz2; have hr4 := Rd.fr (Rd.alloc hr3 _) hfW2 (by have := hr3.lt; show ¬ b = w3.heap.size; omega); obtain ⟨h0, h1, h2, f1, f2⟩ := hr4.cells; have hB4 := hfW2.blk (Blk.alloc hB3 _) (by show ¬ w.heap.size = w3.heap.size; omega); have hF4 := Fr.callAt (Fr.alloc hF3 _) hfW2 (by omega))
  have hrep4 : Rep W2 (fun k => w.heap.size < k ∧ k < w3.heap.size) (.slice A nd.subs.length cap) (.sl 37 nd.subs.length (encNs nd.subs)) := (hrep.alloc _).fr hfW2 (by intro k hk _; exact ⟨by show ¬ k = w3.heap.size; omega, hk⟩)
  have hr5 : Rd (W2.setCell ⟨b, 2, none⟩ (.int .i64 op)) b s j op := hr4.setOp rfl
  have hmm := hmu.out _ hr5
  rw [hm] at hmm
  refine hmm.mono ?_
  rintro e w5 ⟨rfl, hf5⟩
  exact ⟨rfl, rfl, Fr.trans (Fr.setB hF4 2 _) hf5⟩
set_option maxRecDepth 100000 in
set_option maxHeartbeats 1600000 in
theorem atom_paren_ok {kk : Nat} {u : Unit} {nd : Nd} {j : Nat} (hs : s.size < 1099511627776) (hr : Rd w b s i op) (hx0 : nx s i = 40) (hop : op < 12) (hm : Rx.must s 41 j = .ok u kk) (Halt : Hid (∀ W, Rd W b s (i + 1) (op + 1) → Calls Try.prog 59 #[.pointer (some ⟨b, 0, none⟩)] W (Out (NewN W) W b s (op + 1) (.ok nd j)))) : Calls Try.prog 71 #[.pointer (some ⟨b, 0, none⟩)] w (Out (NewN w) w b s op (.ok nd kk)) := by
  have hbw := hr.lt; have hr0 := hr.alloc (.cells #[.int .i64 0, .int .u64 0, .int .u64 0, .int .u64 0, .int .u64 0, .int .i64 0, .int .i64 0, .slice none 0 0] 37); have hB0 := Blk.new w 37 #[.int .i64 0, .int .u64 0, .int .u64 0, .int .u64 0, .int .u64 0, .int .i64 0, .int .i64 0, .slice none 0 0]; have hF0 : Fr (At b) w _ := (Fr.refl (At b) w).alloc (.cells #[.int .i64 0, .int .u64 0, .int .u64 0, .int .u64 0, .int .u64 0, .int .i64 0, .int .i64 0, .slice none 0 0] 37); obtain ⟨h0, h1, h2, f1, f2⟩ := hr0.cells
  have hlt := nx_nonneg (s := s) (i := i) (by rw [hx0]; omega)
  have hq : (nx s i == 40) = true := by simp [hx0]
  have Hx0 := hid hx0
  clear hx0
  have hd : decide ((op : Int) < 12) = true := decide_eq_true (by omega)
  go_enter Try.func71, Try.ntmps71
  go_wp2_with (go_at_call 70; refine (next_c _ s i op _ (by repeat (first | assumption | apply Rd.drewN | apply Rd.drew | apply Rd.alloc | (apply Rd.setAt (hx := by omega)) | (apply Rd.setOp (hx := by omega)) | (apply Rd.far (hp := by simp only []; omega))))).mono ?_; rintro e w1 ⟨rfl, n, rfl⟩)
  refine wp_world (fun W => Rd W b s i op ∧ Blk W w.heap.size 37 #[.int .i64 0, .int .u64 0, .int .u64 0, .int .u64 0, .int .u64 0, .int .i64 0, .int .i64 0, .slice none 0 0] ∧ Fr (At b) w W) ⟨(by repeat (first | assumption | apply Rd.drewN | apply Rd.drew | apply Rd.alloc | (apply Rd.setAt (hx := by omega)) | (apply Rd.setOp (hx := by omega)) | (apply Rd.far (hp := by simp only []; omega)))), Blk.drewN hB0 n, Fr.drewN hF0 n⟩ ?_
  clear h0 h1 h2 f1 f2 hr0 hB0 hF0
  rintro W ⟨hr1, hB1, hF1⟩
  obtain ⟨h0, h1, h2, f1, f2⟩ := hr1.cells
  refine wp_region_still_tail 10 (by kernel_rfl) (by kernel_rfl) ?_
  simp only [List.take_succ_cons, List.take_zero, List.drop_succ_cons, List.drop_zero]
  repeat still_step
  refine wpStill_nil ?_
  change wpList _ _ _ _ _ W.drew
  go_wp2_with (go_at_call 60; refine (need_h _ _ _ _ (by first | rfl | assumption | (simp; omega))).mono ?_; rintro e wn ⟨rfl, rfl⟩)
  have hr2 : Rd ((W.drew.setCell ⟨b, 1, none⟩ (.int .i64 (i + 1))).setCell ⟨b, 2, none⟩ (.int .i64 (op + 1))) b s (i + 1) (op + 1) := Rd.setOp (Rd.setAt (i := i) hr1.drew (by omega)) (by omega)
  refine (Halt.out _ hr2).mono ?_
  rintro e w3 ⟨⟨v, rfl, A, cap, rfl, hrep⟩, hr3, hj3, hf3⟩
  have hF3 : Fr (At b) w w3 := Fr.trans (Fr.setB (Fr.setB hF1.drew 1 _) 2 _) hf3
  have hsz : w.heap.size < w3.heap.size := by
    have h1 := (hf3.size); have h2 := hB1.lt
    simp [World.setCell] at h1
    omega
  have hB3 : Blk w3 w.heap.size 37 #[.int .i64 0, .int .u64 0, .int .u64 0, .int .u64 0, .int .u64 0, .int .i64 0, .int .i64 0, .slice none 0 0] := hf3.blk (((hB1.drew).far (p := ⟨b, 1, none⟩) (by simp only []; omega) _).far (p := ⟨b, 2, none⟩) (by simp only []; omega) _) (by show ¬ w.heap.size = b; omega)
  have hnew : ∀ k, w.heap.size ≤ k → w.heap.size ≤ k := fun _ h => h
  replace hrep := hrep.sub (S' := fun k => w.heap.size < k ∧ k < w3.heap.size) (by
    intro k hk hkl
    have h2 := hB1.lt
    simp [World.setCell] at hk
    omega)
  clear h0 h1 h2 f1 f2 hB1 hF1 hf3
  have hmu := hid (fun (W : World) (hW : Rd W b s j op) => must_c b s j op W 41 hs hW (by omega))
  go_wp2_with ((with_reducible refine at_store _ ?_); refine wpList_store_blk (cs := nodeA nd A cap) rfl rfl rfl rfl (Blk.new _ _ _) rfl infoNode (nodeA_one _ _ _) ?_; intro W2 hW2 hfW2 hsz2; have hr4 := Rd.fr (Rd.alloc hr3 _) hfW2 (by have := hr3.lt; show ¬ b = w3.heap.size; omega); obtain ⟨h0, h1, h2, f1, f2⟩ := hr4.cells; have hB4 := hfW2.blk (Blk.alloc hB3 _) (by show ¬ w.heap.size = w3.heap.size; omega); have hF4 := Fr.callAt (Fr.alloc hF3 _) hfW2 (by omega))
  have hrep4 : Rep W2 (fun k => w.heap.size < k ∧ k < w3.heap.size) (.slice A nd.subs.length cap) (.sl 37 nd.subs.length (encNs nd.subs)) := (hrep.alloc _).fr hfW2 (by intro k hk _; exact ⟨by show ¬ k = w3.heap.size; omega, hk⟩)
  have hr5 : Rd (W2.setCell ⟨b, 2, none⟩ (.int .i64 op)) b s j op := hr4.setOp rfl
  have hmm := hmu.out _ hr5
  rw [hm] at hmm
  refine hmm.mono ?_
  rintro e w5 ⟨⟨v, rfl, rfl⟩, hr6, hj6, hf5⟩
  have hF5 : Fr (At b) w w5 := Fr.trans (Fr.setB hF4 2 _) hf5
  have hB6 : Blk w5 w.heap.size 37 #[.int .i64 0, .int .u64 0, .int .u64 0, .int .u64 0, .int .u64 0, .int .i64 0, .int .i64 0, .slice none 0 0] := hf5.blk (hB4.far (p := ⟨b, 2, none⟩) (by simp only []; omega) _) (by show ¬ w.heap.size = b; omega)
  have hN6 : Blk w5 w3.heap.size 37 (nodeA nd A cap) := hf5.blk (hW2.far (p := ⟨b, 2, none⟩) (by have := hr3.lt; simp only []; omega) _) (by have := hr3.lt; show ¬ w3.heap.size = b; omega)
  have hrep6 : Rep w5 (fun k => w.heap.size < k ∧ k < w3.heap.size) (.slice A nd.subs.length cap) (.sl 37 nd.subs.length (encNs nd.subs)) := (hrep4.set (p := ⟨b, 2, none⟩) (by intro k hk; simp only []; omega) _).fr hf5 (by intro k hk _; exact ⟨by show ¬ k = b; omega, hk⟩)
  clear hr4 h0 h1 h2 f1 f2 hB4 hW2 hrep4 hrep
  go_wp2_with (first |
    ((with_reducible refine at_load _ ?_); refine wpList_load_blk (cs := nodeA nd A cap) rfl rfl rfl hN6 Try.underlying37 rfl infoNode ?_) |
    ((with_reducible refine at_store _ ?_); refine wpList_store_blk (cs := nodeA nd A cap) rfl rfl rfl rfl hB6 rfl infoNode (nodeA_one _ _ _) ?_; intro W hW hfW _))
  refine bodyPost_blk rfl rfl hW Try.underlying37 rfl infoNode rfl ?_
  refine ⟨⟨_, rfl, A, cap, rfl, ?_⟩, hr6.fr hfW (by show ¬ b = w.heap.size; omega), hj6, Fr.callAt hF5 hfW (Nat.le_refl _)⟩
  exact hrep6.fr hfW (by intro k hk _; exact ⟨by show ¬ k = w.heap.size; omega, by omega⟩)
theorem atom_c (sub : Option (Nat → R Nd)) (hs : s.size < 1099511627776) (hr : Rd w b s i op) (hi : i ≤ s.size) (hsub : AltSpec s op sub) (hne : Rx.atom s sub i ≠ .out) :
    Calls Try.prog 71 #[.pointer (some ⟨b, 0, none⟩)] w (Out (NewN w) w b s op (Rx.atom s sub i)) := by
  unfold Rx.atom at hne ⊢
  by_cases hx0 : nx s i = 40
  · rw [if_pos hx0] at hne ⊢
    cases sub with
    | none => exact atom_deep b s i op w hs hr hx0 hsub
    | some alt =>
      obtain ⟨hop, halt⟩ := hsub
      have hlt := nx_nonneg (s := s) (i := i) (by omega)
      simp only [] at hne ⊢
      cases ha : alt (i + 1) with
      | out => rw [ha] at hne; exact absurd rfl hne
      | bad k => exact atom_alt_bad b s i op w hs hr hx0 hop (fun W hW => by have := halt (i + 1) b W hW (by omega) (by rw [ha]; simp); rwa [ha] at this)
      | ok nd j =>
        have H := fun (W : World) (hW : Rd W b s (i + 1) (op + 1)) => halt (i + 1) b W hW (by omega) (by rw [ha]; simp)
        rw [ha] at H
        simp only [R.bind]
        cases hm : Rx.must s 41 j with
        | out => exact absurd hm (must_ne _ _ _)
        | bad k => exact atom_paren_bad b s i op w hs hr hx0 hop hm H
        | ok u k => exact atom_paren_ok b s i op w hs hr hx0 hop hm H
  · rw [if_neg hx0] at hne ⊢
    by_cases hx1 : nx s i = 46
    · rw [if_pos hx1]; exact atom_dot b s i op w hs hr hx0 hx1
    · rw [if_neg hx1] at hne ⊢
      by_cases hx2 : nx s i = 91
      · rw [if_pos hx2]
        have hlt := nx_nonneg (s := s) (i := i) (by omega)
        cases hc : Rx.cls s (i + 1) with
        | out => exact absurd hc (cls_ne _ _ (by omega))
        | bad k => exact atom_cls_bad b s i op w hs hr hx0 hx1 hx2 hc
        | ok a j => exact atom_cls_ok b s i op w hs hr hx0 hx1 hx2 hc
      · rw [if_neg hx2]
        cases hc : Rx.one s i with
        | out => exact absurd hc (one_ne _ _)
        | bad k => exact atom_one_bad b s i op w hs hr hx0 hx1 hx2 hc
        | ok a j => exact atom_one_ok b s i op w hs hr hx0 hx1 hx2 hc
end
end Go.Proofs.Ytldmdlkjpdfonaa
