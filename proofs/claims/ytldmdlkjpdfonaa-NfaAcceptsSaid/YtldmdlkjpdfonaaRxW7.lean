/- The walks of the expression reader: class. -/
import Derived.Test.YtldmdlkjpdfonaaRxW6
namespace Go.Proofs.Ytldmdlkjpdfonaa
set_option linter.unusedVariables false
set_option linter.unusedSimpArgs false
open Go Go.RowKit

theorem digit_gt {s : ByteArray} {i j : Nat} {a : Int} (h : Rx.digit s i = .ok a j) : j = i + 1 ∧ i < s.size := by
  unfold Rx.digit at h
  split at h
  · rename_i h1
    injection h with h2 h3
    refine ⟨h3.symm, nx_nonneg ?_⟩
    rcases Int.lt_or_le (nx s i) 0 with h4 | h4
    · rw [ixOf_neg h4] at h1; omega
    · exact h4
  · cases h
theorem escape_gt {s : ByteArray} {i j : Nat} {a : Int} (h : Rx.escape s i = .ok a j) : i < j ∧ j ≤ s.size := by
  unfold Rx.escape at h
  by_cases h0 : nx s i < 0
  · rw [if_pos h0] at h; cases h
  have hlt := nx_nonneg (Int.not_lt.1 h0)
  rw [if_neg h0] at h
  split at h
  · cases h1 : Rx.digit s (i + 1) with
    | out => rw [h1] at h; cases h
    | bad k => rw [h1] at h; cases h
    | ok x y =>
      rw [h1] at h
      simp only [R.bind] at h
      cases h2 : Rx.digit s y with
      | out => rw [h2] at h; cases h
      | bad k => rw [h2] at h; cases h
      | ok x' y' =>
        rw [h2] at h
        injection h with _ h3
        have := digit_gt h1
        have := digit_gt h2
        omega
  split at h
  · injection h; omega
  split at h
  · injection h; omega
  split at h
  · injection h; omega
  · cases h
theorem one_gt {s : ByteArray} {i j : Nat} {a : Int} (h : Rx.one s i = .ok a j) : i < j ∧ j ≤ s.size := by
  unfold Rx.one at h
  split at h
  · have := escape_gt h; omega
  split at h
  · rename_i h1
    have := nx_nonneg h1.1
    injection h; omega
  · cases h
theorem span_gt {s : ByteArray} {i j : Nat} {a : Nat} (h : Rx.span s i = .ok a j) : i < j ∧ j ≤ s.size := by
  unfold Rx.span at h
  cases h1 : Rx.one s i with
  | out => rw [h1] at h; cases h
  | bad k => rw [h1] at h; cases h
  | ok x y =>
    rw [h1] at h
    simp only [R.bind] at h
    have g1 := one_gt h1
    split at h
    · cases h2 : Rx.one s (y + 1) with
      | out => rw [h2] at h; cases h
      | bad k => rw [h2] at h; cases h
      | ok x' y' =>
        rw [h2] at h
        simp only [] at h
        have g2 := one_gt h2
        split at h
        · injection h; omega
        · cases h
    · injection h; omega
theorem classLoop_ne (s : ByteArray) : ∀ (k i a : Nat), s.size + 1 ≤ k + i → i ≤ s.size → Rx.classLoop s k i a ≠ .out
  | 0, i, a, h, h' => by omega
  | k + 1, i, a, h, h' => by
    unfold Rx.classLoop
    split
    · simp
    · cases h1 : Rx.span s i with
      | out => exact absurd h1 (span_ne _ _)
      | bad k => simp [R.bind]
      | ok x y =>
        have := span_gt h1
        exact classLoop_ne s k y _ (by omega) (by omega)

section
variable (b : Nat) (s : ByteArray) (i op : Nat) (w : World)
theorem skip_c (c : Int) (hs : s.size < 1099511627776) (hr : Rd w b s i op) (hc : 0 ≤ c ∧ c < 256) (hi : i ≤ s.size) :
    Calls Try.prog 66 #[.pointer (some ⟨b, 0, none⟩), .int .u8 c] w fun e w' => e = .returned (.bool (decide (nx s i = c))) ∧ Rd w' b s (if nx s i = c then i + 1 else i) op ∧ (if nx s i = c then i + 1 else i) ≤ s.size ∧ Fr (At b) w w' := by
  by_cases hn : nx s i = c
  · refine (skip_t b s i op w c hs hr hc hn).mono ?_
    rintro e w' ⟨rfl, h1, h2, h3⟩
    rw [if_pos hn, decide_eq_true hn]
    exact ⟨rfl, h1, by omega, h3⟩
  · refine (skip_f b s i op w c hr hc hn).mono ?_
    rintro e w' ⟨rfl, h1, h3⟩
    rw [if_neg hn, decide_eq_false hn]
    exact ⟨rfl, h1, hi, h3.mono fun _ _ h => h.elim⟩
set_option maxRecDepth 100000 in
set_option maxHeartbeats 1600000 in
theorem class_c (hs : s.size < 1099511627776) (hr : Rd w b s i op) (hi : i ≤ s.size) :
    Calls Try.prog 75 #[.pointer (some ⟨b, 0, none⟩)] w (Out SetV w b s op (Rx.cls s i)) := by
  unfold Rx.cls
  have hbw := hr.lt
  generalize hnb : decide (nx s i = 94) = nb
  have hsk := skip_c b s i op (w.alloc (.cells (setA 0) 35)) 94 hs (hr.alloc _) (by omega) hi
  rw [hnb] at hsk
  have hni : (nx s i = 94) = (nb = true) := by rw [← hnb]; simp
  simp only [hni] at hsk ⊢
  generalize hi1 : (if nb = true then i + 1 else i) = i1 at *
  have hi1' : i1 ≤ s.size := by
    rw [← hi1]
    split
    · rename_i hc
      have h94 := hni.symm ▸ hc
      have := nx_nonneg (s := s) (i := i) (by omega)
      omega
    · exact hi
  have hne := classLoop_ne s (s.size + 1) i1 0 (by omega) hi1'
  generalize hres : Rx.classLoop s (s.size + 1) i1 0 = res at *
  have Hres := hid hres
  have Hne := hid hne
  clear hres hi1 hni hnb hi hi1' hne
  go_enter Try.func75, Try.ntmps75
  go_wp2_with (go_at_call 66; refine hsk.mono ?_; rintro e w1 ⟨rfl, hr1, hi1, hf1⟩)
  have hB1 : Blk w1 w.heap.size 35 (setA 0) := hf1.blk (Blk.new w 35 (setA 0)) (by show ¬ w.heap.size = b; omega)
  have hF1 : Fr (At b) w w1 := Fr.trans ((Fr.refl (At b) w).alloc _) hf1
  clear hf1 hr hsk
  have Hhi1 := hid hi1
  go_loopg [] (s.size + 1) (fun k wr => ∃ (i' a : Nat), Aside (Rx.classLoop s k i' a = res) ∧ Rd wr b s i' op ∧ Blk wr w.heap.size 35 (setA a) ∧ Fr (At b) w wr ∧ i' ≤ s.size)
  case atStart => exact ⟨i1, 0, Hres.out, hr1, hB1, hF1, hi1⟩
  case round =>
    clear hr1 hB1 hF1 Hres hi1
    obtain ⟨i', a, HA, hr2, hB2, hF2, hi2⟩ := hrel
    cases gk with
    | zero => exact absurd (HA.out : R.out = res).symm Hne.out
    | succ kn =>
      have H := HA.out
      clear HA
      unfold Rx.classLoop at H
      by_cases hx : nx s i' = 93
      · rw [if_pos hx] at H
        subst H
        have hd : (nx s i' != 93) = false := by simp [hx]
        have Hx := hid hx
        clear hx
        have hmu := fun (W : World) (hW : Rd W b s i' op) => must_c b s i' op W 93 hs hW (by omega)
        unfold Rx.must at hmu
        simp only [if_pos Hx.out] at hmu
        have Hmu := hid hmu
        clear hmu
        cases nb with
        | false =>
          go_wp2_with (first | (go_at_call 70; refine (next_c _ s i' op _ hr2).mono ?_; rintro e w2 ⟨rfl, n, rfl⟩) |
            (go_at_call 73; refine (Hmu.out _ (by repeat (first | assumption | apply Rd.drewN | apply Rd.drew | apply Rd.alloc | (apply Rd.setAt (hx := by omega)) | (apply Rd.setOp (hx := by omega)) | (apply Rd.far (hp := by simp only []; omega))))).mono ?_; rintro e w3 ⟨⟨v, rfl, rfl⟩, hr3, hj3, hf3⟩; have hB3 := hf3.blk (Blk.drewN hB2 n) (by show ¬ w.heap.size = b; omega)) |
            ((with_reducible refine at_load _ ?_); refine wpList_load_blk (cs := setA a) rfl rfl rfl (by assumption) Try.underlying35 rfl infoSet ?_) |
            ((with_reducible refine at_store _ ?_); refine wpList_store_blk (cs := setA a) rfl rfl rfl rfl (by assumption) rfl infoSet (setA_one _) ?_; intro W hW hfW _; clear hB3))
          refine bodyPost_blk rfl rfl hW Try.underlying35 rfl infoSet rfl ?_
          exact ⟨⟨_, rfl, rfl⟩, hr3.fr hfW (by show ¬ b = w.heap.size; omega), hj3, Fr.call (Fr.trans hF2 (Fr.undrewN hf3)) hfW (by intro k hk hkk; omega)⟩
        | true =>
          go_wp2_with (first | (go_at_call 70; refine (next_c _ s i' op _ hr2).mono ?_; rintro e w2 ⟨rfl, n, rfl⟩) |
            (go_at_call 73; refine (Hmu.out _ (by repeat (first | assumption | apply Rd.drewN | apply Rd.drew | apply Rd.alloc | (apply Rd.setAt (hx := by omega)) | (apply Rd.setOp (hx := by omega)) | (apply Rd.far (hp := by simp only []; omega))))).mono ?_; rintro e w3 ⟨⟨v, rfl, rfl⟩, hr3, hj3, hf3⟩; have hB3 := hf3.blk (Blk.drewN hB2 n) (by show ¬ w.heap.size = b; omega)) |
            (go_at_call 81; refine (bnot_c a _).mono ?_; rintro e w4 ⟨rfl, hf4⟩; have hB4 := hf4.blk hB3 id; clear hB3) |
            ((with_reducible refine at_load _ ?_); refine wpList_load_blk (cs := setA a) rfl rfl rfl (by assumption) Try.underlying35 rfl infoSet ?_) |
            ((with_reducible refine at_load _ ?_); refine wpList_load_blk (cs := setA (notS a)) rfl rfl rfl (by assumption) Try.underlying35 rfl infoSet ?_) |
            ((with_reducible refine at_store _ ?_); refine wpList_store_blk (cs := setA (notS a)) (old := setA a) rfl rfl rfl rfl (by assumption) rfl infoSet (setA_one _) ?_; intro W hW hfW _; clear hB4) |
            ((with_reducible refine at_store _ ?_); refine wpList_store_blk (cs := setA (notS a)) (old := setA (notS a)) rfl rfl rfl rfl hW rfl infoSet (setA_one _) ?_; intro W2 hW2 hfW2 _; clear hW))
          refine bodyPost_blk rfl rfl hW2 Try.underlying35 rfl infoSet rfl ?_
          have hbn : ¬ At w.heap.size b := (by show ¬ b = w.heap.size; omega)
          exact ⟨⟨_, rfl, rfl⟩, ((hr3.fr hf4 id).fr hfW hbn).fr hfW2 hbn, hj3, Fr.call (Fr.call (Fr.no (Fr.trans hF2 (Fr.undrewN hf3)) hf4) hfW (by intro k hk hkk; omega)) hfW2 (by intro k hk hkk; omega)⟩
      · rw [if_neg hx] at H
        have hd : (nx s i' != 93) = true := by simp [hx]
        clear hx
        have hsp := fun (W : World) (hW : Rd W b s i' op) => span_c b s i' op W hs hW
        cases hsr : Rx.span s i' with
        | out => exact absurd hsr (span_ne _ _)
        | bad kk =>
          rw [hsr] at H hsp
          simp only [R.bind] at H
          subst H
          have Hsp := hid hsp
          clear hsp
          go_wp2_with (go_at_call 70; refine (next_c _ s i' op _ hr2).mono ?_; rintro e w2 ⟨rfl, n, rfl⟩)
          refine wp_region_tail 3 (fun w' => Blk w' w.heap.size 35 (setA a)) (by kernel_rfl) (by kernel_rfl) ?_
          simp only [List.take_succ_cons, List.take_zero, List.drop_succ_cons, List.drop_zero]
          have hS : Blk (wr.drewN n).drew w.heap.size 35 (setA a) := hB2
          refine Rt.take (i := 0) rfl (by kernel_rfl) (fun _ _ _ h => h) (YieldsIf.load rfl rfl rfl (fun W hW => Blk.range hW) Try.underlying35 rfl infoSet) (by assumption) ?_
          try simp only [Act.put, List.getElem_toArray, List.getElem_cons_succ, List.getElem_cons_zero, List.setIfInBounds_toArray, List.set_cons_zero, List.set_cons_succ]
          refine Rt.take (i := 1) (v := (.pointer (some ⟨b, 0, none⟩))) rfl (by kernel_rfl) (fun _ _ _ h => h) (.inl ⟨rfl, fun w hSw => by (try dsimp only at hSw); go_simp⟩) (by assumption) ?_
          try simp only [Act.put, List.getElem_toArray, List.getElem_cons_succ, List.getElem_cons_zero, List.setIfInBounds_toArray, List.set_cons_zero, List.set_cons_succ]
          refine Rt.one (i := 2) rfl (by kernel_rfl) (fun K hK => ?_)
          go_simp
          go_wp2_with (go_at_call 80; refine (Hsp.out _ (by repeat (first | assumption | apply Rd.drewN | apply Rd.drew | apply Rd.alloc | (apply Rd.setAt (hx := by omega)) | (apply Rd.setOp (hx := by omega)) | (apply Rd.far (hp := by simp only []; omega))))).mono ?_; rintro e w3 ⟨rfl, hf3⟩)
          all_goals exact ⟨rfl, rfl, Fr.trans hF2 (Fr.undrewN (Fr.undrew hf3))⟩
        | ok sp j =>
          rw [hsr] at H hsp
          simp only [R.bind] at H
          have Hsp := hid hsp
          have HK := hid H
          clear hsp H
          go_wp2_with (go_at_call 70; refine (next_c _ s i' op _ hr2).mono ?_; rintro e w2 ⟨rfl, n, rfl⟩)
          refine wp_region_tail 3 (fun w' => Blk w' w.heap.size 35 (setA a)) (by kernel_rfl) (by kernel_rfl) ?_
          simp only [List.take_succ_cons, List.take_zero, List.drop_succ_cons, List.drop_zero]
          have hS : Blk (wr.drewN n).drew w.heap.size 35 (setA a) := hB2
          refine Rt.take (i := 0) rfl (by kernel_rfl) (fun _ _ _ h => h) (YieldsIf.load rfl rfl rfl (fun W hW => Blk.range hW) Try.underlying35 rfl infoSet) (by assumption) ?_
          try simp only [Act.put, List.getElem_toArray, List.getElem_cons_succ, List.getElem_cons_zero, List.setIfInBounds_toArray, List.set_cons_zero, List.set_cons_succ]
          refine Rt.take (i := 1) (v := (.pointer (some ⟨b, 0, none⟩))) rfl (by kernel_rfl) (fun _ _ _ h => h) (.inl ⟨rfl, fun w hSw => by (try dsimp only at hSw); go_simp⟩) (by assumption) ?_
          try simp only [Act.put, List.getElem_toArray, List.getElem_cons_succ, List.getElem_cons_zero, List.setIfInBounds_toArray, List.set_cons_zero, List.set_cons_succ]
          refine Rt.one (i := 2) rfl (by kernel_rfl) (fun K hK => ?_)
          go_simp
          go_wp2_with (go_at_call 80; refine (Hsp.out _ (by repeat (first | assumption | apply Rd.drewN | apply Rd.drew | apply Rd.alloc | (apply Rd.setAt (hx := by omega)) | (apply Rd.setOp (hx := by omega)) | (apply Rd.far (hp := by simp only []; omega))))).mono ?_; rintro e w3 ⟨⟨v, rfl, rfl⟩, hr3, hj3, hf3⟩)
          have hB3 := hf3.blk hS (by show ¬ w.heap.size = b; omega)
          refine hK.out _ _ hB3 (Rt.done (by kernel_rfl) ?_)
          clear hK K
          go_wp2_with (first | (go_at_call 79; refine (bor_c a sp _).mono ?_; rintro e w4 ⟨rfl, hf4⟩) |
            ((with_reducible refine at_store _ ?_); refine wpList_store_blk rfl rfl rfl rfl (hf4.blk hB3 id) rfl infoSet (setA_one _) ?_; intro W hW hfW _))
          go_roundg kn
          case measure => omega
          case rel => exact ⟨j, orS a sp, HK.out, (hr3.fr hf4 id).fr hfW (by show ¬ b = w.heap.size; omega), hW, Fr.call (Fr.no (Fr.trans hF2 (Fr.undrewN (Fr.undrew hf3))) hf4) hfW (by intro k hk hkk; omega), hj3⟩
end
end Go.Proofs.Ytldmdlkjpdfonaa
