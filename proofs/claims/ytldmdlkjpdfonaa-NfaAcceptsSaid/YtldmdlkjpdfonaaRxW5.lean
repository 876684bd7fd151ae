/- The walks: one, bytes256.One. -/
import Derived.Test.YtldmdlkjpdfonaaRxW4
import Derived.Test.YtldmdlkjpdfonaaSets
namespace Go.Proofs.Ytldmdlkjpdfonaa
set_option linter.unusedVariables false
set_option linter.unusedSimpArgs false
open Go Go.RowKit

theorem escape_ne (s : ByteArray) (i : Nat) : Rx.escape s i ≠ .out := by
  unfold Rx.escape
  split; · simp
  split
  · cases h : Rx.digit s (i + 1) with
    | out => exact absurd h (digit_ne _ _)
    | bad k => simp [R.bind]
    | ok a j =>
      simp only [R.bind]
      cases h : Rx.digit s j with
      | out => exact absurd h (digit_ne _ _)
      | bad k => simp
      | ok a j => simp
  repeat (split; · simp)
  simp
theorem one_ne (s : ByteArray) (i : Nat) : Rx.one s i ≠ .out := by
  unfold Rx.one
  split
  · exact escape_ne _ _
  split <;> simp

section
variable (b : Nat) (s : ByteArray) (i op : Nat) (w : World)
set_option maxRecDepth 100000 in
set_option maxHeartbeats 800000 in
theorem one_c (hs : s.size < 1099511627776) (hr : Rd w b s i op) :
    Calls Try.prog 77 #[.pointer (some ⟨b, 0, none⟩)] w (Out ByteV w b s op (Rx.one s i)) := by
  unfold Rx.one
  obtain ⟨h0, h1, h2, f1, f2⟩ := hr.cells
  have hl := nx_le s i
  by_cases hb : nx s i = 92
  · rw [if_pos hb]
    have Hb := hid hb
    clear hb
    go_enter Try.func77, Try.ntmps77
    go_wp2_with (first | (go_at_call 70; refine (next_c _ s i op _ hr).mono ?_; rintro e w1 ⟨rfl, n, rfl⟩) | (go_at_call 66; refine (skip_t _ s i op _ 92 hs (hr.drewN n) (by omega) Hb.out).mono ?_; rintro e w2 ⟨rfl, hr2, hlt, hf2⟩; clear h0 h1 h2 f1 f2))
    have hc := escape_c b s (i + 1) op w2 hs hr2
    cases he : Rx.escape s (i + 1) with
    | out => exact absurd he (escape_ne _ _)
    | bad k =>
      rw [he] at hc
      refine hc.mono ?_
      rintro e w3 ⟨rfl, hf3⟩
      exact ⟨rfl, rfl, Fr.trans (Fr.trans ((Fr.refl _ _).drewN n) hf2) hf3⟩
    | ok a j =>
      rw [he] at hc
      refine hc.mono ?_
      rintro e w3 ⟨⟨v, rfl, rfl, ha0, ha1⟩, hr3, hj, hf3⟩
      go_wp2
      go_ret
      rw [he]
      exact ⟨⟨_, rfl, rfl, ha0, ha1⟩, hr3, hj, Fr.trans (Fr.trans ((Fr.refl _ _).drewN n) hf2) hf3⟩
  · rw [if_neg hb]
    by_cases hp : 0 ≤ nx s i
    · have hlt := nx_nonneg hp
      have hw1 := IntWalk.u8_in (nx s i) (by omega)
      cases hq : plainB (nx s i) with
      | true =>
        rw [if_pos ⟨hp, rfl⟩]
        have hsz : ((escB (nx s i)).size == 1) = true := by rw [escB_size, hq]
        have hsz' : (((escB (nx s i)).size : Int) == 1) = true := by simp at hsz ⊢; omega
        have Hb := hid hb
        clear hb hq hsz
        go_enter Try.func77, Try.ntmps77
        go_wp2_with (first | (go_at_call 70; refine (next_c _ s i op _ hr).mono ?_; rintro e w1 ⟨rfl, n, rfl⟩) | (go_at_call 66; refine (skip_f _ s i op _ 92 (hr.drewN n) (by omega) Hb.out).mono ?_; rintro e w2 ⟨rfl, hr2, hf2⟩; clear h0 h1 h2 f1 f2; obtain ⟨h0, h1, h2, f1, f2⟩ := hr2.cells))
        go_region_held3 (fun w' => w'.cell? ⟨b, 1, none⟩ = some (.int .i64 i)) (first | go_keep | exact hf3.cell id (by assumption))
          (first | (go_at_call 83; refine (escape_str (nx s i) _ hp (by omega)).mono ?_; rintro e w3 ⟨rfl, hf3⟩) | (go_at_call 60; refine (need_t _ _ _).mono ?_; rintro e w4 ⟨rfl, rfl⟩))
        have hr3 := hr2.fr hf3.undrew id
        have hf4 : Fr (At b) w _ := Fr.no (Fr.no ((Fr.refl (At b) w).drewN n) hf2) hf3.undrew
        clear h0 h1 h2 f1 f2 hr hf3 hr2 hf2
        obtain ⟨h0, h1, h2, f1, f2⟩ := hr3.cells
        go_wp2
        go_ret
        exact ⟨⟨_, rfl, rfl, hp, by omega⟩, (by repeat (first | assumption | apply Rd.drewN | apply Rd.drew | apply Rd.alloc | (apply Rd.setAt (hx := by omega)) | (apply Rd.setOp (hx := by omega)) | (apply Rd.far (hp := by simp only []; omega)))), by omega, (by repeat (first | assumption | exact Fr.refl _ _ | apply Fr.drewN | apply Fr.drew | apply Fr.alloc | apply Fr.setB | (apply Fr.setNew (hp := by first | exact Nat.le_refl _ | (simp; done) | (simp; omega))) | (refine Fr.no ?_ (by assumption)) | (refine Fr.trans ?_ (by assumption))))⟩
      | false =>
        rw [if_neg (by simp)]
        have hsz : ((escB (nx s i)).size == 1) = false := by rw [escB_size, hq]
        have hsz' : (((escB (nx s i)).size : Int) == 1) = false := by simp at hsz ⊢; omega
        have Hb := hid hb
        clear hb hq hsz
        go_enter Try.func77, Try.ntmps77
        go_wp2_with (first | (go_at_call 70; refine (next_c _ s i op _ hr).mono ?_; rintro e w1 ⟨rfl, n, rfl⟩) | (go_at_call 66; refine (skip_f _ s i op _ 92 (hr.drewN n) (by omega) Hb.out).mono ?_; rintro e w2 ⟨rfl, hr2, hf2⟩; clear h0 h1 h2 f1 f2; obtain ⟨h0, h1, h2, f1, f2⟩ := hr2.cells))
        refine wp_region_held (S := fun w' => w'.cell? ⟨b, 1, none⟩ = some (.int .i64 i)) (by kernel_rfl) ?_
        have hS : ({ w2 with drawn := w2.drawn + 1 } : World).cell? ⟨b, 1, none⟩ = some (.int .i64 i) := h1
        refine wpAnyH_take (i := 0) (v := (.pointer (some ⟨b, 0, none⟩))) rfl (by kernel_rfl) (by kernel_rfl) (by kernel_rfl) (fun _ _ _ h => h) (.inl ⟨rfl, fun w hSw => by go_simp⟩) (by assumption) ?_
        simp only [Act.put, List.setIfInBounds_toArray, List.set_cons_zero, List.set_cons_succ]
        refine wpAnyH_take (i := 1) (v := (.int .i64 (nx s i))) rfl (by kernel_rfl) (by kernel_rfl) (by kernel_rfl) (fun _ _ _ h => h) (.inl ⟨rfl, fun w hSw => by go_simp⟩) (by assumption) ?_
        simp only [Act.put, List.setIfInBounds_toArray, List.set_cons_zero, List.set_cons_succ]
        refine wpAnyH_take (i := 2) (v := (.bool true)) rfl (by kernel_rfl) (by kernel_rfl) (by kernel_rfl) (fun _ _ _ h => h) (.inl ⟨rfl, fun w hSw => by go_simp⟩) (by assumption) ?_
        simp only [Act.put, List.setIfInBounds_toArray, List.set_cons_zero, List.set_cons_succ]
        refine wpAnyH_take (i := 3) (v := (.bool true)) rfl (by kernel_rfl) (by kernel_rfl) (by kernel_rfl) (fun _ _ _ h => h) (.inl ⟨rfl, fun w hSw => by go_simp⟩) (by assumption) ?_
        simp only [Act.put, List.setIfInBounds_toArray, List.set_cons_zero, List.set_cons_succ]
        refine wpAnyH_take (i := 4) (v := (.int .i64 (nx s i))) rfl (by kernel_rfl) (by kernel_rfl) (by kernel_rfl) (fun _ _ _ h => h) (.inl ⟨rfl, fun w hSw => by go_simp⟩) (by assumption) ?_
        simp only [Act.put, List.setIfInBounds_toArray, List.set_cons_zero, List.set_cons_succ]
        refine wpAnyH_take (i := 5) (v := (.int .u8 (nx s i))) rfl (by kernel_rfl) (by kernel_rfl) (by kernel_rfl) (fun _ _ _ h => h) (.inl ⟨rfl, fun w hSw => by go_simp⟩) (by assumption) ?_
        simp only [Act.put, List.setIfInBounds_toArray, List.set_cons_zero, List.set_cons_succ]
        refine wpAnyH_take (i := 10) (v := (.pointer (some ⟨b, 0, none⟩))) rfl (by kernel_rfl) (by kernel_rfl) (by kernel_rfl) (fun _ _ _ h => h) (.inl ⟨rfl, fun w hSw => by go_simp⟩) (by assumption) ?_
        simp only [Act.put, List.setIfInBounds_toArray, List.set_cons_zero, List.set_cons_succ]
        refine wpAnyH_take (i := 11) (v := (.pointer (some ⟨b, 0, none⟩))) rfl (by kernel_rfl) (by kernel_rfl) (by kernel_rfl) (fun _ _ _ h => h) (.inl ⟨rfl, fun w hSw => by go_simp⟩) (by assumption) ?_
        simp only [Act.put, List.setIfInBounds_toArray, List.set_cons_zero, List.set_cons_succ]
        refine wpAnyH_take (i := 12) (v := (.pointer (some ⟨b, 1, none⟩))) rfl (by kernel_rfl) (by kernel_rfl) (by kernel_rfl) (fun _ _ _ h => h) (.inl ⟨rfl, fun w hSw => by go_simp⟩) (by assumption) ?_
        simp only [Act.put, List.setIfInBounds_toArray, List.set_cons_zero, List.set_cons_succ]
        refine wpAnyH_take (i := 13) (v := (.int .i64 i)) rfl (by kernel_rfl) (by kernel_rfl) (by kernel_rfl) (fun _ _ _ h => h) (.inl ⟨rfl, fun w hSw => by go_simp⟩) (by assumption) ?_
        simp only [Act.put, List.setIfInBounds_toArray, List.set_cons_zero, List.set_cons_succ]
        refine wpAnyH_ready (rs := [6]) (by kernel_rfl) (by simp) ?_
        refine AllReadyH.cons rfl (fun K hK => ?_) ?_
        · go_simp
          go_wp2_with (go_at_call 83; refine (escape_str (nx s i) _ hp (by omega)).mono ?_; rintro e w3 ⟨rfl, hf3⟩)
          refine hK.out _ _ (hf3.cell id hS) (fun hHeld => ?_)
          clear hK K
          refine wpAnyH_take (i := 7) (v := (.int .i64 (escB (nx s i)).size)) rfl (by kernel_rfl) (by kernel_rfl) (by kernel_rfl) (fun _ _ _ h => h) (.inl ⟨rfl, fun w hSw => by go_simp⟩) (by assumption) ?_
          simp only [Act.put, List.setIfInBounds_toArray, List.set_cons_zero, List.set_cons_succ]
          refine wpAnyH_take (i := 8) (v := (.bool false)) rfl (by kernel_rfl) (by kernel_rfl) (by kernel_rfl) (fun _ _ _ h => h) (.inl ⟨rfl, fun w hSw => by go_simp⟩) (by assumption) ?_
          simp only [Act.put, List.setIfInBounds_toArray, List.set_cons_zero, List.set_cons_succ]
          refine wpAnyH_take (i := 9) (v := (.bool false)) rfl (by kernel_rfl) (by kernel_rfl) (by kernel_rfl) (fun _ _ _ h => h) (.inl ⟨rfl, fun w hSw => by go_simp⟩) (by assumption) ?_
          simp only [Act.put, List.setIfInBounds_toArray, List.set_cons_zero, List.set_cons_succ]
          refine wpAnyH_ready (rs := [14]) (by kernel_rfl) (by simp) ?_
          refine AllReadyH.cons rfl (fun K hK => ?_) ?_
          · go_simp
            go_wp2_with (go_at_call 60; refine (need_f _ _ i).mono ?_; rintro e w4 ⟨rfl, rfl⟩)
            exact ⟨rfl, rfl, Fr.no (Fr.no ((Fr.refl (At b) w).drewN n) hf2) (Fr.undrew hf3)⟩
          · exact .nil
        · exact .nil
    · rw [if_neg (by omega)]
      have hd : decide (0 ≤ nx s i) = false := decide_eq_false hp
      have Hb := hid hb
      clear hb
      go_enter Try.func77, Try.ntmps77
      go_wp2_with (first | (go_at_call 70; refine (next_c _ s i op _ hr).mono ?_; rintro e w1 ⟨rfl, n, rfl⟩) | (go_at_call 66; refine (skip_f _ s i op _ 92 (hr.drewN n) (by omega) Hb.out).mono ?_; rintro e w2 ⟨rfl, hr2, hf2⟩; clear h0 h1 h2 f1 f2; obtain ⟨h0, h1, h2, f1, f2⟩ := hr2.cells))
      refine wp_region_still_tail 14 (by kernel_rfl) (by kernel_rfl) ?_
      simp only [List.take_succ_cons, List.take_zero, List.drop_succ_cons, List.drop_zero]
      repeat still_step
      refine wpStill_nil ?_
      change wpList _ _ _ _ _ w2.drew
      go_wp2_with (go_at_call 60; refine (need_f _ _ i).mono ?_; rintro e w3 ⟨rfl, rfl⟩)
      exact ⟨rfl, rfl, (Fr.no ((Fr.refl (At b) w).drewN n) hf2).drew⟩
end
end Go.Proofs.Ytldmdlkjpdfonaa
