/- The walk of sieveref07's parser: alt. Condition: the text has fewer than 2^20 bytes, the place is within it. -/
import Derived.Test.YtcphepjfnnbonaaPf12
import Derived.Test.YtcphepjfnnbonaaRxW14
namespace Go.Proofs.Ytcphepjfnnbonaa
set_option linter.unusedVariables false
set_option linter.unusedSimpArgs false
open Go Go.RowKit
section
variable (b : Nat) (s : ByteArray) (i op : Nat) (w : World)
set_option maxHeartbeats 16000000 in
theorem palt_a (sub : Option (Nat → R Nd)) (hs : s.size < 1048576) (hr : Ps w b s i (-1) op) (hi : i ≤ s.size) (hsub : PAltSpec s op sub) (hgo : SubGoes s sub) :
    Calls Try.prog 21 #[.pointer (some ⟨b, 0, none⟩)] w (OutP (NewN w) w b s op (Rx.altF s sub i)) := by
  unfold Rx.altF
  have hbw := hr.lt
  have hB0 := Blk.new w 28 #[.int .i64 0, .int .u64 0, .int .u64 0, .int .u64 0, .int .u64 0, .int .i64 0, .int .i64 0, .slice none 0 0]
  have hF0 : Fr (At b) w _ := (Fr.refl (At b) w).alloc (.cells #[.int .i64 0, .int .u64 0, .int .u64 0, .int .u64 0, .int .u64 0, .int .i64 0, .int .i64 0, .slice none 0 0] 28)
  have hr0 := hr.alloc (.cells #[.int .i64 0, .int .u64 0, .int .u64 0, .int .u64 0, .int .u64 0, .int .i64 0, .int .i64 0, .slice none 0 0] 28)
  have Hs := hid hs
  have Hbw := hid hbw
  have Hgo := hid hgo
  have Hsub := hid hsub
  have hcat0 := pcat_a b s i op (w.alloc (.cells #[.int .i64 0, .int .u64 0, .int .u64 0, .int .u64 0, .int .u64 0, .int .i64 0, .int .i64 0, .slice none 0 0] 28)) sub hs hr0 hi hsub hgo
  have hcg := (cat_goes hgo i hi).2
  clear hgo hsub hs
  cases hc0 : Rx.cat s sub i with
  | out => exact absurd hc0 (cat_goes Hgo.out i hi).1
  | bad k0 =>
    rw [hc0] at hcat0
    show Calls _ _ _ w (OutP (NewN w) w b s op (.bad k0))
    clear hc0
    go_enter Try.func21, Try.ntmps21
    go_wp2_with (go_at_call 27; refine hcat0.mono ?_; rintro e w1 ⟨⟨v0, n0, rfl, A1, cap1, rfl, hrep1⟩, ⟨x1, hP1⟩, hk0, hf1⟩; unfold nodeA)
    have hbs := Blk.new w1 28 (nodeA n0 A1 cap1)
    have hl1 : w.heap.size < w1.heap.size := by have h1 := hf1.size; rw [World.size_alloc] at h1; omega
    have hO1 : Own (w1.alloc (.cells (nodeA n0 A1 cap1) 28)) (w.heap.size + 1) (fun k => w.heap.size < k) 28 8 (.slice (some ⟨w1.heap.size, 0, none⟩) 1 1) [n0].length (encNs [n0]) := by
      rw [encNs_one]
      exact Own.made hbs rfl (by omega) (by decide) (NodeIn.cells (((hrep1.sub (S' := fun k => w.heap.size < k ∧ k ≠ w1.heap.size) (fun k hk hl => by
        have h1 : (w.alloc (.cells #[.int .i64 0, .int .u64 0, .int .u64 0, .int .u64 0, .int .u64 0, .int .i64 0, .int .i64 0, .slice none 0 0] 28)).heap.size ≤ k := hk
        rw [World.size_alloc] at h1
        exact ⟨by omega, by omega⟩)).alloc _)))
    have hB1 : Blk w1 w.heap.size 28 #[.int .i64 0, .int .u64 0, .int .u64 0, .int .u64 0, .int .u64 0, .int .i64 0, .int .i64 0, .slice none 0 0] := hf1.blk hB0 (by show ¬ w.heap.size = b; omega)
    have hF1 : Fr (At b) w w1 := Fr.trans hF0 hf1
    refine wp_world (fun W => ∃ v l, v = Value.slice (some ⟨w1.heap.size, 0, none⟩) 1 1 ∧ 1 ≤ l.length ∧ Ps W b s x1 k0 op ∧ Own W (w.heap.size + 1) (fun k => w.heap.size < k) 28 8 v l.length (encNs l) ∧ Blk W w.heap.size 28 #[.int .i64 0, .int .u64 0, .int .u64 0, .int .u64 0, .int .u64 0, .int .i64 0, .int .i64 0, .slice none 0 0] ∧ Fr (At b) w W) ⟨.slice (some ⟨w1.heap.size, 0, none⟩) 1 1, [n0], rfl, Nat.le_refl _, hP1.alloc _, by exact hO1, hB1.alloc _, hF1.alloc _⟩ ?_
    clear hO1 hB1 hF1 hbs hrep1 hP1 hf1 hr0 hB0 hF0 hcat0
    rintro wr ⟨v, l, hv, hlen, hP, hO, hB, hF⟩
    rw [← hv]
    clear hv
    obtain ⟨h00, h1, h2, h3, f1, f2, f3⟩ := hP.cells
    refine wp_loop_rounds 1 ?_
    rw [rounds_succ]
    obtain ⟨A, cap, rfl, hcp1, hcp2⟩ := hO.form
    have hN := (hO.rep (fun k hk => by omega)).sub (S' := fun k => w.heap.size < k) (fun k hk _ => hk)
    cases l with
    | nil =>
      exact absurd hlen (by simp)
    | cons n r =>
      cases r with
      | nil =>
        obtain ⟨g, off, A', cap', rfl, hSg, hlg, hrng, hrep⟩ := NodesIn.at_ (l := [n]) (i := 0) hN rfl
        generalize hL : [n].length = L at *
        have e0 : ((L : Int) == 0) = false := by subst hL; rfl
        have e1 : ((L : Int) == 1) = true := by subst hL; rfl
        have e2 : (0 : Int) < (L : Int) := by subst hL; simp
        have HL := hid hL
        clear hL hO
        rw [Nat.mul_zero, Nat.add_zero] at hrng
        go_wp2_with (first | (go_at_call 28; refine (pnext_d b s op _ _ _ hP).mono ?_; rintro e wn ⟨rfl, nn, rfl⟩) | ((with_reducible refine at_load 28 ?_); refine wpList_load_rng (cs := nodeA n A' cap') rfl rfl rfl hrng Try.underlying28 rfl infoNode ?_) | ((with_reducible refine at_store 28 ?_); refine wpList_store_blk (cs := nodeA n A' cap') rfl rfl rfl rfl (hB.drewN nn) rfl infoNode (nodeA_one _ _ _) ?_; intro W9 hW9 hfW9 _))
        refine bodyPost_blk rfl rfl hW9 Try.underlying28 rfl infoNode rfl ?_
        have hN9 : NewN w W9 (.agg (nodeA n A' cap')) (Rx.of 4 [n]) := ⟨A', cap', rfl, (hrep.drewN nn).fr hfW9 (fun k hk _ => ⟨by show ¬ k = w.heap.size; omega, Nat.le_of_lt hk⟩)⟩
        exact ⟨⟨_, _, rfl, hN9⟩, ⟨_, (hP.drewN nn).fr hfW9 (by show ¬ b = w.heap.size; omega)⟩, hk0, (hF.drewN nn).callAt hfW9 (Nat.le_refl _)⟩
      | cons m r =>
        have hlen2 : 2 ≤ (n :: m :: r).length := by simp
        generalize hL : (n :: m :: r).length = L at *
        have e0 : ((L : Int) == 0) = false := by simp; omega
        have e1 : ((L : Int) == 1) = false := by simp; omega
        have HL := hid hL
        clear hL hO
        go_wp2_with (first | (go_at_call 28; refine (pnext_d b s op _ _ _ hP).mono ?_; rintro e wn ⟨rfl, nn, rfl⟩) | ((with_reducible refine at_store 28 ?_); refine wpList_store_blk (cs := #[.int .i64 4, .int .u64 0, .int .u64 0, .int .u64 0, .int .u64 0, .int .i64 0, .int .i64 0, .slice A L cap]) rfl rfl rfl rfl (hB.drewN nn) rfl infoNode (by simp [Value.oneCell']) ?_; intro W9 hW9 hfW9 _))
        refine bodyPost_blk rfl rfl hW9 Try.underlying28 rfl infoNode rfl ?_
        have hN9 : NewN w W9 (.agg #[.int .i64 4, .int .u64 0, .int .u64 0, .int .u64 0, .int .u64 0, .int .i64 0, .int .i64 0, .slice A L cap]) (Rx.of 4 (n :: m :: r)) := by
          refine ⟨A, cap, ?_, ?_⟩
          · simp only [Rx.of, nodeA, wd_zero, Nd.kind, Nd.set, Nd.mn, Nd.mx, Nd.subs, HL.out]
          · show Rep _ _ (.slice A (n :: m :: r).length cap) (.sl 28 (n :: m :: r).length (encNs (n :: m :: r)))
            rw [HL.out]
            exact (hN.drewN nn).fr hfW9 (fun k hk _ => ⟨by show ¬ k = w.heap.size; omega, Nat.le_of_lt hk⟩)
        exact ⟨⟨_, _, rfl, hN9⟩, ⟨_, (hP.drewN nn).fr hfW9 (by show ¬ b = w.heap.size; omega)⟩, hk0, (hF.drewN nn).callAt hfW9 (Nat.le_refl _)⟩
  | ok n0 j0 =>
    obtain ⟨hj0, hj1⟩ := hcg n0 j0 hc0
    rw [hc0] at hcat0
    simp only [R.bind]
    have hne := (altLoop_goes Hgo.out (s.size + 1) j0 [n0] (by omega) hj1).1
    generalize hres : Rx.altLoop s sub (s.size + 1) j0 [n0] = res at *
    have Hres := hid hres
    have Hne := hid hne
    have Hcat0 := hid hcat0
    clear hres hne hcat0 hcg hc0
    go_enter Try.func21, Try.ntmps21
    go_wp2_with (go_at_call 27; refine Hcat0.out.mono ?_; rintro e w1 ⟨⟨v0, rfl, A1, cap1, rfl, hrep1⟩, hP1, hj2, hf1⟩; unfold nodeA)
    have hbs := Blk.new w1 28 (nodeA n0 A1 cap1)
    have hl1 : w.heap.size < w1.heap.size := by have h1 := hf1.size; rw [World.size_alloc] at h1; omega
    have hO1 : Own (w1.alloc (.cells (nodeA n0 A1 cap1) 28)) (w.heap.size + 1) (fun k => w.heap.size < k) 28 8 (.slice (some ⟨w1.heap.size, 0, none⟩) 1 1) [n0].length (encNs [n0]) := by
      rw [encNs_one]
      exact Own.made hbs rfl (by omega) (by decide) (NodeIn.cells (((hrep1.sub (S' := fun k => w.heap.size < k ∧ k ≠ w1.heap.size) (fun k hk hl => by
        have h1 : (w.alloc (.cells #[.int .i64 0, .int .u64 0, .int .u64 0, .int .u64 0, .int .u64 0, .int .i64 0, .int .i64 0, .slice none 0 0] 28)).heap.size ≤ k := hk
        rw [World.size_alloc] at h1
        exact ⟨by omega, by omega⟩)).alloc _)))
    have hB1 : Blk w1 w.heap.size 28 #[.int .i64 0, .int .u64 0, .int .u64 0, .int .u64 0, .int .u64 0, .int .i64 0, .int .i64 0, .slice none 0 0] := hf1.blk hB0 (by show ¬ w.heap.size = b; omega)
    have hF1 : Fr (At b) w w1 := Fr.trans hF0 hf1
    go_loopg [3] (s.size + 1) (fun k v wr => (∃ (i' : Nat) (l : List Nd), Aside (Rx.altLoop s sub k i' l = res) ∧ Ps wr b s i' (-1) op ∧ Own wr (w.heap.size + 1) (fun k => w.heap.size < k) 28 8 v l.length (encNs l) ∧ Blk wr w.heap.size 28 #[.int .i64 0, .int .u64 0, .int .u64 0, .int .u64 0, .int .u64 0, .int .i64 0, .int .i64 0, .slice none 0 0] ∧ Fr (At b) w wr ∧ i' ≤ s.size ∧ l.length ≤ i' + 1 ∧ 1 ≤ l.length) ∨
      (∃ (k0 : Nat) (x : Int) (l : List Nd), Aside (R.bad k0 = res) ∧ Ps wr b s x k0 op ∧ Own wr (w.heap.size + 1) (fun k => w.heap.size < k) 28 8 v l.length (encNs l) ∧ Blk wr w.heap.size 28 #[.int .i64 0, .int .u64 0, .int .u64 0, .int .u64 0, .int .u64 0, .int .i64 0, .int .i64 0, .slice none 0 0] ∧ Fr (At b) w wr ∧ k0 ≤ s.size ∧ 1 ≤ l.length))
    case atStart => exact .inl ⟨j0, [n0], Hres.out, hP1.alloc _, hO1, hB1.alloc _, hF1.alloc _, hj1, by simp, Nat.le_refl _⟩
    case round =>
      clear hP1 hB1 hF1 Hres hr hO1 hbs hrep1 hf1 hr0 hB0 hF0 Hcat0
      rcases hrel with ⟨i', l, HA, hP, hO, hB, hF, hi2, hll, hlen⟩ | ⟨k0, x, l, HA, hP, hO, hB, hF, hk0, hlen⟩
      · cases gk with
        | zero => exact absurd (HA.out : R.out = res).symm Hne.out
        | succ kn =>
          have H := HA.out
          clear HA
          unfold Rx.altLoop at H
          have hN0 := pnext_a b s i' op wr hP
          obtain ⟨c0, Hc0⟩ : ∃ c0, Hid (nx s i' = c0) := ⟨_, rfl⟩
          rw [Hc0.out] at hN0
          obtain ⟨h00, h1, h2, h3, f1, f2, f3⟩ := hP.cells
          by_cases hx : c0 = 124
          · rw [if_pos (by rw [Hc0.out]; exact hx)] at H
            have d1 : (c0 == 124) = true := by simp [hx]
            have hlt : i' < s.size := nx_nonneg (by rw [Hc0.out]; omega)
            clear hx
            have hsz := Hs.out
            have hcat := fun (W : World) (hW : Ps W b s (i' + 1 : Nat) (-1) op) => pcat_a b s (i' + 1) op W sub Hs.out hW (by omega) Hsub.out Hgo.out
            obtain ⟨A0, cap0, rfl, hc1, hc2⟩ := hO.form
            have hgt := hB.lt
            have hsep2 : ∀ (nn : Nat) (y : Value) (k : Nat), k < ((wr.drewN nn).setCell ⟨b, 1, none⟩ y).heap.size → (w.heap.size < k ∨ (Value.slice A0 l.length cap0).ownBlock = some k) → ¬ At b k := fun nn y k hk h => by
              rcases h with h | h
              · show ¬ k = b; omega
              · have := hO.blk_lt k h; show ¬ k = b; omega
            replace hsep2 := fun {nn : Nat} {y : Value} => hsep2 nn y
            have hnew : ∀ k, wr.heap.size ≤ k → w.heap.size < k ∧ some k ≠ (Value.slice A0 l.length cap0).ownBlock := fun k hk => by
              refine ⟨by omega, fun h => ?_⟩
              have := hO.blk_lt k h.symm
              omega
            have hgb : ¬ (some b = (Value.slice A0 l.length cap0).ownBlock) := fun h => by have := hO.blk_lt b h.symm; omega
            have hgw : ¬ (some w.heap.size = (Value.slice A0 l.length cap0).ownBlock) := fun h => by have := hO.blk_lt _ h.symm; omega
            cases hir : Rx.cat s sub (i' + 1) with
            | out => rw [hir] at H; exact absurd (H : R.out = res).symm Hne.out
            | bad kk =>
              rw [hir] at H hcat
              simp only [R.bind] at H
              have HK := hid H
              have Hcat := hid hcat
              clear hcat H
              go_wp2_with (first | (go_at_call 28; refine hN0.mono ?_; rintro e wn ⟨rfl, nn, rfl⟩) |
                (go_at_call 27; refine (Hcat.out _ ((hP.drewN nn).setAt (y := (i' : Int) + 1) (z := ((i' + 1 : Nat) : Int)) (by omega))).mono ?_; rintro e w3 ⟨⟨v1, nd, rfl, A, cap, rfl, hrep⟩, ⟨x3, hP3⟩, hk3, hf3⟩; unfold nodeA; have hO3 := (((hO.drewN nn).set (p := ⟨b, 1, none⟩) (by show ¬ w.heap.size < b; omega) (fun h => by have h2 : w.heap.size + 1 ≤ b := ((hO.drewN nn).blk_lt _ h).1; omega) (.int .i64 ((i' : Int) + 1))).fr hf3 hsep2).alloc (.cells (nodeA nd A cap) 28)) |
                (at_builtin; go_loud ((with_reducible refine at_call ?_); refine wpList_append_D (es := encN nd) rfl (.tmp 17) (.tmp 20) 26 rfl _ 80 Try.underlying26 infoNode3 rfl (by decide) rfl hO3 rfl (news := (nodeA nd A cap).toList) rfl (Blk.new w3 28 (nodeA nd A cap)).news ((NodeIn.cells (hrep.alloc _)).mono (fun k hk hl => ⟨rfl, hnew k (by have h9 : ((wr.drewN nn).setCell ⟨b, 1, none⟩ (.int .i64 ((i' : Int) + 1))).heap.size ≤ k := hk; simpa [World.setCell] using h9)⟩)) (by omega) (by omega) (by have h1 : ((wr.drewN nn).setCell ⟨b, 1, none⟩ (.int .i64 ((i' : Int) + 1))).heap.size ≤ w3.heap.size := hf3.size; have h8 : wr.heap.size ≤ w3.heap.size := (by simpa [World.setCell] using h1); rw [World.size_alloc]; omega) ?_); intro v' w4 hO4 hg4 hat4))
              have hFg := Fr.ofGrown hg4
              have hB3 : Blk w3 w.heap.size 28 #[.int .i64 0, .int .u64 0, .int .u64 0, .int .u64 0, .int .u64 0, .int .i64 0, .int .i64 0, .slice none 0 0] := hf3.blk ((hB.drewN nn).far (p := ⟨b, 1, none⟩) (by show w.heap.size ≠ b; omega) (.int .i64 ((i' : Int) + 1))) (by show ¬ w.heap.size = b; omega)
              have hF3 := Fr.trans ((hF.drewN nn).setB 1 (.int .i64 ((i' : Int) + 1))) hf3
              go_roundg kn
              case measure => omega
              case rel =>
                refine .inr ⟨kk, x3, l ++ [nd], HK.out, (hP3.alloc _).fr hFg hgb, ?_, hFg.blk (hB3.alloc _) hgw, Fr.call (Fr.alloc hF3 _) hFg (fun k hk h => by have := hO.blk_lt k h.symm; omega), hk3, by simp⟩
                rw [List.length_append, encNs_append, encNs_one]
                exact hO4
            | ok nd j =>
              have hgo2 := (cat_goes Hgo.out (i' + 1) (by omega)).2 nd j hir
              rw [hir] at H hcat
              simp only [R.bind] at H
              have HK := hid H
              have Hcat := hid hcat
              clear hcat H
              go_wp2_with (first | (go_at_call 28; refine hN0.mono ?_; rintro e wn ⟨rfl, nn, rfl⟩) |
                (go_at_call 27; refine (Hcat.out _ ((hP.drewN nn).setAt (y := (i' : Int) + 1) (z := ((i' + 1 : Nat) : Int)) (by omega))).mono ?_; rintro e w3 ⟨⟨v1, rfl, A, cap, rfl, hrep⟩, hP3, hj3, hf3⟩; unfold nodeA; have hO3 := (((hO.drewN nn).set (p := ⟨b, 1, none⟩) (by show ¬ w.heap.size < b; omega) (fun h => by have h2 : w.heap.size + 1 ≤ b := ((hO.drewN nn).blk_lt _ h).1; omega) (.int .i64 ((i' : Int) + 1))).fr hf3 hsep2).alloc (.cells (nodeA nd A cap) 28)) |
                (at_builtin; go_loud ((with_reducible refine at_call ?_); refine wpList_append_D (es := encN nd) rfl (.tmp 17) (.tmp 20) 26 rfl _ 80 Try.underlying26 infoNode3 rfl (by decide) rfl hO3 rfl (news := (nodeA nd A cap).toList) rfl (Blk.new w3 28 (nodeA nd A cap)).news ((NodeIn.cells (hrep.alloc _)).mono (fun k hk hl => ⟨rfl, hnew k (by have h9 : ((wr.drewN nn).setCell ⟨b, 1, none⟩ (.int .i64 ((i' : Int) + 1))).heap.size ≤ k := hk; simpa [World.setCell] using h9)⟩)) (by omega) (by omega) (by have h1 : ((wr.drewN nn).setCell ⟨b, 1, none⟩ (.int .i64 ((i' : Int) + 1))).heap.size ≤ w3.heap.size := hf3.size; have h8 : wr.heap.size ≤ w3.heap.size := (by simpa [World.setCell] using h1); rw [World.size_alloc]; omega) ?_); intro v' w4 hO4 hg4 hat4))
              have hFg := Fr.ofGrown hg4
              have hB3 : Blk w3 w.heap.size 28 #[.int .i64 0, .int .u64 0, .int .u64 0, .int .u64 0, .int .u64 0, .int .i64 0, .int .i64 0, .slice none 0 0] := hf3.blk ((hB.drewN nn).far (p := ⟨b, 1, none⟩) (by show w.heap.size ≠ b; omega) (.int .i64 ((i' : Int) + 1))) (by show ¬ w.heap.size = b; omega)
              have hF3 := Fr.trans ((hF.drewN nn).setB 1 (.int .i64 ((i' : Int) + 1))) hf3
              go_roundg kn
              case measure => omega
              case rel =>
                refine .inl ⟨j, l ++ [nd], HK.out, (hP3.alloc _).fr hFg hgb, ?_, hFg.blk (hB3.alloc _) hgw, Fr.call (Fr.alloc hF3 _) hFg (fun k hk h => by have := hO.blk_lt k h.symm; omega), hj3, by simp; omega, by simp⟩
                rw [List.length_append, encNs_append, encNs_one]
                exact hO4
          · rw [if_neg (by rw [Hc0.out]; exact hx)] at H
            subst H
            have d1 : (c0 == 124) = false := by simp [hx]
            clear hx
            obtain ⟨A, cap, rfl, hcp1, hcp2⟩ := hO.form
            have hN := (hO.rep (fun k hk => by omega)).sub (S' := fun k => w.heap.size < k) (fun k hk _ => hk)
            cases l with
            | nil =>
              exact absurd hlen (by simp)
            | cons n r =>
              cases r with
              | nil =>
                obtain ⟨g, off, A', cap', rfl, hSg, hlg, hrng, hrep⟩ := NodesIn.at_ (l := [n]) (i := 0) hN rfl
                generalize hL : [n].length = L at *
                have e0 : ((L : Int) == 0) = false := by subst hL; rfl
                have e1 : ((L : Int) == 1) = true := by subst hL; rfl
                have e2 : (0 : Int) < (L : Int) := by subst hL; simp
                have HL := hid hL
                clear hL hO
                rw [Nat.mul_zero, Nat.add_zero] at hrng
                go_wp2_with (first | (go_at_call 28; refine hN0.mono ?_; rintro e wn ⟨rfl, nn, rfl⟩) | ((with_reducible refine at_load 28 ?_); refine wpList_load_rng (cs := nodeA n A' cap') rfl rfl rfl hrng Try.underlying28 rfl infoNode ?_) | ((with_reducible refine at_store 28 ?_); refine wpList_store_blk (cs := nodeA n A' cap') rfl rfl rfl rfl (hB.drewN nn) rfl infoNode (nodeA_one _ _ _) ?_; intro W9 hW9 hfW9 _))
                refine bodyPost_blk rfl rfl hW9 Try.underlying28 rfl infoNode rfl ?_
                have hN9 : NewN w W9 (.agg (nodeA n A' cap')) (Rx.of 4 [n]) := ⟨A', cap', rfl, (hrep.drewN nn).fr hfW9 (fun k hk _ => ⟨by show ¬ k = w.heap.size; omega, Nat.le_of_lt hk⟩)⟩
                exact ⟨⟨_, rfl, hN9⟩, (hP.drewN nn).fr hfW9 (by show ¬ b = w.heap.size; omega), hi2, (hF.drewN nn).callAt hfW9 (Nat.le_refl _)⟩
              | cons m r =>
                have hlen2 : 2 ≤ (n :: m :: r).length := by simp
                generalize hL : (n :: m :: r).length = L at *
                have e0 : ((L : Int) == 0) = false := by simp; omega
                have e1 : ((L : Int) == 1) = false := by simp; omega
                have HL := hid hL
                clear hL hO
                go_wp2_with (first | (go_at_call 28; refine hN0.mono ?_; rintro e wn ⟨rfl, nn, rfl⟩) | ((with_reducible refine at_store 28 ?_); refine wpList_store_blk (cs := #[.int .i64 4, .int .u64 0, .int .u64 0, .int .u64 0, .int .u64 0, .int .i64 0, .int .i64 0, .slice A L cap]) rfl rfl rfl rfl (hB.drewN nn) rfl infoNode (by simp [Value.oneCell']) ?_; intro W9 hW9 hfW9 _))
                refine bodyPost_blk rfl rfl hW9 Try.underlying28 rfl infoNode rfl ?_
                have hN9 : NewN w W9 (.agg #[.int .i64 4, .int .u64 0, .int .u64 0, .int .u64 0, .int .u64 0, .int .i64 0, .int .i64 0, .slice A L cap]) (Rx.of 4 (n :: m :: r)) := by
                  refine ⟨A, cap, ?_, ?_⟩
                  · simp only [Rx.of, nodeA, wd_zero, Nd.kind, Nd.set, Nd.mn, Nd.mx, Nd.subs, HL.out]
                  · show Rep _ _ (.slice A (n :: m :: r).length cap) (.sl 28 (n :: m :: r).length (encNs (n :: m :: r)))
                    rw [HL.out]
                    exact (hN.drewN nn).fr hfW9 (fun k hk _ => ⟨by show ¬ k = w.heap.size; omega, Nat.le_of_lt hk⟩)
                exact ⟨⟨_, rfl, hN9⟩, (hP.drewN nn).fr hfW9 (by show ¬ b = w.heap.size; omega), hi2, (hF.drewN nn).callAt hfW9 (Nat.le_refl _)⟩
      · have H := HA.out
        subst H
        clear HA
        obtain ⟨h00, h1, h2, h3, f1, f2, f3⟩ := hP.cells
        obtain ⟨A, cap, rfl, hcp1, hcp2⟩ := hO.form
        have hN := (hO.rep (fun k hk => by omega)).sub (S' := fun k => w.heap.size < k) (fun k hk _ => hk)
        cases l with
        | nil =>
          exact absurd hlen (by simp)
        | cons n r =>
          cases r with
          | nil =>
            obtain ⟨g, off, A', cap', rfl, hSg, hlg, hrng, hrep⟩ := NodesIn.at_ (l := [n]) (i := 0) hN rfl
            generalize hL : [n].length = L at *
            have e0 : ((L : Int) == 0) = false := by subst hL; rfl
            have e1 : ((L : Int) == 1) = true := by subst hL; rfl
            have e2 : (0 : Int) < (L : Int) := by subst hL; simp
            have HL := hid hL
            clear hL hO
            rw [Nat.mul_zero, Nat.add_zero] at hrng
            go_wp2_with (first | (go_at_call 28; refine (pnext_d b s op _ _ _ hP).mono ?_; rintro e wn ⟨rfl, nn, rfl⟩) | ((with_reducible refine at_load 28 ?_); refine wpList_load_rng (cs := nodeA n A' cap') rfl rfl rfl hrng Try.underlying28 rfl infoNode ?_) | ((with_reducible refine at_store 28 ?_); refine wpList_store_blk (cs := nodeA n A' cap') rfl rfl rfl rfl (hB.drewN nn) rfl infoNode (nodeA_one _ _ _) ?_; intro W9 hW9 hfW9 _))
            refine bodyPost_blk rfl rfl hW9 Try.underlying28 rfl infoNode rfl ?_
            have hN9 : NewN w W9 (.agg (nodeA n A' cap')) (Rx.of 4 [n]) := ⟨A', cap', rfl, (hrep.drewN nn).fr hfW9 (fun k hk _ => ⟨by show ¬ k = w.heap.size; omega, Nat.le_of_lt hk⟩)⟩
            exact ⟨⟨_, _, rfl, hN9⟩, ⟨_, (hP.drewN nn).fr hfW9 (by show ¬ b = w.heap.size; omega)⟩, hk0, (hF.drewN nn).callAt hfW9 (Nat.le_refl _)⟩
          | cons m r =>
            have hlen2 : 2 ≤ (n :: m :: r).length := by simp
            generalize hL : (n :: m :: r).length = L at *
            have e0 : ((L : Int) == 0) = false := by simp; omega
            have e1 : ((L : Int) == 1) = false := by simp; omega
            have HL := hid hL
            clear hL hO
            go_wp2_with (first | (go_at_call 28; refine (pnext_d b s op _ _ _ hP).mono ?_; rintro e wn ⟨rfl, nn, rfl⟩) | ((with_reducible refine at_store 28 ?_); refine wpList_store_blk (cs := #[.int .i64 4, .int .u64 0, .int .u64 0, .int .u64 0, .int .u64 0, .int .i64 0, .int .i64 0, .slice A L cap]) rfl rfl rfl rfl (hB.drewN nn) rfl infoNode (by simp [Value.oneCell']) ?_; intro W9 hW9 hfW9 _))
            refine bodyPost_blk rfl rfl hW9 Try.underlying28 rfl infoNode rfl ?_
            have hN9 : NewN w W9 (.agg #[.int .i64 4, .int .u64 0, .int .u64 0, .int .u64 0, .int .u64 0, .int .i64 0, .int .i64 0, .slice A L cap]) (Rx.of 4 (n :: m :: r)) := by
              refine ⟨A, cap, ?_, ?_⟩
              · simp only [Rx.of, nodeA, wd_zero, Nd.kind, Nd.set, Nd.mn, Nd.mx, Nd.subs, HL.out]
              · show Rep _ _ (.slice A (n :: m :: r).length cap) (.sl 28 (n :: m :: r).length (encNs (n :: m :: r)))
                rw [HL.out]
                exact (hN.drewN nn).fr hfW9 (fun k hk _ => ⟨by show ¬ k = w.heap.size; omega, Nat.le_of_lt hk⟩)
            exact ⟨⟨_, _, rfl, hN9⟩, ⟨_, (hP.drewN nn).fr hfW9 (by show ¬ b = w.heap.size; omega)⟩, hk0, (hF.drewN nn).callAt hfW9 (Nat.le_refl _)⟩
end
theorem palt_spec (s : ByteArray) (hs : s.size < 1048576) : ∀ (d op : Nat), op + d = 12 → ∀ (i b : Nat) (w : World), Ps w b s i (-1) op → i ≤ s.size →
    Calls Try.prog 21 #[.pointer (some ⟨b, 0, none⟩)] w (OutP (NewN w) w b s op (Rx.alt s d i))
  | 0, op, h, i, b, w, hr, hi => by
    unfold Rx.alt
    exact palt_a b s i op w none hs hr hi (show op = 12 by omega) trivial
  | d + 1, op, h, i, b, w, hr, hi => by
    unfold Rx.alt
    exact palt_a b s i op w (some (Rx.alt s d)) hs hr hi ⟨by omega, fun i b w hr hi _ => palt_spec s hs d (op + 1) (by omega) i b w hr hi⟩ (fun j hj => alt_goes s d j hj)
end Go.Proofs.Ytcphepjfnnbonaa
