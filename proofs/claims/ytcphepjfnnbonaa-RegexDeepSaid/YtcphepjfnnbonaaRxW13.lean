/- The walks of the expression reader: cat. -/
import Derived.Test.YtcphepjfnnbonaaRxW12
namespace Go.Proofs.Ytcphepjfnnbonaa
set_option linter.unusedVariables false
set_option linter.unusedSimpArgs false
open Go Go.RowKit

section
variable (b : Nat) (s : ByteArray) (i op : Nat) (w : World)
set_option maxHeartbeats 4000000 in
theorem cat_c (sub : Option (Nat → R Nd)) (hs : s.size < 1099511627776) (hr : Rd w b s i op) (hi : i ≤ s.size) (hsub : AltSpec s op sub) (hgo : SubGoes s sub) :
    Calls Try.prog 23 #[.pointer (some ⟨b, 0, none⟩)] w (Out (NewN w) w b s op (Rx.cat s sub i)) := by
  unfold Rx.cat
  have hbw := hr.lt; have hr0 := hr.alloc (.cells #[.int .i64 0, .int .u64 0, .int .u64 0, .int .u64 0, .int .u64 0, .int .i64 0, .int .i64 0, .slice none 0 0] 28); have hB0 := Blk.new w 28 #[.int .i64 0, .int .u64 0, .int .u64 0, .int .u64 0, .int .u64 0, .int .i64 0, .int .i64 0, .slice none 0 0]; have hF0 : Fr (At b) w _ := (Fr.refl (At b) w).alloc (.cells #[.int .i64 0, .int .u64 0, .int .u64 0, .int .u64 0, .int .u64 0, .int .i64 0, .int .i64 0, .slice none 0 0] 28); obtain ⟨h0, h1, h2, f1, f2⟩ := hr0.cells
  clear h0 h1 h2 f1 f2
  have hne := (catLoop_goes hgo (s.size + 1) i [] (by omega) hi).1
  generalize hres : Rx.catLoop s sub (s.size + 1) i [] = res at *
  have Hres := hid hres
  have Hne := hid hne
  have Hgo := hid hgo
  have Hsub := hid hsub
  have Hi := hid hi
  clear hres hne hgo hsub
  go_enter Try.func23, Try.ntmps23
  go_wp2_with fail
  go_loopg [3] (s.size + 1) (fun k v wr => ∃ (i' : Nat) (l : List Nd), Aside (Rx.catLoop s sub k i' l = res) ∧ Rd wr b s i' op ∧ Own wr (w.heap.size + 1) (fun k => w.heap.size < k) 28 8 v l.length (encNs l) ∧ Blk wr w.heap.size 28 #[.int .i64 0, .int .u64 0, .int .u64 0, .int .u64 0, .int .u64 0, .int .i64 0, .int .i64 0, .slice none 0 0] ∧ Fr (At b) w wr ∧ i' ≤ s.size ∧ l.length ≤ i')
  case atStart => exact ⟨i, [], Hres.out, hr0, by simp only [encNs, List.length_nil]; exact Own.nil _ _ _ _ _, hB0, hF0, hi, Nat.zero_le _⟩
  case round =>
    clear hr0 hB0 hF0 Hres hr
    obtain ⟨i', l, HA, hr2, hO2, hB2, hF2, hi2, hll⟩ := hrel
    cases gk with
    | zero => exact absurd (HA.out : R.out = res).symm Hne.out
    | succ kn =>
      have H := HA.out
      clear HA
      unfold Rx.catLoop at H
      by_cases hx : Rx.ends s i' = true
      · rw [if_pos hx] at H
        subst H
        have hO3 := hO2
        obtain ⟨A, cap, rfl, hc1, hc2⟩ := hO2.form
        go_wp2_with (go_at_call 29; refine (ends_c b s i' op _ hr2).mono ?_; rintro e w2 ⟨rfl, n, rfl⟩; rw [hx])
        refine calls_world (fun W => Rd W b s i' op ∧ NodesIn W (fun k => w.heap.size < k ∧ k < W.heap.size) (.slice A l.length cap) l ∧ Blk W w.heap.size 28 #[.int .i64 0, .int .u64 0, .int .u64 0, .int .u64 0, .int .u64 0, .int .i64 0, .int .i64 0, .slice none 0 0] ∧ Fr (At b) w W) ⟨(by repeat (first | assumption | apply Rd.drewN | apply Rd.drew | apply Rd.alloc | (apply Rd.setAt (hx := by omega)) | (apply Rd.setOp (hx := by omega)) | (apply Rd.far (hp := by simp only []; omega)))), ((hO2.rep (fun k hk => by omega)).sub (fun k hk hl => ⟨hk, hl⟩)).drewN n, hB2.drewN n, hF2.drewN n⟩ ?_
        clear hr2 hO2 hO3 hB2 hF2
        rintro W ⟨hr2, hN2, hB2, hF2⟩
        go_wp2_with (first | (go_at_call 25; refine (of_c 3 l A cap (fun k => w.heap.size < k ∧ k < W.heap.size) _ (by omega) hN2 (fun k hk => hk.2)).mono ?_; rintro e w3 ⟨v, rfl, ⟨A2, cap2, rfl, hrep⟩, hf3⟩) |
          ((with_reducible refine at_store _ ?_); refine wpList_store_blk (cs := nodeA (Rx.of 3 l) A2 cap2) rfl rfl rfl rfl (hf3.blk hB2 id) rfl infoNode (nodeA_one _ _ _) ?_; intro W7 hW7 hfW7 _))
        refine bodyPost_blk rfl rfl hW7 Try.underlying28 rfl infoNode rfl ?_
        exact ⟨⟨_, rfl, A2, cap2, rfl, hrep.fr hfW7 (fun k hk _ => ⟨by show ¬ k = w.heap.size; omega, by omega⟩)⟩, (hr2.fr hf3 id).fr hfW7 (by show ¬ b = w.heap.size; omega), hi2, Fr.callAt (Fr.no hF2 hf3) hfW7 (Nat.le_refl _)⟩
      · rw [if_neg hx] at H
        have hx' : Rx.ends s i' = false := by simpa using hx
        have hitem := fun (W : World) (hW : Rd W b s i' op) => item_c b s i' op W sub hs hW hi2 Hsub.out (item_goes Hgo.out i' hi2).1
        cases hir : Rx.item s sub i' with
        | out => rw [hir] at H; exact absurd (H : R.out = res).symm Hne.out
        | bad kk =>
          rw [hir] at H hitem
          simp only [R.bind] at H
          subst H
          have Hitem := hid hitem
          clear hitem
          go_wp2_with (first | (go_at_call 29; refine (ends_c b s i' op _ hr2).mono ?_; rintro e w2 ⟨rfl, n, rfl⟩; rw [hx']) |
            (go_at_call 30; refine (Hitem.out _ (by repeat (first | assumption | apply Rd.drewN | apply Rd.drew | apply Rd.alloc | (apply Rd.setAt (hx := by omega)) | (apply Rd.setOp (hx := by omega)) | (apply Rd.far (hp := by simp only []; omega))))).mono ?_; rintro e w3 ⟨rfl, hf3⟩))
          exact ⟨rfl, rfl, Fr.trans hF2 (Fr.undrewN hf3)⟩
        | ok nd j =>
          have hgo2 := (item_goes Hgo.out i' hi2).2 nd j hir
          rw [hir] at H hitem
          simp only [R.bind] at H
          have Hitem := hid hitem
          have HK := hid H
          obtain ⟨A0, cap0, rfl, hc1, hc2⟩ := hO2.form
          have hsep : ∀ k, k < wr.heap.size → (w.heap.size < k ∨ (Value.slice A0 l.length cap0).ownBlock = some k) → ¬ At b k := fun k hk h => by
            rcases h with h | h
            · show ¬ k = b; omega
            · have := hO2.blk_lt k h; show ¬ k = b; omega
          have hnew : ∀ k, wr.heap.size ≤ k → w.heap.size < k ∧ some k ≠ (Value.slice A0 l.length cap0).ownBlock := fun k hk => by
            refine ⟨by have := hB2.lt; omega, fun h => ?_⟩
            have := hO2.blk_lt k h.symm
            omega
          clear hitem H
          go_wp2_with (first | (go_at_call 29; refine (ends_c b s i' op _ hr2).mono ?_; rintro e w2 ⟨rfl, n, rfl⟩; rw [hx']) |
            (go_at_call 30; refine (Hitem.out _ (by repeat (first | assumption | apply Rd.drewN | apply Rd.drew | apply Rd.alloc | (apply Rd.setAt (hx := by omega)) | (apply Rd.setOp (hx := by omega)) | (apply Rd.far (hp := by simp only []; omega))))).mono ?_; rintro e w3 ⟨⟨v1, rfl, A, cap, rfl, hrep⟩, hr3, hj3, hf3⟩; unfold nodeA; have hO3 := ((hO2.drewN n).fr hf3 hsep).alloc (.cells (nodeA nd A cap) 28)) |
            (at_builtin; go_loud ((with_reducible refine at_call ?_); refine wpList_append_D (es := encN nd) rfl (.tmp 7) (.tmp 10) 26 rfl _ 80 Try.underlying26 infoNode3 rfl (by decide) rfl hO3 rfl (news := (nodeA nd A cap).toList) rfl (Blk.new w3 28 (nodeA nd A cap)).news ((NodeIn.cells (hrep.alloc _)).mono (fun k hk hl => ⟨rfl, hnew k hk⟩)) (by omega) (by omega) (by have h1 : wr.heap.size ≤ w3.heap.size := hf3.size; have h2 := hB2.lt; rw [World.size_alloc]; omega) ?_); intro v' w4 hO4 hg4 hat4))
          have hgb : ¬ (some b = (Value.slice A0 l.length cap0).ownBlock) := fun h => by have := hO2.blk_lt b h.symm; omega
          have hgw : ¬ (some w.heap.size = (Value.slice A0 l.length cap0).ownBlock) := fun h => by have := hO2.blk_lt _ h.symm; omega
          have hFg := Fr.ofGrown hg4
          have hB3 : Blk w3 w.heap.size 28 #[.int .i64 0, .int .u64 0, .int .u64 0, .int .u64 0, .int .u64 0, .int .i64 0, .int .i64 0, .slice none 0 0] := hf3.blk (hB2.drewN n) (by show ¬ w.heap.size = b; omega)
          go_roundg kn
          case measure => omega
          case rel =>
            refine ⟨j, l ++ [nd], HK.out, (hr3.alloc _).fr hFg hgb, ?_, hFg.blk (hB3.alloc _) hgw, Fr.call (Fr.alloc (Fr.trans hF2 (Fr.undrewN hf3)) _) hFg (fun k hk h => by have := hO2.blk_lt k h.symm; omega), hj3, by simp; omega⟩
            rw [List.length_append, encNs_append, encNs_one]
            exact hO4
end
end Go.Proofs.Ytcphepjfnnbonaa
