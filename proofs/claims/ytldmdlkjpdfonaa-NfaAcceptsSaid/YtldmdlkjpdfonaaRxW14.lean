/- The walks of the expression reader: of, ends. The walks of the expression reader: cat. The walks of the expression reader: alt. -/
import Derived.Test.YtldmdlkjpdfonaaRxW11
import Derived.Test.YtldmdlkjpdfonaaRxP
namespace Go.Proofs.Ytldmdlkjpdfonaa
set_option linter.unusedVariables false
set_option linter.unusedSimpArgs false
section
open Go Go.RowKit

theorem NodeIn.ofList {w : World} {S : Nat → Prop} {A : Option Addr} {cap : Nat} {l : List Nd} (k : Int) (h : NodesIn w S (.slice A l.length cap) l) : NodeIn w S (.agg (nodeA (.mk k 0 0 0 l) A cap)) (.mk k 0 0 0 l) :=
  ⟨A, cap, rfl, h⟩
set_option maxRecDepth 100000 in
set_option maxHeartbeats 1600000 in
theorem of_c (k : Int) (l : List Nd) (A : Option Addr) (cap : Nat) (S : Nat → Prop) (w : World) (hl : l.length < 1099511627776) (h : NodesIn w S (.slice A l.length cap) l) (hS : ∀ k, S k → k < w.heap.size) :
    Calls Try.prog 67 #[.int .i64 k, .slice A l.length cap] w fun e w' => ∃ v, e = .returned v ∧ NodeIn w' S v (Rx.of k l) ∧ Fr No w w' := by
  have hB0 := Blk.new w 37 #[.int .i64 0, .int .u64 0, .int .u64 0, .int .u64 0, .int .u64 0, .int .i64 0, .int .i64 0, .slice none 0 0]
  have hF0 : Fr No w _ := (Fr.refl No w).alloc (.cells #[.int .i64 0, .int .u64 0, .int .u64 0, .int .u64 0, .int .u64 0, .int .i64 0, .int .i64 0, .slice none 0 0] 37)
  have h' := h.alloc (.cells #[.int .i64 0, .int .u64 0, .int .u64 0, .int .u64 0, .int .u64 0, .int .i64 0, .int .i64 0, .slice none 0 0] 37)
  cases l with
  | nil =>
    have hz : ((([] : List Nd).length : Int) == 0) = true := rfl
    go_enter Try.func67, Try.ntmps67
    go_wp2_with ((with_reducible refine at_store _ ?_); refine wpList_store_blk (cs := nodeA (.mk 1 0 0 0 []) none 0) rfl rfl rfl (by rw [nodeA_lit]; rfl) hB0 rfl infoNode (nodeA_one _ _ _) ?_; intro W hW hfW _)
    refine bodyPost_blk rfl rfl hW Try.underlying37 rfl infoNode rfl ?_
    exact ⟨_, rfl, NodeIn.leaf _ _ _ _ _ _, hF0.callAt hfW (Nat.le_refl _)⟩
  | cons n m =>
    cases m with
    | nil =>
      obtain ⟨b, off, A', cap', rfl, hSb, hlt, hrng, hrep⟩ := NodesIn.at_ (i := 0) h' rfl
      simp only [Nat.mul_zero, Nat.add_zero] at hrng
      have hc1 : 1 ≤ cap := by
        obtain ⟨A2, c2, heq, hcap, _⟩ := h.sl_inv
        injection heq with e1 e2 e3
        have h1 : [n].length = 1 := rfl
        omega
      have hz0 : (([n].length : Int) == 0) = false := rfl
      have hz1 : (([n].length : Int) == 1) = true := rfl
      go_enter Try.func67, Try.ntmps67
      go_wp2_with (first | ((with_reducible refine at_load _ ?_); refine wpList_load_rng (cs := nodeA n A' cap') rfl rfl rfl hrng Try.underlying37 rfl infoNode ?_) |
        ((with_reducible refine at_store _ ?_); refine wpList_store_blk (cs := nodeA n A' cap') rfl rfl rfl rfl hB0 rfl infoNode (nodeA_one _ _ _) ?_; intro W hW hfW _))
      refine bodyPost_blk rfl rfl hW Try.underlying37 rfl infoNode rfl ?_
      exact ⟨_, rfl, ⟨A', cap', rfl, hrep.fr hfW (fun k hk _ => ⟨by have := hS k hk; show ¬ k = w.heap.size; omega, hk⟩)⟩, hF0.callAt hfW (Nat.le_refl _)⟩
    | cons n2 m =>
      have hz0 : (((n :: n2 :: m).length : Int) == 0) = false := by simp; omega
      have hz1 : (((n :: n2 :: m).length : Int) == 1) = false := by simp; omega
      generalize hL : n :: n2 :: m = L at *
      go_enter Try.func67, Try.ntmps67
      go_wp2_with ((with_reducible refine at_store _ ?_); refine wpList_store_blk (cs := nodeA (.mk k 0 0 0 L) A cap) rfl rfl rfl (by rw [nodeA_lit]; rfl) hB0 rfl infoNode (nodeA_one _ _ _) ?_; intro W hW hfW _)
      refine bodyPost_blk rfl rfl hW Try.underlying37 rfl infoNode rfl ?_
      refine ⟨_, rfl, ?_, hF0.callAt hfW (Nat.le_refl _)⟩
      have e : Rx.of k L = .mk k 0 0 0 L := by rw [← hL]; rfl
      rw [e]
      exact NodeIn.ofList k (h'.fr hfW (fun k hk _ => ⟨by have := hS k hk; show ¬ k = w.heap.size; omega, hk⟩))
theorem ends_c (b : Nat) (s : ByteArray) (i op : Nat) (w : World) (hr : Rd w b s i op) :
    Calls Try.prog 68 #[.pointer (some ⟨b, 0, none⟩)] w fun e w' => e = .returned (.bool (Rx.ends s i)) ∧ ∃ n, w' = w.drewN n := by
  have hE : Rx.ends s i = (decide (nx s i < 0) || nx s i == 124 || nx s i == 41) := rfl
  have HE := hid hE
  clear hE
  generalize hx : nx s i = x at *
  have hnx := fun (W : World) (hW : Rd W b s i op) => next_c b s i op W hW
  rw [hx] at hnx
  have Hnx := hid hnx
  clear hnx hx
  cases h1 : decide (x < 0) <;> cases h2 : (x == 124) <;> cases h3 : (x == 41) <;> rw [h1, h2, h3] at HE
  all_goals
    go_enter Try.func68, Try.ntmps68
    go_wp2_with (go_at_call 70; refine (Hnx.out _ hr).mono ?_; rintro e w1 ⟨rfl, n, rfl⟩)
    go_ret
    exact ⟨by rw [HE.out]; rfl, n, rfl⟩
end
section
open Go Go.RowKit

section
variable (b : Nat) (s : ByteArray) (i op : Nat) (w : World)
set_option maxRecDepth 100000 in
set_option maxHeartbeats 4000000 in
theorem cat_c (sub : Option (Nat → R Nd)) (hs : s.size < 1099511627776) (hr : Rd w b s i op) (hi : i ≤ s.size) (hsub : AltSpec s op sub) (hgo : SubGoes s sub) :
    Calls Try.prog 65 #[.pointer (some ⟨b, 0, none⟩)] w (Out (NewN w) w b s op (Rx.cat s sub i)) := by
  unfold Rx.cat
  have hbw := hr.lt; have hr0 := hr.alloc (.cells #[.int .i64 0, .int .u64 0, .int .u64 0, .int .u64 0, .int .u64 0, .int .i64 0, .int .i64 0, .slice none 0 0] 37); have hB0 := Blk.new w 37 #[.int .i64 0, .int .u64 0, .int .u64 0, .int .u64 0, .int .u64 0, .int .i64 0, .int .i64 0, .slice none 0 0]; have hF0 : Fr (At b) w _ := (Fr.refl (At b) w).alloc (.cells #[.int .i64 0, .int .u64 0, .int .u64 0, .int .u64 0, .int .u64 0, .int .i64 0, .int .i64 0, .slice none 0 0] 37); obtain ⟨h0, h1, h2, f1, f2⟩ := hr0.cells
  clear h0 h1 h2 f1 f2
  have hne := (catLoop_goes hgo (s.size + 1) i [] (by omega) hi).1
  generalize hres : Rx.catLoop s sub (s.size + 1) i [] = res at *
  have Hres := hid hres
  have Hne := hid hne
  have Hgo := hid hgo
  have Hsub := hid hsub
  have Hi := hid hi
  clear hres hne hgo hsub
  go_enter Try.func65, Try.ntmps65
  go_wp2_with fail
  go_loopg [3] (s.size + 1) (fun k v wr => ∃ (i' : Nat) (l : List Nd), Aside (Rx.catLoop s sub k i' l = res) ∧ Rd wr b s i' op ∧ Own wr (w.heap.size + 1) (fun k => w.heap.size < k) 37 8 v l.length (encNs l) ∧ Blk wr w.heap.size 37 #[.int .i64 0, .int .u64 0, .int .u64 0, .int .u64 0, .int .u64 0, .int .i64 0, .int .i64 0, .slice none 0 0] ∧ Fr (At b) w wr ∧ i' ≤ s.size ∧ l.length ≤ i')
  case atStart => exact ⟨i, [], Hres.out, hr0, by simp only [encNs, List.length_nil]; exact Own.nil _ _ _ _ _, hB0, hF0, hi, Nat.zero_le _⟩
  case round =>
    clear hr0 hB0 hF0 Hres hr
    obtain ⟨i', l, HA, hr2, hO2, hB2, hF2, hi2, hll⟩ := hrel
    cases gk with
    | zero => exact absurd (HA.out : R.out = res).symm Hne.out
    | succ kn =>
      have H := HA.out
      clear HA
      unfold Rx.catLoop at H
      by_cases hx : Rx.ends s i' = true
      · rw [if_pos hx] at H
        subst H
        have hO3 := hO2
        obtain ⟨A, cap, rfl, hc1, hc2⟩ := hO2.form
        go_wp2_with (go_at_call 68; refine (ends_c b s i' op _ hr2).mono ?_; rintro e w2 ⟨rfl, n, rfl⟩; rw [hx])
        refine calls_world (fun W => Rd W b s i' op ∧ NodesIn W (fun k => w.heap.size < k ∧ k < W.heap.size) (.slice A l.length cap) l ∧ Blk W w.heap.size 37 #[.int .i64 0, .int .u64 0, .int .u64 0, .int .u64 0, .int .u64 0, .int .i64 0, .int .i64 0, .slice none 0 0] ∧ Fr (At b) w W) ⟨(by repeat (first | assumption | apply Rd.drewN | apply Rd.drew | apply Rd.alloc | (apply Rd.setAt (hx := by omega)) | (apply Rd.setOp (hx := by omega)) | (apply Rd.far (hp := by simp only []; omega)))), ((hO2.rep (fun k hk => by omega)).sub (fun k hk hl => ⟨hk, hl⟩)).drewN n, hB2.drewN n, hF2.drewN n⟩ ?_
        clear hr2 hO2 hO3 hB2 hF2
        rintro W ⟨hr2, hN2, hB2, hF2⟩
        go_wp2_with (first | (go_at_call 67; refine (of_c 3 l A cap (fun k => w.heap.size < k ∧ k < W.heap.size) _ (by omega) hN2 (fun k hk => hk.2)).mono ?_; rintro e w3 ⟨v, rfl, ⟨A2, cap2, rfl, hrep⟩, hf3⟩) |
          ((with_reducible refine at_store _ ?_); refine wpList_store_blk (cs := nodeA (Rx.of 3 l) A2 cap2) rfl rfl rfl rfl (hf3.blk hB2 id) rfl infoNode (nodeA_one _ _ _) ?_; intro W7 hW7 hfW7 _))
        refine bodyPost_blk rfl rfl hW7 Try.underlying37 rfl infoNode rfl ?_
        exact ⟨⟨_, rfl, A2, cap2, rfl, hrep.fr hfW7 (fun k hk _ => ⟨by show ¬ k = w.heap.size; omega, by omega⟩)⟩, (hr2.fr hf3 id).fr hfW7 (by show ¬ b = w.heap.size; omega), hi2, Fr.callAt (Fr.no hF2 hf3) hfW7 (Nat.le_refl _)⟩
      · rw [if_neg hx] at H
        have hx' : Rx.ends s i' = false := by simpa using hx
        have hitem := fun (W : World) (hW : Rd W b s i' op) => item_c b s i' op W sub hs hW hi2 Hsub.out (item_goes Hgo.out i' hi2).1
        cases hir : Rx.item s sub i' with
        | out => rw [hir] at H; exact absurd (H : R.out = res).symm Hne.out
        | bad kk =>
          rw [hir] at H hitem
          simp only [R.bind] at H
          subst H
          have Hitem := hid hitem
          clear hitem
          go_wp2_with (first | (go_at_call 68; refine (ends_c b s i' op _ hr2).mono ?_; rintro e w2 ⟨rfl, n, rfl⟩; rw [hx']) |
            (go_at_call 69; refine (Hitem.out _ (by repeat (first | assumption | apply Rd.drewN | apply Rd.drew | apply Rd.alloc | (apply Rd.setAt (hx := by omega)) | (apply Rd.setOp (hx := by omega)) | (apply Rd.far (hp := by simp only []; omega))))).mono ?_; rintro e w3 ⟨rfl, hf3⟩))
          exact ⟨rfl, rfl, Fr.trans hF2 (Fr.undrewN hf3)⟩
        | ok nd j =>
          have hgo2 := (item_goes Hgo.out i' hi2).2 nd j hir
          rw [hir] at H hitem
          simp only [R.bind] at H
          have Hitem := hid hitem
          have HK := hid H
          obtain ⟨A0, cap0, rfl, hc1, hc2⟩ := hO2.form
          have hsep : ∀ k, k < wr.heap.size → (w.heap.size < k ∨ (Value.slice A0 l.length cap0).ownBlock = some k) → ¬ At b k := fun k hk h => by
            rcases h with h | h
            · show ¬ k = b; omega
            · have := hO2.blk_lt k h; show ¬ k = b; omega
          have hnew : ∀ k, wr.heap.size ≤ k → w.heap.size < k ∧ some k ≠ (Value.slice A0 l.length cap0).ownBlock := fun k hk => by
            refine ⟨by have := hB2.lt; omega, fun h => ?_⟩
            have := hO2.blk_lt k h.symm
            omega
          clear hitem H
          go_wp2_with (first | (go_at_call 68; refine (ends_c b s i' op _ hr2).mono ?_; rintro e w2 ⟨rfl, n, rfl⟩; rw [hx']) |
            (go_at_call 69; refine (Hitem.out _ (by repeat (first | assumption | apply Rd.drewN | apply Rd.drew | apply Rd.alloc | (apply Rd.setAt (hx := by omega)) | (apply Rd.setOp (hx := by omega)) | (apply Rd.far (hp := by simp only []; omega))))).mono ?_; rintro e w3 ⟨⟨v1, rfl, A, cap, rfl, hrep⟩, hr3, hj3, hf3⟩; unfold nodeA; have hO3 := ((hO2.drewN n).fr hf3 hsep).alloc (.cells (nodeA nd A cap) 37)) |
            (at_builtin; go_loud ((with_reducible refine at_call ?_); refine wpList_append_D (es := encN nd) rfl (.tmp 7) (.tmp 10) 22 rfl _ 80 Try.underlying22 infoNode3 rfl (by decide) rfl hO3 rfl (news := (nodeA nd A cap).toList) rfl (Blk.new w3 37 (nodeA nd A cap)).news ((NodeIn.cells (hrep.alloc _)).mono (fun k hk hl => ⟨rfl, hnew k hk⟩)) (by omega) (by omega) (by have h1 : wr.heap.size ≤ w3.heap.size := hf3.size; have h2 := hB2.lt; rw [World.size_alloc]; omega) ?_); intro v' w4 hO4 hg4 hat4))
          have hgb : ¬ (some b = (Value.slice A0 l.length cap0).ownBlock) := fun h => by have := hO2.blk_lt b h.symm; omega
          have hgw : ¬ (some w.heap.size = (Value.slice A0 l.length cap0).ownBlock) := fun h => by have := hO2.blk_lt _ h.symm; omega
          have hFg := Fr.ofGrown hg4
          have hB3 : Blk w3 w.heap.size 37 #[.int .i64 0, .int .u64 0, .int .u64 0, .int .u64 0, .int .u64 0, .int .i64 0, .int .i64 0, .slice none 0 0] := hf3.blk (hB2.drewN n) (by show ¬ w.heap.size = b; omega)
          go_roundg kn
          case measure => omega
          case rel =>
            refine ⟨j, l ++ [nd], HK.out, (hr3.alloc _).fr hFg hgb, ?_, hFg.blk (hB3.alloc _) hgw, Fr.call (Fr.alloc (Fr.trans hF2 (Fr.undrewN hf3)) _) hFg (fun k hk h => by have := hO2.blk_lt k h.symm; omega), hj3, by simp; omega⟩
            rw [List.length_append, encNs_append, encNs_one]
            exact hO4
end
end
section
open Go Go.RowKit
section
variable (b : Nat) (s : ByteArray) (i op : Nat) (w : World)
set_option maxRecDepth 100000 in
set_option maxHeartbeats 4000000 in
theorem alt_c (sub : Option (Nat → R Nd)) (hs' : s.size < 549755813888) (hr : Rd w b s i op) (hi : i ≤ s.size) (hsub : AltSpec s op sub) (hgo : SubGoes s sub) :
    Calls Try.prog 59 #[.pointer (some ⟨b, 0, none⟩)] w (Out (NewN w) w b s op (Rx.altF s sub i)) := by
  have hs : s.size < 1099511627776 := by omega
  unfold Rx.altF
  have hbw := hr.lt; have hr0 := hr.alloc (.cells #[.int .i64 0, .int .u64 0, .int .u64 0, .int .u64 0, .int .u64 0, .int .i64 0, .int .i64 0, .slice none 0 0] 37); have hB0 := Blk.new w 37 #[.int .i64 0, .int .u64 0, .int .u64 0, .int .u64 0, .int .u64 0, .int .i64 0, .int .i64 0, .slice none 0 0]; have hF0 : Fr (At b) w _ := (Fr.refl (At b) w).alloc (.cells #[.int .i64 0, .int .u64 0, .int .u64 0, .int .u64 0, .int .u64 0, .int .i64 0, .int .i64 0, .slice none 0 0] 37); obtain ⟨h0, h1, h2, f1, f2⟩ := hr0.cells
  clear h0 h1 h2 f1 f2
  have Hgo := hid hgo
  have Hsub := hid hsub
  have hcat0 := cat_c b s i op (w.alloc (.cells #[.int .i64 0, .int .u64 0, .int .u64 0, .int .u64 0, .int .u64 0, .int .i64 0, .int .i64 0, .slice none 0 0] 37)) sub hs hr0 hi hsub hgo
  have hcg := (cat_goes hgo i hi).2
  clear hgo hsub
  cases hc0 : Rx.cat s sub i with
  | out => exact absurd hc0 (cat_goes Hgo.out i hi).1
  | bad k =>
    rw [hc0] at hcat0
    go_enter Try.func59, Try.ntmps59
    go_wp2_with (go_at_call 65; refine hcat0.mono ?_; rintro e w1 ⟨rfl, hf1⟩)
    exact ⟨rfl, rfl, Fr.trans hF0 hf1⟩
  | ok n0 j0 =>
    obtain ⟨hj0, hj1⟩ := hcg n0 j0 hc0
    rw [hc0] at hcat0
    simp only [R.bind]
    have hne := (altLoop_goes Hgo.out (s.size + 1) j0 [n0] (by omega) hj1).1
    generalize hres : Rx.altLoop s sub (s.size + 1) j0 [n0] = res at *
    have Hres := hid hres
    have Hne := hid hne
    have Hcat0 := hid hcat0
    clear hres hne hcat0 hcg
    go_enter Try.func59, Try.ntmps59
    go_wp2_with (go_at_call 65; refine Hcat0.out.mono ?_; rintro e w1 ⟨⟨v0, rfl, A1, cap1, rfl, hrep1⟩, hr1, hj2, hf1⟩; unfold nodeA)
    have hbs := Blk.new w1 37 (nodeA n0 A1 cap1)
    have hl1 : w.heap.size < w1.heap.size := by have h1 := hf1.size; rw [World.size_alloc] at h1; omega
    have hO1 : Own (w1.alloc (.cells (nodeA n0 A1 cap1) 37)) (w.heap.size + 1) (fun k => w.heap.size < k) 37 8 (.slice (some ⟨w1.heap.size, 0, none⟩) 1 1) [n0].length (encNs [n0]) := by
      rw [encNs_one]
      exact Own.made hbs rfl (by omega) (by decide) (NodeIn.cells (((hrep1.sub (S' := fun k => w.heap.size < k ∧ k ≠ w1.heap.size) (fun k hk hl => by
        have h1 : (w.alloc (.cells #[.int .i64 0, .int .u64 0, .int .u64 0, .int .u64 0, .int .u64 0, .int .i64 0, .int .i64 0, .slice none 0 0] 37)).heap.size ≤ k := hk
        rw [World.size_alloc] at h1
        exact ⟨by omega, by omega⟩)).alloc _)))
    have hB1 : Blk w1 w.heap.size 37 #[.int .i64 0, .int .u64 0, .int .u64 0, .int .u64 0, .int .u64 0, .int .i64 0, .int .i64 0, .slice none 0 0] := hf1.blk hB0 (by show ¬ w.heap.size = b; omega)
    have hF1 : Fr (At b) w w1 := Fr.trans hF0 hf1
    go_loopg [3] (s.size + 1) (fun k v wr => ∃ (i' : Nat) (l : List Nd), Aside (Rx.altLoop s sub k i' l = res) ∧ Rd wr b s i' op ∧ Own wr (w.heap.size + 1) (fun k => w.heap.size < k) 37 8 v l.length (encNs l) ∧ Blk wr w.heap.size 37 #[.int .i64 0, .int .u64 0, .int .u64 0, .int .u64 0, .int .u64 0, .int .i64 0, .int .i64 0, .slice none 0 0] ∧ Fr (At b) w wr ∧ i' ≤ s.size ∧ l.length ≤ i' + 1)
    case atStart => exact ⟨j0, [n0], Hres.out, hr1.alloc _, hO1, hB1.alloc _, hF1.alloc _, hj1, by simp⟩
    case round =>
      clear hr1 hB1 hF1 Hres hr hO1 hbs hrep1 hf1 hr0 hB0 hF0 Hcat0
      obtain ⟨i', l, HA, hr2, hO2, hB2, hF2, hi2, hll⟩ := hrel
      cases gk with
      | zero => exact absurd (HA.out : R.out = res).symm Hne.out
      | succ kn =>
        have H := HA.out
        clear HA
        unfold Rx.altLoop at H
        by_cases hx : nx s i' = 124
        · rw [if_pos hx] at H
          have hlt := nx_nonneg (s := s) (i := i') (by omega)
          have hcat := fun (W : World) (hW : Rd W b s (i' + 1) op) => cat_c b s (i' + 1) op W sub hs hW (by omega) Hsub.out Hgo.out
          cases hir : Rx.cat s sub (i' + 1) with
          | out => rw [hir] at H; exact absurd (H : R.out = res).symm Hne.out
          | bad kk =>
            rw [hir] at H hcat
            simp only [R.bind] at H
            subst H
            have Hcat := hid hcat
            clear hcat
            go_wp2_with (first | (go_at_call 66; refine (skip_t _ s i' op _ 124 hs hr2 (by omega) hx).mono ?_; rintro e w2 ⟨rfl, hr3, hlt3, hf3⟩) |
              (go_at_call 65; refine (Hcat.out _ hr3).mono ?_; rintro e w3 ⟨rfl, hf4⟩))
            exact ⟨rfl, rfl, Fr.trans (Fr.trans hF2 hf3) hf4⟩
          | ok nd j =>
            have hgo2 := (cat_goes Hgo.out (i' + 1) (by omega)).2 nd j hir
            rw [hir] at H hcat
            simp only [R.bind] at H
            have Hcat := hid hcat
            have HK := hid H
            obtain ⟨A0, cap0, rfl, hc1, hc2⟩ := hO2.form
            have hsep : ∀ k, (w.heap.size < k ∨ (Value.slice A0 l.length cap0).ownBlock = some k) → ¬ At b k := fun k h => by
              rcases h with h | h
              · show ¬ k = b; omega
              · have := hO2.blk_lt k h; show ¬ k = b; omega
            have hwr := hB2.lt
            have Hsep := hid hsep
            clear hsep
            clear hcat H
            go_wp2_with (first | (go_at_call 66; refine (skip_t _ s i' op _ 124 hs hr2 (by omega) hx).mono ?_; rintro e w2 ⟨rfl, hr3, hlt3, hf3⟩; have hO3 := hO2.fr hf3 (fun k _ h => Hsep.out k h)) |
              (go_at_call 65; (refine (Hcat.out _ hr3).mono ?_; rintro e w3 ⟨⟨v1, rfl, A, cap, rfl, hrep⟩, hr4, hj3, hf4⟩; unfold nodeA; have hnew := fun (k : Nat) (hk : w2.heap.size ≤ k) => (show w.heap.size < k ∧ some k ≠ (Value.slice A0 l.length cap0).ownBlock from ⟨by have := hf3.size; omega, fun h => by have := hO3.blk_lt k h.symm; omega⟩); have hO4 := (hO3.fr hf4 (fun k _ h => Hsep.out k h)).alloc (.cells (nodeA nd A cap) 37))) |
              (at_builtin; refine wpList_append_D (es := encN nd) rfl (.tmp 9) (.tmp 12) 22 rfl _ 80 Try.underlying22 infoNode3 rfl (by decide) rfl hO4 rfl (news := (nodeA nd A cap).toList) rfl (Blk.new w3 37 (nodeA nd A cap)).news ((NodeIn.cells (hrep.alloc _)).mono (fun k hk hl => ⟨rfl, hnew k hk⟩)) (by omega) (by omega) (by have h1 := hf3.size; have h3 := hf4.size; rw [World.size_alloc]; omega) ?_; intro v' w4 hO5 hg4 hat4))
            have hgb : ¬ (some b = (Value.slice A0 l.length cap0).ownBlock) := fun h => by have := hO2.blk_lt b h.symm; omega
            have hgw : ¬ (some w.heap.size = (Value.slice A0 l.length cap0).ownBlock) := fun h => by have := hO2.blk_lt _ h.symm; omega
            have hFg := Fr.ofGrown hg4
            have hB3 : Blk w3 w.heap.size 37 #[.int .i64 0, .int .u64 0, .int .u64 0, .int .u64 0, .int .u64 0, .int .i64 0, .int .i64 0, .slice none 0 0] := hf4.blk (hf3.blk hB2 (by show ¬ w.heap.size = b; omega)) (by show ¬ w.heap.size = b; omega)
            go_roundg kn
            case measure => omega
            case rel =>
              refine ⟨j, l ++ [nd], HK.out, (hr4.alloc _).fr hFg hgb, ?_, hFg.blk (hB3.alloc _) hgw, Fr.call (Fr.alloc (Fr.trans (Fr.trans hF2 hf3) hf4) _) hFg (fun k hk h => by have := hO2.blk_lt k h.symm; omega), hj3, by simp; omega⟩
              rw [List.length_append, encNs_append, encNs_one]
              exact hO5
        · rw [if_neg hx] at H
          subst H
          obtain ⟨A, cap, rfl, hc1, hc2⟩ := hO2.form
          go_wp2_with (go_at_call 66; refine (skip_f _ s i' op _ 124 hr2 (by omega) hx).mono ?_; rintro e w2 ⟨rfl, hr3, hf3⟩)
          refine calls_world (fun W => Rd W b s i' op ∧ NodesIn W (fun k => w.heap.size < k ∧ k < W.heap.size) (.slice A l.length cap) l ∧ Blk W w.heap.size 37 #[.int .i64 0, .int .u64 0, .int .u64 0, .int .u64 0, .int .u64 0, .int .i64 0, .int .i64 0, .slice none 0 0] ∧ Fr (At b) w W) ⟨hr3, (((hO2.rep (fun k hk => by omega)).frNo hf3).sub (fun k hk hl => ⟨hk, hl⟩)), hf3.blk hB2 id, Fr.no hF2 hf3⟩ ?_
          clear hr2 hO2 hB2 hF2 hr3 hf3
          rintro W ⟨hr2, hN2, hB2, hF2⟩
          go_wp2_with (first | (go_at_call 67; refine (of_c 4 l A cap (fun k => w.heap.size < k ∧ k < W.heap.size) _ (by omega) hN2 (fun k hk => hk.2)).mono ?_; rintro e w3 ⟨v, rfl, ⟨A2, cap2, rfl, hrep⟩, hf3⟩) |
            ((with_reducible refine at_store _ ?_); refine wpList_store_blk (cs := nodeA (Rx.of 4 l) A2 cap2) rfl rfl rfl rfl (hf3.blk hB2 id) rfl infoNode (nodeA_one _ _ _) ?_; intro W7 hW7 hfW7 _))
          refine bodyPost_blk rfl rfl hW7 Try.underlying37 rfl infoNode rfl ?_
          exact ⟨⟨_, rfl, A2, cap2, rfl, hrep.fr hfW7 (fun k hk _ => ⟨by show ¬ k = w.heap.size; omega, by omega⟩)⟩, (hr2.fr hf3 id).fr hfW7 (by show ¬ b = w.heap.size; omega), hi2, Fr.callAt (Fr.no hF2 hf3) hfW7 (Nat.le_refl _)⟩
end
theorem alt_spec (s : ByteArray) (hs : s.size < 549755813888) : ∀ (d op : Nat), op + d = 12 → ∀ (i b : Nat) (w : World), Rd w b s i op → i ≤ s.size →
    Calls Try.prog 59 #[.pointer (some ⟨b, 0, none⟩)] w (Out (NewN w) w b s op (Rx.alt s d i))
  | 0, op, h, i, b, w, hr, hi => by
    unfold Rx.alt
    exact alt_c b s i op w none hs hr hi (show 12 ≤ op by omega) trivial
  | d + 1, op, h, i, b, w, hr, hi => by
    unfold Rx.alt
    exact alt_c b s i op w (some (Rx.alt s d)) hs hr hi ⟨by omega, fun i b w hr hi _ => alt_spec s hs d (op + 1) (by omega) i b w hr hi⟩ (fun j hj => alt_goes s d j hj)
end
end Go.Proofs.Ytldmdlkjpdfonaa
