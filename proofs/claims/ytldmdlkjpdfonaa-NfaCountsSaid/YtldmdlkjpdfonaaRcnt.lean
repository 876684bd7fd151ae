/- The walk of the law NfaCounts: true for every expression. -/
import Derived.Test.YtldmdlkjpdfonaaGl
namespace Go.Proofs.Ytldmdlkjpdfonaa
set_option linter.unusedVariables false
set_option linter.unusedSimpArgs false
open Go Go.RowKit

set_option maxRecDepth 100000 in
set_option maxHeartbeats 8000000 in
theorem cnt_few (n : Nd) (v : Value) (S : Nat → Prop) (w : World) (hn : NodeIn w S v n) (hf : fewL [n] = false) : Calls Try.prog 4 #[v] w fun e w' => e = .returned (.bool true) ∧ Fr No w w' := by
  obtain ⟨A, cap, rfl, hrep⟩ := hn
  have hB := Blk.new w 37 (nodeA n A cap)
  have hF : Fr No w _ := (Fr.refl No w).alloc (.cells (nodeA n A cap) 37)
  have hrep0 := hrep.alloc (.cells (nodeA n A cap) 37)
  have Haw := hid (fun W : World => awake_c W)
  have hfw := fun W (hW : Fr No (w.alloc (.cells (nodeA n A cap) 37)) W) => lfew_c [n] _ 1 _ _ (one_nodes (hrep0.frNo hW))
  rw [hf] at hfw
  clear hrep hrep0
  go_enter Try.func4, Try.ntmps4
  go_wp2_with (first | (go_at_call 8; refine (Haw.out _).mono ?_; rintro e w1 ⟨rfl, hf1⟩; have hB1 := hf1.blk hB id) |
    ((with_reducible refine at_gload 37 ?_); refine wpList_load_blk_g (by kernel_rfl) (cs := nodeA n A cap) rfl rfl hB1 Try.underlying37 rfl infoNode ?_) |
    ((with_reducible refine at_gbuild ?_); refine wpList_oneNode_g (by kernel_rfl) 11 rfl rfl ?_) |
    (go_at_call 9; refine (hfw _ hf1).mono ?_; rintro e w2 ⟨rfl, hf2⟩) |
    (go_at_call 8; refine (Haw.out _).mono ?_; rintro e w3 ⟨rfl, hf3⟩))
  go_ret
  exact ⟨rfl, (((hF.no hf1).alloc _).no hf2).no hf3⟩
theorem few_one {n : Nd} (h : fewL [n] = true) : n.count ≤ 200 := by
  unfold fewL at h
  have := (Bool.and_eq_true _ _ ▸ h).1
  exact allFew_get (l := [n]) (j := 0) rfl this
set_option maxRecDepth 100000 in
set_option maxHeartbeats 8000000 in
theorem cnt_not (n : Nd) (v : Value) (S : Nat → Prop) (w : World) (hn : NodeIn w S v n) (hf : fewL [n] = true) (hp : isPlain n = false) : Calls Try.prog 4 #[v] w fun e w' => e = .returned (.bool true) ∧ Fr No w w' := by
  obtain ⟨A, cap, rfl, hrep⟩ := hn
  have hct := few_one hf
  have hB := Blk.new w 37 (nodeA n A cap)
  have hF : Fr No w _ := (Fr.refl No w).alloc (.cells (nodeA n A cap) 37)
  have hrep0 := hrep.alloc (.cells (nodeA n A cap) 37)
  have Haw := hid (fun W : World => awake_c W)
  have hfw := fun W (hW : Fr No (w.alloc (.cells (nodeA n A cap) 37)) W) => lfew_c [n] _ 1 _ _ (one_nodes (hrep0.frNo hW))
  have hip := fun W (hW : Fr No (w.alloc (.cells (nodeA n A cap) 37)) W) => rplain_c S n.depth n (.agg (nodeA n A cap)) W (Nat.le_refl _) ⟨A, cap, rfl, hrep0.frNo hW⟩
  have hst := fun W (hW : Fr No (w.alloc (.cells (nodeA n A cap) 37)) W) => nfaStates_c n (.agg (nodeA n A cap)) S W (by omega) ⟨A, cap, rfl, hrep0.frNo hW⟩
  have hns : nfaStates n = 0 := by unfold nfaStates; rw [hp]; rfl
  rw [hf] at hfw
  rw [hp] at hip
  rw [hns] at hst
  clear hrep hrep0
  go_enter Try.func4, Try.ntmps4
  go_wp2_with (first | (go_at_call 8; refine (Haw.out _).mono ?_; rintro e w1 ⟨rfl, hf1⟩; have hB1 := hf1.blk hB id) |
    ((with_reducible refine at_gload 37 ?_); refine wpList_load_blk_g (by kernel_rfl) (cs := nodeA n A cap) rfl rfl hB1 Try.underlying37 rfl infoNode ?_) |
    ((with_reducible refine at_gbuild ?_); refine wpList_oneNode_g (by kernel_rfl) 11 rfl rfl ?_) |
    (go_at_call 9; refine (hfw _ hf1).mono ?_; rintro e w2 ⟨rfl, hf2⟩; have hf02 := (hf1.alloc (.cells (nodeA n A cap) 37)).no hf2; have hB2 := hf02.blk hB id) |
    ((with_reducible refine at_load 37 ?_); refine wpList_load_blk (cs := nodeA n A cap) rfl rfl rfl hB2 Try.underlying37 rfl infoNode ?_) |
    (go_at_call 15; refine (hip _ hf02).mono ?_; rintro e w3 ⟨rfl, hf3⟩; have hf03 := hf02.no hf3; have hB3 := hf03.blk hB id) |
    ((with_reducible refine at_load 37 ?_); refine wpList_load_blk (cs := nodeA n A cap) rfl rfl rfl hB3 Try.underlying37 rfl infoNode ?_) |
    (go_at_call 16; refine (hst _ hf03).mono ?_; rintro e w4 ⟨rfl, hf4⟩))
  go_ret
  exact ⟨rfl, (hF.no hf03).no hf4⟩
/-- What the last test reads. -/
def CnS (g : Nat) (n : Nd) (A : Option Addr) (cap : Nat) (S : Nat → Prop) (Sa : Nat → Prop) (a : Nat) (L : List NS) (Aa : Option Addr) (capa : Nat) (w : World) (W : World) : Prop :=
  Blk W g 37 (nodeA n A cap) ∧ Rep W S (.slice A n.subs.length cap) (.sl 37 n.subs.length (encNs n.subs)) ∧ AutoA W Sa a L 1 Aa capa ∧ Fr No w W
theorem CnS.keep {g : Nat} {n : Nd} {A : Option Addr} {cap : Nat} {S Sa : Nat → Prop} {a : Nat} {L : List NS} {Aa : Option Addr} {capa : Nat} {w W W' : World} (h : CnS g n A cap S Sa a L Aa capa w W) (hf : Fr No W W') : CnS g n A cap S Sa a L Aa capa w W' :=
  ⟨hf.blk h.1 id, h.2.1.frNo hf, h.2.2.1.no hf, h.2.2.2.no hf⟩
theorem infoRState : (Try.prog.info? 44).map (·.size) = some 7 := by kernel_rfl
set_option maxRecDepth 100000 in
set_option maxHeartbeats 8000000 in
theorem cnt_main (n : Nd) (v : Value) (S : Nat → Prop) (w : World) (hS : ∀ k, S k → k < w.heap.size) (hn : NodeIn w S v n) (hf : fewL [n] = true) (hp : isPlain n = true) : Calls Try.prog 4 #[v] w fun e w' => e = .returned (.bool true) ∧ Fr No w w' := by
  obtain ⟨A, cap, rfl, hrep⟩ := hn
  have hct := few_one hf
  have hB := Blk.new w 37 (nodeA n A cap)
  have hF : Fr No w _ := (Fr.refl No w).alloc (.cells (nodeA n A cap) 37)
  have hrep0 := hrep.alloc (.cells (nodeA n A cap) 37)
  have Haw := hid (fun W : World => awake_c W)
  have hfw := fun W (hW : Fr No (w.alloc (.cells (nodeA n A cap) 37)) W) => lfew_c [n] _ 1 _ _ (one_nodes (hrep0.frNo hW))
  have hip := fun W (hW : Fr No (w.alloc (.cells (nodeA n A cap) 37)) W) => rplain_c S n.depth n (.agg (nodeA n A cap)) W (Nat.le_refl _) ⟨A, cap, rfl, hrep0.frNo hW⟩
  have hbd := fun W (hW : Fr No (w.alloc (.cells (nodeA n A cap) 37)) W) => build_free [n] (some ⟨W.heap.size, 0, none⟩) 1 (fun k => (S k ∨ k = W.heap.size) ∧ k < W.heap.size + 1) (W.alloc (.cells (nodeA n A cap) 37)) ((one_nodes (hrep0.frNo hW)).sub fun k hk hl => ⟨hk, by rw [World.size_alloc] at hl; exact hl⟩) (Nat.le_refl 1) (show 1 ≤ 8 by decide) (by unfold allPlain; rw [hp]; rfl) (fun k hk => by rw [World.size_alloc]; exact hk.2) (by simp only [ncounts]; omega)
  rw [hf] at hfw
  rw [hp] at hip
  go_enter Try.func4, Try.ntmps4
  go_wp2_with (first | (go_at_call 8; refine (Haw.out _).mono ?_; rintro e w1 ⟨rfl, hf1⟩; have hB1 := hf1.blk hB id) |
    ((with_reducible refine at_gload 37 ?_); refine wpList_load_blk_g (by kernel_rfl) (cs := nodeA n A cap) rfl rfl hB1 Try.underlying37 rfl infoNode ?_) |
    ((with_reducible refine at_gbuild ?_); refine wpList_oneNode_g (by kernel_rfl) 11 rfl rfl ?_) |
    (go_at_call 9; refine (hfw _ hf1).mono ?_; rintro e w2 ⟨rfl, hf2⟩; have hf02 := (hf1.alloc (.cells (nodeA n A cap) 37)).no hf2; have hB2 := hf02.blk hB id) |
    ((with_reducible refine at_load 37 ?_); refine wpList_load_blk (cs := nodeA n A cap) rfl rfl rfl hB2 Try.underlying37 rfl infoNode ?_) |
    (go_at_call 15; refine (hip _ hf02).mono ?_; rintro e w3 ⟨rfl, hf3⟩; have hf03 := hf02.no hf3; have hB3 := hf03.blk hB id) |
    ((with_reducible refine at_load 37 ?_); refine wpList_load_blk (cs := nodeA n A cap) rfl rfl rfl hB3 Try.underlying37 rfl infoNode ?_) |
    ((with_reducible refine at_build ?_); refine wpList_oneNode rfl 24 rfl rfl ?_))
  refine (hbd _ hf03).mono ?_
  rintro e w4 ⟨⟨a, rfl, ha⟩, hf4⟩
  obtain ⟨Aa, capa, haut⟩ := ha.open_
  have hf04 := (hf03.alloc (.cells (nodeA n A cap) 37)).no hf4
  have hB4 := hf04.blk hB id
  have hrep4 := hrep0.frNo hf04
  have hF4 := hF.no hf04
  have hLl : (nfaAll [n]).length = 2 + stN n := by
    rw [nfaAll_len]; simp only [nfaRulesLen]; rw [stN_plain n hp]; omega
  have hst_le := stN_le n
  have heps := nfaAll_eps [n] (by simp only [ncounts]; omega) (show 1 ≤ 8 by decide)
  have hstates := states_c w4 _ a (nfaAll [n]) 1 Aa capa haut (by omega) heps
  clear hfw hip hbd hf1 hf2 hf02 hf3 hf03 hf4 ha hB1 hB2 hB3 hf04 hB hrep hrep0 heps
  generalize hLL : nfaAll [n] = L at *
  have hLb : L.length < 4294967296 := by omega
  have HLl := hid hLl
  clear hLl hst_le
  go_wp2_with (go_at_call 13; refine hstates.mono ?_; rintro e w5 ⟨⟨A5, cap5, rfl, hr5⟩, hf5⟩)
  have hrep5 := hrep4.frNo hf5
  have hB5 := hf5.blk hB4 id
  have haut5 := haut.no hf5
  have hF5 := hF4.no hf5
  have hCn : CnS w.heap.size n A cap S _ a L Aa capa w w5 := ⟨hB5, hrep5, haut5, hF5⟩
  clear hrep4 hB4 haut hF4 hstates hrep5 hB5 haut5 hF5 hf5 hF
  have hnst : nfaStates n = stN n := by unfold nfaStates; rw [if_pos hp]
  go_loopg [5, 32] L.length (fun g t i wr => ∃ j : Nat, j + g = L.length ∧ i = .int .i64 j ∧ t = .int .i64 ((setsOf (L.take j)).length : Int) ∧ CnS w.heap.size n A cap S (fun k => (w3.alloc (.cells (nodeA n A cap) 37)).heap.size ≤ k) a L Aa capa w wr ∧ Rep wr (fun k => w4.heap.size ≤ k) (.slice A5 L.length cap5) (.sl 44 L.length (encSs L)))
  case atStart => exact ⟨0, by omega, rfl, rfl, hCn, hr5⟩
  case round =>
    obtain ⟨j, hj, rfl, rfl, hC, hr⟩ := hrel
    clear hCn hr5
    cases gk with
    | zero =>
      have hd1 : decide (j < L.length) = false := decide_eq_false (by omega)
      obtain rfl : j = L.length := by omega
      rw [List.take_length]
      have hLl := HLl.out
      have hst_le := stN_le n
      have hHN := hid (fun (W : World) (h : CnS w.heap.size n A cap S (fun k => (w3.alloc (.cells (nodeA n A cap) 37)).heap.size ≤ k) a L Aa capa w W) => hnst ▸ nfaStates_c n (.agg (nodeA n A cap)) S W (by omega) ⟨A, cap, rfl, h.2.1⟩)
      have hHR := hid (fun (W : World) (h : CnS w.heap.size n A cap S (fun k => (w3.alloc (.cells (nodeA n A cap) 37)).heap.size ≤ k) a L Aa capa w W) => rstates_c S n.depth n (.agg (nodeA n A cap)) W (Nat.le_refl _) (by omega) ⟨A, cap, rfl, h.2.1⟩)
      have hHL := hid (fun (W : World) (h : CnS w.heap.size n A cap S (fun k => (w3.alloc (.cells (nodeA n A cap) 37)).heap.size ≤ k) a L Aa capa w W) => (hLl ▸ len_c W _ a L 1 Aa capa h.2.2.1 : Calls Try.prog 18 #[.pointer (some ⟨a, 0, none⟩)] W fun r w' => r = .returned (.int .i64 ((2 + stN n : Nat) : Int)) ∧ w' = W).mono (fun e w' h => (⟨h.1, by rw [h.2]; exact Fr.refl No W⟩ : e = .returned (.int .i64 ((2 + stN n : Nat) : Int)) ∧ Fr No W w')))
      have hHS := hid (fun (W : World) (h : CnS w.heap.size n A cap S (fun k => (w3.alloc (.cells (nodeA n A cap) 37)).heap.size ≤ k) a L Aa capa w W) => sets_c W _ a L 1 Aa capa h.2.2.1 hLb)
      have hw2 : wrap64 (2 + (stN n : Int)) = 2 + (stN n : Int) := by unfold wrap64; omega
      have hw3 : IntKind.i64.wrap (2 + (stN n : Int)) = 2 + (stN n : Int) := by rw [IntKind.wrap_i64]; omega
      have hsum : ((2 + stN n : Nat) : Int) = 2 + (stN n : Int) := by omega
      rw [hsum] at hHL
      have HC := hid hC
      clear hj hd1 hC hr hLl hst_le hsum hnst hf hp hct
      generalize (fun k => (w3.alloc (.cells (nodeA n A cap) 37)).heap.size ≤ k) = Sa at *
      generalize (stN n : Int) = N at *
      generalize (setsOf L).length = K0 at *
      go_wp2_with fail
      refine wp_region_tail 24 (CnS w.heap.size n A cap S Sa a L Aa capa w) (by kernel_rfl) (by kernel_rfl) ?_
      simp only [List.take_succ_cons, List.take_zero, List.drop_succ_cons, List.drop_zero]
      have hS0 : CnS w.heap.size n A cap S Sa a L Aa capa w wr.drew := HC.out.keep ((Fr.refl No wr).drew)
      refine Rt.take (i := 0) (v := (.int .i64 0)) rfl (by kernel_rfl) (fun _ _ _ h => h) (.inl ⟨rfl, fun w hSw => by (try dsimp only at hSw); go_simp⟩) (by assumption) ?_
      try simp only [Act.put, List.getElem_toArray, List.getElem_cons_succ, List.getElem_cons_zero, List.setIfInBounds_toArray, List.set_cons_zero, List.set_cons_succ]
      refine Rt.take (i := 1) (v := (.bool true)) rfl (by kernel_rfl) (fun _ _ _ h => h) (.inl ⟨rfl, fun w hSw => by (try dsimp only at hSw); go_simp⟩) (by assumption) ?_
      try simp only [Act.put, List.getElem_toArray, List.getElem_cons_succ, List.getElem_cons_zero, List.setIfInBounds_toArray, List.set_cons_zero, List.set_cons_succ]
      refine Rt.take (i := 2) (v := (.bool true)) rfl (by kernel_rfl) (fun _ _ _ h => h) (.inl ⟨rfl, fun w hSw => by (try dsimp only at hSw); go_simp⟩) (by assumption) ?_
      try simp only [Act.put, List.getElem_toArray, List.getElem_cons_succ, List.getElem_cons_zero, List.setIfInBounds_toArray, List.set_cons_zero, List.set_cons_succ]
      refine Rt.take (i := 3) rfl (by kernel_rfl) (fun _ _ _ h => h) (YieldsIf.load rfl rfl rfl (fun W hW => Blk.range hW.1) Try.underlying37 rfl infoNode) (by assumption) ?_
      try simp only [Act.put, List.getElem_toArray, List.getElem_cons_succ, List.getElem_cons_zero, List.setIfInBounds_toArray, List.set_cons_zero, List.set_cons_succ]
      refine Rt.take (i := 5) rfl (by kernel_rfl) (fun _ _ _ h => h) (YieldsIf.load rfl rfl rfl (fun W hW => Blk.range hW.1) Try.underlying37 rfl infoNode) (by assumption) ?_
      try simp only [Act.put, List.getElem_toArray, List.getElem_cons_succ, List.getElem_cons_zero, List.setIfInBounds_toArray, List.set_cons_zero, List.set_cons_succ]
      refine Rt.one (i := 4) rfl (by kernel_rfl) (fun K hK => ?_)
      rw [if_pos (by kernel_rfl)]
      go_simp
      refine (hHN.out _ hS0).mono ?_
      rintro e w41 ⟨rfl, hfw41⟩
      have hw41 := (hS0).keep hfw41
      refine hK.out _ _ hw41 ?_
      clear hK K
      refine Rt.one (i := 6) rfl (by kernel_rfl) (fun K hK => ?_)
      rw [if_pos (by kernel_rfl)]
      go_simp
      refine (hHR.out _ hw41).mono ?_
      rintro e w42 ⟨rfl, hfw42⟩
      have hw42 := (hw41).keep hfw42
      refine hK.out _ _ hw42 ?_
      clear hK K
      refine Rt.take (i := 7) (v := (.bool true)) rfl (by kernel_rfl) (fun _ _ _ h => h) (.inl ⟨rfl, fun w hSw => by (try dsimp only at hSw); go_simp⟩) (by assumption) ?_
      try simp only [Act.put, List.getElem_toArray, List.getElem_cons_succ, List.getElem_cons_zero, List.setIfInBounds_toArray, List.set_cons_zero, List.set_cons_succ]
      refine Rt.take (i := 8) (v := (.bool true)) rfl (by kernel_rfl) (fun _ _ _ h => h) (.inl ⟨rfl, fun w hSw => by (try dsimp only at hSw); go_simp⟩) (by assumption) ?_
      try simp only [Act.put, List.getElem_toArray, List.getElem_cons_succ, List.getElem_cons_zero, List.setIfInBounds_toArray, List.set_cons_zero, List.set_cons_succ]
      refine Rt.take (i := 9) (v := (.bool true)) rfl (by kernel_rfl) (fun _ _ _ h => h) (.inl ⟨rfl, fun w hSw => by (try dsimp only at hSw); go_simp⟩) (by assumption) ?_
      try simp only [Act.put, List.getElem_toArray, List.getElem_cons_succ, List.getElem_cons_zero, List.setIfInBounds_toArray, List.set_cons_zero, List.set_cons_succ]
      refine Rt.take (i := 10) (v := (.pointer (some ⟨a, 0, none⟩))) rfl (by kernel_rfl) (fun _ _ _ h => h) (.inl ⟨rfl, fun w hSw => by (try dsimp only at hSw); go_simp⟩) (by assumption) ?_
      try simp only [Act.put, List.getElem_toArray, List.getElem_cons_succ, List.getElem_cons_zero, List.setIfInBounds_toArray, List.set_cons_zero, List.set_cons_succ]
      refine Rt.take (i := 12) rfl (by kernel_rfl) (fun _ _ _ h => h) (YieldsIf.load rfl rfl rfl (fun W hW => Blk.range hW.1) Try.underlying37 rfl infoNode) (by assumption) ?_
      try simp only [Act.put, List.getElem_toArray, List.getElem_cons_succ, List.getElem_cons_zero, List.setIfInBounds_toArray, List.set_cons_zero, List.set_cons_succ]
      refine Rt.one (i := 11) rfl (by kernel_rfl) (fun K hK => ?_)
      rw [if_pos (by kernel_rfl)]
      go_simp
      refine (hHL.out _ hw42).mono ?_
      rintro e w43 ⟨rfl, hfw43⟩
      have hw43 := (hw42).keep hfw43
      refine hK.out _ _ hw43 ?_
      clear hK K
      refine Rt.one (i := 13) rfl (by kernel_rfl) (fun K hK => ?_)
      rw [if_pos (by kernel_rfl)]
      go_simp
      refine (hHN.out _ hw43).mono ?_
      rintro e w44 ⟨rfl, hfw44⟩
      have hw44 := (hw43).keep hfw44
      refine hK.out _ _ hw44 ?_
      clear hK K
      refine Rt.take (i := 14) (v := (.int .i64 (2 + N))) rfl (by kernel_rfl) (fun _ _ _ h => h) (.inl ⟨rfl, fun w hSw => by (try dsimp only at hSw); go_simp⟩) (by assumption) ?_
      try simp only [Act.put, List.getElem_toArray, List.getElem_cons_succ, List.getElem_cons_zero, List.setIfInBounds_toArray, List.set_cons_zero, List.set_cons_succ]
      refine Rt.take (i := 15) (v := (.bool true)) rfl (by kernel_rfl) (fun _ _ _ h => h) (.inl ⟨rfl, fun w hSw => by (try dsimp only at hSw); go_simp⟩) (by assumption) ?_
      try simp only [Act.put, List.getElem_toArray, List.getElem_cons_succ, List.getElem_cons_zero, List.setIfInBounds_toArray, List.set_cons_zero, List.set_cons_succ]
      refine Rt.take (i := 16) (v := (.bool true)) rfl (by kernel_rfl) (fun _ _ _ h => h) (.inl ⟨rfl, fun w hSw => by (try dsimp only at hSw); go_simp⟩) (by assumption) ?_
      try simp only [Act.put, List.getElem_toArray, List.getElem_cons_succ, List.getElem_cons_zero, List.setIfInBounds_toArray, List.set_cons_zero, List.set_cons_succ]
      refine Rt.take (i := 17) (v := (.bool true)) rfl (by kernel_rfl) (fun _ _ _ h => h) (.inl ⟨rfl, fun w hSw => by (try dsimp only at hSw); go_simp⟩) (by assumption) ?_
      try simp only [Act.put, List.getElem_toArray, List.getElem_cons_succ, List.getElem_cons_zero, List.setIfInBounds_toArray, List.set_cons_zero, List.set_cons_succ]
      refine Rt.take (i := 18) (v := (.pointer (some ⟨a, 0, none⟩))) rfl (by kernel_rfl) (fun _ _ _ h => h) (.inl ⟨rfl, fun w hSw => by (try dsimp only at hSw); go_simp⟩) (by assumption) ?_
      try simp only [Act.put, List.getElem_toArray, List.getElem_cons_succ, List.getElem_cons_zero, List.setIfInBounds_toArray, List.set_cons_zero, List.set_cons_succ]
      refine Rt.take (i := 21) (v := (.int .i64 K0)) rfl (by kernel_rfl) (fun _ _ _ h => h) (.inl ⟨rfl, fun w hSw => by (try dsimp only at hSw); go_simp⟩) (by assumption) ?_
      try simp only [Act.put, List.getElem_toArray, List.getElem_cons_succ, List.getElem_cons_zero, List.setIfInBounds_toArray, List.set_cons_zero, List.set_cons_succ]
      refine Rt.one (i := 19) rfl (by kernel_rfl) (fun K hK => ?_)
      rw [if_pos (by kernel_rfl)]
      go_simp
      refine (hHS.out _ hw44).mono ?_
      rintro e w45 ⟨⟨A9, cap9, rfl, hr9⟩, hfw45⟩
      have hw45 := (hw44).keep hfw45
      refine hK.out _ _ hw45 ?_
      clear hK K
      refine Rt.take (i := 20) (v := (.int .i64 K0)) rfl (by kernel_rfl) (fun _ _ _ h => h) (.inl ⟨rfl, fun w hSw => by (try dsimp only at hSw); go_simp⟩) (by assumption) ?_
      try simp only [Act.put, List.getElem_toArray, List.getElem_cons_succ, List.getElem_cons_zero, List.setIfInBounds_toArray, List.set_cons_zero, List.set_cons_succ]
      refine Rt.take (i := 22) (v := (.bool true)) rfl (by kernel_rfl) (fun _ _ _ h => h) (.inl ⟨rfl, fun w hSw => by (try dsimp only at hSw); go_simp⟩) (by assumption) ?_
      try simp only [Act.put, List.getElem_toArray, List.getElem_cons_succ, List.getElem_cons_zero, List.setIfInBounds_toArray, List.set_cons_zero, List.set_cons_succ]
      refine Rt.take (i := 23) (v := (.bool true)) rfl (by kernel_rfl) (fun _ _ _ h => h) (.inl ⟨rfl, fun w hSw => by (try dsimp only at hSw); go_simp⟩) (by assumption) ?_
      try simp only [Act.put, List.getElem_toArray, List.getElem_cons_succ, List.getElem_cons_zero, List.setIfInBounds_toArray, List.set_cons_zero, List.set_cons_succ]
      refine Rt.done (by kernel_rfl) ?_
      go_wp2_with fail
      go_ret
      exact ⟨rfl, hw45.2.2.2⟩
    | succ g =>
      obtain ⟨x, hxj⟩ : ∃ x, L[j]? = some x := ⟨_, List.getElem?_eq_getElem (by omega)⟩
      have hd1 : decide (j < L.length) = true := decide_eq_true (by omega)
      have hjL : (j : Int) < (L.length : Int) := by omega
      obtain ⟨b, off, A', cap', rfl, hSb, hltb, hrng, hrep'⟩ := states_at hr hxj
      rw [Nat.mul_comm 7 j] at hrng
      have Htk := hid (setsOf_take hxj)
      have hsl := setsOf_len (L.take j)
      rw [List.length_take] at hsl
      have Hj := hid hj
      have hz := Blk.new wr 44 #[.int .u64 0, .int .u64 0, .int .u64 0, .int .u64 0, .int .i64 0, .int .i64 0, .slice none 0 0]
      have hFz : Fr No wr _ := (Fr.refl No wr).alloc (.cells #[.int .u64 0, .int .u64 0, .int .u64 0, .int .u64 0, .int .i64 0, .int .i64 0, .slice none 0 0] 44)
      clear hxj hj hrep' hct
      generalize hls : (setsOf (L.take j)).length = ls at *
      have Hls := hid hls
      clear hls
      by_cases hx : 0 ≤ x.to
      · rw [if_pos hx] at Htk
        have hd2 : decide (0 ≤ x.to) = true := decide_eq_true hx
        have hw : wrap64 ((ls : Int) + 1) = ((ls + 1 : Nat) : Int) := by unfold wrap64; omega
        go_wp2_with (first | ((with_reducible refine at_load _ ?_); refine wpList_load_rng (cs := stA x A' cap') rfl rfl rfl hrng Try.underlying44 rfl infoRState ?_) |
          ((with_reducible refine at_store _ ?_); refine wpList_store_blk (cs := stA x A' cap') rfl rfl rfl rfl hz rfl infoRState (stA_one _ _ _) ?_; intro W hW hfW _; have c4 : W.cell? ⟨wr.heap.size, 4, none⟩ = some (.int .i64 x.to) := hW.cell 4))
        go_roundg g
        case measure => omega
        case rel =>
          have hFW : Fr No wr W := hFz.callAt hfW (Nat.le_refl _)
          refine ⟨j + 1, by have := Hj.out; omega, (by first | rfl | exact wrap_succ (by omega)), ?_, hC.keep hFW, hr.frNo hFW⟩
          rw [Htk.out, List.length_append, Hls.out]
          first | rfl | (rw [hw]; rfl)
      · rw [if_neg hx] at Htk
        have hd2 : decide (0 ≤ x.to) = false := decide_eq_false hx
        go_wp2_with (first | ((with_reducible refine at_load _ ?_); refine wpList_load_rng (cs := stA x A' cap') rfl rfl rfl hrng Try.underlying44 rfl infoRState ?_) |
          ((with_reducible refine at_store _ ?_); refine wpList_store_blk (cs := stA x A' cap') rfl rfl rfl rfl hz rfl infoRState (stA_one _ _ _) ?_; intro W hW hfW _; have c4 : W.cell? ⟨wr.heap.size, 4, none⟩ = some (.int .i64 x.to) := hW.cell 4))
        go_roundg g
        case measure => omega
        case rel =>
          have hFW : Fr No wr W := hFz.callAt hfW (Nat.le_refl _)
          exact ⟨j + 1, by have := Hj.out; omega, (by first | rfl | exact wrap_succ (by omega)), by rw [Htk.out, Hls.out], hC.keep hFW, hr.frNo hFW⟩
theorem lawCnt_c (n : Nd) (v : Value) (S : Nat → Prop) (w : World) (hS : ∀ k, S k → k < w.heap.size) (hn : NodeIn w S v n) : Calls Try.prog 4 #[v] w fun e w' => e = .returned (.bool true) ∧ Fr No w w' := by
  cases hf : fewL [n] with
  | false => exact cnt_few n v S w hn hf
  | true => cases hp : isPlain n with
    | false => exact cnt_not n v S w hn hf hp
    | true => exact cnt_main n v S w hS hn hf hp
end Go.Proofs.Ytldmdlkjpdfonaa
