/- The walk of sieveref07.Parse: what it comes to is what the plain parser says. Condition: the text has fewer than 2^20 bytes. -/
import Derived.Test.YtcphepjfnnbonaaPf13
namespace Go.Proofs.Ytcphepjfnnbonaa
set_option linter.unusedVariables false
set_option linter.unusedSimpArgs false
open Go Go.RowKit

theorem results_pparse {tmps : Array Value} {W : World} {g0 : Nat} {cs : Array Value} {x : Int} (t2 : tmps.getD 2 undef = .pointer (some ⟨g0, 0, none⟩)) (t3 : tmps.getD 3 undef = .int .i64 x) (h0 : Blk W g0 28 cs) (ho : cs.size = 8) :
    (results Try.f14 tmps).run Try.prog W = .ok (.tuple #[.agg cs, .int .i64 x]) W := by
  have hl := run_load_blk (P := Try.prog) h0 Try.underlying28 rfl (by rw [ho]; exact infoNode)
  have t2' : tmps[2]?.getD undef = .pointer (some ⟨g0, 0, none⟩) := by simpa using t2
  have t3' : tmps[3]?.getD undef = .int .i64 x := by simpa using t3
  simp [results, Try.results14, t2', t3', asAddr, hl]
theorem wp_store_blk {P : Program} {o : Oper} {a : Act} {w : World} {K : Act → World → Prop} {Q : Exit → Act → World → Prop} {ty : TypeId} {x y : Operand} (ho : o.op = .store ty x y) {g : Nat} {cs : Array Value} (hx : a.eval x = .pointer (some ⟨g, 0, none⟩)) (hy : a.eval y = .agg cs)
    {t : TypeId} {old : Array Value} (hb : Blk w g t old) (hsz : cs.size = old.size) (hi : (P.info? ty).map (·.size) = some cs.size) (h1 : cs.all (·.oneCell') = true)
    (h : ∀ W, Blk W g t cs → Fr (At g) w W → W.heap.size = w.heap.size → K (a.put o.dst undef) W) : o.wp P a w K Q := by
  refine wp_store_mid ty x y ho g 0 cs hx hy (fun j hj => ?_) hi h1 (h _ ?_ ((Fr.refl (At g) w).setCells (.inr rfl) 0 cs.toList) (setCells_heap g (g + 1) (by omega) cs.toList 0 w).2.1)
  · rw [Nat.zero_add, hb.cell j, hb.frozen j]
    exact ⟨by rw [Array.getElem?_eq_getElem (by omega)]; rfl, rfl⟩
  · have := setCells_blk g t cs.toList 0 w old hb (by simp; omega)
    have e : (old.toList.take 0 ++ cs.toList ++ old.toList.drop (0 + cs.toList.length)).toArray = cs := by
      rw [List.drop_eq_nil_of_le (by simp; omega)]; simp
    rw [e] at this
    exact this
/-- What it comes to. -/
def RefOut (w : World) : R Nd → Ending → World → Prop
  | .ok n _, e, w' => (∃ v, e = .returned (.tuple #[v, .int .i64 (-1)]) ∧ NewN w w' v n) ∧ Fr No w w'
  | .bad k, e, w' => e = .returned (.tuple #[.agg #[.int .i64 0, .int .u64 0, .int .u64 0, .int .u64 0, .int .u64 0, .int .i64 0, .int .i64 0, .slice none 0 0], .int .i64 k]) ∧ Fr No w w'
  | .out, _, _ => False
set_option maxHeartbeats 4000000 in
theorem refParse_c (s : ByteArray) (w : World) (hs : s.size < 1048576) : Calls Try.prog 14 #[.string s] w (RefOut w (Rx.parse s)) := by
  have hB0 := (Blk.new w 28 #[.int .i64 0, .int .u64 0, .int .u64 0, .int .u64 0, .int .u64 0, .int .i64 0, .int .i64 0, .slice none 0 0]).alloc (.cells #[.string s, .int .i64 0, .int .i64 (-1), .int .i64 0] 51)
  have hP0 : Ps ((w.alloc (.cells #[.int .i64 0, .int .u64 0, .int .u64 0, .int .u64 0, .int .u64 0, .int .i64 0, .int .i64 0, .slice none 0 0] 28)).alloc (.cells #[.string s, .int .i64 0, .int .i64 (-1), .int .i64 0] 51)) (w.heap.size + 1) s (0 : Nat) (-1) 0 := by
    have h := Blk.new (w.alloc (.cells #[.int .i64 0, .int .u64 0, .int .u64 0, .int .u64 0, .int .u64 0, .int .i64 0, .int .i64 0, .slice none 0 0] 28)) 51 #[.string s, .int .i64 0, .int .i64 (-1), .int .i64 0]
    rw [World.size_alloc] at h
    exact h
  have hF0 : Fr No w _ := ((Fr.refl No w).alloc (.cells #[.int .i64 0, .int .u64 0, .int .u64 0, .int .u64 0, .int .u64 0, .int .i64 0, .int .i64 0, .slice none 0 0] 28)).alloc (.cells #[.string s, .int .i64 0, .int .i64 (-1), .int .i64 0] 51)
  have Halt := hid (palt_spec s hs 12 0 rfl 0 (w.heap.size + 1))
  unfold Rx.parse
  cases ha : Rx.alt s 12 0 with
  | out => exact absurd ha (alt_goes s 12 0 (by omega)).1
  | bad k =>
    rw [ha] at Halt
    clear ha
    show Calls _ _ _ w (RefOut w (.bad k))
    go_enter Try.func14, Try.ntmps14
    go_wp2_with fail
    refine calls_world (fun W => Ps W (w.heap.size + 1) s (0 : Nat) (-1) 0 ∧ Blk W w.heap.size 28 #[.int .i64 0, .int .u64 0, .int .u64 0, .int .u64 0, .int .u64 0, .int .i64 0, .int .i64 0, .slice none 0 0] ∧ Fr No w W) ⟨hP0, hB0, hF0⟩ ?_
    clear hP0 hB0 hF0
    rintro W0 ⟨hP0, hB0, hF0⟩
    refine (Halt.out _ hP0 (by omega)).mono ?_
    rintro e w1 ⟨⟨v, n, rfl, A, cap, rfl, hrep⟩, ⟨x, hP⟩, hk, hf⟩
    have hl0 := hP0.lt
    have hs1 : W0.heap.size ≤ w1.heap.size := hf.size
    have hB := hf.blk hB0 (by show ¬ w.heap.size = w.heap.size + 1; omega)
    have hF := hF0.callAt hf (by omega)
    have hd : decide ((k : Int) < 0) = false := decide_eq_false (by omega)
    have hd2 : decide (0 ≤ (k : Int)) = true := decide_eq_true (by omega)
    clear hP0 hB0 hF0 hf
    go_upto_region 6 with ((with_reducible refine at_store 28 ?_); refine wpList_store_blk (w := w1.alloc _) (cs := nodeA n A cap) rfl rfl rfl rfl (Blk.new _ _ _) rfl infoNode (nodeA_one _ _ _) ?_; intro W2 hW2 hfW2 _; have hP2 := (hP.alloc (.cells #[.int .i64 0, .int .u64 0, .int .u64 0, .int .u64 0, .int .u64 0, .int .i64 0, .int .i64 0, .slice none 0 0] 28)).fr hfW2 (by show ¬ w.heap.size + 1 = w1.heap.size; omega); have hB2 := hfW2.blk (hB.alloc (.cells #[.int .i64 0, .int .u64 0, .int .u64 0, .int .u64 0, .int .u64 0, .int .i64 0, .int .i64 0, .slice none 0 0] 28)) (by show ¬ w.heap.size = w1.heap.size; omega); have hF2 := (hF.alloc (.cells #[.int .i64 0, .int .u64 0, .int .u64 0, .int .u64 0, .int .u64 0, .int .i64 0, .int .i64 0, .slice none 0 0] 28)).callAt hfW2 (by omega); obtain ⟨h00, h1, h2, h3, f1, f2, f3⟩ := hP2.cells)
    clear h00 h1 h2 h3 f1 f2 f3
    refine wp_region_tail 6 (fun W => Ps W (w.heap.size + 1) s x k 0 ∧ W.cell? ⟨w.heap.size + 1, 2, none⟩ = some (.int .i64 k)) (by kernel_rfl) (by kernel_rfl) ?_
    simp only [List.take_succ_cons, List.take_zero, List.drop_succ_cons, List.drop_zero]
    have hS : (fun W : World => Ps W (w.heap.size + 1) s x k 0 ∧ W.cell? ⟨w.heap.size + 1, 2, none⟩ = some (.int .i64 k)) W2.drew := ⟨hP2.drew, hP2.drew.cell 2⟩
    refine Rt.take (i := 0) (v := (.agg #[.int .i64 0, .int .u64 0, .int .u64 0, .int .u64 0, .int .u64 0, .int .i64 0, .int .i64 0, .slice none 0 0])) rfl (by kernel_rfl) (fun _ _ _ h => h) (.inl ⟨rfl, fun w hSw => by (try dsimp only at hSw); go_simp⟩) (by assumption) ?_
    try simp only [Act.put, List.getElem_toArray, List.getElem_cons_succ, List.getElem_cons_zero, List.setIfInBounds_toArray, List.set_cons_zero, List.set_cons_succ]
    refine Rt.take (i := 1) (v := (.pointer (some ⟨w.heap.size + 1, 0, none⟩))) rfl (by kernel_rfl) (fun _ _ _ h => h) (.inl ⟨rfl, fun w hSw => by (try dsimp only at hSw); go_simp⟩) (by assumption) ?_
    try simp only [Act.put, List.getElem_toArray, List.getElem_cons_succ, List.getElem_cons_zero, List.setIfInBounds_toArray, List.set_cons_zero, List.set_cons_succ]
    refine Rt.take (i := 2) (v := (.pointer (some ⟨w.heap.size + 1, 0, none⟩))) rfl (by kernel_rfl) (fun _ _ _ h => h) (.inl ⟨rfl, fun w hSw => by (try dsimp only at hSw); go_simp⟩) (by assumption) ?_
    try simp only [Act.put, List.getElem_toArray, List.getElem_cons_succ, List.getElem_cons_zero, List.setIfInBounds_toArray, List.set_cons_zero, List.set_cons_succ]
    refine Rt.take (i := 3) (v := (.pointer (some ⟨w.heap.size + 1, 2, none⟩))) rfl (by kernel_rfl) (fun _ _ _ h => h) (.inl ⟨rfl, fun w hSw => by (try dsimp only at hSw); go_simp⟩) (by assumption) ?_
    try simp only [Act.put, List.getElem_toArray, List.getElem_cons_succ, List.getElem_cons_zero, List.setIfInBounds_toArray, List.set_cons_zero, List.set_cons_succ]
    refine Rt.take (i := 4) (v := (.int .i64 k)) rfl (by kernel_rfl) (fun _ _ _ h => h) (.inl ⟨rfl, fun w hSw => by (try dsimp only at hSw); go_simp⟩) (by assumption) ?_
    try simp only [Act.put, List.getElem_toArray, List.getElem_cons_succ, List.getElem_cons_zero, List.setIfInBounds_toArray, List.set_cons_zero, List.set_cons_succ]
    refine Rt.one (i := 5) rfl (by kernel_rfl) (fun K hK => ?_)
    rw [if_pos (by kernel_rfl)]
    refine wp_store_blk (w := W2.drew) (cs := #[.int .i64 0, .int .u64 0, .int .u64 0, .int .u64 0, .int .u64 0, .int .i64 0, .int .i64 0, .slice none 0 0]) rfl rfl rfl hB2.drew rfl infoNode zn_one ?_
    intro W9 hW9 hfW9 _
    have hP9 := hP2.drew.fr hfW9 (by show ¬ w.heap.size + 1 = w.heap.size; omega)
    refine hK.out _ _ ⟨hP9, hP9.cell 2⟩ (Rt.done (by kernel_rfl) ?_)
    go_wp2_with fail
    refine bodyPost_ret (v := .tuple #[.agg #[.int .i64 0, .int .u64 0, .int .u64 0, .int .u64 0, .int .u64 0, .int .i64 0, .int .i64 0, .slice none 0 0], .int .i64 k]) (results_pparse rfl rfl hW9 rfl) rfl ?_
    exact ⟨rfl, hF2.drew.callAt hfW9 (Nat.le_refl _)⟩
  | ok n j =>
    have hj := ((alt_goes s 12 0 (by omega)).2 n j ha).2
    rw [ha] at Halt
    clear ha
    show Calls _ _ _ w (RefOut w (if j = s.size then .ok n 0 else .bad j))
    by_cases hjs : j = s.size
    · rw [if_pos hjs]
      have hd : decide ((j : Int) < (s.size : Int)) = false := decide_eq_false (by omega)
      have hdn : decide (j < s.size) = false := decide_eq_false (by omega)
      clear hjs
      go_enter Try.func14, Try.ntmps14
      go_wp2_with fail
      refine calls_world (fun W => Ps W (w.heap.size + 1) s (0 : Nat) (-1) 0 ∧ Blk W w.heap.size 28 #[.int .i64 0, .int .u64 0, .int .u64 0, .int .u64 0, .int .u64 0, .int .i64 0, .int .i64 0, .slice none 0 0] ∧ Fr No w W) ⟨hP0, hB0, hF0⟩ ?_
      clear hP0 hB0 hF0
      rintro W0 ⟨hP0, hB0, hF0⟩
      refine (Halt.out _ hP0 (by omega)).mono ?_
      rintro e w1 ⟨⟨v, rfl, A, cap, rfl, hrep⟩, hP, hk, hf⟩
      have hl0 := hP0.lt
      have hs1 : W0.heap.size ≤ w1.heap.size := hf.size
      have hB := hf.blk hB0 (by show ¬ w.heap.size = w.heap.size + 1; omega)
      have hF := hF0.callAt hf (by omega)
      have hrep1 := hrep.sub (S' := fun k => w.heap.size + 1 < k ∧ k < w1.heap.size) (fun k hk hl => ⟨by omega, hl⟩)
      clear hP0 hB0 hF0 hf hrep
      go_wp2_with (first | ((with_reducible refine at_store 28 ?_); refine wpList_store_blk (w := w1.alloc _) (cs := nodeA n A cap) rfl rfl rfl rfl (Blk.new _ _ _) rfl infoNode (nodeA_one _ _ _) ?_; intro W2 hW2 hfW2 _; have hP2 := (hP.alloc (.cells #[.int .i64 0, .int .u64 0, .int .u64 0, .int .u64 0, .int .u64 0, .int .i64 0, .int .i64 0, .slice none 0 0] 28)).fr hfW2 (by show ¬ w.heap.size + 1 = w1.heap.size; omega); have hB2 := hfW2.blk (hB.alloc (.cells #[.int .i64 0, .int .u64 0, .int .u64 0, .int .u64 0, .int .u64 0, .int .i64 0, .int .i64 0, .slice none 0 0] 28)) (by show ¬ w.heap.size = w1.heap.size; omega); have hF2 := (hF.alloc (.cells #[.int .i64 0, .int .u64 0, .int .u64 0, .int .u64 0, .int .u64 0, .int .i64 0, .int .i64 0, .slice none 0 0] 28)).callAt hfW2 (by omega); have hrep2 := (hrep1.alloc (.cells #[.int .i64 0, .int .u64 0, .int .u64 0, .int .u64 0, .int .u64 0, .int .i64 0, .int .i64 0, .slice none 0 0] 28)).fr hfW2 (S' := fun k => w.heap.size + 1 < k ∧ k < w1.heap.size) (fun k hk hl => ⟨by show ¬ k = w1.heap.size; omega, hk⟩); obtain ⟨h00, h1, h2, h3, f1, f2, f3⟩ := hP2.cells) |
        ((with_reducible refine at_load 28 ?_); refine wpList_load_blk (cs := nodeA n A cap) rfl rfl rfl hW2 Try.underlying28 rfl infoNode ?_) |
        ((with_reducible refine at_store 28 ?_); refine wpList_store_blk (w := W2) (cs := nodeA n A cap) rfl rfl rfl rfl hB2 rfl infoNode (nodeA_one _ _ _) ?_; intro W9 hW9 hfW9 _))
      refine bodyPost_ret (v := .tuple #[.agg (nodeA n A cap), .int .i64 (-1)]) (results_pparse rfl rfl hW9 rfl) rfl ?_
      exact ⟨⟨_, rfl, A, cap, rfl, hrep2.fr hfW9 (fun k hk _ => ⟨by show ¬ k = w.heap.size; omega, by show w.heap.size ≤ k; omega⟩)⟩, hF2.callAt hfW9 (Nat.le_refl _)⟩
    · rw [if_neg hjs]
      have hd : decide ((j : Int) < (s.size : Int)) = true := decide_eq_true (by omega)
      have hdn : decide (j < s.size) = true := decide_eq_true (by omega)
      have hd2 : decide (0 ≤ (j : Int)) = true := decide_eq_true (by omega)
      clear hjs
      go_enter Try.func14, Try.ntmps14
      go_wp2_with fail
      refine calls_world (fun W => Ps W (w.heap.size + 1) s (0 : Nat) (-1) 0 ∧ Blk W w.heap.size 28 #[.int .i64 0, .int .u64 0, .int .u64 0, .int .u64 0, .int .u64 0, .int .i64 0, .int .i64 0, .slice none 0 0] ∧ Fr No w W) ⟨hP0, hB0, hF0⟩ ?_
      clear hP0 hB0 hF0
      rintro W0 ⟨hP0, hB0, hF0⟩
      refine (Halt.out _ hP0 (by omega)).mono ?_
      rintro e w1 ⟨⟨v, rfl, A, cap, rfl, hrep⟩, hP, hk, hf⟩
      have hl0 := hP0.lt
      have hs1 : W0.heap.size ≤ w1.heap.size := hf.size
      have hB := hf.blk hB0 (by show ¬ w.heap.size = w.heap.size + 1; omega)
      have hF := hF0.callAt hf (by omega)
      have hrep1 := hrep.sub (S' := fun k => w.heap.size + 1 < k ∧ k < w1.heap.size) (fun k hk hl => ⟨by omega, hl⟩)
      clear hP0 hB0 hF0 hf hrep
      go_upto_region 6 with (first | ((with_reducible refine at_store 28 ?_); refine wpList_store_blk (w := w1.alloc _) (cs := nodeA n A cap) rfl rfl rfl rfl (Blk.new _ _ _) rfl infoNode (nodeA_one _ _ _) ?_; intro W2 hW2 hfW2 _; have hP2 := (hP.alloc (.cells #[.int .i64 0, .int .u64 0, .int .u64 0, .int .u64 0, .int .u64 0, .int .i64 0, .int .i64 0, .slice none 0 0] 28)).fr hfW2 (by show ¬ w.heap.size + 1 = w1.heap.size; omega); have hB2 := hfW2.blk (hB.alloc (.cells #[.int .i64 0, .int .u64 0, .int .u64 0, .int .u64 0, .int .u64 0, .int .i64 0, .int .i64 0, .slice none 0 0] 28)) (by show ¬ w.heap.size = w1.heap.size; omega); have hF2 := (hF.alloc (.cells #[.int .i64 0, .int .u64 0, .int .u64 0, .int .u64 0, .int .u64 0, .int .i64 0, .int .i64 0, .slice none 0 0] 28)).callAt hfW2 (by omega); have hrep2 := (hrep1.alloc (.cells #[.int .i64 0, .int .u64 0, .int .u64 0, .int .u64 0, .int .u64 0, .int .i64 0, .int .i64 0, .slice none 0 0] 28)).fr hfW2 (S' := fun k => w.heap.size + 1 < k ∧ k < w1.heap.size) (fun k hk hl => ⟨by show ¬ k = w1.heap.size; omega, hk⟩); obtain ⟨h00, h1, h2, h3, f1, f2, f3⟩ := hP2.cells) |
        (go_at_call 22; refine (pfail_a _ s _ _ _ _ hP2).mono ?_; rintro e w3 ⟨rfl, hP3, hf3⟩; have hB3 := hf3.blk hB2 (by show ¬ w.heap.size = w.heap.size + 1; omega); have hF3 := hF2.callAt hf3 (by omega); clear h00 h1 h2 h3 f1 f2 f3; obtain ⟨h00, h1, h2, h3, f1, f2, f3⟩ := hP3.cells))
      clear h00 h1 h2 h3 f1 f2 f3
      refine wp_region_tail 6 (fun W => Ps W (w.heap.size + 1) s j j 0 ∧ W.cell? ⟨w.heap.size + 1, 2, none⟩ = some (.int .i64 j)) (by kernel_rfl) (by kernel_rfl) ?_
      simp only [List.take_succ_cons, List.take_zero, List.drop_succ_cons, List.drop_zero]
      have hS : (fun W : World => Ps W (w.heap.size + 1) s j j 0 ∧ W.cell? ⟨w.heap.size + 1, 2, none⟩ = some (.int .i64 j)) w3.drew := ⟨hP3.drew, hP3.drew.cell 2⟩
      refine Rt.take (i := 0) (v := (.agg #[.int .i64 0, .int .u64 0, .int .u64 0, .int .u64 0, .int .u64 0, .int .i64 0, .int .i64 0, .slice none 0 0])) rfl (by kernel_rfl) (fun _ _ _ h => h) (.inl ⟨rfl, fun w hSw => by (try dsimp only at hSw); go_simp⟩) (by assumption) ?_
      try simp only [Act.put, List.getElem_toArray, List.getElem_cons_succ, List.getElem_cons_zero, List.setIfInBounds_toArray, List.set_cons_zero, List.set_cons_succ]
      refine Rt.take (i := 1) (v := (.pointer (some ⟨w.heap.size + 1, 0, none⟩))) rfl (by kernel_rfl) (fun _ _ _ h => h) (.inl ⟨rfl, fun w hSw => by (try dsimp only at hSw); go_simp⟩) (by assumption) ?_
      try simp only [Act.put, List.getElem_toArray, List.getElem_cons_succ, List.getElem_cons_zero, List.setIfInBounds_toArray, List.set_cons_zero, List.set_cons_succ]
      refine Rt.take (i := 2) (v := (.pointer (some ⟨w.heap.size + 1, 0, none⟩))) rfl (by kernel_rfl) (fun _ _ _ h => h) (.inl ⟨rfl, fun w hSw => by (try dsimp only at hSw); go_simp⟩) (by assumption) ?_
      try simp only [Act.put, List.getElem_toArray, List.getElem_cons_succ, List.getElem_cons_zero, List.setIfInBounds_toArray, List.set_cons_zero, List.set_cons_succ]
      refine Rt.take (i := 3) (v := (.pointer (some ⟨w.heap.size + 1, 2, none⟩))) rfl (by kernel_rfl) (fun _ _ _ h => h) (.inl ⟨rfl, fun w hSw => by (try dsimp only at hSw); go_simp⟩) (by assumption) ?_
      try simp only [Act.put, List.getElem_toArray, List.getElem_cons_succ, List.getElem_cons_zero, List.setIfInBounds_toArray, List.set_cons_zero, List.set_cons_succ]
      refine Rt.take (i := 4) (v := (.int .i64 j)) rfl (by kernel_rfl) (fun _ _ _ h => h) (.inl ⟨rfl, fun w hSw => by (try dsimp only at hSw); go_simp⟩) (by assumption) ?_
      try simp only [Act.put, List.getElem_toArray, List.getElem_cons_succ, List.getElem_cons_zero, List.setIfInBounds_toArray, List.set_cons_zero, List.set_cons_succ]
      refine Rt.one (i := 5) rfl (by kernel_rfl) (fun K hK => ?_)
      rw [if_pos (by kernel_rfl)]
      refine wp_store_blk (w := w3.drew) (cs := #[.int .i64 0, .int .u64 0, .int .u64 0, .int .u64 0, .int .u64 0, .int .i64 0, .int .i64 0, .slice none 0 0]) rfl rfl rfl hB3.drew rfl infoNode zn_one ?_
      intro W9 hW9 hfW9 _
      have hP9 := hP3.drew.fr hfW9 (by show ¬ w.heap.size + 1 = w.heap.size; omega)
      refine hK.out _ _ ⟨hP9, hP9.cell 2⟩ (Rt.done (by kernel_rfl) ?_)
      go_wp2_with fail
      refine bodyPost_ret (v := .tuple #[.agg #[.int .i64 0, .int .u64 0, .int .u64 0, .int .u64 0, .int .u64 0, .int .i64 0, .int .i64 0, .slice none 0 0], .int .i64 j]) (results_pparse rfl rfl hW9 rfl) rfl ?_
      exact ⟨rfl, hF3.drew.callAt hfW9 (Nat.le_refl _)⟩
end Go.Proofs.Ytcphepjfnnbonaa
