/- The walk of regex.Parse: whatever text of fewer than 2^39 bytes is read, the call answers what the plain reader says. -/
import Derived.Test.YtldmdlkjpdfonaaRxW14
import Derived.Recover
import Derived.Defers
namespace Go.Proofs.Ytldmdlkjpdfonaa
set_option linter.unusedVariables false
set_option linter.unusedSimpArgs false
open Go Go.RowKit

/-- One of three blocks. -/
abbrev At3 (a b c : Nat) : Nat → Prop := fun k => k = a ∨ k = b ∨ k = c
theorem catch_pan (g0 g1 g2 : Nat) (old : Array Value) (x y : Int) (k : Int) (older : List PanicEntry) (w : World) (h0 : Blk w g0 37 old) (ho : old.size = 8) (h1 : Blk w g1 3 #[.int .i64 x]) (h2 : Blk w g2 26 #[.int .i64 y])
    (n01 : g0 ≠ g1) (n02 : g0 ≠ g2) (n12 : g1 ≠ g2) :
    CallsD Try.prog 58 #[.pointer (some ⟨g0, 0, none⟩), .pointer (some ⟨g1, 0, none⟩), .pointer (some ⟨g2, 0, none⟩)] (.panicking ({ v := .iface 90 (.int .i64 k), recovered := false } :: older)) w fun e u' w' =>
      e = .returned (.tuple #[]) ∧ u' = .panicking ({ v := .iface 90 (.int .i64 k), recovered := true } :: older) ∧ Blk w' g0 37 #[.int .i64 0, .int .u64 0, .int .u64 0, .int .u64 0, .int .u64 0, .int .i64 0, .int .i64 0, .slice none 0 0] ∧ Blk w' g1 3 #[.int .i64 k] ∧ Blk w' g2 26 #[.int .i64 6] ∧ Fr (At3 g0 g1 g2) w w' := by
  refine callsD_of_wpS Try.func58 rfl fun c₀ cs hu => ?_
  apply wpS_seq
  apply wpS_region
  simp [wpOpsS, go_sem, recoverD, hu, Try.ntmps58, Exit.thenS]
  refine wpS_of_wp ?_
  have hta : ∀ W : World, (Instr.typeAssert (.iface 90 (.int .i64 k)) 20 90 true).run Try.prog W = .ok (.tuple #[.int .i64 k, .bool true]) W := fun _ => by kernel_rfl
  have hc1 := h1.cell 0
  have hc2 := h2.cell 0
  have hz1 := h1.frozen 0
  have hz2 := h2.frozen 0
  simp only [List.size_toArray, List.length_cons, List.length_nil, Nat.reduceAdd, Nat.reduceSub, Array.replicate_succ, Array.replicate_zero, List.push_toArray, List.append_toArray, List.nil_append, List.cons_append, List.setIfInBounds_toArray, List.set_cons_zero, List.set_cons_succ]
  go_wp2_with ((with_reducible refine at_store _ ?_); refine wpList_store_blk (cs := #[.int .i64 0, .int .u64 0, .int .u64 0, .int .u64 0, .int .u64 0, .int .i64 0, .int .i64 0, .slice none 0 0]) rfl rfl rfl rfl h0 ho.symm infoNode zn_one ?_; intro W hW hfW _; have hb1 := hfW.blk h1 (Ne.symm n01); have hb2 := hfW.blk h2 (Ne.symm n02); have hc1 := hb1.cell 0; have hc2 := hb2.cell 0; have hz1 := hb1.frozen 0; have hz2 := hb2.frozen 0)
  have fin : Blk ((W.setCell ⟨g1, 0, none⟩ (.int .i64 k)).setCell ⟨g2, 0, none⟩ (.int .i64 6)) g0 37 #[.int .i64 0, .int .u64 0, .int .u64 0, .int .u64 0, .int .u64 0, .int .i64 0, .int .i64 0, .slice none 0 0] ∧ Blk ((W.setCell ⟨g1, 0, none⟩ (.int .i64 k)).setCell ⟨g2, 0, none⟩ (.int .i64 6)) g1 3 #[.int .i64 k] ∧
      Blk ((W.setCell ⟨g1, 0, none⟩ (.int .i64 k)).setCell ⟨g2, 0, none⟩ (.int .i64 6)) g2 26 #[.int .i64 6] ∧ Fr (At3 g0 g1 g2) w ((W.setCell ⟨g1, 0, none⟩ (.int .i64 k)).setCell ⟨g2, 0, none⟩ (.int .i64 6)) :=
    ⟨(hW.far (p := ⟨g1, 0, none⟩) n01 _).far (p := ⟨g2, 0, none⟩) n02 _, (hb1.set_ 0 _).far (p := ⟨g2, 0, none⟩) n12 _, (hb2.far (p := ⟨g1, 0, none⟩) (Ne.symm n12) _).set_ 0 _,
      ((hfW.mono (fun k _ h => .inl h)).set (p := ⟨g1, 0, none⟩) (.inr (.inr (.inl rfl))) _).set (p := ⟨g2, 0, none⟩) (.inr (.inr (.inr rfl))) _⟩
  have Fin := hid fin
  clear fin hb1 hb2 hW hfW h0 h1 h2 hc1 hc2 hz1 hz2
  cases c₀
  simp_all [bodyPostS, results, Try.results58]
  exact Fin.out
theorem catch_idle (g0 g1 g2 : Nat) (w : World) :
    CallsD Try.prog 58 #[.pointer (some ⟨g0, 0, none⟩), .pointer (some ⟨g1, 0, none⟩), .pointer (some ⟨g2, 0, none⟩)] .returning w fun e u' w' => e = .returned (.tuple #[]) ∧ u' = .returning ∧ w' = w := by
  refine callsD_of_wpS Try.func58 rfl fun c₀ cs hu => ?_
  apply wpS_seq
  apply wpS_region
  simp [wpOpsS, go_sem, recoverD, hu, Try.ntmps58, Exit.thenS]
  refine wpS_of_wp ?_
  go_wp2
  cases c₀
  simp_all [bodyPostS, results, Try.results58]
/-- What regex.Parse answers. -/
def ParseOut (w : World) : R Nd → Ending → World → Prop
  | .ok n _, e, w' => (∃ v, e = .returned (.tuple #[v, .int .i64 0, .int .i64 0]) ∧ NewN w w' v n) ∧ Fr No w w'
  | .bad k, e, w' => e = .returned (.tuple #[.agg #[.int .i64 0, .int .u64 0, .int .u64 0, .int .u64 0, .int .u64 0, .int .i64 0, .int .i64 0, .slice none 0 0], .int .i64 k, .int .i64 6]) ∧ Fr No w w'
  | .out, _, _ => False
/-- The state of Parse behind its first lines. -/
structure PsS (w W : World) (s : ByteArray) (i : Nat) : Prop where
  rd : Rd W (w.heap.size + 1 + 1 + 1) s i 0
  b0 : Blk W w.heap.size 37 #[.int .i64 0, .int .u64 0, .int .u64 0, .int .u64 0, .int .u64 0, .int .i64 0, .int .i64 0, .slice none 0 0]
  b1 : Blk W (w.heap.size + 1) 3 #[.int .i64 0]
  b2 : Blk W (w.heap.size + 1 + 1) 26 #[.int .i64 0]
  fr : Fr No w W
theorem PsS.start (w : World) (s : ByteArray) : PsS w ((((w.alloc (.cells #[.int .i64 0, .int .u64 0, .int .u64 0, .int .u64 0, .int .u64 0, .int .i64 0, .int .i64 0, .slice none 0 0] 37)).alloc (.cells #[.int .i64 0] 3)).alloc (.cells #[.int .i64 0] 26)).alloc (.cells #[.string s, .int .i64 0, .int .i64 0] 93)) s 0 := by
  have h1 := Blk.new (w.alloc (.cells #[.int .i64 0, .int .u64 0, .int .u64 0, .int .u64 0, .int .u64 0, .int .i64 0, .int .i64 0, .slice none 0 0] 37)) 3 #[.int .i64 0]
  have h2 := Blk.new ((w.alloc (.cells #[.int .i64 0, .int .u64 0, .int .u64 0, .int .u64 0, .int .u64 0, .int .i64 0, .int .i64 0, .slice none 0 0] 37)).alloc (.cells #[.int .i64 0] 3)) 26 #[.int .i64 0]
  have h3 := Blk.new (((w.alloc (.cells #[.int .i64 0, .int .u64 0, .int .u64 0, .int .u64 0, .int .u64 0, .int .i64 0, .int .i64 0, .slice none 0 0] 37)).alloc (.cells #[.int .i64 0] 3)).alloc (.cells #[.int .i64 0] 26)) 93 #[.string s, .int .i64 0, .int .i64 0]
  simp only [World.size_alloc] at h1 h2 h3
  exact ⟨h3, (((Blk.new w _ _).alloc _).alloc _).alloc _, (h1.alloc _).alloc _, h2.alloc _, ((((Fr.refl No w).alloc _).alloc _).alloc _).alloc _⟩
theorem PsS.step {w W W' : World} {s : ByteArray} {i j : Nat} (h : PsS w W s i) (hr : Rd W' (w.heap.size + 1 + 1 + 1) s j 0) (hf : Fr (At (w.heap.size + 1 + 1 + 1)) W W') : PsS w W' s j :=
  ⟨hr, hf.blk h.b0 (by show ¬ w.heap.size = _; omega), hf.blk h.b1 (by show ¬ w.heap.size + 1 = _; omega), hf.blk h.b2 (by show ¬ w.heap.size + 1 + 1 = _; omega), h.fr.callAt hf (by omega)⟩
theorem results_parse {tmps : Array Value} {W : World} {g0 g1 g2 : Nat} {cs : Array Value} {x y : Int} (t2 : tmps.getD 2 undef = .pointer (some ⟨g0, 0, none⟩)) (t3 : tmps.getD 3 undef = .pointer (some ⟨g1, 0, none⟩)) (t4 : tmps.getD 4 undef = .pointer (some ⟨g2, 0, none⟩))
    (h0 : Blk W g0 37 cs) (ho : cs.size = 8) (h1 : Blk W g1 3 #[.int .i64 x]) (h2 : Blk W g2 26 #[.int .i64 y]) :
    (results Try.f45 tmps).run Try.prog W = .ok (.tuple #[.agg cs, .int .i64 x, .int .i64 y]) W := by
  have hl := run_load_blk (P := Try.prog) h0 Try.underlying37 rfl (by rw [ho]; exact infoNode)
  have hc1 := h1.cell 0
  have hc2 := h2.cell 0
  have t2' : tmps[2]?.getD undef = .pointer (some ⟨g0, 0, none⟩) := by simpa using t2
  have t3' : tmps[3]?.getD undef = .pointer (some ⟨g1, 0, none⟩) := by simpa using t3
  have t4' : tmps[4]?.getD undef = .pointer (some ⟨g2, 0, none⟩) := by simpa using t4
  have l1 : (loadVar 3 ⟨g1, 0, none⟩).run Try.prog W = .ok (.int .i64 x) W := by
    simp [go_sem, hc1]
  have l2 : (loadVar 26 ⟨g2, 0, none⟩).run Try.prog W = .ok (.int .i64 y) W := by
    simp [go_sem, hc2]
  simp [results, Try.results45, t2', t3', t4', asAddr, hl, l1, l2]
theorem door_pan {tmps : Array Value} {W : World} {g0 g1 g2 : Nat} {cs : Array Value} {x y k : Int} {R : Ending → World → Prop} (t2 : tmps.getD 2 undef = .pointer (some ⟨g0, 0, none⟩)) (t3 : tmps.getD 3 undef = .pointer (some ⟨g1, 0, none⟩)) (t4 : tmps.getD 4 undef = .pointer (some ⟨g2, 0, none⟩))
    (h0 : Blk W g0 37 cs) (ho : cs.size = 8) (h1 : Blk W g1 3 #[.int .i64 x]) (h2 : Blk W g2 26 #[.int .i64 y]) (n01 : g0 ≠ g1) (n02 : g0 ≠ g2) (n12 : g1 ≠ g2)
    (hR : ∀ W', Fr (At3 g0 g1 g2) W W' → R (.returned (.tuple #[.agg #[.int .i64 0, .int .u64 0, .int .u64 0, .int .u64 0, .int .u64 0, .int .i64 0, .int .i64 0, .slice none 0 0], .int .i64 k, .int .i64 6])) W') :
    Leaves Try.prog Try.f45 tmps R [{ target := .fn (.func 58) #[.pointer (some ⟨g0, 0, none⟩), .pointer (some ⟨g1, 0, none⟩), .pointer (some ⟨g2, 0, none⟩)], args := #[] }] (.panicking [{ v := .iface 90 (.int .i64 k), recovered := false }]) W := by
  refine leaves_cons (f := 58) (args := #[.pointer (some ⟨g0, 0, none⟩), .pointer (some ⟨g1, 0, none⟩), .pointer (some ⟨g2, 0, none⟩)]) (by simp) (by simp [go_sem]) ?_
  refine (catch_pan g0 g1 g2 cs x y k [] W h0 ho h1 h2 n01 n02 n12).mono ?_
  rintro e u' w' ⟨rfl, rfl, b0, b1, b2, hf⟩
  exact ⟨_, results_parse t2 t3 t4 b0 rfl b1 b2, hR w' hf⟩
theorem door_ret {tmps : Array Value} {W : World} {g0 g1 g2 : Nat} {cs : Array Value} {x y : Int} {R : Ending → World → Prop} (t2 : tmps.getD 2 undef = .pointer (some ⟨g0, 0, none⟩)) (t3 : tmps.getD 3 undef = .pointer (some ⟨g1, 0, none⟩)) (t4 : tmps.getD 4 undef = .pointer (some ⟨g2, 0, none⟩))
    (h0 : Blk W g0 37 cs) (ho : cs.size = 8) (h1 : Blk W g1 3 #[.int .i64 x]) (h2 : Blk W g2 26 #[.int .i64 y]) (hR : R (.returned (.tuple #[.agg cs, .int .i64 x, .int .i64 y])) W) :
    Leaves Try.prog Try.f45 tmps R [{ target := .fn (.func 58) #[.pointer (some ⟨g0, 0, none⟩), .pointer (some ⟨g1, 0, none⟩), .pointer (some ⟨g2, 0, none⟩)], args := #[] }] .returning W := by
  refine leaves_cons (f := 58) (args := #[.pointer (some ⟨g0, 0, none⟩), .pointer (some ⟨g1, 0, none⟩), .pointer (some ⟨g2, 0, none⟩)]) (by simp) (by simp [go_sem]) ?_
  refine (catch_idle g0 g1 g2 W).mono ?_
  rintro e u' w' ⟨rfl, rfl, rfl⟩
  exact ⟨_, results_parse t2 t3 t4 h0 ho h1 h2, hR⟩
set_option maxRecDepth 100000 in
set_option maxHeartbeats 4000000 in
theorem parse_c (s : ByteArray) (w : World) (hs : s.size < 549755813888) : Calls Try.prog 45 #[.string s] w (ParseOut w (Rx.parse s)) := by
  have hmf : ∀ (fn : Fn) (first cap : Array Value) (w : World), (Instr.makeFunc fn first cap).run Try.prog w = .ok (.func fn first cap) w := fun _ _ _ _ => rfl
  have Halt := hid (alt_spec s hs 12 0 rfl 0)
  unfold Rx.parse
  cases ha : Rx.alt s 12 0 with
  | out => exact absurd ha (alt_goes s 12 0 (by omega)).1
  | bad k =>
    rw [ha] at Halt
    go_enter_defers Try.func45, Try.ntmps45
    go_wp2_with fail
    refine calls_world (fun W => PsS w W s 0) (PsS.start w s) ?_
    intro W hS
    refine (Halt.out _ _ hS.rd (by omega)).mono ?_
    rintro e w1 ⟨rfl, hf1⟩
    go_wp2
    have b0 := hf1.blk hS.b0 (by show ¬ w.heap.size = _; omega)
    have b1 := hf1.blk hS.b1 (by show ¬ w.heap.size + 1 = _; omega)
    have b2 := hf1.blk hS.b2 (by show ¬ w.heap.size + 1 + 1 = _; omega)
    refine door_pan rfl rfl rfl b0 rfl b1 b2 (by omega) (by omega) (by omega) (fun W' hW' => ⟨rfl, ?_⟩)
    exact Fr.call (hS.fr.callAt hf1 (by omega)) hW' (fun k hk h => by rcases h with h | h | h <;> omega)
  | ok n j =>
    rw [ha] at Halt
    simp only [R.bind]
    have hj := ((alt_goes s 12 0 (by omega)).2 n j ha).2
    by_cases hjs : j = s.size
    · rw [if_pos hjs]
      have hd : ((j : Int) == (s.size : Int)) = true := by simp [hjs]
      clear hjs
      go_enter_defers Try.func45, Try.ntmps45
      go_wp2_with fail
      refine calls_world (fun W => PsS w W s 0) (PsS.start w s) ?_
      intro W hS
      refine (Halt.out _ _ hS.rd (by omega)).mono ?_
      rintro e w1 ⟨⟨v, rfl, A, cap, rfl, hrep⟩, hr1, hj1, hf1⟩
      have hS1 := hS.step hr1 hf1
      have hsz : w.heap.size + 1 + 1 + 1 < W.heap.size := hS.rd.lt
      have hrep1 : Rep w1 (fun k => w.heap.size + 1 + 1 + 1 < k) (.slice A n.subs.length cap) (.sl 37 n.subs.length (encNs n.subs)) := hrep.sub (fun k hk _ => by omega)
      clear hS hr1 hf1 hrep hsz
      go_wp2_with ((with_reducible refine at_store _ ?_); refine wpList_store_blk (cs := nodeA n A cap) rfl rfl rfl rfl hS1.b0 rfl infoNode (nodeA_one _ _ _) ?_; intro W2 hW2 hfW2 _)
      have hr2 : Rd W2 (w.heap.size + 1 + 1 + 1) s j 0 := hS1.rd.fr hfW2 (by show ¬ _ = w.heap.size; omega)
      have c1 : Blk W2 (w.heap.size + 1) 3 #[.int .i64 0] := hfW2.blk hS1.b1 (by show ¬ _ = w.heap.size; omega)
      have c2 : Blk W2 (w.heap.size + 1 + 1) 26 #[.int .i64 0] := hfW2.blk hS1.b2 (by show ¬ _ = w.heap.size; omega)
      have hrep2 : Rep W2 (fun k => w.heap.size + 1 + 1 + 1 < k) (.slice A n.subs.length cap) (.sl 37 n.subs.length (encNs n.subs)) := hrep1.fr hfW2 (fun k hk _ => ⟨by show ¬ k = w.heap.size; omega, hk⟩)
      have hF2 : Fr No w W2 := hS1.fr.callAt hfW2 (Nat.le_refl _)
      clear hS1 hrep1 hfW2
      obtain ⟨h0, h1, h2, f1, f2⟩ := hr2.cells
      refine wp_region_still_tail 12 (by kernel_rfl) (by kernel_rfl) ?_
      simp only [List.take_succ_cons, List.take_zero, List.drop_succ_cons, List.drop_zero]
      repeat still_step
      refine wpStill_nil ?_
      change wpList _ _ _ _ _ W2.drew
      have hz1 := c1.cell 0
      have hz2 := c2.cell 0
      have hy1 := c1.frozen 0
      have hy2 := c2.frozen 0
      go_wp2_with (first | (go_at_call 60; refine (need_h _ _ _ _ (by first | rfl | assumption | (simp; omega))).mono ?_; rintro e wn ⟨rfl, rfl⟩) |
        ((with_reducible refine at_load _ ?_); refine wpList_load_blk (cs := nodeA n A cap) rfl rfl rfl hW2.drew Try.underlying37 rfl infoNode ?_) |
        ((with_reducible refine at_store _ ?_); refine wpList_store_blk (cs := nodeA n A cap) rfl rfl rfl rfl hW2.drew rfl infoNode (nodeA_one _ _ _) ?_; intro W3 hW3 hfW3 _; have d1 := hfW3.blk c1.drew (by show ¬ _ = w.heap.size; omega); have d2 := hfW3.blk c2.drew (by show ¬ _ = w.heap.size; omega); have hz1 := d1.cell 0; have hz2 := d2.cell 0; have hy1 := d1.frozen 0; have hy2 := d2.frozen 0))
      have hrep3 := hrep2.drew.fr hfW3 (S' := fun k => w.heap.size + 1 + 1 + 1 < k) (fun k hk _ => ⟨by show ¬ k = w.heap.size; omega, hk⟩)
      have k1 : ∀ k, w.heap.size + 1 + 1 + 1 < k → k ≠ w.heap.size + 1 := fun k hk => by omega
      have k2 : ∀ k, w.heap.size + 1 + 1 + 1 < k → k ≠ w.heap.size + 1 + 1 := fun k hk => by omega
      have hrep4 := (hrep3.set (p := ⟨w.heap.size + 1, 0, none⟩) k1 (.int .i64 0)).set (p := ⟨w.heap.size + 1 + 1, 0, none⟩) k2 (.int .i64 0)
      have hF3 : Fr No w W3 := hF2.drew.callAt hfW3 (Nat.le_refl _)
      have m01 : w.heap.size ≠ w.heap.size + 1 := by omega
      have m02 : w.heap.size ≠ w.heap.size + 1 + 1 := by omega
      have m12 : w.heap.size + 1 ≠ w.heap.size + 1 + 1 := by omega
      have l1 : w.heap.size ≤ w.heap.size + 1 := by omega
      have l2 : w.heap.size ≤ w.heap.size + 1 + 1 := by omega
      refine door_ret rfl rfl rfl ((hW3.far (p := ⟨w.heap.size + 1, 0, none⟩) m01 _).far (p := ⟨w.heap.size + 1 + 1, 0, none⟩) m02 _) rfl ((d1.set_ 0 _).far (p := ⟨w.heap.size + 1 + 1, 0, none⟩) m12 _) ((d2.far (p := ⟨w.heap.size + 1, 0, none⟩) m12.symm _).set_ 0 _) ?_
      exact ⟨⟨_, rfl, A, cap, rfl, hrep4.sub (fun k hk _ => by omega)⟩, (hF3.setNew (p := ⟨w.heap.size + 1, 0, none⟩) l1 _).setNew (p := ⟨w.heap.size + 1 + 1, 0, none⟩) l2 _⟩
    · rw [if_neg hjs]
      have hd : ((j : Int) == (s.size : Int)) = false := by simp; omega
      clear hjs
      go_enter_defers Try.func45, Try.ntmps45
      go_wp2_with fail
      refine calls_world (fun W => PsS w W s 0) (PsS.start w s) ?_
      intro W hS
      refine (Halt.out _ _ hS.rd (by omega)).mono ?_
      rintro e w1 ⟨⟨v, rfl, A, cap, rfl, hrep⟩, hr1, hj1, hf1⟩
      have hS1 := hS.step hr1 hf1
      have hsz : w.heap.size + 1 + 1 + 1 < W.heap.size := hS.rd.lt
      have hrep1 : Rep w1 (fun k => w.heap.size + 1 + 1 + 1 < k) (.slice A n.subs.length cap) (.sl 37 n.subs.length (encNs n.subs)) := hrep.sub (fun k hk _ => by omega)
      clear hS hr1 hf1 hrep hsz
      go_wp2_with ((with_reducible refine at_store _ ?_); refine wpList_store_blk (cs := nodeA n A cap) rfl rfl rfl rfl hS1.b0 rfl infoNode (nodeA_one _ _ _) ?_; intro W2 hW2 hfW2 _)
      have hr2 : Rd W2 (w.heap.size + 1 + 1 + 1) s j 0 := hS1.rd.fr hfW2 (by show ¬ _ = w.heap.size; omega)
      have c1 : Blk W2 (w.heap.size + 1) 3 #[.int .i64 0] := hfW2.blk hS1.b1 (by show ¬ _ = w.heap.size; omega)
      have c2 : Blk W2 (w.heap.size + 1 + 1) 26 #[.int .i64 0] := hfW2.blk hS1.b2 (by show ¬ _ = w.heap.size; omega)
      have hrep2 : Rep W2 (fun k => w.heap.size + 1 + 1 + 1 < k) (.slice A n.subs.length cap) (.sl 37 n.subs.length (encNs n.subs)) := hrep1.fr hfW2 (fun k hk _ => ⟨by show ¬ k = w.heap.size; omega, hk⟩)
      have hF2 : Fr No w W2 := hS1.fr.callAt hfW2 (Nat.le_refl _)
      clear hS1 hrep1 hfW2
      obtain ⟨h0, h1, h2, f1, f2⟩ := hr2.cells
      refine wp_region_still_tail 12 (by kernel_rfl) (by kernel_rfl) ?_
      simp only [List.take_succ_cons, List.take_zero, List.drop_succ_cons, List.drop_zero]
      repeat still_step
      refine wpStill_nil ?_
      change wpList _ _ _ _ _ W2.drew
      go_wp2_with (go_at_call 60; refine (need_g _ _ _ _ (by first | rfl | assumption | (simp; omega))).mono ?_; rintro e wn ⟨rfl, rfl⟩)
      refine door_pan rfl rfl rfl hW2.drew rfl c1.drew c2.drew (by omega) (by omega) (by omega) (fun W' hW' => ⟨rfl, ?_⟩)
      exact Fr.call hF2.drew hW' (fun k hk h => by rcases h with h | h | h <;> omega)
end Go.Proofs.Ytldmdlkjpdfonaa
