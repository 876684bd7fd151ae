/- The walks of an automaton's accessors: Len, Rules, State, Drop. Condition: no state goes over nothing to 2^32 others. The walk of an automaton's State. The walks of State out of range, of Drop, and of the law's States. -/
import Derived.Test.YtldmdlkjpdfonaaNb2
import Derived.Test.YtldmdlkjpdfonaaShelf
import Derived.Test.YtldmdlkjpdfonaaMax
namespace Go.Proofs.Ytldmdlkjpdfonaa
set_option linter.unusedVariables false
set_option linter.unusedSimpArgs false
section
open Go Go.RowKit

/-- A copy of numbers. -/
theorem clone_c (l : List Nat) (A : Option Addr) (cap : Nat) (S : Nat → Prop) (w : World) (h : Rep w S (.slice A l.length cap) (.sl 3 l.length (encI l))) (hl : l.length < 4294967296) :
    Calls Try.prog 43 #[.slice A l.length cap] w fun e w' => (∃ A' cap', e = .returned (.slice A' l.length cap') ∧ Rep w' (fun k => w.heap.size ≤ k) (.slice A' l.length cap') (.sl 3 l.length (encI l))) ∧ Fr No w w' := by
  have fin : ∀ (v' : Value) (w' : World) (n : Nat) (xs : List Value), w'.ownsRow w.heap.size 3 1 v' l.length xs → xs = l.map (fun i : Nat => Value.int .i64 (i : Int)) → Below w.heap.size w w' →
      (∃ A' cap', Ending.returned v' = .returned (.slice A' l.length cap') ∧ Rep w' (fun k => w.heap.size ≤ k) (.slice A' l.length cap') (.sl 3 l.length (encI l))) ∧ Fr No w w' := by
    intro v' w' n xs ho hx hb
    have hown : Own w' w.heap.size (fun _ => False) 3 1 v' l.length (encI l) := ⟨xs, ho, by
      subst hx
      unfold encI
      clear h ho hl
      induction l with
      | nil => exact .nil
      | cons a l ih => exact .cons (.v rfl) ih⟩
    obtain ⟨A', cap', rfl, _, _⟩ := hown.form
    exact ⟨⟨A', cap', rfl, own_repI hown fun k hk => (hown.blk_lt k hk).1⟩, Fr.ofBelow hb⟩
  cases A with
  | none =>
    have hl0 : l.length = 0 := by
      generalize hv : Value.slice none l.length cap = x at h
      generalize hd : D.sl 3 l.length (encI l) = d at h
      cases h with
      | v => cases hd
      | nil0 => injection hv with _ h2 _
      | row => injection hv with h1; cases h1
    rw [hl0]
    refine (Try.slices_Clone_int_nil 0 cap w).mono ?_
    rintro e w' ⟨rfl, rfl⟩
    have : l = [] := List.eq_nil_of_length_eq_zero hl0
    subst this
    exact ⟨⟨none, 0, rfl, .nil0 (Nat.zero_le _)⟩, Fr.refl _ _⟩
  | some a =>
    rcases Nat.eq_zero_or_pos l.length with hl0 | hpos
    · have : l = [] := List.eq_nil_of_length_eq_zero hl0
      subst this
      refine (Try.slices_Clone_int_zero a cap w).mono ?_
      rintro e w' ⟨v', rfl, ho, _, hb⟩
      exact fin v' w' 0 [] ho rfl hb
    · obtain ⟨b, off, cs, ha, hS, hlt, hr, hcl, hreps⟩ := Rep.at_ h (o := 0) (n := l.length) hpos (by rw [encI_len]; omega)
      injection ha with ha
      subst ha
      rw [List.drop_zero, List.take_of_length_le (by rw [encI_len]; exact Nat.le_refl _)] at hreps
      have hcs : cs = l.map (fun i : Nat => Value.int .i64 (i : Int)) := by
        unfold encI at hreps
        have := Reps.vs_inv (ys := l.map (fun i : Nat => Value.int .i64 (i : Int))) (by rw [List.map_map]; exact hreps)
        exact this
      refine (Try.slices_Clone_int b off l.length cap (l.map (fun i : Nat => (i : Int))) w (by simp) (by omega) (fun j hj => ?_)).mono ?_
      · rw [List.length_map] at hj
        refine hr j _ ?_
        rw [hcs]
        simp [List.getD, List.getElem?_eq_getElem hj]
      · rintro e w' ⟨v', rfl, ho, _, hb⟩
        refine fin v' w' 0 _ ho ?_ hb
        rw [List.take_of_length_le (by simp), List.map_map]
        rfl
/-- An automaton's block, and its states. -/
structure AutoA (w : World) (S : Nat → Prop) (a : Nat) (L : List NS) (rules : Nat) (A : Option Addr) (cap : Nat) : Prop where
  blk : Blk w a 77 #[.slice A L.length cap, .int .i64 rules]
  rep : Rep w S (.slice A L.length cap) (.sl 54 L.length (encSs L))
  here : S a
theorem AutoIn.open_ {w : World} {S : Nat → Prop} {a : Nat} {L : List NS} {rules : Nat} (h : AutoIn w S a L rules) : ∃ A cap, AutoA w S a L rules A cap := by
  obtain ⟨hS, v, hb, hr⟩ := h
  obtain ⟨A, cap, rfl, _, _⟩ := hr.sl_inv
  exact ⟨A, cap, hb, hr, hS⟩
theorem AutoA.fr {M : Nat → Prop} {w w' : World} {S : Nat → Prop} {a : Nat} {L : List NS} {rules : Nat} {A : Option Addr} {cap : Nat} (h : AutoA w S a L rules A cap) (hf : Fr M w w') (hs : ∀ k, S k → k < w.heap.size → ¬ M k) : AutoA w' S a L rules A cap :=
  ⟨hf.blk h.blk (hs a h.here h.blk.lt), h.rep.fr hf fun k hk hl => ⟨hs k hk hl, hk⟩, h.here⟩
theorem AutoA.no {w w' : World} {S : Nat → Prop} {a : Nat} {L : List NS} {rules : Nat} {A : Option Addr} {cap : Nat} (h : AutoA w S a L rules A cap) (hf : Fr No w w') : AutoA w' S a L rules A cap := h.fr hf fun _ _ _ => id
/-- The i-th of some states. -/
theorem states_at {w : World} {S : Nat → Prop} {e : TypeId} {A : Option Addr} {L : List NS} {cap i : Nat} {x : NS} (h : Rep w S (.slice A L.length cap) (.sl e L.length (encSs L))) (hi : L[i]? = some x) :
    ∃ b off A' cap', A = some ⟨b, off, none⟩ ∧ S b ∧ b < w.heap.size ∧ w.rangeAt b (off + 7 * i) (stA x A' cap').toList ∧ Rep w S (.slice A' x.eps.length cap') (.sl 3 x.eps.length (encI x.eps)) := by
  have hlt : i < L.length := (List.getElem?_eq_some_iff.1 hi).1
  obtain ⟨b, off, cs, rfl, hS, hlt', hr, hl, hreps⟩ := Rep.at_ h (o := 7 * i) (n := 7) (by decide) (by rw [encSs_len]; omega)
  rw [encSs_at L i x hi] at hreps
  obtain ⟨A', cap', rfl, hrep⟩ := stA_of hreps
  exact ⟨b, off, A', cap', rfl, hS, hlt', hr, hrep⟩
section
variable (w : World) (S : Nat → Prop) (a : Nat) (L : List NS) (rules : Nat) (A : Option Addr) (cap : Nat)
set_option maxRecDepth 100000 in
set_option maxHeartbeats 800000 in
theorem len_c (h : AutoA w S a L rules A cap) : Calls Try.prog 18 #[.pointer (some ⟨a, 0, none⟩)] w fun r w' => r = .returned (.int .i64 L.length) ∧ w' = w := by
  have h0 := h.blk.cell 0
  go_enter Try.func18, Try.ntmps18
  go_wp2
  go_ret
  exact ⟨rfl, rfl⟩
set_option maxRecDepth 100000 in
set_option maxHeartbeats 800000 in
theorem lenNil_c : Calls Try.prog 18 #[.pointer none] w fun r w' => r = .returned (.int .i64 0) ∧ w' = w := by
  go_enter Try.func18, Try.ntmps18
  go_wp2
  go_ret
  exact ⟨rfl, rfl⟩
set_option maxRecDepth 100000 in
set_option maxHeartbeats 800000 in
theorem rules_c (h : AutoA w S a L rules A cap) : Calls Try.prog 25 #[.pointer (some ⟨a, 0, none⟩)] w fun r w' => r = .returned (.int .i64 rules) ∧ w' = w := by
  have h0 := h.blk.cell 1
  go_enter Try.func25, Try.ntmps25
  go_wp2
  go_ret
  exact ⟨rfl, rfl⟩
set_option maxRecDepth 100000 in
set_option maxHeartbeats 800000 in
theorem rulesNil_c : Calls Try.prog 25 #[.pointer none] w fun r w' => r = .returned (.int .i64 0) ∧ w' = w := by
  go_enter Try.func25, Try.ntmps25
  go_wp2
  go_ret
  exact ⟨rfl, rfl⟩
end
end
section
open Go Go.RowKit

theorem results_nstate {tmps : Array Value} {W : World} {g0 : Nat} {cs : Array Value} {x : Bool} (t4 : tmps.getD 4 undef = .pointer (some ⟨g0, 0, none⟩)) (t5 : tmps.getD 5 undef = .bool x) (h0 : Blk W g0 54 cs) (ho : cs.size = 7) :
    (results Try.f24 tmps).run Try.prog W = .ok (.tuple #[.agg cs, .bool x]) W := by
  have hl := run_load_blk (P := Try.prog) h0 Try.underlying54 rfl (by rw [ho]; exact infoState)
  have t4' : tmps[4]?.getD undef = .pointer (some ⟨g0, 0, none⟩) := by simpa using t4
  have t5' : tmps[5]?.getD undef = .bool x := by simpa using t5
  simp [results, Try.results24, t4', t5', asAddr, hl]
section
variable (w : World) (S : Nat → Prop) (a : Nat) (L : List NS) (rules : Nat) (A : Option Addr) (cap : Nat)
set_option maxRecDepth 100000 in
set_option maxHeartbeats 4000000 in
theorem state_c (i : Nat) (x : NS) (h : AutoA w S a L rules A cap) (hi : L[i]? = some x) (hx : x.eps.length < 4294967296) :
    Calls Try.prog 24 #[.pointer (some ⟨a, 0, none⟩), .int .i64 i] w fun r w' => (∃ A' cap', r = .returned (.tuple #[.agg (stA x A' cap'), .bool true]) ∧ Rep w' (fun k => w.heap.size ≤ k) (.slice A' x.eps.length cap') (.sl 3 x.eps.length (encI x.eps))) ∧ Fr No w w' := by
  have hlt : i < L.length := (List.getElem?_eq_some_iff.1 hi).1
  have hd1 : decide ((i : Int) < 0) = false := decide_eq_false (by omega)
  have hd2 : decide (L.length ≤ i) = false := decide_eq_false (by omega)
  have hd3 : decide ((L.length : Int) ≤ i) = false := decide_eq_false (by omega)
  have hiL : (i : Int) < (L.length : Int) := by omega
  have hF0 : Fr No w _ := (Fr.refl No w).alloc (.cells #[.int .u64 0, .int .u64 0, .int .u64 0, .int .u64 0, .int .i64 0, .int .i64 0, .slice none 0 0] 54)
  have hG0 := Blk.new w 54 #[.int .u64 0, .int .u64 0, .int .u64 0, .int .u64 0, .int .i64 0, .int .i64 0, .slice none 0 0]
  have hA0 := h.no hF0
  have hlen := len_c _ S a L rules A cap hA0
  have hcap : L.length ≤ cap ∧ cap ≤ maxLen := by
    obtain ⟨A2, c2, heq, h1, h2⟩ := h.rep.sl_inv
    injection heq with e1 e2 e3
    omega
  obtain ⟨b, off, A', cap', rfl, hSb, hltb, hrng, hrep'⟩ := states_at hA0.rep hi
  rw [Nat.mul_comm 7 i] at hrng
  have hblk := hA0.blk.cell 0
  have hal := h.blk.lt
  have hcl := fun W hW => clone_c x.eps A' cap' S W (hrep'.fr (M := At (w.heap.size + 1)) (w' := W) (((Fr.refl _ _).alloc (.cells #[.int .u64 0, .int .u64 0, .int .u64 0, .int .u64 0, .int .i64 0, .int .i64 0, .slice none 0 0] 54)).trans hW) fun k hk hl => ⟨fun e => by rw [World.size_alloc] at hl; have e : k = w.heap.size + 1 := e; omega, hk⟩) hx
  have hG1 : Blk ((w.alloc (.cells #[.int .u64 0, .int .u64 0, .int .u64 0, .int .u64 0, .int .i64 0, .int .i64 0, .slice none 0 0] 54)).alloc (.cells #[.int .u64 0, .int .u64 0, .int .u64 0, .int .u64 0, .int .i64 0, .int .i64 0, .slice none 0 0] 54)) (w.heap.size + 1) 54 #[.int .u64 0, .int .u64 0, .int .u64 0, .int .u64 0, .int .i64 0, .int .i64 0, .slice none 0 0] := by
    have := Blk.new (w.alloc (.cells #[.int .u64 0, .int .u64 0, .int .u64 0, .int .u64 0, .int .i64 0, .int .i64 0, .slice none 0 0] 54)) 54 #[.int .u64 0, .int .u64 0, .int .u64 0, .int .u64 0, .int .i64 0, .int .i64 0, .slice none 0 0]
    rwa [World.size_alloc] at this
  have hF1 := (hF0.alloc (.cells #[.int .u64 0, .int .u64 0, .int .u64 0, .int .u64 0, .int .i64 0, .int .i64 0, .slice none 0 0] 54))
  have hG01 := hG0.alloc (.cells #[.int .u64 0, .int .u64 0, .int .u64 0, .int .u64 0, .int .i64 0, .int .i64 0, .slice none 0 0] 54)
  clear hi h hA0 hrep'
  go_enter Try.func24, Try.ntmps24
  go_wp2_with (first | (go_at_call 18; refine hlen.mono ?_; rintro e w1 ⟨rfl, hw1⟩; replace hw1 := hw1.symm; subst hw1) |
    ((with_reducible refine at_load _ ?_); refine wpList_load_rng (cs := stA x A' cap') rfl rfl rfl hrng Try.underlying54 rfl infoState ?_) |
    ((with_reducible refine at_store _ ?_); refine wpList_store_blk (cs := stA x A' cap') rfl rfl rfl rfl hG1 rfl infoState (stA_one _ _ _) ?_; intro W2 hW2 hfW2 hsW2; have hW26 : W2.cell? ⟨w.heap.size + 1, 6, none⟩ = some (.slice A' x.eps.length cap') := hW2.cell 6; have hz26 := hW2.frozen 6) |
    (go_at_call 43; go_loud (refine (hcl _ hfW2).mono ?_); rintro e w3 ⟨⟨A3, cap3, rfl, hr3⟩, hf3⟩; have hW3 := hf3.blk hW2 id; have hW36 : w3.cell? ⟨w.heap.size + 1, 6, none⟩ = some (.slice A' x.eps.length cap') := hW3.cell 6; have hz36 := hW3.frozen 6; have hW4 : Blk (w3.setCell ⟨w.heap.size + 1, 6, none⟩ (.slice A3 x.eps.length cap3)) (w.heap.size + 1) 54 (stA x A3 cap3) := hW3.set_ 6 (.slice A3 x.eps.length cap3)) |
    ((with_reducible refine at_load _ ?_); refine wpList_load_blk (cs := stA x A3 cap3) rfl rfl rfl hW4 Try.underlying54 rfl infoState ?_) |
    ((with_reducible refine at_store _ ?_); refine wpList_store_blk (cs := stA x A3 cap3) rfl rfl rfl rfl (((hf3.blk (hfW2.blk hG01 (by show ¬ w.heap.size = w.heap.size + 1; omega)) id).far (p := ⟨w.heap.size + 1, 6, none⟩) (by show w.heap.size ≠ w.heap.size + 1; omega) (.slice A3 x.eps.length cap3))) rfl infoState (stA_one _ _ _) ?_; intro W5 hW5 hfW5 hsW5))
  refine bodyPost_ret (v := .tuple #[.agg (stA x A3 cap3), .bool true]) (results_nstate rfl rfl hW5 rfl) rfl ?_
  have hFn : Fr No w W5 := (((hF1.callAt hfW2 (by omega)).no hf3).setNew (p := ⟨w.heap.size + 1, 6, none⟩) (by show w.heap.size ≤ w.heap.size + 1; omega) (.slice A3 x.eps.length cap3)).callAt hfW5 (Nat.le_refl _)
  refine ⟨⟨A3, cap3, rfl, ?_⟩, hFn⟩
  have hs2 := hfW2.size
  rw [World.size_alloc, World.size_alloc] at hs2
  have hr4 := hr3.set (p := ⟨w.heap.size + 1, 6, none⟩) (fun k hk e => by have e : k = w.heap.size + 1 := e; omega) (.slice A3 x.eps.length cap3)
  exact hr4.fr hfW5 fun k hk _ => ⟨fun e => by have e : k = w.heap.size := e; omega, by show w.heap.size ≤ k; omega⟩
end
end
section
open Go Go.RowKit

section
variable (w : World) (S : Nat → Prop) (a : Nat) (L : List NS) (rules : Nat) (A : Option Addr) (cap : Nat)
set_option maxRecDepth 100000 in
set_option maxHeartbeats 1600000 in
theorem state_nil (i : Int) : Calls Try.prog 24 #[.pointer none, .int .i64 i] w fun r w' => r = .returned (.tuple #[.agg (stA (over []) none 0), .bool false]) ∧ Fr No w w' := by
  have hF0 : Fr No w _ := (Fr.refl No w).alloc (.cells #[.int .u64 0, .int .u64 0, .int .u64 0, .int .u64 0, .int .i64 0, .int .i64 0, .slice none 0 0] 54)
  have hG0 := Blk.new w 54 #[.int .u64 0, .int .u64 0, .int .u64 0, .int .u64 0, .int .i64 0, .int .i64 0, .slice none 0 0]
  have hlen := lenNil_c (w.alloc (.cells #[.int .u64 0, .int .u64 0, .int .u64 0, .int .u64 0, .int .i64 0, .int .i64 0, .slice none 0 0] 54))
  have hov := over_c [] none 0 (w.alloc (.cells #[.int .u64 0, .int .u64 0, .int .u64 0, .int .u64 0, .int .i64 0, .int .i64 0, .slice none 0 0] 54))
  by_cases hi : i < 0
  · have hd1 : decide (i < 0) = true := decide_eq_true hi
    go_enter Try.func24, Try.ntmps24
    go_wp2_with (first | (go_at_call 38; refine hov.mono ?_; rintro e w1 ⟨rfl, hf1⟩) |
      ((with_reducible refine at_store _ ?_); refine wpList_store_blk (cs := stA (over []) none 0) rfl rfl rfl rfl (hf1.blk hG0 id) rfl infoState (stA_one _ _ _) ?_; intro W5 hW5 hfW5 hsW5))
    refine bodyPost_ret (v := .tuple #[.agg (stA (over []) none 0), .bool false]) (results_nstate rfl rfl hW5 rfl) rfl ?_
    exact ⟨rfl, (hF0.no hf1).callAt hfW5 (Nat.le_refl _)⟩
  · have hd1 : decide (i < 0) = false := decide_eq_false hi
    have hd2 : decide (0 ≤ i) = true := decide_eq_true (by omega)
    go_enter Try.func24, Try.ntmps24
    go_wp2_with (first | (go_at_call 18; refine hlen.mono ?_; rintro e w1 ⟨rfl, hw1⟩; replace hw1 := hw1.symm; subst hw1) | (go_at_call 38; refine hov.mono ?_; rintro e w1 ⟨rfl, hf1⟩) |
      ((with_reducible refine at_store _ ?_); refine wpList_store_blk (cs := stA (over []) none 0) rfl rfl rfl rfl (hf1.blk hG0 id) rfl infoState (stA_one _ _ _) ?_; intro W5 hW5 hfW5 hsW5))
    refine bodyPost_ret (v := .tuple #[.agg (stA (over []) none 0), .bool false]) (results_nstate rfl rfl hW5 rfl) rfl ?_
    exact ⟨rfl, (hF0.no hf1).callAt hfW5 (Nat.le_refl _)⟩
set_option maxRecDepth 100000 in
set_option maxHeartbeats 1600000 in
theorem state_out (i : Nat) (h : AutoA w S a L rules A cap) (hi : L.length ≤ i) : Calls Try.prog 24 #[.pointer (some ⟨a, 0, none⟩), .int .i64 i] w fun r w' => r = .returned (.tuple #[.agg (stA (over []) none 0), .bool false]) ∧ Fr No w w' := by
  have hF0 : Fr No w _ := (Fr.refl No w).alloc (.cells #[.int .u64 0, .int .u64 0, .int .u64 0, .int .u64 0, .int .i64 0, .int .i64 0, .slice none 0 0] 54)
  have hG0 := Blk.new w 54 #[.int .u64 0, .int .u64 0, .int .u64 0, .int .u64 0, .int .i64 0, .int .i64 0, .slice none 0 0]
  have hlen := len_c _ S a L rules A cap (h.no hF0)
  have hov := over_c [] none 0 (w.alloc (.cells #[.int .u64 0, .int .u64 0, .int .u64 0, .int .u64 0, .int .i64 0, .int .i64 0, .slice none 0 0] 54))
  have hd1 : decide ((i : Int) < 0) = false := decide_eq_false (by omega)
  have hd2 : decide (L.length ≤ i) = true := decide_eq_true hi
  have hd3 : decide ((L.length : Int) ≤ i) = true := decide_eq_true (by omega)
  go_enter Try.func24, Try.ntmps24
  go_wp2_with (first | (go_at_call 18; refine hlen.mono ?_; rintro e w1 ⟨rfl, hw1⟩; replace hw1 := hw1.symm; subst hw1) | (go_at_call 38; refine hov.mono ?_; rintro e w1 ⟨rfl, hf1⟩) |
    ((with_reducible refine at_store _ ?_); refine wpList_store_blk (cs := stA (over []) none 0) rfl rfl rfl rfl (hf1.blk hG0 id) rfl infoState (stA_one _ _ _) ?_; intro W5 hW5 hfW5 hsW5))
  refine bodyPost_ret (v := .tuple #[.agg (stA (over []) none 0), .bool false]) (results_nstate rfl rfl hW5 rfl) rfl ?_
  exact ⟨rfl, (hF0.no hf1).callAt hfW5 (Nat.le_refl _)⟩
set_option maxRecDepth 100000 in
set_option maxHeartbeats 1600000 in
theorem drop_nil (p : Value) : Calls Try.prog 23 #[.pointer none, p] w fun r w' => r = .returned (.tuple #[]) ∧ w' = w := by
  go_enter Try.func23, Try.ntmps23
  go_wp2
  go_end0
  exact ⟨rfl, rfl⟩
set_option maxRecDepth 100000 in
set_option maxHeartbeats 1600000 in
theorem drop_c (g : Nat) (m : Mtr) (h : AutoA w S a L rules A cap) (hm : Me w g m) (hf : m.fits) (hl : L.length < 1099511627776) :
    Calls Try.prog 23 #[.pointer (some ⟨a, 0, none⟩), .pointer (some ⟨g, 0, none⟩)] w fun r w' => r = .returned (.tuple #[]) ∧ Me w' g (m.give L.length).2 ∧ AutoA w' (fun k => k = a) a [] 0 none 0 ∧ Fr (fun k => k = a ∨ k = g) w w' := by
  have h0 := h.blk.cell 0
  have hag : a ≠ g := Blk.ne_ h.blk hm (by decide)
  have hgv := give_c g m w L.length hm hf (by omega)
  go_enter Try.func23, Try.ntmps23
  go_wp2_with (go_at_call 40; refine hgv.mono ?_; rintro e w2 ⟨rfl, hm2, hf2⟩; have hb2 := hf2.blk h.blk hag; have c0 := hb2.cell 0; have c1 := hb2.cell 1; have z0 := hb2.frozen 0; have z1 := hb2.frozen 1)
  go_end0
  refine ⟨rfl, ?_, ⟨(hb2.set_ 0 _).set_ 1 _, .nil0 (Nat.zero_le _), rfl⟩, ?_⟩
  · exact (hm2.fr (M := At a) (((Fr.refl (At a) w2).setB 0 _).setB 1 _) (Ne.symm hag))
  · exact ((Fr.trans ((Fr.refl _ w).call hf2 fun k _ h => .inr h) (Fr.refl _ w2)).set (p := ⟨a, 0, none⟩) (.inr (.inl rfl)) _).set (p := ⟨a, 1, none⟩) (.inr (.inl rfl)) _
end
end
end Go.Proofs.Ytldmdlkjpdfonaa
