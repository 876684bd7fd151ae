/- The walk of the law's States: all states of an automaton, one behind the other. The walk of an automaton's Sets. -/
import Derived.Test.YtldmdlkjpdfonaaNa3
import Derived.Deep.Cut
namespace Go.Proofs.Ytldmdlkjpdfonaa
set_option linter.unusedVariables false
set_option linter.unusedSimpArgs false
section
open Go Go.RowKit

theorem infoRState3 : (Try.prog.info? 44).map (fun i => (i.zero, i.size, i.bytes)) = some (some (.agg #[.int .u64 0, .int .u64 0, .int .u64 0, .int .u64 0, .int .i64 0, .int .i64 0, .slice none 0 0]), 7, 72) := by kernel_rfl
theorem st_set {w : World} {b off : Nat} {x : NS} {A : Option Addr} {cap : Nat} (h : w.rangeAt b off (stA x A cap).toList) : w.rangeAt b off (setA x.set).toList := fun j v hv => by
  refine h j v ?_
  rcases j with _ | _ | _ | _ | j
  all_goals first | exact hv | (simp [setA] at hv)
theorem encSs_take {L : List NS} {j : Nat} {x : NS} (h : L[j]? = some x) : encSs (L.take (j + 1)) = encSs (L.take j) ++ encS x := by
  rw [List.take_add_one, h, encSs_append]
  show _ ++ encSs [x] = _
  rw [encSs_one]
set_option maxRecDepth 100000 in
set_option maxHeartbeats 4000000 in
theorem states_c (w : World) (S : Nat → Prop) (a : Nat) (L : List NS) (rules : Nat) (A : Option Addr) (cap : Nat) (h : AutoA w S a L rules A cap) (hL : L.length < 4294967296) (hx : ∀ x ∈ L, x.eps.length < 4294967296) :
    Calls Try.prog 13 #[.pointer (some ⟨a, 0, none⟩)] w fun r w' => (∃ A' cap', r = .returned (.slice A' L.length cap') ∧ Rep w' (fun k => w.heap.size ≤ k) (.slice A' L.length cap') (.sl 44 L.length (encSs L))) ∧ Fr No w w' := by
  have hlen := len_c w S a L rules A cap h
  go_enter Try.func13, Try.ntmps13
  go_wp2_with (go_at_call 18; refine hlen.mono ?_; rintro e w1 ⟨rfl, hw1⟩; replace hw1 := hw1.symm; subst hw1)
  go_loopg [3, 9] L.length (fun g t i wr => ∃ (tv : Value) (j : Nat), tv = t ∧ j + g = L.length ∧ i = .int .i64 j ∧ Own wr w.heap.size (fun k => w.heap.size ≤ k) 44 7 tv j (encSs (L.take j)) ∧ Fr No w wr)
  case atStart => exact ⟨_, 0, rfl, by omega, rfl, Own.nil _ _ _ _ _, Fr.refl _ _⟩
  case round =>
    obtain ⟨tv, j, rfl, hj, rfl, hO, hF⟩ := hrel
    cases gk with
    | zero =>
      have hd1 : decide (j < L.length) = false := decide_eq_false (by omega)
      have hge : L.length ≤ j := by omega
      obtain rfl : j = L.length := by omega
      rw [List.take_length] at hO
      go_wp2_with fail
      go_ret
      obtain ⟨A', cap', rfl, _, _⟩ := hO.form
      exact ⟨⟨A', cap', rfl, hO.rep fun _ hk => hk⟩, hF⟩
    | succ g =>
      obtain ⟨x, hxj⟩ : ∃ x, L[j]? = some x := ⟨_, List.getElem?_eq_getElem (by omega)⟩
      have hd1 : decide (j < L.length) = true := decide_eq_true (by omega)
      have hjL : (j : Int) < (L.length : Int) := by omega
      have hxe := hx x (List.mem_of_getElem? hxj)
      have hst := state_c wr S a L rules A cap j x (h.no hF) hxj hxe
      have Htk := hid (encSs_take hxj)
      have hws : w.heap.size ≤ wr.heap.size := hF.size
      have hj8 : j < 4294967296 := by omega
      have Hj := hid hj
      clear hxj hj hlen
      go_upto_region 6 with (first | (go_at_call 24; refine hst.mono ?_; rintro e w2 ⟨⟨A2, cap2, rfl, hr2⟩, hf2⟩) |
        ((with_reducible refine at_store _ ?_); refine wpList_store_blk (cs := stA x A2 cap2) rfl rfl rfl rfl (Blk.new w2 54 #[.int .u64 0, .int .u64 0, .int .u64 0, .int .u64 0, .int .i64 0, .int .i64 0, .slice none 0 0]) rfl infoState (stA_one _ _ _) ?_; intro W4 hW4 hfW4 hsW4; have c4 : W4.cell? ⟨w2.heap.size, 4, none⟩ = some (.int .i64 x.to) := hW4.cell 4; have c5 : W4.cell? ⟨w2.heap.size, 5, none⟩ = some (.int .i64 x.acc) := hW4.cell 5; have c6 : W4.cell? ⟨w2.heap.size, 6, none⟩ = some (.slice A2 x.eps.length cap2) := hW4.cell 6))
      have hF4 : Fr No wr W4 := (hf2.alloc _).callAt hfW4 hf2.size
      have hO4 := (hO.fr hF4 fun _ _ _ => id).alloc (.cells (stA x A2 cap2) 44)
      have hr4 := hr2.fr (((Fr.refl (At w2.heap.size) w2).alloc (.cells #[.int .u64 0, .int .u64 0, .int .u64 0, .int .u64 0, .int .i64 0, .int .i64 0, .slice none 0 0] 54)).trans hfW4) (S' := fun k => wr.heap.size ≤ k ∧ k < w2.heap.size) fun k hk hl => ⟨fun e => by have e : k = w2.heap.size := e; omega, hk, hl⟩
      have hnews : Reps (W4.alloc (.cells (stA x A2 cap2) 44)) (fun k => w.heap.size ≤ k ∧ some k ≠ tv.ownBlock) (stA x A2 cap2).toList (encS x) := stA_reps ((hr4.alloc (.cells (stA x A2 cap2) 44)).mono fun k hk hl => ⟨rfl, by omega, fun e => by have := (hO.blk_lt k e.symm).2; omega⟩)
      have hsz4 : (W4.alloc (.cells (stA x A2 cap2) 44)).heap.size = W4.heap.size + 1 := World.size_alloc _ _
      have hws4 := hF4.size
      have hset := st_set hW4.range
      clear hsW4
      go_wp2_with (first | ((with_reducible refine at_load _ ?_); refine wpList_load_rng (ty := 35) (cs := setA x.set) rfl rfl rfl hset Try.underlying35 rfl infoSet ?_; unfold setA) |
        (at_builtin; go_loud ((with_reducible refine at_call ?_); refine wpList_append_D (es := encS x) (m := 1) rfl (.tmp 18) (.tmp 28) 31 rfl _ 72 Try.underlying31 infoRState3 rfl (by decide) rfl hO4 rfl (news := (stA x A2 cap2).toList) rfl (Blk.new W4 44 (stA x A2 cap2)).news hnews (by omega) (by omega) (by rw [World.size_alloc]; omega) ?_); intro tv6 w6 hO6 hg6 hat6))
      go_roundg g
      case measure => omega
      case rel =>
        refine ⟨tv6, j + 1, rfl, by have := Hj.out; omega, (by first | rfl | exact wrap_succ (by omega)), by rw [Htk.out]; exact hO6, ?_⟩
        exact ((hF.no hF4).alloc _).call (Fr.ofGrown hg6) fun k hk e => by have := (hO.blk_lt k e.symm).1; omega
end
section
open Go Go.RowKit

def encSet (s : Nat) : List D := [.v (.int .u64 (wd s 0)), .v (.int .u64 (wd s 1)), .v (.int .u64 (wd s 2)), .v (.int .u64 (wd s 3))]
def encSets : List Nat → List D
  | [] => []
  | s :: l => encSet s ++ encSets l
theorem encSets_append : ∀ l m : List Nat, encSets (l ++ m) = encSets l ++ encSets m
  | [], m => rfl
  | x :: l, m => by simp [encSets, encSets_append l m]
theorem setA_reps {w : World} {S : Nat → Prop} (s : Nat) : Reps w S (setA s).toList (encSet s) := .cons (.v rfl) (.cons (.v rfl) (.cons (.v rfl) (.cons (.v rfl) .nil)))
/-- The sets of all states that have one. -/
def setsOf : List NS → List Nat
  | [] => []
  | x :: l => if 0 ≤ x.to then x.set :: setsOf l else setsOf l
theorem setsOf_append : ∀ l m : List NS, setsOf (l ++ m) = setsOf l ++ setsOf m
  | [], m => rfl
  | x :: l, m => by simp only [List.cons_append, setsOf, setsOf_append l m]; split <;> rfl
theorem setsOf_take {L : List NS} {j : Nat} {x : NS} (h : L[j]? = some x) : setsOf (L.take (j + 1)) = if 0 ≤ x.to then setsOf (L.take j) ++ [x.set] else setsOf (L.take j) := by
  rw [List.take_add_one, h, setsOf_append]
  show _ ++ setsOf [x] = _
  simp only [setsOf]
  split <;> simp
theorem setsOf_len : ∀ L : List NS, (setsOf L).length ≤ L.length
  | [] => Nat.le_refl _
  | x :: l => by simp only [setsOf]; have := setsOf_len l; split <;> simp only [List.length_cons] <;> omega
theorem infoSet3 : (Try.prog.info? 35).map (fun i => (i.zero, i.size, i.bytes)) = some (some (.agg #[.int .u64 0, .int .u64 0, .int .u64 0, .int .u64 0]), 4, 32) := by kernel_rfl
theorem st_to {w : World} {b off : Nat} {x : NS} {A : Option Addr} {cap : Nat} (h : w.rangeAt b off (stA x A cap).toList) : w.cell? ⟨b, off + 4, none⟩ = some (.int .i64 x.to) := h 4 _ rfl
theorem st_acc {w : World} {b off : Nat} {x : NS} {A : Option Addr} {cap : Nat} (h : w.rangeAt b off (stA x A cap).toList) : w.cell? ⟨b, off + 5, none⟩ = some (.int .i64 x.acc) := h 5 _ rfl
theorem st_eps {w : World} {b off : Nat} {x : NS} {A : Option Addr} {cap : Nat} (h : w.rangeAt b off (stA x A cap).toList) : w.cell? ⟨b, off + 6, none⟩ = some (.slice A x.eps.length cap) := h 6 _ rfl
section
variable (w : World) (S : Nat → Prop) (a : Nat) (L : List NS) (rules : Nat) (A : Option Addr) (cap : Nat)
set_option maxRecDepth 100000 in
set_option maxHeartbeats 1600000 in
theorem sets_nil : Calls Try.prog 19 #[.pointer none] w fun r w' => r = .returned (.slice none 0 0) ∧ w' = w := by
  have hlen := lenNil_c w
  go_enter Try.func19, Try.ntmps19
  go_wp2_with (go_at_call 18; refine hlen.mono ?_; rintro e w1 ⟨rfl, hw1⟩; replace hw1 := hw1.symm; subst hw1)
  go_loopg [2, 6] 0 (fun g t i wr => t = .slice none 0 0 ∧ i = .int .i64 0 ∧ wr = w)
  case atStart => exact ⟨rfl, rfl, rfl⟩
  case round =>
    obtain ⟨rfl, rfl, rfl⟩ := hrel
    have hd : decide ((0 : Int) < 0) = false := by decide
    go_wp2_with fail
    go_ret
    exact ⟨rfl, rfl⟩
set_option maxRecDepth 100000 in
set_option maxHeartbeats 4000000 in
theorem sets_c (h : AutoA w S a L rules A cap) (hL : L.length < 4294967296) :
    Calls Try.prog 19 #[.pointer (some ⟨a, 0, none⟩)] w fun r w' => (∃ A' cap', r = .returned (.slice A' (setsOf L).length cap') ∧ Rep w' (fun k => w.heap.size ≤ k) (.slice A' (setsOf L).length cap') (.sl 35 (setsOf L).length (encSets (setsOf L)))) ∧ Fr No w w' := by
  have hlen := len_c w S a L rules A cap h
  go_enter Try.func19, Try.ntmps19
  go_wp2_with (go_at_call 18; refine hlen.mono ?_; rintro e w1 ⟨rfl, hw1⟩; replace hw1 := hw1.symm; subst hw1)
  go_loopg [2, 6] L.length (fun g t i wr => ∃ (tv : Value) (j : Nat), tv = t ∧ j + g = L.length ∧ i = .int .i64 j ∧ Own wr w.heap.size (fun k => w.heap.size ≤ k) 35 4 tv (setsOf (L.take j)).length (encSets (setsOf (L.take j))) ∧ Fr No w wr)
  case atStart => exact ⟨_, 0, rfl, by omega, rfl, Own.nil _ _ _ _ _, Fr.refl _ _⟩
  case round =>
    obtain ⟨tv, j, rfl, hj, rfl, hO, hF⟩ := hrel
    cases gk with
    | zero =>
      have hd1 : decide (j < L.length) = false := decide_eq_false (by omega)
      obtain rfl : j = L.length := by omega
      rw [List.take_length] at hO
      obtain ⟨A', cap', rfl, _, _⟩ := hO.form
      go_wp2_with fail
      go_ret
      exact ⟨⟨A', cap', rfl, hO.rep fun _ hk => hk⟩, hF⟩
    | succ g =>
      obtain ⟨x, hxj⟩ : ∃ x, L[j]? = some x := ⟨_, List.getElem?_eq_getElem (by omega)⟩
      have hd1 : decide (j < L.length) = true := decide_eq_true (by omega)
      have hjL : (j : Int) < (L.length : Int) := by omega
      have hA := h.no hF
      have hblk : wr.cell? ⟨a, 0, none⟩ = some (.slice A L.length cap) := hA.blk.cell 0
      obtain ⟨b, off, A', cap', rfl, hSb, hltb, hrng, hrep'⟩ := states_at hA.rep hxj
      rw [Nat.mul_comm 7 j] at hrng
      have hto := st_to hrng
      have hset := st_set hrng
      have Htk := hid (setsOf_take hxj)
      have hws : w.heap.size ≤ wr.heap.size := hF.size
      have hsl := setsOf_len (L.take j)
      rw [List.length_take] at hsl
      have hj8 : j < 4294967296 := by omega
      have Hj := hid hj
      generalize hpa : off + j * 7 = pa at *
      clear hxj hj hlen hrng hA
      by_cases hx : 0 ≤ x.to
      · rw [if_pos hx] at Htk
        have hd2 : decide (0 ≤ x.to) = true := decide_eq_true hx
        have hO4 := hO.alloc (.cells (setA x.set) 35)
        have hN := (Blk.new wr 35 (setA x.set)).news
        unfold setA at hO4 hN
        generalize hls : (setsOf (L.take j)).length = ls at *
        have Hls := hid hls
        clear hls
        go_wp2_with (first | ((with_reducible refine at_load _ ?_); refine wpList_load_rng (ty := 35) (cs := setA x.set) rfl rfl rfl hset Try.underlying35 rfl infoSet ?_; unfold setA) |
          (at_builtin; go_loud ((with_reducible refine at_call ?_); refine wpList_append_D (es := encSet x.set) (m := 1) rfl (.tmp 18) (.tmp 27) 46 rfl _ 32 Try.underlying46 infoSet3 rfl (by decide) rfl hO4 rfl (news := [.int .u64 (wd x.set 0), .int .u64 (wd x.set 1), .int .u64 (wd x.set 2), .int .u64 (wd x.set 3)]) rfl hN (setA_reps x.set) (by omega) (by omega) (by rw [World.size_alloc]; omega) ?_); intro tv6 w6 hO6 hg6 hat6))
        go_roundg g
        case measure => omega
        case rel =>
          refine ⟨tv6, j + 1, rfl, by have := Hj.out; omega, (by first | rfl | exact wrap_succ (by omega)), ?_, ?_⟩
          · rw [Htk.out, encSets_append, List.length_append, Hls.out]
            simp only [encSets, List.append_nil]
            exact hO6
          · exact (hF.alloc _).call (Fr.ofGrown hg6) fun k hk e => by have := (hO.blk_lt k e.symm).1; omega
      · rw [if_neg hx] at Htk
        have hd2 : decide (0 ≤ x.to) = false := decide_eq_false hx
        go_wp2_with fail
        go_roundg g
        case measure => omega
        case rel => exact ⟨tv, j + 1, rfl, by have := Hj.out; omega, (by first | rfl | exact wrap_succ (by omega)), by rw [Htk.out]; exact hO, hF⟩
end
end
end Go.Proofs.Ytldmdlkjpdfonaa
