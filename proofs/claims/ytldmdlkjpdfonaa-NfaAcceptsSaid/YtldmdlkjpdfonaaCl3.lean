/- The walks of sieveref14.Move and Accept. Condition: each state leads to states that there are; fewer than 2^32 states. -/
import Derived.Test.YtldmdlkjpdfonaaCl2
import Derived.Test.YtldmdlkjpdfonaaBit
namespace Go.Proofs.Ytldmdlkjpdfonaa
set_option linter.unusedVariables false
set_option linter.unusedSimpArgs false
open Go Go.RowKit

/-- Moved so far. -/
def MoveI (L : List NS) (c : Nat) (f0 : Nat → Bool) (i : Nat) (f : Nat → Bool) : Prop := ∀ t, t < L.length → (f t = true ↔ ∃ p x, p < i ∧ L[p]? = some x ∧ f0 p = true ∧ x.to = (t : Int) ∧ x.set.testBit c = true)
theorem MoveI.skip {L : List NS} {c : Nat} {f0 f : Nat → Bool} {i : Nat} {x : NS} (h : MoveI L c f0 i f) (hx : L[i]? = some x) (hn : f0 i = false ∨ x.to < 0 ∨ x.set.testBit c = false) : MoveI L c f0 (i + 1) f := by
  intro t ht
  rw [h t ht]
  constructor
  · rintro ⟨p, y, hp, h1⟩; exact ⟨p, y, by omega, h1⟩
  · rintro ⟨p, y, hp, h1, h2, h3, h4⟩
    rcases Nat.lt_or_ge p i with h5 | h5
    · exact ⟨p, y, h5, h1, h2, h3, h4⟩
    · obtain rfl : p = i := by omega
      rw [hx] at h1; injection h1 with h1; subst h1
      rcases hn with hn | hn | hn
      · rw [hn] at h2; cases h2
      · omega
      · rw [hn] at h4; cases h4
theorem MoveI.go {L : List NS} {c : Nat} {f0 f : Nat → Bool} {i t0 : Nat} {x : NS} (h : MoveI L c f0 i f) (hx : L[i]? = some x) (h1 : f0 i = true) (h2 : x.to = (t0 : Int)) (h3 : x.set.testBit c = true) : MoveI L c f0 (i + 1) (setF f t0) := by
  intro t ht
  unfold setF
  by_cases he : t = t0
  · subst he
    rw [if_pos rfl]
    exact ⟨fun _ => ⟨i, x, by omega, hx, h1, h2, h3⟩, fun _ => rfl⟩
  · rw [if_neg he, h t ht]
    constructor
    · rintro ⟨p, y, hp, g⟩; exact ⟨p, y, by omega, g⟩
    · rintro ⟨p, y, hp, g1, g2, g3, g4⟩
      rcases Nat.lt_or_ge p i with h5 | h5
      · exact ⟨p, y, h5, g1, g2, g3, g4⟩
      · obtain rfl : p = i := by omega
        rw [hx] at g1; injection g1 with g1; subst g1
        omega
set_option maxRecDepth 100000 in
set_option maxHeartbeats 16000000 in
theorem move_c (L : List NS) (e : TypeId) (A : Option Addr) (cap : Nat) (S : Nat → Prop) (A2 : Option Addr) (cap2 : Nat) (f0 : Nat → Bool) (c : Nat) (hc : c < 256) (w : World) (hL : Rep w S (.slice A L.length cap) (.sl e L.length (encSs L))) (hS : ∀ k, S k → k < w.heap.size)
    (hin : BoolsIn w S (.slice A2 L.length cap2) L.length f0) (hpos : 0 < L.length) (hb : L.length < 4294967296) (hr : ∀ x ∈ L, -1 ≤ x.to ∧ x.to < L.length) :
    Calls Try.prog 21 #[.slice A L.length cap, .slice A2 L.length cap2, .int .i64 c] w fun r w' => (∃ A' cap' f, r = .returned (.slice A' L.length cap') ∧ BoolsIn w' (fun k => w.heap.size ≤ k) (.slice A' L.length cap') L.length f ∧ MoveOf L c f0 f) ∧ Fr No w w' := by
  obtain ⟨b2, off2, rfl, hS2, hr2⟩ := bools_cells hin hpos
  have hcap : L.length ≤ cap ∧ cap ≤ maxLen := by
    obtain ⟨A2, c2, heq, h1, h2⟩ := hL.sl_inv
    injection heq with e1 e2 e3
    omega
  obtain ⟨ti, ti1, ti2, ti3, ti4⟩ := info_parts infoBool3
  obtain ⟨q, hqn⟩ : ∃ q, c / 64 = q := ⟨_, rfl⟩
  have Hbit := hid (fun s => has_bit s c q hqn)
  have hq : (c : Int) / 64 = (q : Int) := by omega
  have hqq : q = 0 ∨ q = 1 ∨ q = 2 ∨ q = 3 := by omega
  have hr0 : (0 : Int) ≤ (c : Int) % 64 := by omega
  have hr1 : (c : Int) % 64 < 64 := by omega
  have Hr := hid hr
  clear hqn hcap hr
  rcases hqq with rfl | rfl | rfl | rfl
  · simp only [Int.natCast_zero, Int.cast_ofNat_Int] at hq
    go_enter Try.func21, Try.ntmps21
    go_wp2_with (at_make; go_loud (refine wpList_make_full w rfl (.tmp 10) (.tmp 10) 48 rfl w.heap.size 4 ti _ 1 Try.underlying48 ti1 ti2 ti3 .i64 .i64 (L.length : Int) (L.length : Int) L.length rfl rfl rfl rfl (by rw [ti4]; omega) (by simp only [maxLen]; omega) (Nat.le_refl _) ?_); intro w3 ho3 hg3)
    have hz : (Value.bool false).cells = #[.bool false] := rfl
    rw [hz, Nat.mul_one, toList_madeCells_one, rowV_rep] at ho3
    have hF3 : Fr No w w3 := (Fr.ofGrown hg3).mono fun _ _ h => by cases h
    have hK : ClS L e A cap w.heap.size w.heap.size L.length S w w3 (fun _ => false) := ⟨ho3, hL.frNo hF3, hF3⟩
    clear ho3 hz hg3 hF3 hL hin ti1 ti2 ti3 ti4
    go_loopg [8] L.length (fun g i wr => ∃ (j : Nat) (f : Nat → Bool), j + g = L.length ∧ i = .int .i64 j ∧ ClS L e A cap w.heap.size w.heap.size L.length S w wr f ∧ MoveI L c f0 j f)
    case atStart => exact ⟨0, _, by omega, rfl, hK, fun t _ => ⟨fun h => (by cases h), fun ⟨p, _, h, _⟩ => (by omega)⟩⟩
    case round =>
      obtain ⟨j, f, hj, rfl, hC, hM⟩ := hrel
      clear hK
      cases gk with
      | zero =>
        have hd1 : decide (j < L.length) = false := decide_eq_false (by omega)
        obtain rfl : j = L.length := by omega
        go_wp2_with fail
        go_ret
        refine ⟨?_, hC.fr⟩
        refine ⟨some ⟨w.heap.size, 0, none⟩, L.length, f, rfl, hC.row.bools fun _ h => h, fun t ht => ?_⟩
        rw [hM t ht]
        constructor
        · rintro ⟨p, x, _, h⟩; exact ⟨p, x, h⟩
        · rintro ⟨p, x, h1, h⟩; exact ⟨p, x, (List.getElem?_eq_some_iff.1 h1).1, h1, h⟩
      | succ g =>
        obtain ⟨x, hxj⟩ : ∃ x, L[j]? = some x := ⟨_, List.getElem?_eq_getElem (by omega)⟩
        have hjl : j < L.length := by omega
        have hd1 : decide (j < L.length) = true := decide_eq_true hjl
        have hjL : (j : Int) < (L.length : Int) := by omega
        obtain ⟨b, off, A', cap', rfl, hSb, hltb, hrng, hrep'⟩ := states_at hC.rep hxj
        rw [Nat.mul_comm 7 j] at hrng
        have hto := st_to hrng
        generalize hpa : off + j * 7 = pa at *
        have hw0 : wr.cell? ⟨b, pa, none⟩ = some (.int .u64 (wd x.set 0)) := hrng 0 _ rfl
        have hw1 : wr.cell? ⟨b, pa + 1, none⟩ = some (.int .u64 (wd x.set 1)) := hrng 1 _ rfl
        have hw2 : wr.cell? ⟨b, pa + 2, none⟩ = some (.int .u64 (wd x.set 2)) := hrng 2 _ rfl
        have hw3 : wr.cell? ⟨b, pa + 3, none⟩ = some (.int .u64 (wd x.set 3)) := hrng 3 _ rfl
        have hci : wr.cell? ⟨b2, off2 + j, none⟩ = some (.bool (f0 j)) := (range_fr hr2 hC.fr id) j _ (rowV_get _ hjl)
        obtain ⟨ht1, ht2⟩ := Hr.out x (List.mem_of_getElem? hxj)
        have hbx := Hbit.out x.set
        have Hj := hid hj
        have Hxj := hid hxj
        clear hj hxj hrng hrep'
        by_cases hfj : f0 j = false
        · rw [hfj] at hci
          clear hbx
          go_wp2_with fail
          go_roundg g
          case measure => omega
          case rel => exact ⟨j + 1, f, by have := Hj.out; omega, (by first | rfl | exact wrap_succ (by omega)), hC, hM.skip Hxj.out (.inl hfj)⟩
        · have hfj' : f0 j = true := by simpa using hfj
          rw [hfj'] at hci
          by_cases hneg : x.to < 0
          · have hd2 : decide (0 ≤ x.to) = false := decide_eq_false (by omega)
            clear hbx
            go_wp2_with fail
            go_roundg g
            case measure => omega
            case rel => exact ⟨j + 1, f, by have := Hj.out; omega, (by first | rfl | exact wrap_succ (by omega)), hC, hM.skip Hxj.out (.inr (.inl hneg))⟩
          · have hd2 : decide (0 ≤ x.to) = true := decide_eq_true (by omega)
            cases hbit : x.set.testBit c with
            | false =>
              rw [hbit] at hbx
              go_wp2_with fail
              go_roundg g
              case measure => omega
              case rel => exact ⟨j + 1, f, by have := Hj.out; omega, (by first | rfl | exact wrap_succ (by omega)), hC, hM.skip Hxj.out (.inr (.inr hbit))⟩
            | true =>
              rw [hbit] at hbx
              obtain ⟨t0, ht0⟩ : ∃ t0 : Nat, x.to = (t0 : Int) := ⟨x.to.toNat, by omega⟩
              have Ht0 := hid ht0
              rw [ht0] at hto hd2 ht2
              have hct := hC.row.cell (i := t0) (by omega)
              have hzt := World.ownsRow.frozenAt hC.row t0
              have hd3 : decide (t0 < L.length) = true := decide_eq_true (by omega)
              clear ht0 ht1 hneg
              go_wp2_with fail
              go_roundg g
              case measure => omega
              case rel =>
                have hfs : Fr (At w.heap.size) wr _ := (Fr.refl (At w.heap.size) wr).setB t0 (.bool true)
                exact ⟨j + 1, setF f t0, by have := Hj.out; omega, (by first | rfl | exact wrap_succ (by omega)), ⟨hC.row.set t0, hC.rep.fr hfs fun k hk _ => ⟨fun e => by have e : k = w.heap.size := e; have := hS k hk; omega, hk⟩, hC.fr.callAt hfs (Nat.le_refl _)⟩, hM.go Hxj.out hfj' Ht0.out hbit⟩
  · simp only [Int.natCast_zero, Int.cast_ofNat_Int] at hq
    go_enter Try.func21, Try.ntmps21
    go_wp2_with (at_make; go_loud (refine wpList_make_full w rfl (.tmp 10) (.tmp 10) 48 rfl w.heap.size 4 ti _ 1 Try.underlying48 ti1 ti2 ti3 .i64 .i64 (L.length : Int) (L.length : Int) L.length rfl rfl rfl rfl (by rw [ti4]; omega) (by simp only [maxLen]; omega) (Nat.le_refl _) ?_); intro w3 ho3 hg3)
    have hz : (Value.bool false).cells = #[.bool false] := rfl
    rw [hz, Nat.mul_one, toList_madeCells_one, rowV_rep] at ho3
    have hF3 : Fr No w w3 := (Fr.ofGrown hg3).mono fun _ _ h => by cases h
    have hK : ClS L e A cap w.heap.size w.heap.size L.length S w w3 (fun _ => false) := ⟨ho3, hL.frNo hF3, hF3⟩
    clear ho3 hz hg3 hF3 hL hin ti1 ti2 ti3 ti4
    go_loopg [8] L.length (fun g i wr => ∃ (j : Nat) (f : Nat → Bool), j + g = L.length ∧ i = .int .i64 j ∧ ClS L e A cap w.heap.size w.heap.size L.length S w wr f ∧ MoveI L c f0 j f)
    case atStart => exact ⟨0, _, by omega, rfl, hK, fun t _ => ⟨fun h => (by cases h), fun ⟨p, _, h, _⟩ => (by omega)⟩⟩
    case round =>
      obtain ⟨j, f, hj, rfl, hC, hM⟩ := hrel
      clear hK
      cases gk with
      | zero =>
        have hd1 : decide (j < L.length) = false := decide_eq_false (by omega)
        obtain rfl : j = L.length := by omega
        go_wp2_with fail
        go_ret
        refine ⟨?_, hC.fr⟩
        refine ⟨some ⟨w.heap.size, 0, none⟩, L.length, f, rfl, hC.row.bools fun _ h => h, fun t ht => ?_⟩
        rw [hM t ht]
        constructor
        · rintro ⟨p, x, _, h⟩; exact ⟨p, x, h⟩
        · rintro ⟨p, x, h1, h⟩; exact ⟨p, x, (List.getElem?_eq_some_iff.1 h1).1, h1, h⟩
      | succ g =>
        obtain ⟨x, hxj⟩ : ∃ x, L[j]? = some x := ⟨_, List.getElem?_eq_getElem (by omega)⟩
        have hjl : j < L.length := by omega
        have hd1 : decide (j < L.length) = true := decide_eq_true hjl
        have hjL : (j : Int) < (L.length : Int) := by omega
        obtain ⟨b, off, A', cap', rfl, hSb, hltb, hrng, hrep'⟩ := states_at hC.rep hxj
        rw [Nat.mul_comm 7 j] at hrng
        have hto := st_to hrng
        generalize hpa : off + j * 7 = pa at *
        have hw0 : wr.cell? ⟨b, pa, none⟩ = some (.int .u64 (wd x.set 0)) := hrng 0 _ rfl
        have hw1 : wr.cell? ⟨b, pa + 1, none⟩ = some (.int .u64 (wd x.set 1)) := hrng 1 _ rfl
        have hw2 : wr.cell? ⟨b, pa + 2, none⟩ = some (.int .u64 (wd x.set 2)) := hrng 2 _ rfl
        have hw3 : wr.cell? ⟨b, pa + 3, none⟩ = some (.int .u64 (wd x.set 3)) := hrng 3 _ rfl
        have hci : wr.cell? ⟨b2, off2 + j, none⟩ = some (.bool (f0 j)) := (range_fr hr2 hC.fr id) j _ (rowV_get _ hjl)
        obtain ⟨ht1, ht2⟩ := Hr.out x (List.mem_of_getElem? hxj)
        have hbx := Hbit.out x.set
        have Hj := hid hj
        have Hxj := hid hxj
        clear hj hxj hrng hrep'
        by_cases hfj : f0 j = false
        · rw [hfj] at hci
          clear hbx
          go_wp2_with fail
          go_roundg g
          case measure => omega
          case rel => exact ⟨j + 1, f, by have := Hj.out; omega, (by first | rfl | exact wrap_succ (by omega)), hC, hM.skip Hxj.out (.inl hfj)⟩
        · have hfj' : f0 j = true := by simpa using hfj
          rw [hfj'] at hci
          by_cases hneg : x.to < 0
          · have hd2 : decide (0 ≤ x.to) = false := decide_eq_false (by omega)
            clear hbx
            go_wp2_with fail
            go_roundg g
            case measure => omega
            case rel => exact ⟨j + 1, f, by have := Hj.out; omega, (by first | rfl | exact wrap_succ (by omega)), hC, hM.skip Hxj.out (.inr (.inl hneg))⟩
          · have hd2 : decide (0 ≤ x.to) = true := decide_eq_true (by omega)
            cases hbit : x.set.testBit c with
            | false =>
              rw [hbit] at hbx
              go_wp2_with fail
              go_roundg g
              case measure => omega
              case rel => exact ⟨j + 1, f, by have := Hj.out; omega, (by first | rfl | exact wrap_succ (by omega)), hC, hM.skip Hxj.out (.inr (.inr hbit))⟩
            | true =>
              rw [hbit] at hbx
              obtain ⟨t0, ht0⟩ : ∃ t0 : Nat, x.to = (t0 : Int) := ⟨x.to.toNat, by omega⟩
              have Ht0 := hid ht0
              rw [ht0] at hto hd2 ht2
              have hct := hC.row.cell (i := t0) (by omega)
              have hzt := World.ownsRow.frozenAt hC.row t0
              have hd3 : decide (t0 < L.length) = true := decide_eq_true (by omega)
              clear ht0 ht1 hneg
              go_wp2_with fail
              go_roundg g
              case measure => omega
              case rel =>
                have hfs : Fr (At w.heap.size) wr _ := (Fr.refl (At w.heap.size) wr).setB t0 (.bool true)
                exact ⟨j + 1, setF f t0, by have := Hj.out; omega, (by first | rfl | exact wrap_succ (by omega)), ⟨hC.row.set t0, hC.rep.fr hfs fun k hk _ => ⟨fun e => by have e : k = w.heap.size := e; have := hS k hk; omega, hk⟩, hC.fr.callAt hfs (Nat.le_refl _)⟩, hM.go Hxj.out hfj' Ht0.out hbit⟩
  · simp only [Int.natCast_zero, Int.cast_ofNat_Int] at hq
    go_enter Try.func21, Try.ntmps21
    go_wp2_with (at_make; go_loud (refine wpList_make_full w rfl (.tmp 10) (.tmp 10) 48 rfl w.heap.size 4 ti _ 1 Try.underlying48 ti1 ti2 ti3 .i64 .i64 (L.length : Int) (L.length : Int) L.length rfl rfl rfl rfl (by rw [ti4]; omega) (by simp only [maxLen]; omega) (Nat.le_refl _) ?_); intro w3 ho3 hg3)
    have hz : (Value.bool false).cells = #[.bool false] := rfl
    rw [hz, Nat.mul_one, toList_madeCells_one, rowV_rep] at ho3
    have hF3 : Fr No w w3 := (Fr.ofGrown hg3).mono fun _ _ h => by cases h
    have hK : ClS L e A cap w.heap.size w.heap.size L.length S w w3 (fun _ => false) := ⟨ho3, hL.frNo hF3, hF3⟩
    clear ho3 hz hg3 hF3 hL hin ti1 ti2 ti3 ti4
    go_loopg [8] L.length (fun g i wr => ∃ (j : Nat) (f : Nat → Bool), j + g = L.length ∧ i = .int .i64 j ∧ ClS L e A cap w.heap.size w.heap.size L.length S w wr f ∧ MoveI L c f0 j f)
    case atStart => exact ⟨0, _, by omega, rfl, hK, fun t _ => ⟨fun h => (by cases h), fun ⟨p, _, h, _⟩ => (by omega)⟩⟩
    case round =>
      obtain ⟨j, f, hj, rfl, hC, hM⟩ := hrel
      clear hK
      cases gk with
      | zero =>
        have hd1 : decide (j < L.length) = false := decide_eq_false (by omega)
        obtain rfl : j = L.length := by omega
        go_wp2_with fail
        go_ret
        refine ⟨?_, hC.fr⟩
        refine ⟨some ⟨w.heap.size, 0, none⟩, L.length, f, rfl, hC.row.bools fun _ h => h, fun t ht => ?_⟩
        rw [hM t ht]
        constructor
        · rintro ⟨p, x, _, h⟩; exact ⟨p, x, h⟩
        · rintro ⟨p, x, h1, h⟩; exact ⟨p, x, (List.getElem?_eq_some_iff.1 h1).1, h1, h⟩
      | succ g =>
        obtain ⟨x, hxj⟩ : ∃ x, L[j]? = some x := ⟨_, List.getElem?_eq_getElem (by omega)⟩
        have hjl : j < L.length := by omega
        have hd1 : decide (j < L.length) = true := decide_eq_true hjl
        have hjL : (j : Int) < (L.length : Int) := by omega
        obtain ⟨b, off, A', cap', rfl, hSb, hltb, hrng, hrep'⟩ := states_at hC.rep hxj
        rw [Nat.mul_comm 7 j] at hrng
        have hto := st_to hrng
        generalize hpa : off + j * 7 = pa at *
        have hw0 : wr.cell? ⟨b, pa, none⟩ = some (.int .u64 (wd x.set 0)) := hrng 0 _ rfl
        have hw1 : wr.cell? ⟨b, pa + 1, none⟩ = some (.int .u64 (wd x.set 1)) := hrng 1 _ rfl
        have hw2 : wr.cell? ⟨b, pa + 2, none⟩ = some (.int .u64 (wd x.set 2)) := hrng 2 _ rfl
        have hw3 : wr.cell? ⟨b, pa + 3, none⟩ = some (.int .u64 (wd x.set 3)) := hrng 3 _ rfl
        have hci : wr.cell? ⟨b2, off2 + j, none⟩ = some (.bool (f0 j)) := (range_fr hr2 hC.fr id) j _ (rowV_get _ hjl)
        obtain ⟨ht1, ht2⟩ := Hr.out x (List.mem_of_getElem? hxj)
        have hbx := Hbit.out x.set
        have Hj := hid hj
        have Hxj := hid hxj
        clear hj hxj hrng hrep'
        by_cases hfj : f0 j = false
        · rw [hfj] at hci
          clear hbx
          go_wp2_with fail
          go_roundg g
          case measure => omega
          case rel => exact ⟨j + 1, f, by have := Hj.out; omega, (by first | rfl | exact wrap_succ (by omega)), hC, hM.skip Hxj.out (.inl hfj)⟩
        · have hfj' : f0 j = true := by simpa using hfj
          rw [hfj'] at hci
          by_cases hneg : x.to < 0
          · have hd2 : decide (0 ≤ x.to) = false := decide_eq_false (by omega)
            clear hbx
            go_wp2_with fail
            go_roundg g
            case measure => omega
            case rel => exact ⟨j + 1, f, by have := Hj.out; omega, (by first | rfl | exact wrap_succ (by omega)), hC, hM.skip Hxj.out (.inr (.inl hneg))⟩
          · have hd2 : decide (0 ≤ x.to) = true := decide_eq_true (by omega)
            cases hbit : x.set.testBit c with
            | false =>
              rw [hbit] at hbx
              go_wp2_with fail
              go_roundg g
              case measure => omega
              case rel => exact ⟨j + 1, f, by have := Hj.out; omega, (by first | rfl | exact wrap_succ (by omega)), hC, hM.skip Hxj.out (.inr (.inr hbit))⟩
            | true =>
              rw [hbit] at hbx
              obtain ⟨t0, ht0⟩ : ∃ t0 : Nat, x.to = (t0 : Int) := ⟨x.to.toNat, by omega⟩
              have Ht0 := hid ht0
              rw [ht0] at hto hd2 ht2
              have hct := hC.row.cell (i := t0) (by omega)
              have hzt := World.ownsRow.frozenAt hC.row t0
              have hd3 : decide (t0 < L.length) = true := decide_eq_true (by omega)
              clear ht0 ht1 hneg
              go_wp2_with fail
              go_roundg g
              case measure => omega
              case rel =>
                have hfs : Fr (At w.heap.size) wr _ := (Fr.refl (At w.heap.size) wr).setB t0 (.bool true)
                exact ⟨j + 1, setF f t0, by have := Hj.out; omega, (by first | rfl | exact wrap_succ (by omega)), ⟨hC.row.set t0, hC.rep.fr hfs fun k hk _ => ⟨fun e => by have e : k = w.heap.size := e; have := hS k hk; omega, hk⟩, hC.fr.callAt hfs (Nat.le_refl _)⟩, hM.go Hxj.out hfj' Ht0.out hbit⟩
  · simp only [Int.natCast_zero, Int.cast_ofNat_Int] at hq
    go_enter Try.func21, Try.ntmps21
    go_wp2_with (at_make; go_loud (refine wpList_make_full w rfl (.tmp 10) (.tmp 10) 48 rfl w.heap.size 4 ti _ 1 Try.underlying48 ti1 ti2 ti3 .i64 .i64 (L.length : Int) (L.length : Int) L.length rfl rfl rfl rfl (by rw [ti4]; omega) (by simp only [maxLen]; omega) (Nat.le_refl _) ?_); intro w3 ho3 hg3)
    have hz : (Value.bool false).cells = #[.bool false] := rfl
    rw [hz, Nat.mul_one, toList_madeCells_one, rowV_rep] at ho3
    have hF3 : Fr No w w3 := (Fr.ofGrown hg3).mono fun _ _ h => by cases h
    have hK : ClS L e A cap w.heap.size w.heap.size L.length S w w3 (fun _ => false) := ⟨ho3, hL.frNo hF3, hF3⟩
    clear ho3 hz hg3 hF3 hL hin ti1 ti2 ti3 ti4
    go_loopg [8] L.length (fun g i wr => ∃ (j : Nat) (f : Nat → Bool), j + g = L.length ∧ i = .int .i64 j ∧ ClS L e A cap w.heap.size w.heap.size L.length S w wr f ∧ MoveI L c f0 j f)
    case atStart => exact ⟨0, _, by omega, rfl, hK, fun t _ => ⟨fun h => (by cases h), fun ⟨p, _, h, _⟩ => (by omega)⟩⟩
    case round =>
      obtain ⟨j, f, hj, rfl, hC, hM⟩ := hrel
      clear hK
      cases gk with
      | zero =>
        have hd1 : decide (j < L.length) = false := decide_eq_false (by omega)
        obtain rfl : j = L.length := by omega
        go_wp2_with fail
        go_ret
        refine ⟨?_, hC.fr⟩
        refine ⟨some ⟨w.heap.size, 0, none⟩, L.length, f, rfl, hC.row.bools fun _ h => h, fun t ht => ?_⟩
        rw [hM t ht]
        constructor
        · rintro ⟨p, x, _, h⟩; exact ⟨p, x, h⟩
        · rintro ⟨p, x, h1, h⟩; exact ⟨p, x, (List.getElem?_eq_some_iff.1 h1).1, h1, h⟩
      | succ g =>
        obtain ⟨x, hxj⟩ : ∃ x, L[j]? = some x := ⟨_, List.getElem?_eq_getElem (by omega)⟩
        have hjl : j < L.length := by omega
        have hd1 : decide (j < L.length) = true := decide_eq_true hjl
        have hjL : (j : Int) < (L.length : Int) := by omega
        obtain ⟨b, off, A', cap', rfl, hSb, hltb, hrng, hrep'⟩ := states_at hC.rep hxj
        rw [Nat.mul_comm 7 j] at hrng
        have hto := st_to hrng
        generalize hpa : off + j * 7 = pa at *
        have hw0 : wr.cell? ⟨b, pa, none⟩ = some (.int .u64 (wd x.set 0)) := hrng 0 _ rfl
        have hw1 : wr.cell? ⟨b, pa + 1, none⟩ = some (.int .u64 (wd x.set 1)) := hrng 1 _ rfl
        have hw2 : wr.cell? ⟨b, pa + 2, none⟩ = some (.int .u64 (wd x.set 2)) := hrng 2 _ rfl
        have hw3 : wr.cell? ⟨b, pa + 3, none⟩ = some (.int .u64 (wd x.set 3)) := hrng 3 _ rfl
        have hci : wr.cell? ⟨b2, off2 + j, none⟩ = some (.bool (f0 j)) := (range_fr hr2 hC.fr id) j _ (rowV_get _ hjl)
        obtain ⟨ht1, ht2⟩ := Hr.out x (List.mem_of_getElem? hxj)
        have hbx := Hbit.out x.set
        have Hj := hid hj
        have Hxj := hid hxj
        clear hj hxj hrng hrep'
        by_cases hfj : f0 j = false
        · rw [hfj] at hci
          clear hbx
          go_wp2_with fail
          go_roundg g
          case measure => omega
          case rel => exact ⟨j + 1, f, by have := Hj.out; omega, (by first | rfl | exact wrap_succ (by omega)), hC, hM.skip Hxj.out (.inl hfj)⟩
        · have hfj' : f0 j = true := by simpa using hfj
          rw [hfj'] at hci
          by_cases hneg : x.to < 0
          · have hd2 : decide (0 ≤ x.to) = false := decide_eq_false (by omega)
            clear hbx
            go_wp2_with fail
            go_roundg g
            case measure => omega
            case rel => exact ⟨j + 1, f, by have := Hj.out; omega, (by first | rfl | exact wrap_succ (by omega)), hC, hM.skip Hxj.out (.inr (.inl hneg))⟩
          · have hd2 : decide (0 ≤ x.to) = true := decide_eq_true (by omega)
            cases hbit : x.set.testBit c with
            | false =>
              rw [hbit] at hbx
              go_wp2_with fail
              go_roundg g
              case measure => omega
              case rel => exact ⟨j + 1, f, by have := Hj.out; omega, (by first | rfl | exact wrap_succ (by omega)), hC, hM.skip Hxj.out (.inr (.inr hbit))⟩
            | true =>
              rw [hbit] at hbx
              obtain ⟨t0, ht0⟩ : ∃ t0 : Nat, x.to = (t0 : Int) := ⟨x.to.toNat, by omega⟩
              have Ht0 := hid ht0
              rw [ht0] at hto hd2 ht2
              have hct := hC.row.cell (i := t0) (by omega)
              have hzt := World.ownsRow.frozenAt hC.row t0
              have hd3 : decide (t0 < L.length) = true := decide_eq_true (by omega)
              clear ht0 ht1 hneg
              go_wp2_with fail
              go_roundg g
              case measure => omega
              case rel =>
                have hfs : Fr (At w.heap.size) wr _ := (Fr.refl (At w.heap.size) wr).setB t0 (.bool true)
                exact ⟨j + 1, setF f t0, by have := Hj.out; omega, (by first | rfl | exact wrap_succ (by omega)), ⟨hC.row.set t0, hC.rep.fr hfs fun k hk _ => ⟨fun e => by have e : k = w.heap.size := e; have := hS k hk; omega, hk⟩, hC.fr.callAt hfs (Nat.le_refl _)⟩, hM.go Hxj.out hfj' Ht0.out hbit⟩
end Go.Proofs.Ytldmdlkjpdfonaa
