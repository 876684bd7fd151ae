/- The walk of RegexDeep. -/
import Derived.Test.YtcphepjfnnbonaaPf14
import Derived.Test.YtcphepjfnnbonaaRxS3
import Derived.Test.YtcphepjfnnbonaaRxSh3
import Derived.OpenShut
import Derived.Test.YtcphepjfnnbonaaRxW19
namespace Go.Proofs.Ytcphepjfnnbonaa
set_option linter.unusedVariables false
set_option linter.unusedSimpArgs false
open Go Go.RowKit

theorem Fr.storeD {a w1 W : World} {o : Obj} (h : Fr No a w1) (hW : Fr (At w1.heap.size) (w1.alloc o) W) : Fr No a W := (h.alloc o).callAt hW h.size
theorem wp_load_blkD {P : Program} {o : Oper} {a : Act} {w : World} {K : Act → World → Prop} {Q : Exit → Act → World → Prop} {ty : TypeId} {x : Operand} (ho : o.op = .load ty x) {g : Nat} (hx : a.eval x = .pointer (some ⟨g, 0, none⟩)) {t : TypeId} {cs : Array Value} (hb : Blk w g t cs)
    {d : TypeDesc} (hu : P.underlying ty = some d) (hd : d.isRow = true) (hi : (P.info? ty).map (·.size) = some cs.size) (h : K (a.put o.dst (.agg cs)) w) : o.wp P a w K Q :=
  wp_load_mid ty x ho g 0 hx cs.toList d hb.range hu hd (by simpa using hi) (by simpa using h)
theorem wpList_load_blkD {P : Program} {ops : Array Oper} {rest : List Oper} {Q : Exit → Act → World → Prop} {o : Oper} {a : Act} {w : World} (hw : Region.wanted o (yielded ops a.tmps) = true) {ty : TypeId} {x : Operand} (ho : o.op = .load ty x) {g : Nat} (hx : a.eval x = .pointer (some ⟨g, 0, none⟩))
    {t : TypeId} {cs : Array Value} (hb : Blk w g t cs) {d : TypeDesc} (hu : P.underlying ty = some d) (hd : d.isRow = true) (hi : (P.info? ty).map (·.size) = some cs.size) (h : wpList P ops Q rest (a.put o.dst (.agg cs)) w) : wpList P ops Q (o :: rest) a w :=
  BigFrame.wpList_want hw fun _ hK => wp_load_blkD ho hx hb hu hd hi (hK _ _ h)
theorem at_gloadD {P : Program} {ops : Array Oper} {rest : List Oper} {Q : Exit → Act → World → Prop} {a : Act} {w : World} {d : Option Tmp} {t : TypeId} {p : String} {af : Array Edge} {gd : Nat × Bool} {x : Operand} (ty : TypeId)
    (h : wpList P ops Q (⟨d, .load ty x, t, p, af, some gd⟩ :: rest) a w) : wpList P ops Q (⟨d, .load ty x, t, p, af, some gd⟩ :: rest) a w := h
theorem deep_n (z : Int) : ∃ N : Nat, N < 16 ∧ wrap64 ((IntKind.u64.wrap z).tmod 16) = (N : Int) := by
  have h := bounds_u64 (wf_wrap .u64 z)
  generalize IntKind.u64.wrap z = x at *
  rw [Int.tmod_eq_emod_of_nonneg h.1]
  refine ⟨(x % 16).toNat, by omega, ?_⟩
  unfold wrap64
  omega
set_option maxHeartbeats 1600000 in
theorem deep_big (Haw : Hid (∀ w : World, Calls Try.prog 7 #[] w fun e w' => e = .returned (.bool true) ∧ Fr No w w')) (z : Int) (s : ByteArray) (w : World) (hs : 300 < s.size) :
    Calls Try.prog 5 #[.int .i64 z, .string s] w fun e w' => e = .returned (.bool true) ∧ Fr No w w' := by
  have hd : decide (300 < s.size) = true := decide_eq_true hs
  go_enter Try.func5, Try.ntmps5
  go_wp2_with fail
  refine (Haw.out _).mono ?_
  rintro e w1 ⟨rfl, hf1⟩
  go_wp2_with fail
  refine (Haw.out _).mono ?_
  rintro e w2 ⟨rfl, hf2⟩
  go_wp2_with fail
  go_ret
  exact ⟨rfl, hf1.no hf2⟩
set_option maxRecDepth 100000 in
set_option maxHeartbeats 4000000 in
theorem deep_wrong (Haw : Hid (∀ w : World, Calls Try.prog 7 #[] w fun e w' => e = .returned (.bool true) ∧ Fr No w w')) (z : Int) (s : ByteArray) (w : World) (Hs : Hid (s.size ≤ 300)) (k : Nat) (hps : Rx.parse s = .bad k) :
    Calls Try.prog 5 #[.int .i64 z, .string s] w fun e w' => e = .returned (.bool true) ∧ Fr No w w' := by
  have hk0 : decide (0 ≤ (k : Int)) = true := decide_eq_true (by omega)
  obtain ⟨N, hN16, hN⟩ := deep_n z
  have hd : decide (300 < s.size) = false := decide_eq_false (by have := Hs.out; omega)
  have hdI : decide (300 < (s.size : Int)) = false := decide_eq_false (by have := Hs.out; omega)
  have PS := fun W : World => refParse_c s W (by have := Hs.out; omega)
  rw [hps] at PS
  have PS := hid PS
  have HN := hid hN
  clear hps hN
  go_enter Try.func5, Try.ntmps5
  go_wp2_with fail
  rw [HN.out]
  refine (Haw.out _).mono ?_
  rintro e w1 ⟨rfl, hf1⟩
  go_wp2_with fail
  refine (PS.out _).mono ?_
  rintro e w2 ⟨rfl, hf2⟩
  go_wp2_with ((with_reducible refine at_store 28 ?_); refine wpList_store_blk (w := w2.alloc _) (cs := #[.int .i64 0, .int .u64 0, .int .u64 0, .int .u64 0, .int .u64 0, .int .i64 0, .int .i64 0, .slice none 0 0]) rfl rfl rfl rfl (Blk.new _ _ _) rfl infoNode zn_one ?_; intro W2 hW2 hfW2 _; have hG2 := (Fr.refl No w2).storeD hfW2)
  go_ret
  exact ⟨rfl, (hf1.no hf2).no hG2⟩
set_option maxRecDepth 100000 in
set_option maxHeartbeats 4000000 in
theorem deep_first (Haw : Hid (∀ w : World, Calls Try.prog 7 #[] w fun e w' => e = .returned (.bool true) ∧ Fr No w w')) (z : Int) (s : ByteArray) (w : World) (Hs : Hid (s.size ≤ 300)) (a : Nd) (j : Nat) (hps : Rx.parse s = .ok a j) (hpos : 0 < s.size) (h0 : nx s 0 = 40) :
    Calls Try.prog 5 #[.int .i64 z, .string s] w fun e w' => e = .returned (.bool true) ∧ Fr No w w' := by
  have hb0 := s[0].toNat_lt
  have e0 : ((s[0].toNat : Int) == 40) = true := by rw [nx_lt hpos] at h0; simp; omega
  have d0 : decide (0 < s.size) = true := decide_eq_true hpos
  have d0I : decide (0 < (s.size : Int)) = true := decide_eq_true (by omega)
  have hpos' : (0 : Int) < (s.size : Int) := by omega
  clear h0
  obtain ⟨N, hN16, hN⟩ := deep_n z
  have hd : decide (300 < s.size) = false := decide_eq_false (by have := Hs.out; omega)
  have hdI : decide (300 < (s.size : Int)) = false := decide_eq_false (by have := Hs.out; omega)
  have PS := fun W : World => refParse_c s W (by have := Hs.out; omega)
  rw [hps] at PS
  have PS := hid PS
  have HN := hid hN
  clear hps hN
  go_enter Try.func5, Try.ntmps5
  go_wp2_with fail
  rw [HN.out]
  refine (Haw.out _).mono ?_
  rintro e w1 ⟨rfl, hf1⟩
  go_wp2_with fail
  refine (PS.out _).mono ?_
  rintro e w2 ⟨⟨va, rfl, Aa, capa, rfl, hra⟩, hf2⟩
  go_wp2_with ((with_reducible refine at_store 28 ?_); refine wpList_store_blk (w := w2.alloc _) (cs := nodeA a Aa capa) rfl rfl rfl rfl (Blk.new _ _ _) rfl infoNode (nodeA_one _ _ _) ?_; intro W2 hW2 hfW2 _; have hG2 := (Fr.refl No w2).storeD hfW2)
  go_ret
  exact ⟨rfl, (hf1.no hf2).no hG2⟩
set_option maxRecDepth 100000 in
set_option maxHeartbeats 4000000 in
theorem deep_empty (Haw : Hid (∀ w : World, Calls Try.prog 7 #[] w fun e w' => e = .returned (.bool true) ∧ Fr No w w')) (z : Int) (s : ByteArray) (w : World) (Hs : Hid (s.size ≤ 300)) (a : Nd) (j : Nat) (hps : Rx.parse s = .ok a j) (hpos : s.size = 0) :
    Calls Try.prog 5 #[.int .i64 z, .string s] w fun e w' => e = .returned (.bool true) ∧ Fr No w w' := by
  have HPS := hid hps
  have d0 : decide (0 < s.size) = false := decide_eq_false (by omega)
  have d0I : decide (0 < (s.size : Int)) = false := decide_eq_false (by omega)
  clear hpos
  obtain ⟨N, hN16, hN⟩ := deep_n z
  have hd : decide (300 < s.size) = false := decide_eq_false (by have := Hs.out; omega)
  have hdI : decide (300 < (s.size : Int)) = false := decide_eq_false (by have := Hs.out; omega)
  have PS := fun W : World => refParse_c s W (by have := Hs.out; omega)
  rw [hps] at PS
  have PS := hid PS
  have HN := hid hN
  clear hps hN
  go_enter Try.func5, Try.ntmps5
  go_wp2_with fail
  rw [HN.out]
  refine (Haw.out _).mono ?_
  rintro e w1 ⟨rfl, hf1⟩
  go_wp2_with fail
  refine (PS.out _).mono ?_
  rintro e w2 ⟨⟨va, rfl, Aa, capa, rfl, hra⟩, hf2⟩
  go_wp2_with ((with_reducible refine at_store 28 ?_); refine wpList_store_blk (w := w2.alloc _) (cs := nodeA a Aa capa) rfl rfl rfl rfl (Blk.new _ _ _) rfl infoNode (nodeA_one _ _ _) ?_; intro W2 hW2 hfW2 _; have hG2 := (Fr.refl No w2).storeD hfW2)
  have hF2 := (hf1.no hf2).no hG2
  have ra2 := hra.frNo hG2
  clear hf1 hf2 hG2 hra hfW2
  go_loopg [46] s.size (fun g i wr => ∃ q : Nat, q + g = s.size ∧ i = .int .i64 q ∧ Aside (∀ k, k < q → nx s k ≠ 40) ∧ wr = W2)
  case atStart => exact ⟨0, by omega, rfl, hid (fun k hk => by omega), rfl⟩
  case round =>
    obtain ⟨q, hq, rfl, HA, hwr⟩ := hrel
    replace hwr := hwr.symm
    subst hwr
    cases gk with
    | succ g =>
      have hlt : q < s.size := by omega
      have hd1 : decide (q < s.size) = true := decide_eq_true hlt
      have hd1I : decide ((q : Int) < (s.size : Int)) = true := decide_eq_true (by omega)
      have hb1 := s[q].toNat_lt
      have hq0 : (0 : Int) ≤ (q : Int) := by omega
      have hqs : (q : Int) < (s.size : Int) := by omega
      have hsz := Hs.out
      have Hq := hid hq
      clear hq
      cases hx : ((s[q].toNat : Int) == 40) with
      | true =>
        clear HA
        go_wp2_with fail
        go_ret
        exact ⟨rfl, hF2⟩
      | false =>
        have hn : ∀ k, k < q + 1 → nx s k ≠ 40 := fun k hk => by
          rcases Nat.lt_or_ge k q with h1 | h1
          · exact HA.out k h1
          · obtain rfl : k = q := by omega
            rw [nx_lt hlt]
            simpa using hx
        have Hn := hid hn
        clear HA hn
        go_wp2_with fail
        go_roundg g
        case measure => omega
        case rel =>
          have hj1 : q + 1 + g = s.size := by have := Hq.out; omega
          exact ⟨q + 1, hj1, by simp, hid Hn.out, rfl⟩
    | zero =>
      obtain rfl : q = s.size := by omega
      have hn : ∀ k, nx s k ≠ 40 := fun k => by
        rcases Nat.lt_or_ge k s.size with h1 | h1
        · exact HA.out k h1
        · rw [nx_out h1]; decide
      have hd1 : decide (s.size < s.size) = false := decide_eq_false (by omega)
      have hd1I : decide ((s.size : Int) < (s.size : Int)) = false := decide_eq_false (by omega)
      have Hn := hid hn
      clear HA hn hq
      go_wp2_with fail
      go_loopg [8, 9, 55] N (fun g o h i wr => ∃ m : Nat, m + g = N ∧ o = .string (opens m) ∧ h = .string (shuts m) ∧ i = .int .i64 m ∧ wr = W2)
      case atStart => exact ⟨0, by omega, rfl, rfl, rfl, rfl⟩
      case round =>
        obtain ⟨m, hm, rfl, rfl, rfl, hwr⟩ := hrel
        replace hwr := hwr.symm
        subst hwr
        cases gk with
        | succ g =>
          have hd2 : decide (m < N) = true := decide_eq_true (by omega)
          have hd2I : decide ((m : Int) < (N : Int)) = true := decide_eq_true (by omega)
          have hd3 : (m : Int) < (N : Int) := by omega
          have hmi : (m : Int) < 16 := by omega
          have hzo : opens (m + 1) = opens m ++ ⟨#[40]⟩ := rfl
          have hzs : shuts (m + 1) = shuts m ++ ⟨#[41]⟩ := rfl
          have Hzo := hid hzo
          have Hzs := hid hzs
          have Hm := hid hm
          have ho16 : (opens m).size ≤ 16 := by rw [opens_size]; omega
          have hs16 : (shuts m).size ≤ 16 := by rw [shuts_size]; omega
          clear hzo hzs hm
          generalize opens m = om at *
          generalize shuts m = sm at *
          go_wp2_with fail
          go_roundg g
          case measure => omega
          case rel =>
            have hj1 : m + 1 + g = N := by have := Hm.out; omega
            exact ⟨m + 1, hj1, by rw [Hzo.out], by rw [Hzs.out], by simp, rfl⟩
        | zero =>
          obtain rfl : m = N := by omega
          have hd2 : decide (m < m) = false := decide_eq_false (by omega)
          have hd2I : decide ((m : Int) < (m : Int)) = false := decide_eq_false (by omega)
          have D := Deep.mk_ s m
          have hsz := Hs.out
          have hz : (opens m ++ s ++ shuts m).size ≤ 400 := by rw [D.size]; omega
          have Q1 := fun W : World => parse_c (opens m ++ s ++ shuts m) W (by omega)
          have hsa := a.same_self
          have ho16 : (opens m).size ≤ 16 := by rw [opens_size]; omega
          have hs16 : (shuts m).size ≤ 16 := by rw [shuts_size]; omega
          rcases Nat.lt_or_ge 12 m with h12 | h12
          · rw [deep_bad D h12] at Q1
            have d12 : decide (12 < m) = true := decide_eq_true h12
            have d12' : decide (12 < (m : Int)) = true := decide_eq_true (by omega)
            have Q1 := hid Q1
            clear D hz hm h12
            generalize opens m = om at *
            generalize shuts m = sm at *
            go_wp2_with fail
            refine (Q1.out _).mono ?_
            rintro e w4 ⟨rfl, hf4⟩
            go_wp2_with ((with_reducible refine at_store 28 ?_); refine wpList_store_blk (w := w4.alloc _) (cs := #[.int .i64 0, .int .u64 0, .int .u64 0, .int .u64 0, .int .u64 0, .int .i64 0, .int .i64 0, .slice none 0 0]) rfl rfl rfl rfl (Blk.new _ _ _) rfl infoNode zn_one ?_; intro W4 hW4 hfW4 _; have hG4 := (Fr.refl No w4).storeD hfW4)
            refine (PS.out _).mono ?_
            rintro e w5 ⟨⟨vb, rfl, Ab, capb, rfl, hrb⟩, hf5⟩
            go_wp2_with ((with_reducible refine at_store 28 ?_); refine wpList_store_blk (w := w5.alloc _) (cs := nodeA a Ab capb) rfl rfl rfl rfl (Blk.new _ _ _) rfl infoNode (nodeA_one _ _ _) ?_; intro W5 hW5 hfW5 _; have hG5 := (Fr.refl No w5).storeD hfW5)
            go_ret
            exact ⟨rfl, (((hF2.no hf4).no hG4).no hf5).no hG5⟩
          · rw [deep_ok D Hn.out HPS.out h12] at Q1
            have d12 : decide (12 < m) = false := decide_eq_false (by omega)
            have d12' : decide (12 < (m : Int)) = false := decide_eq_false (by omega)
            have Q1 := hid Q1
            clear D hz hm h12
            generalize opens m = om at *
            generalize shuts m = sm at *
            go_wp2_with fail
            refine (Q1.out _).mono ?_
            rintro e w4 ⟨⟨vm, rfl, Am, capm, rfl, hrm⟩, hf4⟩
            go_wp2_with ((with_reducible refine at_store 28 ?_); refine wpList_store_blk (w := w4.alloc _) (cs := nodeA a Am capm) rfl rfl rfl rfl (Blk.new _ _ _) rfl infoNode (nodeA_one _ _ _) ?_; intro W4 hW4 hfW4 _; have hG4 := (Fr.refl No w4).storeD hfW4)
            refine (PS.out _).mono ?_
            rintro e w5 ⟨⟨vb, rfl, Ab, capb, rfl, hrb⟩, hf5⟩
            go_wp2_with (first | ((with_reducible refine at_store 28 ?_); refine wpList_store_blk (w := w5.alloc _) (cs := nodeA a Ab capb) rfl rfl rfl rfl (Blk.new _ _ _) rfl infoNode (nodeA_one _ _ _) ?_; intro W5 hW5 hfW5 _; have hG5 := (Fr.refl No w5).storeD hfW5; have B10 := hG5.blk (hf5.blk hW4 id) id; have rm := (((hrm.frNo hG4).frNo hf5).frNo hG5).sub (S' := fun _ => True) (fun _ _ _ => trivial); have rb := (hrb.frNo hG5).sub (S' := fun _ => True) (fun _ _ _ => trivial)) |
              ((with_reducible refine at_gloadD 28 ?_); refine wpList_load_blkD (by kernel_rfl) (cs := nodeA a Am capm) rfl rfl B10 Try.underlying28 rfl infoNode ?_) | ((with_reducible refine at_gloadD 28 ?_); refine wpList_load_blkD (by kernel_rfl) (cs := nodeA a Ab capb) rfl rfl hW5 Try.underlying28 rfl infoNode ?_))
            refine (rsame_c (fun _ => True) a.depth a a _ _ W5 (Nat.le_refl _) ⟨_, _, rfl, rm⟩ ⟨_, _, rfl, rb⟩).mono ?_
            rw [hsa]
            rintro e w6 ⟨rfl, hf6⟩
            go_wp2_with fail
            go_ret
            exact ⟨rfl, ((((hF2.no hf4).no hG4).no hf5).no hG5).no hf6⟩
set_option maxRecDepth 100000 in
set_option maxHeartbeats 4000000 in
theorem deep_some (Haw : Hid (∀ w : World, Calls Try.prog 7 #[] w fun e w' => e = .returned (.bool true) ∧ Fr No w w')) (z : Int) (s : ByteArray) (w : World) (Hs : Hid (s.size ≤ 300)) (a : Nd) (j : Nat) (hps : Rx.parse s = .ok a j) (hpos : 0 < s.size) (h0 : nx s 0 ≠ 40) :
    Calls Try.prog 5 #[.int .i64 z, .string s] w fun e w' => e = .returned (.bool true) ∧ Fr No w w' := by
  have HPS := hid hps
  have hb0 := s[0].toNat_lt
  have e0 : ((s[0].toNat : Int) == 40) = false := by rw [nx_lt hpos] at h0; simp; omega
  have d0 : decide (0 < s.size) = true := decide_eq_true hpos
  have d0I : decide (0 < (s.size : Int)) = true := decide_eq_true (by omega)
  have hpos' : (0 : Int) < (s.size : Int) := by omega
  clear h0
  obtain ⟨N, hN16, hN⟩ := deep_n z
  have hd : decide (300 < s.size) = false := decide_eq_false (by have := Hs.out; omega)
  have hdI : decide (300 < (s.size : Int)) = false := decide_eq_false (by have := Hs.out; omega)
  have PS := fun W : World => refParse_c s W (by have := Hs.out; omega)
  rw [hps] at PS
  have PS := hid PS
  have HN := hid hN
  clear hps hN
  go_enter Try.func5, Try.ntmps5
  go_wp2_with fail
  rw [HN.out]
  refine (Haw.out _).mono ?_
  rintro e w1 ⟨rfl, hf1⟩
  go_wp2_with fail
  refine (PS.out _).mono ?_
  rintro e w2 ⟨⟨va, rfl, Aa, capa, rfl, hra⟩, hf2⟩
  go_wp2_with ((with_reducible refine at_store 28 ?_); refine wpList_store_blk (w := w2.alloc _) (cs := nodeA a Aa capa) rfl rfl rfl rfl (Blk.new _ _ _) rfl infoNode (nodeA_one _ _ _) ?_; intro W2 hW2 hfW2 _; have hG2 := (Fr.refl No w2).storeD hfW2)
  have hF2 := (hf1.no hf2).no hG2
  have ra2 := hra.frNo hG2
  clear hf1 hf2 hG2 hra hfW2
  go_loopg [46] s.size (fun g i wr => ∃ q : Nat, q + g = s.size ∧ i = .int .i64 q ∧ Aside (∀ k, k < q → nx s k ≠ 40) ∧ wr = W2)
  case atStart => exact ⟨0, by omega, rfl, hid (fun k hk => by omega), rfl⟩
  case round =>
    obtain ⟨q, hq, rfl, HA, hwr⟩ := hrel
    replace hwr := hwr.symm
    subst hwr
    cases gk with
    | succ g =>
      have hlt : q < s.size := by omega
      have hd1 : decide (q < s.size) = true := decide_eq_true hlt
      have hd1I : decide ((q : Int) < (s.size : Int)) = true := decide_eq_true (by omega)
      have hb1 := s[q].toNat_lt
      have hq0 : (0 : Int) ≤ (q : Int) := by omega
      have hqs : (q : Int) < (s.size : Int) := by omega
      have hsz := Hs.out
      have Hq := hid hq
      clear hq
      cases hx : ((s[q].toNat : Int) == 40) with
      | true =>
        clear HA
        go_wp2_with fail
        go_ret
        exact ⟨rfl, hF2⟩
      | false =>
        have hn : ∀ k, k < q + 1 → nx s k ≠ 40 := fun k hk => by
          rcases Nat.lt_or_ge k q with h1 | h1
          · exact HA.out k h1
          · obtain rfl : k = q := by omega
            rw [nx_lt hlt]
            simpa using hx
        have Hn := hid hn
        clear HA hn
        go_wp2_with fail
        go_roundg g
        case measure => omega
        case rel =>
          have hj1 : q + 1 + g = s.size := by have := Hq.out; omega
          exact ⟨q + 1, hj1, by simp, hid Hn.out, rfl⟩
    | zero =>
      obtain rfl : q = s.size := by omega
      have hn : ∀ k, nx s k ≠ 40 := fun k => by
        rcases Nat.lt_or_ge k s.size with h1 | h1
        · exact HA.out k h1
        · rw [nx_out h1]; decide
      have hd1 : decide (s.size < s.size) = false := decide_eq_false (by omega)
      have hd1I : decide ((s.size : Int) < (s.size : Int)) = false := decide_eq_false (by omega)
      have Hn := hid hn
      clear HA hn hq
      go_wp2_with fail
      go_loopg [8, 9, 55] N (fun g o h i wr => ∃ m : Nat, m + g = N ∧ o = .string (opens m) ∧ h = .string (shuts m) ∧ i = .int .i64 m ∧ wr = W2)
      case atStart => exact ⟨0, by omega, rfl, rfl, rfl, rfl⟩
      case round =>
        obtain ⟨m, hm, rfl, rfl, rfl, hwr⟩ := hrel
        replace hwr := hwr.symm
        subst hwr
        cases gk with
        | succ g =>
          have hd2 : decide (m < N) = true := decide_eq_true (by omega)
          have hd2I : decide ((m : Int) < (N : Int)) = true := decide_eq_true (by omega)
          have hd3 : (m : Int) < (N : Int) := by omega
          have hmi : (m : Int) < 16 := by omega
          have hzo : opens (m + 1) = opens m ++ ⟨#[40]⟩ := rfl
          have hzs : shuts (m + 1) = shuts m ++ ⟨#[41]⟩ := rfl
          have Hzo := hid hzo
          have Hzs := hid hzs
          have Hm := hid hm
          have ho16 : (opens m).size ≤ 16 := by rw [opens_size]; omega
          have hs16 : (shuts m).size ≤ 16 := by rw [shuts_size]; omega
          clear hzo hzs hm
          generalize opens m = om at *
          generalize shuts m = sm at *
          go_wp2_with fail
          go_roundg g
          case measure => omega
          case rel =>
            have hj1 : m + 1 + g = N := by have := Hm.out; omega
            exact ⟨m + 1, hj1, by rw [Hzo.out], by rw [Hzs.out], by simp, rfl⟩
        | zero =>
          obtain rfl : m = N := by omega
          have hd2 : decide (m < m) = false := decide_eq_false (by omega)
          have hd2I : decide ((m : Int) < (m : Int)) = false := decide_eq_false (by omega)
          have D := Deep.mk_ s m
          have hsz := Hs.out
          have hz : (opens m ++ s ++ shuts m).size ≤ 400 := by rw [D.size]; omega
          have Q1 := fun W : World => parse_c (opens m ++ s ++ shuts m) W (by omega)
          have hsa := a.same_self
          have ho16 : (opens m).size ≤ 16 := by rw [opens_size]; omega
          have hs16 : (shuts m).size ≤ 16 := by rw [shuts_size]; omega
          rcases Nat.lt_or_ge 12 m with h12 | h12
          · rw [deep_bad D h12] at Q1
            have d12 : decide (12 < m) = true := decide_eq_true h12
            have d12' : decide (12 < (m : Int)) = true := decide_eq_true (by omega)
            have Q1 := hid Q1
            clear D hz hm h12
            generalize opens m = om at *
            generalize shuts m = sm at *
            go_wp2_with fail
            refine (Q1.out _).mono ?_
            rintro e w4 ⟨rfl, hf4⟩
            go_wp2_with ((with_reducible refine at_store 28 ?_); refine wpList_store_blk (w := w4.alloc _) (cs := #[.int .i64 0, .int .u64 0, .int .u64 0, .int .u64 0, .int .u64 0, .int .i64 0, .int .i64 0, .slice none 0 0]) rfl rfl rfl rfl (Blk.new _ _ _) rfl infoNode zn_one ?_; intro W4 hW4 hfW4 _; have hG4 := (Fr.refl No w4).storeD hfW4)
            refine (PS.out _).mono ?_
            rintro e w5 ⟨⟨vb, rfl, Ab, capb, rfl, hrb⟩, hf5⟩
            go_wp2_with ((with_reducible refine at_store 28 ?_); refine wpList_store_blk (w := w5.alloc _) (cs := nodeA a Ab capb) rfl rfl rfl rfl (Blk.new _ _ _) rfl infoNode (nodeA_one _ _ _) ?_; intro W5 hW5 hfW5 _; have hG5 := (Fr.refl No w5).storeD hfW5)
            go_ret
            exact ⟨rfl, (((hF2.no hf4).no hG4).no hf5).no hG5⟩
          · rw [deep_ok D Hn.out HPS.out h12] at Q1
            have d12 : decide (12 < m) = false := decide_eq_false (by omega)
            have d12' : decide (12 < (m : Int)) = false := decide_eq_false (by omega)
            have Q1 := hid Q1
            clear D hz hm h12
            generalize opens m = om at *
            generalize shuts m = sm at *
            go_wp2_with fail
            refine (Q1.out _).mono ?_
            rintro e w4 ⟨⟨vm, rfl, Am, capm, rfl, hrm⟩, hf4⟩
            go_wp2_with ((with_reducible refine at_store 28 ?_); refine wpList_store_blk (w := w4.alloc _) (cs := nodeA a Am capm) rfl rfl rfl rfl (Blk.new _ _ _) rfl infoNode (nodeA_one _ _ _) ?_; intro W4 hW4 hfW4 _; have hG4 := (Fr.refl No w4).storeD hfW4)
            refine (PS.out _).mono ?_
            rintro e w5 ⟨⟨vb, rfl, Ab, capb, rfl, hrb⟩, hf5⟩
            go_wp2_with (first | ((with_reducible refine at_store 28 ?_); refine wpList_store_blk (w := w5.alloc _) (cs := nodeA a Ab capb) rfl rfl rfl rfl (Blk.new _ _ _) rfl infoNode (nodeA_one _ _ _) ?_; intro W5 hW5 hfW5 _; have hG5 := (Fr.refl No w5).storeD hfW5; have B10 := hG5.blk (hf5.blk hW4 id) id; have rm := (((hrm.frNo hG4).frNo hf5).frNo hG5).sub (S' := fun _ => True) (fun _ _ _ => trivial); have rb := (hrb.frNo hG5).sub (S' := fun _ => True) (fun _ _ _ => trivial)) |
              ((with_reducible refine at_gloadD 28 ?_); refine wpList_load_blkD (by kernel_rfl) (cs := nodeA a Am capm) rfl rfl B10 Try.underlying28 rfl infoNode ?_) | ((with_reducible refine at_gloadD 28 ?_); refine wpList_load_blkD (by kernel_rfl) (cs := nodeA a Ab capb) rfl rfl hW5 Try.underlying28 rfl infoNode ?_))
            refine (rsame_c (fun _ => True) a.depth a a _ _ W5 (Nat.le_refl _) ⟨_, _, rfl, rm⟩ ⟨_, _, rfl, rb⟩).mono ?_
            rw [hsa]
            rintro e w6 ⟨rfl, hf6⟩
            go_wp2_with fail
            go_ret
            exact ⟨rfl, ((((hF2.no hf4).no hG4).no hf5).no hG5).no hf6⟩
theorem deep_c (Haw : Hid (∀ w : World, Calls Try.prog 7 #[] w fun e w' => e = .returned (.bool true) ∧ Fr No w w')) (z : Int) (s : ByteArray) (w : World) :
    Calls Try.prog 5 #[.int .i64 z, .string s] w fun e w' => e = .returned (.bool true) ∧ Fr No w w' := by
  by_cases hs : 300 < s.size
  · exact deep_big Haw z s w hs
  have hs' : s.size ≤ 300 := by omega
  cases hps : Rx.parse s with
  | out => exact absurd hps (parse_ne s)
  | bad k => exact deep_wrong Haw z s w hs' k hps
  | ok a j =>
    rcases Nat.eq_zero_or_pos s.size with hpos | hpos
    · exact deep_empty Haw z s w hs' a j hps hpos
    · by_cases h0 : nx s 0 = 40
      · exact deep_first Haw z s w hs' a j hps hpos h0
      · exact deep_some Haw z s w hs' a j hps hpos h0
end Go.Proofs.Ytcphepjfnnbonaa
