/- The walk of RegexRound. -/
import Derived.Test.YtcphepjfnnbonaaPf14
import Derived.Test.YtcphepjfnnbonaaRxS3
import Derived.Test.YtcphepjfnnbonaaRxSh2
import Derived.Test.YtcphepjfnnbonaaRxW19
namespace Go.Proofs.Ytcphepjfnnbonaa
set_option linter.unusedVariables false
set_option linter.unusedSimpArgs false
open Go Go.RowKit

theorem wp_load_blk {P : Program} {o : Oper} {a : Act} {w : World} {K : Act → World → Prop} {Q : Exit → Act → World → Prop} {ty : TypeId} {x : Operand} (ho : o.op = .load ty x) {g : Nat} (hx : a.eval x = .pointer (some ⟨g, 0, none⟩)) {t : TypeId} {cs : Array Value} (hb : Blk w g t cs)
    {d : TypeDesc} (hu : P.underlying ty = some d) (hd : d.isRow = true) (hi : (P.info? ty).map (·.size) = some cs.size) (h : K (a.put o.dst (.agg cs)) w) : o.wp P a w K Q :=
  wp_load_mid ty x ho g 0 hx cs.toList d hb.range hu hd (by simpa using hi) (by simpa using h)
theorem wpList_load_blk_g {P : Program} {ops : Array Oper} {rest : List Oper} {Q : Exit → Act → World → Prop} {o : Oper} {a : Act} {w : World} (hw : Region.wanted o (yielded ops a.tmps) = true) {ty : TypeId} {x : Operand} (ho : o.op = .load ty x) {g : Nat} (hx : a.eval x = .pointer (some ⟨g, 0, none⟩))
    {t : TypeId} {cs : Array Value} (hb : Blk w g t cs) {d : TypeDesc} (hu : P.underlying ty = some d) (hd : d.isRow = true) (hi : (P.info? ty).map (·.size) = some cs.size) (h : wpList P ops Q rest (a.put o.dst (.agg cs)) w) : wpList P ops Q (o :: rest) a w :=
  BigFrame.wpList_want hw fun _ hK => wp_load_blk ho hx hb hu hd hi (hK _ _ h)
theorem at_gload {P : Program} {ops : Array Oper} {rest : List Oper} {Q : Exit → Act → World → Prop} {a : Act} {w : World} {d : Option Tmp} {t : TypeId} {p : String} {af : Array Edge} {gd : Nat × Bool} {x : Operand} (ty : TypeId)
    (h : wpList P ops Q (⟨d, .load ty x, t, p, af, some gd⟩ :: rest) a w) : wpList P ops Q (⟨d, .load ty x, t, p, af, some gd⟩ :: rest) a w := h
theorem rep_two {W : World} {g ca cb : Nat} {Aa Ab : Option Addr} {a b : Nd} {cur : Array Value} (hc : cur.toList = (nodeA a Aa ca).toList ++ (nodeA b Ab cb).toList) (hb : Blk W g 28 cur)
    (ra : Rep W (fun _ => True) (.slice Aa a.subs.length ca) (.sl 28 a.subs.length (encNs a.subs))) (rb : Rep W (fun _ => True) (.slice Ab b.subs.length cb) (.sl 28 b.subs.length (encNs b.subs))) :
    NodeIn W (fun _ => True) (.agg #[.int .i64 4, .int .u64 0, .int .u64 0, .int .u64 0, .int .u64 0, .int .i64 0, .int .i64 0, .slice (some ⟨g, 0, none⟩) 2 2]) (.mk 4 0 0 0 [a, b]) := by
  refine ⟨some ⟨g, 0, none⟩, 2, by simp [nodeA, wd_zero, Nd.kind, Nd.set, Nd.mn, Nd.mx, Nd.subs], ?_⟩
  show Rep W _ (.slice (some ⟨g, 0, none⟩) 2 2) (.sl 28 2 (encNs [a, b]))
  refine .row (Nat.le_refl _) (by decide) trivial hb (xs := cur.toList) ?_ ?_
  · have hl : (encNs [a, b]).length = cur.toList.length := by rw [hc, encNs_len]; rfl
    rw [hl, List.drop_zero, List.take_length]
  · rw [hc]
    show Reps _ _ _ (encN a ++ (encN b ++ []))
    rw [List.append_nil]
    exact (NodeIn.cells ra).append (NodeIn.cells rb)
set_option maxRecDepth 100000 in
set_option maxHeartbeats 4000000 in
theorem round_bb (Haw : Hid (∀ w : World, Calls Try.prog 7 #[] w fun e w' => e = .returned (.bool true) ∧ Fr No w w')) (s u : ByteArray) (w : World) (Hs : Hid (s.size + u.size ≤ 1000)) (k k' : Nat) (hps : Rx.parse s = .bad k) (hpu : Rx.parse u = .bad k') :
    Calls Try.prog 6 #[.string s, .string u] w fun e w' => e = .returned (.bool true) ∧ Fr No w w' := by
  have hk0 : decide (0 ≤ (k : Int)) = true := decide_eq_true (by omega)
  have hsu := Hs.out
  have hd : decide (1000 < (s.size : Int) + (u.size : Int)) = false := decide_eq_false (by omega)
  have hd' : decide (1000 < s.size + u.size) = false := decide_eq_false (by omega)
  have hs1 : s.size ≤ 1000 := by omega
  have hu1 : u.size ≤ 1000 := by omega
  have PS := fun W : World => refParse_c s W (by omega)
  have PU := fun W : World => refParse_c u W (by omega)
  rw [hps] at PS
  rw [hpu] at PU
  have PS := hid PS
  have PU := hid PU
  clear hps hpu hsu Hs
  go_enter Try.func6, Try.ntmps6
  go_wp2_with fail
  refine (Haw.out _).mono ?_
  rintro e w1 ⟨rfl, hf1⟩
  go_wp2_with fail
  refine (PS.out _).mono ?_
  rintro e w2 ⟨rfl, hf2⟩
  go_wp2_with ((with_reducible refine at_store 28 ?_); refine wpList_store_blk (w := w2.alloc _) (cs := #[.int .i64 0, .int .u64 0, .int .u64 0, .int .u64 0, .int .u64 0, .int .i64 0, .int .i64 0, .slice none 0 0]) rfl rfl rfl rfl (Blk.new _ _ _) rfl infoNode zn_one ?_; intro W2 hW2 hfW2 _; have hG2 := (Fr.refl No w2).store hfW2)
  refine (PU.out _).mono ?_
  rintro e w3 ⟨rfl, hf3⟩
  go_wp2_with ((with_reducible refine at_store 28 ?_); refine wpList_store_blk (w := w3.alloc _) (cs := #[.int .i64 0, .int .u64 0, .int .u64 0, .int .u64 0, .int .u64 0, .int .i64 0, .int .i64 0, .slice none 0 0]) rfl rfl rfl rfl (Blk.new _ _ _) rfl infoNode zn_one ?_; intro W3 hW3 hfW3 _; have hG3 := (Fr.refl No w3).store hfW3)
  go_ret
  exact ⟨rfl, ((((hf1).no hf2).no hG2).no hf3).no hG3⟩
set_option maxRecDepth 100000 in
set_option maxHeartbeats 4000000 in
theorem round_bo (Haw : Hid (∀ w : World, Calls Try.prog 7 #[] w fun e w' => e = .returned (.bool true) ∧ Fr No w w')) (s u : ByteArray) (w : World) (Hs : Hid (s.size + u.size ≤ 1000)) (k : Nat) (b : Nd) (j : Nat) (hps : Rx.parse s = .bad k) (hpu : Rx.parse u = .ok b j) :
    Calls Try.prog 6 #[.string s, .string u] w fun e w' => e = .returned (.bool true) ∧ Fr No w w' := by
  have hk0 : decide (0 ≤ (k : Int)) = true := decide_eq_true (by omega)
  have hsu := Hs.out
  have hd : decide (1000 < (s.size : Int) + (u.size : Int)) = false := decide_eq_false (by omega)
  have hd' : decide (1000 < s.size + u.size) = false := decide_eq_false (by omega)
  have hs1 : s.size ≤ 1000 := by omega
  have hu1 : u.size ≤ 1000 := by omega
  have PS := fun W : World => refParse_c s W (by omega)
  have PU := fun W : World => refParse_c u W (by omega)
  rw [hps] at PS
  rw [hpu] at PU
  have PS := hid PS
  have PU := hid PU
  clear hps hpu hsu Hs
  go_enter Try.func6, Try.ntmps6
  go_wp2_with fail
  refine (Haw.out _).mono ?_
  rintro e w1 ⟨rfl, hf1⟩
  go_wp2_with fail
  refine (PS.out _).mono ?_
  rintro e w2 ⟨rfl, hf2⟩
  go_wp2_with ((with_reducible refine at_store 28 ?_); refine wpList_store_blk (w := w2.alloc _) (cs := #[.int .i64 0, .int .u64 0, .int .u64 0, .int .u64 0, .int .u64 0, .int .i64 0, .int .i64 0, .slice none 0 0]) rfl rfl rfl rfl (Blk.new _ _ _) rfl infoNode zn_one ?_; intro W2 hW2 hfW2 _; have hG2 := (Fr.refl No w2).store hfW2)
  refine (PU.out _).mono ?_
  rintro e w3 ⟨⟨vb, rfl, Ab, capb, rfl, hrb⟩, hf3⟩
  go_wp2_with ((with_reducible refine at_store 28 ?_); refine wpList_store_blk (w := w3.alloc _) (cs := nodeA b Ab capb) rfl rfl rfl rfl (Blk.new _ _ _) rfl infoNode (nodeA_one _ _ _) ?_; intro W3 hW3 hfW3 _; have hG3 := (Fr.refl No w3).store hfW3)
  go_ret
  exact ⟨rfl, ((((hf1).no hf2).no hG2).no hf3).no hG3⟩
set_option maxRecDepth 100000 in
set_option maxHeartbeats 4000000 in
theorem round_ob (Haw : Hid (∀ w : World, Calls Try.prog 7 #[] w fun e w' => e = .returned (.bool true) ∧ Fr No w w')) (s u : ByteArray) (w : World) (Hs : Hid (s.size + u.size ≤ 1000)) (a : Nd) (j : Nat) (k : Nat) (hps : Rx.parse s = .ok a j) (hpu : Rx.parse u = .bad k) :
    Calls Try.prog 6 #[.string s, .string u] w fun e w' => e = .returned (.bool true) ∧ Fr No w w' := by
  have hk0 : decide (0 ≤ (k : Int)) = true := decide_eq_true (by omega)
  have hsu := Hs.out
  have hd : decide (1000 < (s.size : Int) + (u.size : Int)) = false := decide_eq_false (by omega)
  have hd' : decide (1000 < s.size + u.size) = false := decide_eq_false (by omega)
  have hs1 : s.size ≤ 1000 := by omega
  have hu1 : u.size ≤ 1000 := by omega
  have PS := fun W : World => refParse_c s W (by omega)
  have PU := fun W : World => refParse_c u W (by omega)
  rw [hps] at PS
  rw [hpu] at PU
  have PS := hid PS
  have PU := hid PU
  clear hps hpu hsu Hs
  go_enter Try.func6, Try.ntmps6
  go_wp2_with fail
  refine (Haw.out _).mono ?_
  rintro e w1 ⟨rfl, hf1⟩
  go_wp2_with fail
  refine (PS.out _).mono ?_
  rintro e w2 ⟨⟨va, rfl, Aa, capa, rfl, hra⟩, hf2⟩
  go_wp2_with ((with_reducible refine at_store 28 ?_); refine wpList_store_blk (w := w2.alloc _) (cs := nodeA a Aa capa) rfl rfl rfl rfl (Blk.new _ _ _) rfl infoNode (nodeA_one _ _ _) ?_; intro W2 hW2 hfW2 _; have hG2 := (Fr.refl No w2).store hfW2)
  refine (PU.out _).mono ?_
  rintro e w3 ⟨rfl, hf3⟩
  go_wp2_with ((with_reducible refine at_store 28 ?_); refine wpList_store_blk (w := w3.alloc _) (cs := #[.int .i64 0, .int .u64 0, .int .u64 0, .int .u64 0, .int .u64 0, .int .i64 0, .int .i64 0, .slice none 0 0]) rfl rfl rfl rfl (Blk.new _ _ _) rfl infoNode zn_one ?_; intro W3 hW3 hfW3 _; have hG3 := (Fr.refl No w3).store hfW3)
  go_ret
  exact ⟨rfl, ((((hf1).no hf2).no hG2).no hf3).no hG3⟩
set_option maxRecDepth 100000 in
set_option maxHeartbeats 4000000 in
theorem round_o1 (Haw : Hid (∀ w : World, Calls Try.prog 7 #[] w fun e w' => e = .returned (.bool true) ∧ Fr No w w')) (s u : ByteArray) (w : World) (Hs : Hid (s.size + u.size ≤ 1000)) (a b : Nd) (j j' : Nat) (hps : Rx.parse s = .ok a j) (hpu : Rx.parse u = .ok b j') (k : Nat) (h1 : Rx.parse (⟨#[40]⟩ ++ s ++ ⟨#[41]⟩ : ByteArray) = .bad k) :
    Calls Try.prog 6 #[.string s, .string u] w fun e w' => e = .returned (.bool true) ∧ Fr No w w' := by
  have hsu := Hs.out
  have hd : decide (1000 < (s.size : Int) + (u.size : Int)) = false := decide_eq_false (by omega)
  have hd' : decide (1000 < s.size + u.size) = false := decide_eq_false (by omega)
  have hs1 : s.size ≤ 1000 := by omega
  have hu1 : u.size ≤ 1000 := by omega
  have PS := fun W : World => refParse_c s W (by omega)
  have PU := fun W : World => refParse_c u W (by omega)
  have hz1 : (⟨#[40]⟩ ++ s ++ ⟨#[41]⟩ : ByteArray).size ≤ 2000 := by rw [ByteArray.size_append, ByteArray.size_append]; show 1 + s.size + 1 ≤ _; omega
  have hz2 : (⟨#[40]⟩ ++ s ++ ⟨#[41, 124, 40]⟩ ++ u ++ ⟨#[41]⟩ : ByteArray).size ≤ 2000 := by rw [ByteArray.size_append, ByteArray.size_append, ByteArray.size_append, ByteArray.size_append]; show 1 + s.size + 3 + u.size + 1 ≤ _; omega
  have Q1 := fun W : World => parse_c (⟨#[40]⟩ ++ s ++ ⟨#[41]⟩ : ByteArray) W (by omega)
  have R1 := fun W : World => refParse_c (⟨#[40]⟩ ++ s ++ ⟨#[41]⟩ : ByteArray) W (by omega)
  have Q2 := fun W : World => parse_c (⟨#[40]⟩ ++ s ++ ⟨#[41, 124, 40]⟩ ++ u ++ ⟨#[41]⟩ : ByteArray) W (by omega)
  have R2 := fun W : World => refParse_c (⟨#[40]⟩ ++ s ++ ⟨#[41, 124, 40]⟩ ++ u ++ ⟨#[41]⟩ : ByteArray) W (by omega)
  rw [hps] at PS
  rw [hpu] at PU
  rw [h1] at Q1 R1
  have hk0 : decide (0 ≤ (k : Int)) = true := decide_eq_true (by omega)
  have PS := hid PS
  have PU := hid PU
  have Q1 := hid Q1
  have R1 := hid R1
  have Q2 := hid Q2
  have R2 := hid R2
  clear hps hpu h1 hz1 hz2 hsu Hs
  go_enter Try.func6, Try.ntmps6
  go_wp2_with fail
  refine (Haw.out _).mono ?_
  rintro e w1 ⟨rfl, hf1⟩
  go_wp2_with fail
  refine (PS.out _).mono ?_
  rintro e w2 ⟨⟨va, rfl, Aa, capa, rfl, hra⟩, hf2⟩
  go_wp2_with ((with_reducible refine at_store 28 ?_); refine wpList_store_blk (w := w2.alloc _) (cs := nodeA a Aa capa) rfl rfl rfl rfl (Blk.new _ _ _) rfl infoNode (nodeA_one _ _ _) ?_; intro W2 hW2 hfW2 _; have hG2 := (Fr.refl No w2).store hfW2)
  refine (PU.out _).mono ?_
  rintro e w3 ⟨⟨vb, rfl, Ab, capb, rfl, hrb⟩, hf3⟩
  go_wp2_with ((with_reducible refine at_store 28 ?_); refine wpList_store_blk (w := w3.alloc _) (cs := nodeA b Ab capb) rfl rfl rfl rfl (Blk.new _ _ _) rfl infoNode (nodeA_one _ _ _) ?_; intro W3 hW3 hfW3 _; have hG3 := (Fr.refl No w3).store hfW3)
  refine (Q1.out _).mono ?_
  rintro e w4 ⟨rfl, hf4⟩
  go_wp2_with ((with_reducible refine at_store 28 ?_); refine wpList_store_blk (w := w4.alloc _) (cs := #[.int .i64 0, .int .u64 0, .int .u64 0, .int .u64 0, .int .u64 0, .int .i64 0, .int .i64 0, .slice none 0 0]) rfl rfl rfl rfl (Blk.new _ _ _) rfl infoNode zn_one ?_; intro W4 hW4 hfW4 _; have hG4 := (Fr.refl No w4).store hfW4)
  refine (R1.out _).mono ?_
  rintro e w5 ⟨rfl, hf5⟩
  go_wp2_with ((with_reducible refine at_store 28 ?_); refine wpList_store_blk (w := w5.alloc _) (cs := #[.int .i64 0, .int .u64 0, .int .u64 0, .int .u64 0, .int .u64 0, .int .i64 0, .int .i64 0, .slice none 0 0]) rfl rfl rfl rfl (Blk.new _ _ _) rfl infoNode zn_one ?_; intro W5 hW5 hfW5 _; have hG5 := (Fr.refl No w5).store hfW5)
  go_ret
  exact ⟨rfl, ((((((((hf1).no hf2).no hG2).no hf3).no hG3).no hf4).no hG4).no hf5).no hG5⟩
set_option maxRecDepth 100000 in
set_option maxHeartbeats 4000000 in
theorem round_o2 (Haw : Hid (∀ w : World, Calls Try.prog 7 #[] w fun e w' => e = .returned (.bool true) ∧ Fr No w w')) (s u : ByteArray) (w : World) (Hs : Hid (s.size + u.size ≤ 1000)) (a b : Nd) (j j' : Nat) (hps : Rx.parse s = .ok a j) (hpu : Rx.parse u = .ok b j') (h1 : Rx.parse (⟨#[40]⟩ ++ s ++ ⟨#[41]⟩ : ByteArray) = .ok a 0) (k : Nat) (h2 : Rx.parse (⟨#[40]⟩ ++ s ++ ⟨#[41, 124, 40]⟩ ++ u ++ ⟨#[41]⟩ : ByteArray) = .bad k) :
    Calls Try.prog 6 #[.string s, .string u] w fun e w' => e = .returned (.bool true) ∧ Fr No w w' := by
  have hsu := Hs.out
  have hd : decide (1000 < (s.size : Int) + (u.size : Int)) = false := decide_eq_false (by omega)
  have hd' : decide (1000 < s.size + u.size) = false := decide_eq_false (by omega)
  have hs1 : s.size ≤ 1000 := by omega
  have hu1 : u.size ≤ 1000 := by omega
  have PS := fun W : World => refParse_c s W (by omega)
  have PU := fun W : World => refParse_c u W (by omega)
  have hz1 : (⟨#[40]⟩ ++ s ++ ⟨#[41]⟩ : ByteArray).size ≤ 2000 := by rw [ByteArray.size_append, ByteArray.size_append]; show 1 + s.size + 1 ≤ _; omega
  have hz2 : (⟨#[40]⟩ ++ s ++ ⟨#[41, 124, 40]⟩ ++ u ++ ⟨#[41]⟩ : ByteArray).size ≤ 2000 := by rw [ByteArray.size_append, ByteArray.size_append, ByteArray.size_append, ByteArray.size_append]; show 1 + s.size + 3 + u.size + 1 ≤ _; omega
  have Q1 := fun W : World => parse_c (⟨#[40]⟩ ++ s ++ ⟨#[41]⟩ : ByteArray) W (by omega)
  have R1 := fun W : World => refParse_c (⟨#[40]⟩ ++ s ++ ⟨#[41]⟩ : ByteArray) W (by omega)
  have Q2 := fun W : World => parse_c (⟨#[40]⟩ ++ s ++ ⟨#[41, 124, 40]⟩ ++ u ++ ⟨#[41]⟩ : ByteArray) W (by omega)
  have R2 := fun W : World => refParse_c (⟨#[40]⟩ ++ s ++ ⟨#[41, 124, 40]⟩ ++ u ++ ⟨#[41]⟩ : ByteArray) W (by omega)
  rw [hps] at PS
  rw [hpu] at PU
  rw [h1] at Q1 R1
  rw [h2] at Q2 R2
  have hk0 : decide (0 ≤ (k : Int)) = true := decide_eq_true (by omega)
  have PS := hid PS
  have PU := hid PU
  have Q1 := hid Q1
  have R1 := hid R1
  have Q2 := hid Q2
  have R2 := hid R2
  clear h2 hps hpu h1 hz1 hz2 hsu Hs
  go_enter Try.func6, Try.ntmps6
  go_wp2_with fail
  refine (Haw.out _).mono ?_
  rintro e w1 ⟨rfl, hf1⟩
  go_wp2_with fail
  refine (PS.out _).mono ?_
  rintro e w2 ⟨⟨va, rfl, Aa, capa, rfl, hra⟩, hf2⟩
  go_wp2_with ((with_reducible refine at_store 28 ?_); refine wpList_store_blk (w := w2.alloc _) (cs := nodeA a Aa capa) rfl rfl rfl rfl (Blk.new _ _ _) rfl infoNode (nodeA_one _ _ _) ?_; intro W2 hW2 hfW2 _; have hG2 := (Fr.refl No w2).store hfW2)
  refine (PU.out _).mono ?_
  rintro e w3 ⟨⟨vb, rfl, Ab, capb, rfl, hrb⟩, hf3⟩
  go_wp2_with ((with_reducible refine at_store 28 ?_); refine wpList_store_blk (w := w3.alloc _) (cs := nodeA b Ab capb) rfl rfl rfl rfl (Blk.new _ _ _) rfl infoNode (nodeA_one _ _ _) ?_; intro W3 hW3 hfW3 _; have hG3 := (Fr.refl No w3).store hfW3)
  refine (Q1.out _).mono ?_
  rintro e w4 ⟨⟨vn, rfl, An, capn, rfl, hrn⟩, hf4⟩
  go_wp2_with ((with_reducible refine at_store 28 ?_); refine wpList_store_blk (w := w4.alloc _) (cs := nodeA a An capn) rfl rfl rfl rfl (Blk.new _ _ _) rfl infoNode (nodeA_one _ _ _) ?_; intro W4 hW4 hfW4 _; have hG4 := (Fr.refl No w4).store hfW4)
  refine (R1.out _).mono ?_
  rintro e w5 ⟨⟨vr, rfl, Ar, capr, rfl, hrr⟩, hf5⟩
  go_wp2_with ((with_reducible refine at_store 28 ?_); refine wpList_store_blk (w := w5.alloc _) (cs := nodeA a Ar capr) rfl rfl rfl rfl (Blk.new _ _ _) rfl infoNode (nodeA_one _ _ _) ?_; intro W5 hW5 hfW5 _; have hG5 := (Fr.refl No w5).store hfW5)
  refine (Q2.out _).mono ?_
  rintro e w6 ⟨rfl, hf6⟩
  go_wp2_with ((with_reducible refine at_store 28 ?_); refine wpList_store_blk (w := w6.alloc _) (cs := #[.int .i64 0, .int .u64 0, .int .u64 0, .int .u64 0, .int .u64 0, .int .i64 0, .int .i64 0, .slice none 0 0]) rfl rfl rfl rfl (Blk.new _ _ _) rfl infoNode zn_one ?_; intro W6 hW6 hfW6 _; have hG6 := (Fr.refl No w6).store hfW6)
  refine (R2.out _).mono ?_
  rintro e w7 ⟨rfl, hf7⟩
  go_wp2_with ((with_reducible refine at_store 28 ?_); refine wpList_store_blk (w := w7.alloc _) (cs := #[.int .i64 0, .int .u64 0, .int .u64 0, .int .u64 0, .int .u64 0, .int .i64 0, .int .i64 0, .slice none 0 0]) rfl rfl rfl rfl (Blk.new _ _ _) rfl infoNode zn_one ?_; intro W7 hW7 hfW7 _; have hG7 := (Fr.refl No w7).store hfW7)
  go_ret
  exact ⟨rfl, ((((((((((((hf1).no hf2).no hG2).no hf3).no hG3).no hf4).no hG4).no hf5).no hG5).no hf6).no hG6).no hf7).no hG7⟩
set_option maxRecDepth 100000 in
set_option maxHeartbeats 4000000 in
theorem round_oo (Haw : Hid (∀ w : World, Calls Try.prog 7 #[] w fun e w' => e = .returned (.bool true) ∧ Fr No w w')) (s u : ByteArray) (w : World) (Hs : Hid (s.size + u.size ≤ 1000)) (a b : Nd) (j j' : Nat) (hps : Rx.parse s = .ok a j) (hpu : Rx.parse u = .ok b j') (h1 : Rx.parse (⟨#[40]⟩ ++ s ++ ⟨#[41]⟩ : ByteArray) = .ok a 0) (h2 : Rx.parse (⟨#[40]⟩ ++ s ++ ⟨#[41, 124, 40]⟩ ++ u ++ ⟨#[41]⟩ : ByteArray) = .ok (.mk 4 0 0 0 [a, b]) 0) :
    Calls Try.prog 6 #[.string s, .string u] w fun e w' => e = .returned (.bool true) ∧ Fr No w w' := by
  have hsu := Hs.out
  have hd : decide (1000 < (s.size : Int) + (u.size : Int)) = false := decide_eq_false (by omega)
  have hd' : decide (1000 < s.size + u.size) = false := decide_eq_false (by omega)
  have hs1 : s.size ≤ 1000 := by omega
  have hu1 : u.size ≤ 1000 := by omega
  have PS := fun W : World => refParse_c s W (by omega)
  have PU := fun W : World => refParse_c u W (by omega)
  have hz1 : (⟨#[40]⟩ ++ s ++ ⟨#[41]⟩ : ByteArray).size ≤ 2000 := by rw [ByteArray.size_append, ByteArray.size_append]; show 1 + s.size + 1 ≤ _; omega
  have hz2 : (⟨#[40]⟩ ++ s ++ ⟨#[41, 124, 40]⟩ ++ u ++ ⟨#[41]⟩ : ByteArray).size ≤ 2000 := by rw [ByteArray.size_append, ByteArray.size_append, ByteArray.size_append, ByteArray.size_append]; show 1 + s.size + 3 + u.size + 1 ≤ _; omega
  have Q1 := fun W : World => parse_c (⟨#[40]⟩ ++ s ++ ⟨#[41]⟩ : ByteArray) W (by omega)
  have R1 := fun W : World => refParse_c (⟨#[40]⟩ ++ s ++ ⟨#[41]⟩ : ByteArray) W (by omega)
  have Q2 := fun W : World => parse_c (⟨#[40]⟩ ++ s ++ ⟨#[41, 124, 40]⟩ ++ u ++ ⟨#[41]⟩ : ByteArray) W (by omega)
  have R2 := fun W : World => refParse_c (⟨#[40]⟩ ++ s ++ ⟨#[41, 124, 40]⟩ ++ u ++ ⟨#[41]⟩ : ByteArray) W (by omega)
  rw [hps] at PS
  rw [hpu] at PU
  rw [h1] at Q1 R1
  rw [h2] at Q2 R2
  have PS := hid PS
  have PU := hid PU
  have Q1 := hid Q1
  have R1 := hid R1
  have Q2 := hid Q2
  have R2 := hid R2
  clear h2 hps hpu h1 hz1 hz2 hsu Hs
  have hsa := a.same_self
  have hsm := (Nd.mk 4 0 0 0 [a, b]).same_self
  generalize hM : Nd.mk 4 0 0 0 [a, b] = M at *
  have HM := hid hM
  clear hM
  go_enter Try.func6, Try.ntmps6
  go_wp2_with fail
  refine (Haw.out _).mono ?_
  rintro e w1 ⟨rfl, hf1⟩
  go_wp2_with fail
  refine (PS.out _).mono ?_
  rintro e w2 ⟨⟨va, rfl, Aa, capa, rfl, hra⟩, hf2⟩
  go_wp2_with ((with_reducible refine at_store 28 ?_); refine wpList_store_blk (w := w2.alloc _) (cs := nodeA a Aa capa) rfl rfl rfl rfl (Blk.new _ _ _) rfl infoNode (nodeA_one _ _ _) ?_; intro W2 hW2 hfW2 _; have hG2 := (Fr.refl No w2).store hfW2)
  refine (PU.out _).mono ?_
  rintro e w3 ⟨⟨vb, rfl, Ab, capb, rfl, hrb⟩, hf3⟩
  go_wp2_with ((with_reducible refine at_store 28 ?_); refine wpList_store_blk (w := w3.alloc _) (cs := nodeA b Ab capb) rfl rfl rfl rfl (Blk.new _ _ _) rfl infoNode (nodeA_one _ _ _) ?_; intro W3 hW3 hfW3 _; have hG3 := (Fr.refl No w3).store hfW3)
  refine (Q1.out _).mono ?_
  rintro e w4 ⟨⟨vn, rfl, An, capn, rfl, hrn⟩, hf4⟩
  go_wp2_with ((with_reducible refine at_store 28 ?_); refine wpList_store_blk (w := w4.alloc _) (cs := nodeA a An capn) rfl rfl rfl rfl (Blk.new _ _ _) rfl infoNode (nodeA_one _ _ _) ?_; intro W4 hW4 hfW4 _; have hG4 := (Fr.refl No w4).store hfW4)
  refine (R1.out _).mono ?_
  rintro e w5 ⟨⟨vr, rfl, Ar, capr, rfl, hrr⟩, hf5⟩
  go_wp2_with ((with_reducible refine at_store 28 ?_); refine wpList_store_blk (w := w5.alloc _) (cs := nodeA a Ar capr) rfl rfl rfl rfl (Blk.new _ _ _) rfl infoNode (nodeA_one _ _ _) ?_; intro W5 hW5 hfW5 _; have hG5 := (Fr.refl No w5).store hfW5)
  refine (Q2.out _).mono ?_
  rintro e w6 ⟨⟨vm, rfl, Am, capm, rfl, hrm⟩, hf6⟩
  go_wp2_with ((with_reducible refine at_store 28 ?_); refine wpList_store_blk (w := w6.alloc _) (cs := nodeA M Am capm) rfl rfl rfl rfl (Blk.new _ _ _) rfl infoNode (nodeA_one _ _ _) ?_; intro W6 hW6 hfW6 _; have hG6 := (Fr.refl No w6).store hfW6)
  refine (R2.out _).mono ?_
  rintro e w7 ⟨⟨vq, rfl, Aq, capq, rfl, hrq⟩, hf7⟩
  go_wp2_with (first | ((with_reducible refine at_store 28 ?_); refine wpList_store_blk (w := w7.alloc _) (cs := nodeA M Aq capq) rfl rfl rfl rfl (Blk.new _ _ _) rfl infoNode (nodeA_one _ _ _) ?_; intro W7 hW7 hfW7 _; have hG7 := (Fr.refl No w7).store hfW7; have K3 := hf3.no hG3; have K4 := (hf4.no hG4); have K5 := (hf5.no hG5); have K6 := (hf6.no hG6); have K7 := (hf7.no hG7); have B5 := K7.blk (K6.blk (K5.blk (K4.blk (K3.blk hW2 id) id) id) id) id; have B7 := K7.blk (K6.blk (K5.blk (K4.blk hW3 id) id) id) id; have B9 := K7.blk (K6.blk (K5.blk hW4 id) id) id; have B14 := K7.blk hW6 id; have ra := (((((((hra.frNo hG2).frNo K3).frNo K4).frNo K5).frNo K6).frNo K7)).sub (S' := fun _ => True) (fun _ _ _ => trivial); have rb := ((((((hrb.frNo hG3).frNo K4).frNo K5).frNo K6).frNo K7)).sub (S' := fun _ => True) (fun _ _ _ => trivial); have rn := (((((hrn.frNo hG4).frNo K5).frNo K6).frNo K7)).sub (S' := fun _ => True) (fun _ _ _ => trivial); have rm := (((hrm.frNo hG6).frNo K7)).sub (S' := fun _ => True) (fun _ _ _ => trivial); have hF := (((((hf1.no (hf2.no hG2)).no K3).no K4).no K5).no K6).no K7) |
    ((with_reducible refine at_gload 28 ?_); refine wpList_load_blk_g (by kernel_rfl) (cs := nodeA a An capn) rfl rfl B9 Try.underlying28 rfl infoNode ?_) |
    ((with_reducible refine at_gload 28 ?_); refine wpList_load_blk_g (by kernel_rfl) (cs := nodeA a Aa capa) rfl rfl B5 Try.underlying28 rfl infoNode ?_) |
    (go_at_call 11; refine (rsame_c _ a.depth a a _ _ W7 (Nat.le_refl _) ⟨_, _, rfl, rn⟩ ⟨_, _, rfl, ra⟩).mono ?_; rw [hsa]; rintro e w8 ⟨rfl, hf8⟩; have C5 := hf8.blk B5 id; have C7 := hf8.blk B7 id; have C14 := hf8.blk B14 id; have sa := ra.frNo hf8; have sb := rb.frNo hf8; have sm := rm.frNo hf8; clear B5 B7 B9 B14 ra rb rn rm) |
    ((with_reducible refine at_gload 28 ?_); refine wpList_load_blk_g (by kernel_rfl) (cs := nodeA M Am capm) rfl rfl C14 Try.underlying28 rfl infoNode ?_) |
    ((with_reducible refine at_gload 28 ?_); refine wpList_load_blk_g (by kernel_rfl) (cs := nodeA a Aa capa) rfl rfl C5 Try.underlying28 rfl infoNode ?_; unfold nodeA) |
    ((with_reducible refine at_gload 28 ?_); refine wpList_load_blk_g (by kernel_rfl) (cs := nodeA b Ab capb) rfl rfl C7 Try.underlying28 rfl infoNode ?_; unfold nodeA))
  have hg8 := Blk.new w8 28 ((nodeA a Aa capa).toList ++ (nodeA b Ab capb).toList).toArray
  have hN8 := rep_two (a := a) (b := b) rfl hg8 (sa.alloc _) (sb.alloc _)
  rw [HM.out] at hN8
  refine (rsame_c _ M.depth M M _ _ _ (Nat.le_refl _) ⟨_, _, rfl, sm.alloc _⟩ hN8).mono ?_
  rw [hsm]
  rintro e w9 ⟨rfl, hf9⟩
  go_wp2_with fail
  go_ret
  exact ⟨rfl, ((hF.no hf8).alloc _).no hf9⟩
end Go.Proofs.Ytcphepjfnnbonaa
