/- The walk of the law NfaApart: true for all expressions and texts. -/
import Derived.Test.YtldmdlkjpdfonaaCp
import Derived.Test.YtldmdlkjpdfonaaCl4
import Derived.Test.YtldmdlkjpdfonaaAp
import Derived.Deep.DeepCutAuto
namespace Go.Proofs.Ytldmdlkjpdfonaa
set_option linter.unusedVariables false
set_option linter.unusedSimpArgs false
open Go Go.RowKit

theorem allPlain_get : ∀ {l : List Nd} {j : Nat} {a : Nd}, l[j]? = some a → allPlain l = true → isPlain a = true
  | [], _, _, h, _ => by simp at h
  | x :: l, 0, a, h, hk => by simp at h; subst h; unfold allPlain at hk; exact (Bool.and_eq_true _ _ ▸ hk).1
  | x :: l, j + 1, a, h, hk => by unfold allPlain at hk; exact allPlain_get (by simpa using h) (Bool.and_eq_true _ _ ▸ hk).2
/-- Two may come up: either is carried out. -/
theorem Rt.two {P : Program} {ops : Array Oper} {Q : Exit → Act → World → Prop} {md : Region.Mode} {S : World → Prop} {n : Nat} {l : List Oper} {i j : Nat} {o o' : Oper} {f : Nat} {listed : Array Bool} {a : Act} {w : World} (ho : ops[i]? = some o) (ho' : ops[j]? = some o') (hB : (decide (i < n) && decide (j < n) && (Region.ready md ops listed == [i, j])) = true)
    (h : ∀ K' : Act → World → Prop, Shut (∀ a w, S w → Rt P md ops Q S n l f (listed.setIfInBounds i true) a w → K' a w) → if Region.wanted o (yielded ops a.tmps) = true then Oper.wp P o a w K' Q else K' (a.put o.dst undef) w)
    (h' : ∀ K' : Act → World → Prop, Shut (∀ a w, S w → Rt P md ops Q S n l f (listed.setIfInBounds j true) a w → K' a w) → if Region.wanted o' (yielded ops a.tmps) = true then Oper.wp P o' a w K' Q else K' (a.put o'.dst undef) w) :
    Rt P md ops Q S n l (f + 1) listed a w := fun H0 inv => by
  simp only [Bool.and_eq_true, decide_eq_true_eq, beq_iff_eq] at hB
  refine ⟨by rw [hB.2]; simp, fun k hk => ?_⟩
  have hk' := hk
  rw [hB.2] at hk
  simp only [List.mem_cons, List.not_mem_nil, or_false] at hk
  rcases hk with rfl | rfl
  · exact ⟨hB.1.1, wpOp_step ho (fun K' hK => h K' (fun a w hS hW => hK a w ⟨hS, hW H0 (inv.set hk' hB.1.1)⟩))⟩
  · exact ⟨hB.1.2, wpOp_step ho' (fun K' hK => h' K' (fun a w hS hW => hK a w ⟨hS, hW H0 (inv.set hk' hB.1.2)⟩))⟩
/-- A row of truth values is made. -/
theorem wp_makeB {o : Oper} {a : Act} {K : Act → World → Prop} {Q : Exit → Act → World → Prop} {w : World} (k : Nat) (ho : o.op = .makeSlice 48 (.tmp k) (.tmp k)) {n : Nat} (hx : a.eval (.tmp k) = .int .i64 n) (hn : n < 4294967296)
    (h : ∀ w', RowB w' w.heap.size (.slice (some ⟨w.heap.size, 0, none⟩) n n) n (fun _ => false) → Fr No w w' → K (a.put o.dst (.slice (some ⟨w.heap.size, 0, none⟩) n n)) w') : o.wp Try.prog a w K Q := by
  obtain ⟨ti, ti1, ti2, ti3, ti4⟩ := info_parts infoBool3
  obtain ⟨w', hrun, r1, r2⟩ := run_make_full (P := Try.prog) w w.heap.size 48 4 ti _ 1 Try.underlying48 ti1 ti2 ti3 .i64 .i64 n (by rw [ti4]; omega) (by simp only [maxLen]; omega) (Nat.le_refl _)
  unfold Oper.wp
  simp [execOp, ho, hx, hrun, Result.andThen]
  refine h w' ?_ ((Fr.ofGrown r2).mono fun _ _ h => by cases h)
  have hz : (Value.bool false).cells = #[.bool false] := rfl
  rw [hz, Nat.mul_one, toList_madeCells_one, rowV_rep] at r1
  exact r1
/-- A row of truth values stands on. -/
theorem RowB.fr {w w' : World} {B G n cap : Nat} {f : Nat → Bool} {M : Nat → Prop} (h : RowB w B (.slice (some ⟨G, 0, none⟩) n cap) n f) (hf : Fr M w w') (hn : ¬ M G) : RowB w' B (.slice (some ⟨G, 0, none⟩) n cap) n f := by
  obtain ⟨h3, h4⟩ := h
  refine ⟨h3, ?_⟩
  rcases h4 with ⟨h, _⟩ | ⟨g, cap2, cur, he, hg, hh, rest⟩
  · cases h
  · have e2 := he
    injection he with e1
    injection e1 with e1
    injection e1 with e1
    subst e1
    exact .inr ⟨G, cap2, cur, e2, hg, (hf.block G (Array.getElem?_eq_some_iff.1 hh).1 hn).trans hh, rest⟩
theorem RowB.lt {w : World} {B G n cap : Nat} {f : Nat → Bool} (h : RowB w B (.slice (some ⟨G, 0, none⟩) n cap) n f) : B ≤ G ∧ G < w.heap.size := World.ownsRow.lt h G rfl
theorem RowB.base {w : World} {B B' : Nat} {v : Value} {n : Nat} {f : Nat → Bool} (h : RowB w B v n f) (hb : B' ≤ B) : RowB w B' v n f := by
  obtain ⟨h3, h4⟩ := h
  refine ⟨h3, h4.imp id ?_⟩
  rintro ⟨g, c, cur, he, hg, hr⟩
  exact ⟨g, c, cur, he, by omega, hr⟩
/-- The two rows are made, in either order. -/
def Two (w : World) (n m : Nat) (u v : Value) (W : World) : Prop := ∃ G1 G2, u = .slice (some ⟨G1, 0, none⟩) n n ∧ v = .slice (some ⟨G2, 0, none⟩) m m ∧ RowB W w.heap.size (.slice (some ⟨G1, 0, none⟩) n n) n (fun _ => false) ∧ RowB W w.heap.size (.slice (some ⟨G2, 0, none⟩) m m) m (fun _ => false) ∧ G1 ≠ G2 ∧ Fr No w W
theorem Two.fst {w w1 w2 : World} {n m : Nat} (h1 : RowB w1 w.heap.size (.slice (some ⟨w.heap.size, 0, none⟩) n n) n (fun _ => false)) (f1 : Fr No w w1) (h2 : RowB w2 w1.heap.size (.slice (some ⟨w1.heap.size, 0, none⟩) m m) m (fun _ => false)) (f2 : Fr No w1 w2) : Two w n m (.slice (some ⟨w.heap.size, 0, none⟩) n n) (.slice (some ⟨w1.heap.size, 0, none⟩) m m) w2 :=
  ⟨_, _, rfl, rfl, h1.fr f2 id, h2.base f1.size, Nat.ne_of_lt h1.lt.2, f1.no f2⟩
theorem Two.snd {w w1 w2 : World} {n m : Nat} (h1 : RowB w1 w.heap.size (.slice (some ⟨w.heap.size, 0, none⟩) m m) m (fun _ => false)) (f1 : Fr No w w1) (h2 : RowB w2 w1.heap.size (.slice (some ⟨w1.heap.size, 0, none⟩) n n) n (fun _ => false)) (f2 : Fr No w1 w2) : Two w n m (.slice (some ⟨w1.heap.size, 0, none⟩) n n) (.slice (some ⟨w.heap.size, 0, none⟩) m m) w2 :=
  ⟨_, _, rfl, rfl, h2.base f1.size, h1.fr f2 id, Nat.ne_of_gt h1.lt.2, f1.no f2⟩
/-- What stands while the text is read: both automata's places. -/
structure ApS (L L1 : List NS) (l : List Nd) (A9 : Option Addr) (cap9 : Nat) (A12 : Option Addr) (cap12 : Nat) (A : Option Addr) (cap : Nat) (w : World) (x y : Value) (f g : Nat → Bool) (wi : World) : Prop where
  one : ∃ A c, x = .slice A L.length c
  two : ∃ A c, y = .slice A L1.length c
  bs1 : BoolsIn wi (fun k => k < wi.heap.size) x L.length f
  bs2 : BoolsIn wi (fun k => k < wi.heap.size) y L1.length g
  rep1 : Rep wi (fun k => k < wi.heap.size) (.slice A9 L.length cap9) (.sl 44 L.length (encSs L))
  rep2 : Rep wi (fun k => k < wi.heap.size) (.slice A12 L1.length cap12) (.sl 44 L1.length (encSs L1))
  list : NodesIn wi (fun _ => True) (.slice A l.length cap) l
  fr : Fr No w wi
theorem Rep.here {w w' : World} {S : Nat → Prop} {x : Value} {d : D} (h : Rep w S x d) (hf : Fr No w w') : Rep w' (fun k => k < w'.heap.size) x d := (h.frNo hf).sub fun _ _ h => h
theorem ApS.go {L L1 : List NS} {l : List Nd} {A9 A12 A : Option Addr} {cap9 cap12 cap : Nat} {w wi w' : World} {x y : Value} {f g : Nat → Bool} (h : ApS L L1 l A9 cap9 A12 cap12 A cap w x y f g wi) (hf : Fr No wi w') : ApS L L1 l A9 cap9 A12 cap12 A cap w x y f g w' :=
  ⟨h.one, h.two, h.bs1.here hf, h.bs2.here hf, h.rep1.here hf, h.rep2.here hf, h.list.frNo hf, h.fr.no hf⟩
theorem ApS.put {L L1 : List NS} {l : List Nd} {A9 A12 A : Option Addr} {cap9 cap12 cap : Nat} {w wi : World} {x y : Value} {f g f' g' : Nat → Bool} (h : ApS L L1 l A9 cap9 A12 cap12 A cap w x y f g wi) {A1 A2 : Option Addr} {c1 c2 : Nat} (h1 : BoolsIn wi (fun k => k < wi.heap.size) (.slice A1 L.length c1) L.length f') (h2 : BoolsIn wi (fun k => k < wi.heap.size) (.slice A2 L1.length c2) L1.length g') :
    ApS L L1 l A9 cap9 A12 cap12 A cap w (.slice A1 L.length c1) (.slice A2 L1.length c2) f' g' wi := ⟨⟨_, _, rfl⟩, ⟨_, _, rfl⟩, h1, h2, h.rep1, h.rep2, h.list, h.fr⟩
section
variable (l : List Nd) (A : Option Addr) (cap : Nat) (S : Nat → Prop) (s : ByteArray) (w : World)
set_option maxRecDepth 100000 in
set_option maxHeartbeats 8000000 in
theorem apt_few (hl : NodesIn w S (.slice A l.length cap) l) (hf : fewL l = false) : Calls Try.prog 5 #[.slice A l.length cap, .string s] w fun e w' => e = .returned (.bool true) ∧ Fr No w w' := by
  have Haw := hid (fun W : World => awake_c W)
  have hfw := fun W (hW : Fr No w W) => lfew_c l A cap S W (hl.frNo hW)
  rw [hf] at hfw
  go_enter Try.func5, Try.ntmps5
  go_wp2_with (first | (go_at_call 8; refine (Haw.out _).mono ?_; rintro e w1 ⟨rfl, hf1⟩; have hf01 : Fr No w w1 := hf1) |
    (go_at_call 9; refine (hfw _ hf1).mono ?_; rintro e w2 ⟨rfl, hf2⟩) |
    (go_at_call 8; refine (Haw.out _).mono ?_; rintro e w3 ⟨rfl, hf3⟩))
  go_ret
  exact ⟨rfl, (hf1.no hf2).no hf3⟩
set_option maxRecDepth 100000 in
set_option maxHeartbeats 8000000 in
theorem apt_long (hl : NodesIn w S (.slice A l.length cap) l) (hf : fewL l = true) (hs : 20 < s.size) : Calls Try.prog 5 #[.slice A l.length cap, .string s] w fun e w' => e = .returned (.bool true) ∧ Fr No w w' := by
  have Haw := hid (fun W : World => awake_c W)
  have hfw := fun W (hW : Fr No w W) => lfew_c l A cap S W (hl.frNo hW)
  rw [hf] at hfw
  have t1 : decide (20 < s.size) = true := decide_eq_true hs
  have t2 : decide ((20 : Int) < (s.size : Int)) = true := decide_eq_true (by omega)
  go_enter Try.func5, Try.ntmps5
  go_wp2_with (first | (go_at_call 8; refine (Haw.out _).mono ?_; rintro e w1 ⟨rfl, hf1⟩; have hf01 : Fr No w w1 := hf1) |
    (go_at_call 9; refine (hfw _ hf1).mono ?_; rintro e w2 ⟨rfl, hf2⟩) |
    (go_at_call 8; refine (Haw.out _).mono ?_; rintro e w3 ⟨rfl, hf3⟩))
  go_ret
  exact ⟨rfl, (hf1.no hf2).no hf3⟩
set_option maxRecDepth 100000 in
set_option maxHeartbeats 8000000 in
theorem apt_no (hl : NodesIn w S (.slice A l.length cap) l) (hf : fewL l = true) (hs : s.size ≤ 20) (hmy : mayL l = false) : Calls Try.prog 5 #[.slice A l.length cap, .string s] w fun e w' => e = .returned (.bool true) ∧ Fr No w w' := by
  have Haw := hid (fun W : World => awake_c W)
  have hfw := fun W (hW : Fr No w W) => lfew_c l A cap S W (hl.frNo hW)
  have hmay := fun W (hW : Fr No w W) => may_c l A cap S W (hl.frNo hW)
  rw [hf] at hfw
  rw [hmy] at hmay
  have t1 : decide (20 < s.size) = false := decide_eq_false (by omega)
  have t2 : decide ((20 : Int) < (s.size : Int)) = false := decide_eq_false (by omega)
  go_enter Try.func5, Try.ntmps5
  go_wp2_with (first | (go_at_call 8; refine (Haw.out _).mono ?_; rintro e w1 ⟨rfl, hf1⟩; have hf01 : Fr No w w1 := hf1) |
    (go_at_call 9; refine (hfw _ hf1).mono ?_; rintro e w2 ⟨rfl, hf2⟩) |
    (go_at_call 10; refine (hmay _ (hf1.no hf2)).mono ?_; rintro e w4 ⟨rfl, hf4⟩) |
    (go_at_call 8; refine (Haw.out _).mono ?_; rintro e w3 ⟨rfl, hf3⟩))
  go_ret
  exact ⟨rfl, ((hf1.no hf2).no hf4).no hf3⟩
set_option maxRecDepth 100000 in
set_option maxHeartbeats 16000000 in
theorem apt_main (hl : NodesIn w S (.slice A l.length cap) l) (hS : ∀ k, S k → k < w.heap.size) (hA : A = none → cap = 0) (hf : fewL l = true) (hs : s.size ≤ 20) (hmy : mayL l = true) : Calls Try.prog 5 #[.slice A l.length cap, .string s] w fun e w' => e = .returned (.bool true) ∧ Fr No w w' := by
  have Haw := hid (fun W : World => awake_c W)
  have hfw := fun W (hW : Fr No w W) => lfew_c l A cap S W (hl.frNo hW)
  have hmay := fun W (hW : Fr No w W) => may_c l A cap S W (hl.frNo hW)
  have hlen : l.length ≤ 20 := by
    unfold fewL at hf
    simp only [Bool.and_eq_true, decide_eq_true_eq] at hf
    exact hf.2.1
  have hall : allFew l = true := by
    unfold fewL at hf
    exact (Bool.and_eq_true _ _ ▸ hf).1
  have hcts := allFew_counts l hall
  rw [hf] at hfw
  rw [hmy] at hmay
  have hmy' := hmy
  unfold mayL at hmy'
  simp only [Bool.and_eq_true, decide_eq_true_eq] at hmy'
  obtain ⟨hap, hn1, hn8⟩ := hmy'
  have t1 : decide (20 < s.size) = false := decide_eq_false (by omega)
  have t2 : decide ((20 : Int) < (s.size : Int)) = false := decide_eq_false (by omega)
  go_enter Try.func5, Try.ntmps5
  go_wp2_with (first | (go_at_call 8; refine (Haw.out _).mono ?_; rintro e w1 ⟨rfl, hf1⟩; have hf01 : Fr No w w1 := hf1) |
    (go_at_call 9; refine (hfw _ hf1).mono ?_; rintro e w2 ⟨rfl, hf2⟩) |
    (go_at_call 10; refine (hmay _ (hf1.no hf2)).mono ?_; rintro e w4 ⟨rfl, hf4⟩) |
    (at_builtin; go_loud ((with_reducible refine at_call ?_); refine wpList_copy (S := fun k => k < w.heap.size) rfl (.tmp 36) (.tmp 37) rfl rfl rfl hA (by omega) (((hl.frNo ((hf1.no hf2).no hf4)).sub fun k hk _ => hS k hk)) (fun k hk => Nat.lt_of_lt_of_le hk ((hf1.no hf2).no hf4).size) ?_); intro A6 cap6 w6 hl6 hf6))
  have hF6 : Fr No w w6 := ((hf1.no hf2).no hf4).no hf6
  refine (build_free l A6 cap6 (fun k => k < w6.heap.size) w6 (hl6.sub fun k _ hk => hk) hn1 hn8 hap (fun k hk => hk) (by omega)).mono ?_
  rintro e w7 ⟨⟨a, rfl, ha⟩, hf7⟩
  obtain ⟨Aa, capa, haut⟩ := ha.open_
  have hF7 := hF6.no hf7
  have hNb : (nfaAll l).length < 4294967296 := by rw [nfaAll_len]; have := rulesLen_le l; omega
  have hstates := states_c w7 _ a (nfaAll l) l.length Aa capa haut hNb (nfaAll_eps l (by omega) hn8)
  have heach := nfaAll_each l
  have hoks : ∀ n ∈ l, okN n = true := fun n hn => by
    obtain ⟨j, hj⟩ := List.mem_iff_getElem?.1 hn
    exact okNs_get hj (okNs_plain l hap)
  obtain ⟨eps, hx0, hel, hbeg⟩ := begins l hoks s
  clear hfw hmay hf1 hf2 hf4 hf6 hF6 hl6 hf7 ha haut hf
  go_wp2_with (go_at_call 13; refine hstates.mono ?_; rintro e w8 ⟨⟨A9, cap9, rfl, hr8⟩, hf8⟩)
  have hF8 := hF7.no hf8
  have hl8 : NodesIn w8 (fun _ => True) (.slice A l.length cap) l := (hl.frNo hF8).sub fun _ _ _ => trivial
  have hr8' := hr8.sub (S' := fun _ => True) fun _ _ _ => trivial
  have Hall := hid hall
  have Hap := hid hap
  have Heach := hid heach
  have Hbeg := hid hbeg
  have Hoks := hid hoks
  have Hx0 := hid hx0
  have Hel := hid hel
  clear hl hstates hr8 hf8 hF7 hall hap heach hbeg hoks hx0 hel
  generalize hLL : nfaAll l = L at *
  clear hLL
  go_loopg [46] l.length (fun g i wr => ∃ j : Nat, j + g = l.length ∧ i = .int .i64 j ∧ Rep wr (fun _ => True) (.slice A9 L.length cap9) (.sl 44 L.length (encSs L)) ∧ NodesIn wr (fun _ => True) (.slice A l.length cap) l ∧ Fr No w wr)
  case atStart => exact ⟨0, by omega, rfl, hr8', hl8, hF8⟩
  case round =>
    obtain ⟨j, hj, rfl, hr, hlr, hF⟩ := hrel
    clear hr8' hl8 hF8
    cases gk with
    | zero =>
      have hd1 : decide (j < l.length) = false := decide_eq_false (by omega)
      have hge : l.length ≤ j := by omega
      go_wp2_with fail
      go_ret
      exact ⟨rfl, hF⟩
    | succ g =>
      obtain ⟨n', hn'⟩ : ∃ n', l[j]? = some n' := ⟨_, List.getElem?_eq_getElem (by omega)⟩
      have hjl : j < l.length := by omega
      have hd1 : decide (j < l.length) = true := decide_eq_true hjl
      have hjL : (j : Int) < (l.length : Int) := by omega
      have hipn := allPlain_get hn' Hap.out
      obtain ⟨bs, os, A', cap', rfl, hSs, hlts, hrng, hrep'⟩ := NodesIn.at_ hlr hn'
      rw [Nat.mul_comm 8 j] at hrng
      have hz := Blk.new wr 37 #[.int .i64 0, .int .u64 0, .int .u64 0, .int .u64 0, .int .u64 0, .int .i64 0, .int .i64 0, .slice none 0 0]
      have hFz : Fr No wr _ := (Fr.refl No wr).alloc (.cells #[.int .i64 0, .int .u64 0, .int .u64 0, .int .u64 0, .int .u64 0, .int .i64 0, .int .i64 0, .slice none 0 0] 37)
      have hct := allFew_get hn' Hall.out
      go_wp2_with (first | ((with_reducible refine at_load _ ?_); refine wpList_load_rng (cs := nodeA n' A' cap') rfl rfl rfl hrng Try.underlying37 rfl infoNode ?_) |
        ((with_reducible refine at_store _ ?_); refine wpList_store_blk (cs := nodeA n' A' cap') rfl rfl rfl rfl hz rfl infoNode (nodeA_one _ _ _) ?_; intro W hW hfW hWs; replace hWs := hid hWs) |
        ((with_reducible refine at_load _ ?_); refine wpList_load_blk (cs := nodeA n' A' cap') rfl rfl rfl hW Try.underlying37 rfl infoNode ?_) |
        ((with_reducible refine at_build ?_); refine wpList_oneNode rfl 52 rfl rfl ?_))
      have hFW : Fr No wr W := hFz.callAt hfW (Nat.le_refl _)
      have hsz9 : (W.alloc (.cells (nodeA n' A' cap') 37)).heap.size = W.heap.size + 1 := World.size_alloc _ _
      refine (build_free [n'] (some ⟨W.heap.size, 0, none⟩) 1 (fun k => k < W.heap.size + 1) _ ((one_nodes (hrep'.frNo hFW)).sub fun k _ hk => by rw [hsz9] at hk; exact hk) (Nat.le_refl 1) (show 1 ≤ 8 by decide) (by unfold allPlain; rw [hipn]; rfl) (fun k hk => by rw [hsz9]; exact hk) (by simp only [ncounts]; omega)).mono ?_
      rintro e w10 ⟨⟨bp, rfl, hb⟩, hf10⟩
      obtain ⟨Ab, capb, hbut⟩ := hb.open_
      have hF10 : Fr No wr w10 := (hFW.alloc _).no hf10
      have hokn := Hoks.out n' (List.mem_of_getElem? hn')
      have hN1 : (nfaAll [n']).length < 4294967296 := by rw [nfaAll_len]; have := rulesLen_le [n']; simp only [ncounts, List.length_cons, List.length_nil] at this; omega
      have hstates := states_c w10 _ bp (nfaAll [n']) [n'].length Ab capb hbut hN1 (nfaAll_eps [n'] (by simp only [ncounts]; omega) (show 1 ≤ 8 by decide))
      obtain ⟨bj, hbj⟩ : ∃ b, eps[j]? = some b := ⟨_, List.getElem?_eq_getElem (by rw [Hel.out]; exact hjl)⟩
      have Hrule := hid (Hbeg.out j bj n' hn' hbj)
      have Heach1 := hid (nfaAll_each [n'])
      have Hone : Hid (∀ {jj : Nat} {f : Nat → Bool} {z : Int}, InOf (nfaAll [n']) s 0 0 jj f → AccOf (nfaAll [n']) f z → (z = 0 ↔ Mt s n' 0 jj)) := hid (fun hi hz => acc_one hokn hi hz)
      have hL1pos : 0 < (nfaAll [n']).length := by rw [nfaAll_len]; omega
      have Hj := hid hj
      have Hbj := hid hbj
      have Hn' := hid hn'
      clear hb hbut hW hfW hrng hrep' hFz hz hn' hj hbj hFW hsz9 hf10 hipn hct
      generalize hLL1 : nfaAll [n'] = L1 at *
      clear hLL1
      go_upto_region 12 with (go_at_call 13; refine hstates.mono ?_; rintro e w11 ⟨⟨A12, cap12, rfl, hr12⟩, hf11⟩)
      have hF11 := hF10.no hf11
      have hr11 := hr.frNo hF11
      have hr12' := hr12.sub (S' := fun k => k < w11.heap.size) fun k _ hk => hk
      have hr11' := hr11.sub (S' := fun k => k < w11.heap.size) fun k _ hk => hk
      clear hstates hr12 hr11 hF10 hf11
      go_cut [13, 14] (fun s13 s14 wx => Two w11.drew L.length L1.length s13 s14 wx)
      case first =>
        refine wp_region_tail 7 (fun _ => True) (by kernel_rfl) (by kernel_rfl) ?_
        simp only [List.take_succ_cons, List.take_zero, List.drop_succ_cons, List.drop_zero]
        have hS0 : (fun _ : World => True) w11.drew := trivial
        refine Rt.take (i := 0) (v := (.slice A9 L.length cap9)) rfl (by kernel_rfl) (fun _ _ _ h => h) (.inl ⟨rfl, fun w hSw => by (try dsimp only at hSw); go_simp⟩) (by assumption) ?_
        try simp only [Act.put, List.getElem_toArray, List.getElem_cons_succ, List.getElem_cons_zero, List.setIfInBounds_toArray, List.set_cons_zero, List.set_cons_succ]
        refine Rt.take (i := 1) (v := (.int .i64 (L.length : Int))) rfl (by kernel_rfl) (fun _ _ _ h => h) (.inl ⟨rfl, fun w hSw => by (try dsimp only at hSw); go_simp⟩) (by assumption) ?_
        try simp only [Act.put, List.getElem_toArray, List.getElem_cons_succ, List.getElem_cons_zero, List.setIfInBounds_toArray, List.set_cons_zero, List.set_cons_succ]
        refine Rt.take (i := 3) (v := (.slice A12 L1.length cap12)) rfl (by kernel_rfl) (fun _ _ _ h => h) (.inl ⟨rfl, fun w hSw => by (try dsimp only at hSw); go_simp⟩) (by assumption) ?_
        try simp only [Act.put, List.getElem_toArray, List.getElem_cons_succ, List.getElem_cons_zero, List.setIfInBounds_toArray, List.set_cons_zero, List.set_cons_succ]
        refine Rt.take (i := 4) (v := (.int .i64 (L1.length : Int))) rfl (by kernel_rfl) (fun _ _ _ h => h) (.inl ⟨rfl, fun w hSw => by (try dsimp only at hSw); go_simp⟩) (by assumption) ?_
        try simp only [Act.put, List.getElem_toArray, List.getElem_cons_succ, List.getElem_cons_zero, List.setIfInBounds_toArray, List.set_cons_zero, List.set_cons_succ]
        refine Rt.two (i := 2) (j := 5) rfl rfl (by kernel_rfl) ?_ ?_
        · intro K2 hK2
          rw [if_pos (by kernel_rfl)]
          refine wp_makeB 66 rfl (n := L.length) rfl hNb ?_
          intro w12 hg1 hfa
          try simp only [Act.put, List.getElem_toArray, List.getElem_cons_succ, List.getElem_cons_zero, List.setIfInBounds_toArray, List.set_cons_zero, List.set_cons_succ]
          refine hK2.out _ _ trivial ?_
          clear hK2 K2 hS0
          have hS1 : (fun _ : World => True) w12 := trivial
          refine Rt.take (i := 6) (v := (.slice (some ⟨w11.drew.heap.size, 0, none⟩) L.length L.length)) rfl (by kernel_rfl) (fun _ _ _ h => h) (.inl ⟨rfl, fun w hSw => by (try dsimp only at hSw); go_simp⟩) (by assumption) ?_
          try simp only [Act.put, List.getElem_toArray, List.getElem_cons_succ, List.getElem_cons_zero, List.setIfInBounds_toArray, List.set_cons_zero, List.set_cons_succ]
          refine Rt.one (i := 5) rfl (by kernel_rfl) ?_
          intro K2 hK2
          rw [if_pos (by kernel_rfl)]
          refine wp_makeB 69 rfl (n := L1.length) rfl hN1 ?_
          intro w13 hg2 hfb
          try simp only [Act.put, List.getElem_toArray, List.getElem_cons_succ, List.getElem_cons_zero, List.setIfInBounds_toArray, List.set_cons_zero, List.set_cons_succ]
          refine hK2.out _ _ trivial ?_
          clear hK2 K2
          refine Rt.done (by kernel_rfl) ?_
          go_wp2_with fail
          go_meet
          case rel => exact Two.fst hg1 hfa hg2 hfb
        · intro K2 hK2
          rw [if_pos (by kernel_rfl)]
          refine wp_makeB 69 rfl (n := L1.length) rfl hN1 ?_
          intro w12 hg1 hfa
          try simp only [Act.put, List.getElem_toArray, List.getElem_cons_succ, List.getElem_cons_zero, List.setIfInBounds_toArray, List.set_cons_zero, List.set_cons_succ]
          refine hK2.out _ _ trivial ?_
          clear hK2 K2 hS0
          have hS1 : (fun _ : World => True) w12 := trivial
          refine Rt.one (i := 2) rfl (by kernel_rfl) ?_
          intro K2 hK2
          rw [if_pos (by kernel_rfl)]
          refine wp_makeB 66 rfl (n := L.length) rfl hNb ?_
          intro w13 hg2 hfb
          try simp only [Act.put, List.getElem_toArray, List.getElem_cons_succ, List.getElem_cons_zero, List.setIfInBounds_toArray, List.set_cons_zero, List.set_cons_succ]
          refine hK2.out _ _ trivial ?_
          clear hK2 K2 hS1
          have hS2 : (fun _ : World => True) w13 := trivial
          refine Rt.take (i := 6) (v := (.slice (some ⟨w12.heap.size, 0, none⟩) L.length L.length)) rfl (by kernel_rfl) (fun _ _ _ h => h) (.inl ⟨rfl, fun w hSw => by (try dsimp only at hSw); go_simp⟩) (by assumption) ?_
          try simp only [Act.put, List.getElem_toArray, List.getElem_cons_succ, List.getElem_cons_zero, List.setIfInBounds_toArray, List.set_cons_zero, List.set_cons_succ]
          refine Rt.done (by kernel_rfl) ?_
          go_wp2_with fail
          go_meet
          case rel => exact Two.snd hg1 hfa hg2 hfb
      case rest =>
        obtain ⟨G1, G2, rfl, rfl, hg1, hg2, hne, hfx⟩ := hcut
        have hfx' : Fr No w11 wc := hfx.undrew
        have hl1 : w11.heap.size ≤ G1 := hg1.lt.1
        have hl2 : w11.heap.size ≤ G2 := hg2.lt.1
        have hrA := hr11'.frNo hfx'
        have hrB := hr12'.frNo hfx'
        obtain ⟨b0, off0, A0, cap0, hA9, hSb, hltb, hrng, hrep0⟩ := states_at hrA Hx0.out
        subst hA9
        have hk0 := st_eps hrng
        obtain ⟨bE, offE, rfl, hSE, hltE, hcE⟩ := ints_at (l := eps) hrep0 Hbj.out
        have hbL : bj < L.length := by
          obtain ⟨_, _, _, h1⟩ := Heach.out _ (List.mem_of_getElem? Hx0.out)
          exact h1 bj (List.mem_of_getElem? Hbj.out)
        have hLpos : 0 < L.length := by omega
        have hLp : (0 : Int) < (L.length : Int) := by omega
        have hbL' : (bj : Int) < (L.length : Int) := by omega
        have hL1p : (0 : Int) < (L1.length : Int) := by omega
        have hjE : (j : Int) < ((over eps).eps.length : Int) := by show (j : Int) < (eps.length : Int); rw [Hel.out]; omega
        have hc1 := hg1.cell hbL
        have hz1 := World.ownsRow.frozenAt hg1 bj
        have hfs1 : Fr (At G1) wc (wc.setCell ⟨G1, bj, none⟩ (.bool true)) := (Fr.refl (At G1) wc).setB bj (.bool true)
        have hg2a := hg2.fr hfs1 (fun e => hne e.symm)
        have hc2 := hg2a.cell hL1pos
        have hz2 := World.ownsRow.frozenAt hg2a 0
        have hr1 := hg1.set bj
        have hfs2 : Fr (At G2) (wc.setCell ⟨G1, bj, none⟩ (.bool true)) ((wc.setCell ⟨G1, bj, none⟩ (.bool true)).setCell ⟨G2, 0, none⟩ (.bool true)) := (Fr.refl (At G2) _).setB 0 (.bool true)
        have hr1b := hr1.fr hfs2 (fun e => hne e)
        have hr2b := hg2a.set 0
        have hrA2 := (hrA.fr (S' := fun k => k < w11.heap.size) hfs1 fun k hk _ => ⟨fun e => by have e : k = G1 := e; omega, hk⟩).fr (S' := fun k => k < w11.heap.size) hfs2 fun k hk _ => ⟨fun e => by have e : k = G2 := e; omega, hk⟩
        have hrB2 := (hrB.fr (S' := fun k => k < w11.heap.size) hfs1 fun k hk _ => ⟨fun e => by have e : k = G1 := e; omega, hk⟩).fr (S' := fun k => k < w11.heap.size) hfs2 fun k hk _ => ⟨fun e => by have e : k = G2 := e; omega, hk⟩
        have hF13 : Fr No w11 ((wc.setCell ⟨G1, bj, none⟩ (.bool true)).setCell ⟨G2, 0, none⟩ (.bool true)) := (hfx'.callAt hfs1 hl1).callAt hfs2 hl2
        have hL11 := hlr.frNo ((hF11.call hF13 fun _ _ h => h))
        have hFW := hF.no (hF11.no hF13)
        clear hr1 hg1 hg2 hg2a hfs1 hfs2 hrA hrB hfx hfx' hr11' hr12' hltb hSb hrng hrep0 hSE hltE hF11 hF hlr hF13
        go_upto_region 14 with fail
        have hb1 : BoolsIn _ (fun k => k < ((wc.setCell ⟨G1, bj, none⟩ (.bool true)).setCell ⟨G2, 0, none⟩ (.bool true)).heap.size) _ L.length (setF (fun _ => false) bj) := (hr1b.bools (S := fun _ => True) fun _ _ => trivial).sub fun _ _ h => h
        have hb2 : BoolsIn _ (fun k => k < ((wc.setCell ⟨G1, bj, none⟩ (.bool true)).setCell ⟨G2, 0, none⟩ (.bool true)).heap.size) _ L1.length (setF (fun _ => false) 0) := (hr2b.bools (S := fun _ => True) fun _ _ => trivial).sub fun _ _ h => h
        have hrA3 := hrA2.sub (S' := fun k => k < ((wc.setCell ⟨G1, bj, none⟩ (.bool true)).setCell ⟨G2, 0, none⟩ (.bool true)).heap.size) fun _ _ h => h
        have hrB3 := hrB2.sub (S' := fun k => k < ((wc.setCell ⟨G1, bj, none⟩ (.bool true)).setCell ⟨G2, 0, none⟩ (.bool true)).heap.size) fun _ _ h => h
        clear hr1b hr2b hrA2 hrB2 hc1 hz1 hc2 hz2 hcE hk0
        generalize hWW : (wc.setCell ⟨G1, bj, none⟩ (.bool true)).setCell ⟨G2, 0, none⟩ (.bool true) = W0 at *
        clear hWW
        have hcl1 := close_c L _ (some ⟨b0, off0, none⟩) cap9 _ _ _ _ W0 hrA3 (fun _ h => h) hb1 hLpos hNb (fun x hx => (Heach.out x hx).2.2.2)
        go_wp2_with fail
        refine hcl1.mono ?_
        rintro e w14 ⟨⟨A15, cap15, f1, rfl, hf1, hcf1⟩, hfr14⟩
        have hb2' := hb2.here hfr14
        have hcl2 := close_c L1 _ A12 cap12 _ _ _ _ w14 (hrB3.here hfr14) (fun _ h => h) hb2' hL1pos hN1 (fun x hx => (Heach1.out x hx).2.2.2)
        clear hcl1
        go_wp2_with fail
        refine hcl2.mono ?_
        rintro e w15 ⟨⟨A16, cap16, g1, rfl, hg1, hcg1⟩, hfr15⟩
        clear hcl2
        have hfr := hfr14.no hfr15
        have hA0 : ApS L L1 l (some ⟨b0, off0, none⟩) cap9 A12 cap12 (some ⟨bs, os, none⟩) cap w (.slice A15 L.length cap15) (.slice A16 L1.length cap16) f1 g1 w15 := ⟨⟨_, _, rfl⟩, ⟨_, _, rfl⟩, hf1.here hfr15, hg1.here (Fr.refl No w15), hrA3.here hfr, hrB3.here hfr, hL11.frNo hfr, hFW.no hfr⟩
        have hI1 : InOf L s bj 0 0 f1 := inOf_start hbL (fun q _ => by unfold setF; by_cases h : q = bj <;> simp [h]) hcf1
        have hI2 : InOf L1 s 0 0 0 g1 := inOf_start hL1pos (fun q _ => by unfold setF; by_cases h : q = 0 <;> simp [h]) hcg1
        clear hfr hfr14 hfr15 hf1 hg1 hrA3 hrB3 hL11 hFW hb1 hb2 hb2' hcf1 hcg1 hr
        go_wp2_with fail
        go_loopg [13, 14, 90] s.size (fun g2 x y t wi => ∃ (k : Nat) (f g' : Nat → Bool), k + g2 = s.size ∧ t = .int .i64 k ∧ ApS L L1 l (some ⟨b0, off0, none⟩) cap9 A12 cap12 (some ⟨bs, os, none⟩) cap w x y f g' wi ∧ InOf L s bj 0 k f ∧ InOf L1 s 0 0 k g')
        case atStart => exact ⟨0, f1, g1, by omega, rfl, hA0, hI1, hI2⟩
        case round =>
          obtain ⟨k, f, g', hk, rfl, hC, hJ1, hJ2⟩ := hrel
          clear hA0 hI1 hI2
          obtain ⟨A13, c13, rfl⟩ := hC.one
          obtain ⟨A14, c14, rfl⟩ := hC.two
          cases gk with
          | zero =>
            have hd3 : decide (k < s.size) = false := decide_eq_false (by omega)
            have hks : k = s.size := by omega
            rw [hks] at hJ1 hJ2
            clear hks
            have hac1 := accept_c L _ (some ⟨b0, off0, none⟩) cap9 _ _ _ _ wr hC.rep1 hC.bs1 hLpos hNb
            have hac2 := accept_c L1 _ A12 cap12 _ _ _ _ wr hC.rep2 hC.bs2 hL1pos hN1
            have hFF := hC.fr
            have hl9 := hC.list
            have hr9 := hC.rep1.sub (S' := fun _ => True) fun _ _ _ => trivial
            clear hC
            go_wp2_with fail
            refine hac1.mono ?_
            rintro e wq ⟨⟨z1, rfl, hz1⟩, hwq⟩
            replace hwq := hwq.symm
            subst hwq
            clear hac1
            obtain ⟨ha1, ha2⟩ := acc_rule Hrule.out hJ1 hz1
            by_cases hm : Mt s n' 0 s.size
            · obtain rfl := ha2.2 hm
              have hd5 : decide ((0 : Int) ≤ (j : Int)) = true := decide_eq_true (by omega)
              clear ha1 ha2 hz1
              go_wp2_with fail
              refine hac2.mono ?_
              rintro e wq ⟨⟨z2, rfl, hz2⟩, hwq⟩
              replace hwq := hwq.symm
              subst hwq
              obtain rfl := (Hone.out hJ2 hz2).2 hm
              clear hac2 hz2
              go_wp2_with fail
              go_roundg g
              case measure => omega
              case rel => exact ⟨j + 1, by have := Hj.out; omega, (by first | rfl | exact wrap_succ (by omega)), hr9, hl9, hFF⟩
            · have hz1n : z1 < 0 := by
                rcases Int.lt_or_le z1 0 with h | h
                · exact h
                · exact absurd (ha2.1 (ha1 h)) hm
              have hd5 : decide ((0 : Int) ≤ z1) = false := decide_eq_false (by omega)
              have hd6 : (z1 == (j : Int)) = false := beq_eq_false_iff_ne.2 (by omega)
              clear ha1 ha2 hz1
              go_wp2_with fail
              refine hac2.mono ?_
              rintro e wq ⟨⟨z2, rfl, hz2⟩, hwq⟩
              replace hwq := hwq.symm
              subst hwq
              have hz2n : ¬ z2 = 0 := fun h => hm ((Hone.out hJ2 hz2).1 h)
              have hd7 : (z2 == 0) = false := beq_eq_false_iff_ne.2 hz2n
              clear hac2 hz2
              go_wp2_with fail
              go_roundg g
              case measure => omega
              case rel => exact ⟨j + 1, by have := Hj.out; omega, (by first | rfl | exact wrap_succ (by omega)), hr9, hl9, hFF⟩
          | succ g2 =>
            have hks : k < s.size := by omega
            have hd3 : decide (k < s.size) = true := decide_eq_true hks
            go_upto_region 18 with fail
            have hCd := hC.go ((Fr.refl No wr).drew)
            have hbt : s[k].toNat < 256 := s[k].toNat_lt
            have hm1 := move_c L _ (some ⟨b0, off0, none⟩) cap9 _ _ _ _ s[k].toNat hbt wr.drew hCd.rep1 (fun _ h => h) hCd.bs1 hLpos hNb (fun x hx => ⟨(Heach.out x hx).2.1, (Heach.out x hx).2.2.1⟩)
            have hwc : IntKind.i64.wrap (s[k].toNat : Int) = (s[k].toNat : Int) := by rw [IntKind.wrap_i64]; omega
            refine wp_region_tail 19 (fun _ => True) (by kernel_rfl) (by kernel_rfl) ?_
            simp only [List.take_succ_cons, List.take_zero, List.drop_succ_cons, List.drop_zero]
            have hS0 : (fun _ : World => True) wr.drew := trivial
            refine Rt.take (i := 0) (v := (.slice (some ⟨b0, off0, none⟩) L.length cap9)) rfl (by kernel_rfl) (fun _ _ _ h => h) (.inl ⟨rfl, fun w hSw => by (try dsimp only at hSw); go_simp⟩) (by assumption) ?_
            try simp only [Act.put, List.getElem_toArray, List.getElem_cons_succ, List.getElem_cons_zero, List.setIfInBounds_toArray, List.set_cons_zero, List.set_cons_succ]
            refine Rt.take (i := 1) (v := (.slice (some ⟨b0, off0, none⟩) L.length cap9)) rfl (by kernel_rfl) (fun _ _ _ h => h) (.inl ⟨rfl, fun w hSw => by (try dsimp only at hSw); go_simp⟩) (by assumption) ?_
            try simp only [Act.put, List.getElem_toArray, List.getElem_cons_succ, List.getElem_cons_zero, List.setIfInBounds_toArray, List.set_cons_zero, List.set_cons_succ]
            refine Rt.take (i := 2) (v := (.slice A13 L.length c13)) rfl (by kernel_rfl) (fun _ _ _ h => h) (.inl ⟨rfl, fun w hSw => by (try dsimp only at hSw); go_simp⟩) (by assumption) ?_
            try simp only [Act.put, List.getElem_toArray, List.getElem_cons_succ, List.getElem_cons_zero, List.setIfInBounds_toArray, List.set_cons_zero, List.set_cons_succ]
            refine Rt.take (i := 3) (v := (.string s)) rfl (by kernel_rfl) (fun _ _ _ h => h) (.inl ⟨rfl, fun w hSw => by (try dsimp only at hSw); go_simp⟩) (by assumption) ?_
            try simp only [Act.put, List.getElem_toArray, List.getElem_cons_succ, List.getElem_cons_zero, List.setIfInBounds_toArray, List.set_cons_zero, List.set_cons_succ]
            refine Rt.take (i := 4) (v := (.int .i64 k)) rfl (by kernel_rfl) (fun _ _ _ h => h) (.inl ⟨rfl, fun w hSw => by (try dsimp only at hSw); go_simp⟩) (by assumption) ?_
            try simp only [Act.put, List.getElem_toArray, List.getElem_cons_succ, List.getElem_cons_zero, List.setIfInBounds_toArray, List.set_cons_zero, List.set_cons_succ]
            refine Rt.take (i := 5) (v := (.int .u8 (s[k].toNat : Int))) rfl (by kernel_rfl) (fun _ _ _ h => h) (.inl ⟨rfl, fun w hSw => by (try dsimp only at hSw); go_simp⟩) (by assumption) ?_
            try simp only [Act.put, List.getElem_toArray, List.getElem_cons_succ, List.getElem_cons_zero, List.setIfInBounds_toArray, List.set_cons_zero, List.set_cons_succ]
            refine Rt.take (i := 6) (v := (.int .i64 (s[k].toNat : Int))) rfl (by kernel_rfl) (fun _ _ _ h => h) (.inl ⟨rfl, fun w hSw => by (try dsimp only at hSw); go_simp⟩) (by assumption) ?_
            try simp only [Act.put, List.getElem_toArray, List.getElem_cons_succ, List.getElem_cons_zero, List.setIfInBounds_toArray, List.set_cons_zero, List.set_cons_succ]
            refine Rt.take (i := 9) (v := (.slice A12 L1.length cap12)) rfl (by kernel_rfl) (fun _ _ _ h => h) (.inl ⟨rfl, fun w hSw => by (try dsimp only at hSw); go_simp⟩) (by assumption) ?_
            try simp only [Act.put, List.getElem_toArray, List.getElem_cons_succ, List.getElem_cons_zero, List.setIfInBounds_toArray, List.set_cons_zero, List.set_cons_succ]
            refine Rt.take (i := 10) (v := (.slice A12 L1.length cap12)) rfl (by kernel_rfl) (fun _ _ _ h => h) (.inl ⟨rfl, fun w hSw => by (try dsimp only at hSw); go_simp⟩) (by assumption) ?_
            try simp only [Act.put, List.getElem_toArray, List.getElem_cons_succ, List.getElem_cons_zero, List.setIfInBounds_toArray, List.set_cons_zero, List.set_cons_succ]
            refine Rt.take (i := 11) (v := (.slice A14 L1.length c14)) rfl (by kernel_rfl) (fun _ _ _ h => h) (.inl ⟨rfl, fun w hSw => by (try dsimp only at hSw); go_simp⟩) (by assumption) ?_
            try simp only [Act.put, List.getElem_toArray, List.getElem_cons_succ, List.getElem_cons_zero, List.setIfInBounds_toArray, List.set_cons_zero, List.set_cons_succ]
            refine Rt.take (i := 12) (v := (.string s)) rfl (by kernel_rfl) (fun _ _ _ h => h) (.inl ⟨rfl, fun w hSw => by (try dsimp only at hSw); go_simp⟩) (by assumption) ?_
            try simp only [Act.put, List.getElem_toArray, List.getElem_cons_succ, List.getElem_cons_zero, List.setIfInBounds_toArray, List.set_cons_zero, List.set_cons_succ]
            refine Rt.take (i := 13) (v := (.int .i64 k)) rfl (by kernel_rfl) (fun _ _ _ h => h) (.inl ⟨rfl, fun w hSw => by (try dsimp only at hSw); go_simp⟩) (by assumption) ?_
            try simp only [Act.put, List.getElem_toArray, List.getElem_cons_succ, List.getElem_cons_zero, List.setIfInBounds_toArray, List.set_cons_zero, List.set_cons_succ]
            refine Rt.take (i := 14) (v := (.int .u8 (s[k].toNat : Int))) rfl (by kernel_rfl) (fun _ _ _ h => h) (.inl ⟨rfl, fun w hSw => by (try dsimp only at hSw); go_simp⟩) (by assumption) ?_
            try simp only [Act.put, List.getElem_toArray, List.getElem_cons_succ, List.getElem_cons_zero, List.setIfInBounds_toArray, List.set_cons_zero, List.set_cons_succ]
            refine Rt.take (i := 15) (v := (.int .i64 (s[k].toNat : Int))) rfl (by kernel_rfl) (fun _ _ _ h => h) (.inl ⟨rfl, fun w hSw => by (try dsimp only at hSw); go_simp⟩) (by assumption) ?_
            try simp only [Act.put, List.getElem_toArray, List.getElem_cons_succ, List.getElem_cons_zero, List.setIfInBounds_toArray, List.set_cons_zero, List.set_cons_succ]
            refine Rt.one (i := 7) rfl (by kernel_rfl) (fun K hK => ?_)
            rw [if_pos (by kernel_rfl)]
            go_simp
            refine hm1.mono ?_
            rintro e w16 ⟨⟨A17, c17, f2, rfl, hb17, hmv1⟩, hf16⟩
            have hC16 := hCd.go hf16
            have hcl1 := close_c L _ (some ⟨b0, off0, none⟩) cap9 _ _ _ _ w16 hC16.rep1 (fun _ h => h) (hb17.here (Fr.refl No w16)) hLpos hNb (fun x hx => (Heach.out x hx).2.2.2)
            refine hK.out _ _ trivial ?_
            clear hK K hm1 hb17
            refine Rt.one (i := 8) rfl (by kernel_rfl) (fun K hK => ?_)
            rw [if_pos (by kernel_rfl)]
            go_simp
            refine hcl1.mono ?_
            rintro e w17 ⟨⟨A18, c18, f3, rfl, hb18, hcv1⟩, hf17⟩
            have hC17 := hC16.go hf17
            have hm2 := move_c L1 _ A12 cap12 _ _ _ _ s[k].toNat hbt w17 hC17.rep2 (fun _ h => h) hC17.bs2 hL1pos hN1 (fun x hx => ⟨(Heach1.out x hx).2.1, (Heach1.out x hx).2.2.1⟩)
            refine hK.out _ _ trivial ?_
            clear hK K hcl1 hf16 hf17
            refine Rt.one (i := 16) rfl (by kernel_rfl) (fun K hK => ?_)
            rw [if_pos (by kernel_rfl)]
            go_simp
            refine hm2.mono ?_
            rintro e w18 ⟨⟨A19, c19, g3, rfl, hb19, hmv2⟩, hf18⟩
            have hC18 := hC17.go hf18
            have hcl2 := close_c L1 _ A12 cap12 _ _ _ _ w18 hC18.rep2 (fun _ h => h) (hb19.here (Fr.refl No w18)) hL1pos hN1 (fun x hx => (Heach1.out x hx).2.2.2)
            refine hK.out _ _ trivial ?_
            clear hK K hm2 hb19
            refine Rt.one (i := 17) rfl (by kernel_rfl) (fun K hK => ?_)
            rw [if_pos (by kernel_rfl)]
            go_simp
            refine hcl2.mono ?_
            rintro e w19 ⟨⟨A20, c20, g4, rfl, hb20, hcv2⟩, hf19⟩
            have hC19 := (hC18.go hf19).put ((hb18.here hf18).here hf19) (hb20.here (Fr.refl No w19))
            refine hK.out _ _ trivial ?_
            clear hK K hcl2
            have hS1 : (fun _ : World => True) w19 := trivial
            refine Rt.take (i := 18) (v := (.slice A18 L.length c18)) rfl (by kernel_rfl) (fun _ _ _ h => h) (.inl ⟨rfl, fun w hSw => by (try dsimp only at hSw); go_simp⟩) (by assumption) ?_
            try simp only [Act.put, List.getElem_toArray, List.getElem_cons_succ, List.getElem_cons_zero, List.setIfInBounds_toArray, List.set_cons_zero, List.set_cons_succ]
            refine Rt.done (by kernel_rfl) ?_
            go_wp2_with fail
            have hI1 := inOf_step (fun x hx => (Heach.out x hx).2.2.1) hJ1 hks (Nat.zero_le _) hmv1 hcv1
            have hI2 := inOf_step (fun x hx => (Heach1.out x hx).2.2.1) hJ2 hks (Nat.zero_le _) hmv2 hcv2
            go_roundg g2
            case measure => omega
            case rel => exact ⟨k + 1, f3, g4, by omega, (by first | rfl | exact wrap_succ (by omega)), hC19, hI1, hI2⟩
theorem lawApt_c (hl : NodesIn w S (.slice A l.length cap) l) (hS : ∀ k, S k → k < w.heap.size) (hA : A = none → cap = 0) : Calls Try.prog 5 #[.slice A l.length cap, .string s] w fun e w' => e = .returned (.bool true) ∧ Fr No w w' := by
  cases hf : fewL l with
  | false => exact apt_few l A cap S s w hl hf
  | true =>
    rcases Nat.lt_or_ge 20 s.size with h | h
    · exact apt_long l A cap S s w hl hf h
    · cases hm : mayL l with
      | false => exact apt_no l A cap S s w hl hf h hm
      | true => exact apt_main l A cap S s w hl hS hA hf h hm
end
end Go.Proofs.Ytldmdlkjpdfonaa
