/- The walk of the law NfaBuilds: true for all expressions, whatever the meter. -/
import Derived.Test.YtldmdlkjpdfonaaCp
import Derived.Test.YtldmdlkjpdfonaaRt
import Derived.Test.YtldmdlkjpdfonaaRow
namespace Go.Proofs.Ytldmdlkjpdfonaa
set_option linter.unusedVariables false
set_option linter.unusedSimpArgs false
open Go Go.RowKit

theorem infoRSt : (Try.prog.info? 44).map (·.size) = some 7 := by kernel_rfl
/-- What stands through the loops. -/
structure BlS (g : Nat) (m : Mtr) (a : Nat) (L : List NS) (rules : Nat) (Aa : Option Addr) (capa : Nat) (A9 : Option Addr) (cap9 : Nat) (Sa S9 : Nat → Prop) (w W : World) : Prop where
  auto : AutoA W Sa a L rules Aa capa
  me : Me W g m
  rep : Rep W S9 (.slice A9 L.length cap9) (.sl 44 L.length (encSs L))
  fr : Fr No w W
theorem BlS.no {g : Nat} {m : Mtr} {a : Nat} {L : List NS} {rules : Nat} {Aa : Option Addr} {capa : Nat} {A9 : Option Addr} {cap9 : Nat} {Sa S9 : Nat → Prop} {w W W' : World} (h : BlS g m a L rules Aa capa A9 cap9 Sa S9 w W) (hf : Fr No W W') : BlS g m a L rules Aa capa A9 cap9 Sa S9 w W' :=
  ⟨h.auto.no hf, h.me.fr hf id, h.rep.frNo hf, h.fr.no hf⟩
theorem BlS.at_ {g : Nat} {m : Mtr} {a : Nat} {L : List NS} {rules : Nat} {Aa : Option Addr} {capa : Nat} {A9 : Option Addr} {cap9 : Nat} {Sa S9 : Nat → Prop} {w W W' : World} {G : Nat} (h : BlS g m a L rules Aa capa A9 cap9 Sa S9 w W) (hf : Fr (At G) W W') (h1 : ∀ k, Sa k → k ≠ G) (h2 : g ≠ G) (h3 : ∀ k, S9 k → k ≠ G) (h4 : w.heap.size ≤ G) : BlS g m a L rules Aa capa A9 cap9 Sa S9 w W' :=
  ⟨h.auto.fr hf fun k hk _ => h1 k hk, h.me.fr hf h2, h.rep.fr hf fun k hk _ => ⟨h3 k hk, hk⟩, h.fr.callAt hf h4⟩
theorem rulesLen_plain : ∀ l : List Nd, allPlain l = true → nfaRulesLen l = l.length + stNs l
  | [], _ => rfl
  | a :: l, h => by
    unfold allPlain at h
    rw [Bool.and_eq_true] at h
    simp only [nfaRulesLen, List.length_cons, stNs]
    rw [stN_plain a h.1, rulesLen_plain l h.2]
    omega
section
variable (l : List Nd) (A : Option Addr) (cap : Nat) (S : Nat → Prop) (cells steps : Int) (w : World)
set_option maxRecDepth 100000 in
set_option maxHeartbeats 8000000 in
theorem bld_few (hl : NodesIn w S (.slice A l.length cap) l) (hf : fewL l = false) : Calls Try.prog 7 #[.slice A l.length cap, .int .i64 cells, .int .i64 steps] w fun e w' => e = .returned (.bool true) ∧ Fr No w w' := by
  have Haw := hid (fun W : World => awake_c W)
  have hfw := fun W (hW : Fr No w W) => lfew_c l A cap S W (hl.frNo hW)
  rw [hf] at hfw
  go_enter Try.func7, Try.ntmps7
  go_wp2_with (first | (go_at_call 8; refine (Haw.out _).mono ?_; rintro e w1 ⟨rfl, hf1⟩; have hf01 : Fr No w w1 := hf1) |
    (go_at_call 9; refine (hfw _ hf1).mono ?_; rintro e w2 ⟨rfl, hf2⟩) |
    (go_at_call 8; refine (Haw.out _).mono ?_; rintro e w3 ⟨rfl, hf3⟩))
  go_ret
  exact ⟨rfl, (hf1.no hf2).no hf3⟩
set_option maxRecDepth 100000 in
set_option maxHeartbeats 8000000 in
theorem bld_no (hl : NodesIn w S (.slice A l.length cap) l) (hS : ∀ k, S k → k < w.heap.size) (hA : A = none → cap = 0) (hf : fewL l = true) (hmy : mayL l = false) : Calls Try.prog 7 #[.slice A l.length cap, .int .i64 cells, .int .i64 steps] w fun e w' => e = .returned (.bool true) ∧ Fr No w w' := by
  have Haw := hid (fun W : World => awake_c W)
  have hfw := fun W (hW : Fr No w W) => lfew_c l A cap S W (hl.frNo hW)
  rw [hf] at hfw
  have hlen : l.length ≤ 20 := by
    unfold fewL at hf
    simp only [Bool.and_eq_true, decide_eq_true_eq] at hf
    exact hf.2.1
  have hall : allFew l = true := by
    unfold fewL at hf
    exact (Bool.and_eq_true _ _ ▸ hf).1
  have hcts := allFew_counts l hall
  have hfit := betw_fits cells steps
  have hmay := fun W (hW : Fr No w W) => may_c l A cap S W (hl.frNo hW)
  have hnew := fun W => new_c W cells steps
  generalize betw cells 1048576 = C at *
  generalize betw steps 1073741824 = D at *
  go_enter Try.func7, Try.ntmps7
  go_wp2_with (first | (go_at_call 8; refine (Haw.out _).mono ?_; rintro e w1 ⟨rfl, hf1⟩; have hf01 : Fr No w w1 := hf1) |
    (go_at_call 9; refine (hfw _ hf1).mono ?_; rintro e w2 ⟨rfl, hf2⟩) |
    (go_at_call 26; refine (hnew _).mono ?_; rintro e w3 ⟨rfl, hm3, hf3⟩) |
    (go_at_call 27; refine (cells_c _ _ _ hm3).mono ?_; rintro e w4 ⟨rfl, hf4⟩) |
    (go_at_call 28; refine (steps_c _ _ _ (hm3.fr hf4 id)).mono ?_; rintro e w5 ⟨rfl, hf5⟩) |
    (at_builtin; go_loud ((with_reducible refine at_call ?_); refine wpList_copy (S := fun k => k < w.heap.size) rfl (.tmp 51) (.tmp 52) rfl rfl rfl hA (by omega) (((hl.frNo ((((hf1.no hf2).no hf3).no hf4).no hf5)).sub fun k hk _ => hS k hk)) (fun k hk => Nat.lt_of_lt_of_le hk ((((hf1.no hf2).no hf3).no hf4).no hf5).size) ?_); intro A6 cap6 w6 hl6 hf6))
  have hF6 : Fr No w w6 := ((((hf1.no hf2).no hf3).no hf4).no hf5).no hf6
  have hm6 := ((hm3.fr hf4 id).fr hf5 id).fr hf6 id
  have hs2 := (hf1.no hf2).size
  have hs3 := hm3.lt
  have hs36 := ((hf4.no hf5).no hf6).size
  have hl6' := hl6.sub (S' := fun k => (k < w.heap.size ∨ w5.heap.size ≤ k) ∧ k < w6.heap.size) fun k hk hl => ⟨hk, hl⟩
  have hs35 := (hf4.no hf5).size
  refine (build_arg _ l A6 cap6 _ w6 hl6 (by
    intro h
    unfold mayL at hmy
    rw [h.2.2, decide_eq_true h.1, decide_eq_true h.2.1] at hmy
    cases hmy)).mono ?_
  rintro e w7 ⟨rfl, hf7⟩
  have hm7 := hm6.fr hf7 id
  rw [hmy] at hmay
  have hF7 := hF6.no hf7
  clear hm3 hm6 hf1 hf2 hf3 hf4 hf5 hf6 hl6 hl6' hfw hl
  go_wp2_with (first | (go_at_call 27; refine (cells_c _ _ _ hm7).mono ?_; rintro e w8 ⟨rfl, hf8⟩) |
    (go_at_call 10; refine (hmay _ (hF7.no hf8)).mono ?_; rintro e w9 ⟨rfl, hf9⟩))
  go_ret
  exact ⟨rfl, (hF7.no hf8).no hf9⟩
set_option maxRecDepth 100000 in
set_option maxHeartbeats 8000000 in
theorem bld_full (hl : NodesIn w S (.slice A l.length cap) l) (hS : ∀ k, S k → k < w.heap.size) (hA : A = none → cap = 0) (hf : fewL l = true) (hmy : mayL l = true) (hfull : (betw cells 1048576 < (nfaAll l).length ∧ betw cells 1048576 ≤ betw steps 1073741824) ∨ betw steps 1073741824 < (nfaAll l).length) : Calls Try.prog 7 #[.slice A l.length cap, .int .i64 cells, .int .i64 steps] w fun e w' => e = .returned (.bool true) ∧ Fr No w w' := by
  have Haw := hid (fun W : World => awake_c W)
  have hfw := fun W (hW : Fr No w W) => lfew_c l A cap S W (hl.frNo hW)
  rw [hf] at hfw
  have hlen : l.length ≤ 20 := by
    unfold fewL at hf
    simp only [Bool.and_eq_true, decide_eq_true_eq] at hf
    exact hf.2.1
  have hall : allFew l = true := by
    unfold fewL at hf
    exact (Bool.and_eq_true _ _ ▸ hf).1
  have hcts := allFew_counts l hall
  have hfit := betw_fits cells steps
  have hmay := fun W (hW : Fr No w W) => may_c l A cap S W (hl.frNo hW)
  have hnew := fun W => new_c W cells steps
  generalize betw cells 1048576 = C at *
  generalize betw steps 1073741824 = D at *
  go_enter Try.func7, Try.ntmps7
  go_wp2_with (first | (go_at_call 8; refine (Haw.out _).mono ?_; rintro e w1 ⟨rfl, hf1⟩; have hf01 : Fr No w w1 := hf1) |
    (go_at_call 9; refine (hfw _ hf1).mono ?_; rintro e w2 ⟨rfl, hf2⟩) |
    (go_at_call 26; refine (hnew _).mono ?_; rintro e w3 ⟨rfl, hm3, hf3⟩) |
    (go_at_call 27; refine (cells_c _ _ _ hm3).mono ?_; rintro e w4 ⟨rfl, hf4⟩) |
    (go_at_call 28; refine (steps_c _ _ _ (hm3.fr hf4 id)).mono ?_; rintro e w5 ⟨rfl, hf5⟩) |
    (at_builtin; go_loud ((with_reducible refine at_call ?_); refine wpList_copy (S := fun k => k < w.heap.size) rfl (.tmp 51) (.tmp 52) rfl rfl rfl hA (by omega) (((hl.frNo ((((hf1.no hf2).no hf3).no hf4).no hf5)).sub fun k hk _ => hS k hk)) (fun k hk => Nat.lt_of_lt_of_le hk ((((hf1.no hf2).no hf3).no hf4).no hf5).size) ?_); intro A6 cap6 w6 hl6 hf6))
  have hF6 : Fr No w w6 := ((((hf1.no hf2).no hf3).no hf4).no hf5).no hf6
  have hm6 := ((hm3.fr hf4 id).fr hf5 id).fr hf6 id
  have hs2 := (hf1.no hf2).size
  have hs3 := hm3.lt
  have hs36 := ((hf4.no hf5).no hf6).size
  have hl6' := hl6.sub (S' := fun k => (k < w.heap.size ∨ w5.heap.size ≤ k) ∧ k < w6.heap.size) fun k hk hl => ⟨hk, hl⟩
  have hs35 := (hf4.no hf5).size
  have hmy' := hmy
  unfold mayL at hmy'
  simp only [Bool.and_eq_true, decide_eq_true_eq] at hmy'
  obtain ⟨hap, hn1, hn8⟩ := hmy'
  have hnl : (nfaAll l).length = 1 + l.length + stNs l := by rw [nfaAll_len, rulesLen_plain l hap]; omega
  rw [hmy] at hmay
  have hrl := fun W (hW : Fr No w W) => rlen_c l A cap S W (hl.frNo hW) hall hlen
  rw [← hnl] at hrl
  refine (build_meter l A6 cap6 _ w6 w2.heap.size _ hm6 hfit hl6' hn1 hn8 hap (fun k hk => ⟨hk.2, by omega⟩) (by omega)).mono ?_
  rintro e w7 ⟨m7, hm7, hf7, hfit7, hc7, hs7, hcase⟩
  have hF7 : Fr No w w7 := hF6.call hf7 fun k hk e => by have e : k = w2.heap.size := e; omega
  simp only [] at hc7 hs7 hcase
  have hres : e = .returned (.tuple #[.pointer none, .int .i64 (if C < (nfaAll l).length ∧ C ≤ D then 3 else 4)]) ∧ m7.used = 0 := by
    obtain ⟨u1, u2, u3, u4, u5, u6⟩ := hfit7
    rcases hcase with ⟨_, h1, h2⟩ | ⟨k, er, he, hk, hu, hd, h3⟩
    · exfalso; omega
    · refine ⟨?_, by omega⟩
      rw [he]
      rcases h3 with ⟨h3, rfl⟩ | ⟨h3, h4, rfl⟩
      · rw [if_pos (by omega)]
      · rw [if_neg (by omega)]
  obtain ⟨rfl, hu7⟩ := hres
  generalize (nfaAll l).length = N at *
  have hcl := cells_c _ _ _ hm7
  rw [hu7, hc7] at hcl
  generalize m7.most = mo at *
  clear hm3 hm6 hf1 hf2 hf3 hf4 hf5 hf6 hl6 hl6' hfw hl hf7 hcase hm7 hfit7 hnl hs7 hc7 hu7 hfit
  by_cases h1 : C < (N : Int)
  · have t1 : decide (C < (N : Int)) = true := decide_eq_true h1
    by_cases h2 : C ≤ D
    · have t2 : decide (C ≤ D) = true := decide_eq_true h2
      rw [if_pos ⟨h1, h2⟩]
      go_wp2_with (first | (go_at_call 27; refine hcl.mono ?_; rintro e w8 ⟨rfl, hf8⟩) |
        (go_at_call 10; refine (hmay _ (hF7.no hf8)).mono ?_; rintro e w9 ⟨rfl, hf9⟩) |
        (go_at_call 29; refine (hrl _ ((hF7.no hf8).no hf9)).mono ?_; rintro e w10 ⟨rfl, hf10⟩))
      go_ret
      exact ⟨rfl, ((hF7.no hf8).no hf9).no hf10⟩
    · have t2 : decide (C ≤ D) = false := decide_eq_false h2
      have t3 : decide (D < (N : Int)) = true := decide_eq_true (by omega)
      rw [if_neg (by omega)]
      go_wp2_with (first | (go_at_call 27; refine hcl.mono ?_; rintro e w8 ⟨rfl, hf8⟩) |
        (go_at_call 10; refine (hmay _ (hF7.no hf8)).mono ?_; rintro e w9 ⟨rfl, hf9⟩) |
        (go_at_call 29; refine (hrl _ ((hF7.no hf8).no hf9)).mono ?_; rintro e w10 ⟨rfl, hf10⟩))
      go_ret
      exact ⟨rfl, ((hF7.no hf8).no hf9).no hf10⟩
  · have t1 : decide (C < (N : Int)) = false := decide_eq_false h1
    have t3 : decide (D < (N : Int)) = true := decide_eq_true (by omega)
    rw [if_neg (by omega)]
    go_wp2_with (first | (go_at_call 27; refine hcl.mono ?_; rintro e w8 ⟨rfl, hf8⟩) |
      (go_at_call 10; refine (hmay _ (hF7.no hf8)).mono ?_; rintro e w9 ⟨rfl, hf9⟩) |
      (go_at_call 29; refine (hrl _ ((hF7.no hf8).no hf9)).mono ?_; rintro e w10 ⟨rfl, hf10⟩))
    go_ret
    exact ⟨rfl, ((hF7.no hf8).no hf9).no hf10⟩
set_option maxRecDepth 100000 in
set_option maxHeartbeats 16000000 in
theorem bld_ok (hl : NodesIn w S (.slice A l.length cap) l) (hS : ∀ k, S k → k < w.heap.size) (hA : A = none → cap = 0) (hf : fewL l = true) (hmy : mayL l = true) (hfull : ¬ ((betw cells 1048576 < (nfaAll l).length ∧ betw cells 1048576 ≤ betw steps 1073741824) ∨ betw steps 1073741824 < (nfaAll l).length)) : Calls Try.prog 7 #[.slice A l.length cap, .int .i64 cells, .int .i64 steps] w fun e w' => e = .returned (.bool true) ∧ Fr No w w' := by
  have Haw := hid (fun W : World => awake_c W)
  have hfw := fun W (hW : Fr No w W) => lfew_c l A cap S W (hl.frNo hW)
  rw [hf] at hfw
  have hlen : l.length ≤ 20 := by
    unfold fewL at hf
    simp only [Bool.and_eq_true, decide_eq_true_eq] at hf
    exact hf.2.1
  have hall : allFew l = true := by
    unfold fewL at hf
    exact (Bool.and_eq_true _ _ ▸ hf).1
  have hcts := allFew_counts l hall
  have hfit := betw_fits cells steps
  have hmay := fun W (hW : Fr No w W) => may_c l A cap S W (hl.frNo hW)
  have hnew := fun W => new_c W cells steps
  generalize betw cells 1048576 = C at *
  generalize betw steps 1073741824 = D at *
  go_enter Try.func7, Try.ntmps7
  go_wp2_with (first | (go_at_call 8; refine (Haw.out _).mono ?_; rintro e w1 ⟨rfl, hf1⟩; have hf01 : Fr No w w1 := hf1) |
    (go_at_call 9; refine (hfw _ hf1).mono ?_; rintro e w2 ⟨rfl, hf2⟩) |
    (go_at_call 26; refine (hnew _).mono ?_; rintro e w3 ⟨rfl, hm3, hf3⟩) |
    (go_at_call 27; refine (cells_c _ _ _ hm3).mono ?_; rintro e w4 ⟨rfl, hf4⟩) |
    (go_at_call 28; refine (steps_c _ _ _ (hm3.fr hf4 id)).mono ?_; rintro e w5 ⟨rfl, hf5⟩) |
    (at_builtin; go_loud ((with_reducible refine at_call ?_); refine wpList_copy (S := fun k => k < w.heap.size) rfl (.tmp 51) (.tmp 52) rfl rfl rfl hA (by omega) (((hl.frNo ((((hf1.no hf2).no hf3).no hf4).no hf5)).sub fun k hk _ => hS k hk)) (fun k hk => Nat.lt_of_lt_of_le hk ((((hf1.no hf2).no hf3).no hf4).no hf5).size) ?_); intro A6 cap6 w6 hl6 hf6))
  have hF6 : Fr No w w6 := ((((hf1.no hf2).no hf3).no hf4).no hf5).no hf6
  have hm6 := ((hm3.fr hf4 id).fr hf5 id).fr hf6 id
  have hs2 := (hf1.no hf2).size
  have hs3 := hm3.lt
  have hs36 := ((hf4.no hf5).no hf6).size
  have hl6' := hl6.sub (S' := fun k => (k < w.heap.size ∨ w5.heap.size ≤ k) ∧ k < w6.heap.size) fun k hk hl => ⟨hk, hl⟩
  have hs35 := (hf4.no hf5).size
  have hmy' := hmy
  unfold mayL at hmy'
  simp only [Bool.and_eq_true, decide_eq_true_eq] at hmy'
  obtain ⟨hap, hn1, hn8⟩ := hmy'
  have hnl : (nfaAll l).length = 1 + l.length + stNs l := by rw [nfaAll_len, rulesLen_plain l hap]; omega
  rw [hmy] at hmay
  have hrl := fun W (hW : Fr No w W) => rlen_c l A cap S W (hl.frNo hW) hall hlen
  rw [← hnl] at hrl
  refine (build_meter l A6 cap6 _ w6 w2.heap.size _ hm6 hfit hl6' hn1 hn8 hap (fun k hk => ⟨hk.2, by omega⟩) (by omega)).mono ?_
  rintro e w7 ⟨m7, hm7, hf7, hfit7, hc7, hs7, hcase⟩
  have hF7 : Fr No w w7 := hF6.call hf7 fun k hk e => by have e : k = w2.heap.size := e; omega
  simp only [] at hc7 hs7 hcase
  have hres : (∃ a, e = .returned (.tuple #[.pointer (some ⟨a, 0, none⟩), .int .i64 0]) ∧ AutoIn w7 (fun k => w6.heap.size ≤ k) a (nfaAll l) l.length) ∧ m7.used = (nfaAll l).length ∧ m7.done = (nfaAll l).length := by
    obtain ⟨u1, u2, u3, u4, u5, u6⟩ := hfit7
    rcases hcase with ⟨h0, h1, h2⟩ | ⟨k, er, he, hk, hu, hd, h3⟩
    · exact ⟨h0, by omega, by omega⟩
    · exfalso
      rcases h3 with ⟨h3, rfl⟩ | ⟨h3, h4, rfl⟩ <;> omega
  obtain ⟨⟨a, rfl, ha⟩, hu7, hd7⟩ := hres
  obtain ⟨Aa, capa, haut0⟩ := ha.open_
  have haut : AutoA w7 (fun k => w6.heap.size ≤ k ∧ k < w7.heap.size) a (nfaAll l) l.length Aa capa := ⟨haut0.blk, haut0.rep.sub fun k hk hl => ⟨hk, hl⟩, haut0.here, haut0.blk.lt⟩
  clear haut0
  have hct2 : ncounts l < 2147483648 := by omega
  have heps := nfaAll_eps l hct2 hn8
  have heach := nfaAll_each l
  obtain ⟨x0, hx0, hx0e⟩ := nfaAll_first l
  have hcnt := cntA_all l
  have hNb : (nfaAll l).length < 4294967296 := by have := stNs_le l; omega
  have hs56 := hf6.size
  have hga : w2.heap.size ≠ a := by have := haut.here.1; omega
  have t1 : decide (C < ((nfaAll l).length : Int)) = false := decide_eq_false (by have := hfit7.2.1; omega)
  have t3 : decide (D < ((nfaAll l).length : Int)) = false := decide_eq_false (by have := hfit7.2.2.2.2.1; omega)
  have hcl := cells_c _ _ _ hm7
  rw [hu7, hc7] at hcl
  have hl9 : 9 < 10 := by decide
  generalize hLL : nfaAll l = L at *
  clear hcase ha hct2 hfit hm3 hm6 hf1 hf2 hf3 hf4 hf5 hf6 hl6 hl6' hfw hl hf7 hnl hl9 hcts hall hf
  go_wp2_with (first | (go_at_call 27; refine hcl.mono ?_; rintro e w8 ⟨rfl, hf8⟩) |
    (go_at_call 10; refine (hmay _ (hF7.no hf8)).mono ?_; rintro e w9 ⟨rfl, hf9⟩) |
    (go_at_call 29; refine (hrl _ ((hF7.no hf8).no hf9)).mono ?_; rintro e w10 ⟨rfl, hf10⟩))
  have hf710 := (hf8.no hf9).no hf10
  have hs710 := hf710.size
  have haut10 := haut.no hf710
  have hm10 := hm7.fr hf710 id
  have hF10 := hF7.no hf710
  have hstates := states_c w10 _ a L l.length Aa capa haut10 hNb heps
  clear hcl hmay hrl haut hm7 hF7 hf8 hf9 hf10 hf710
  obtain ⟨ti, ti1, ti2, ti3, ti4⟩ := info_parts infoInt3
  go_wp2_with (first | (go_at_call 13; refine hstates.mono ?_; rintro e w11 ⟨⟨A9, cap9, rfl, hr11⟩, hf11⟩) |
    (at_make; go_loud (refine wpList_make_full w11 rfl (.tmp 114) (.tmp 114) 42 rfl w10.heap.size 3 ti _ 1 Try.underlying42 ti1 ti2 ti3 .i64 .i64 (l.length : Int) (l.length : Int) l.length rfl rfl rfl rfl (by rw [ti4]; omega) (by simp only [maxLen]; omega) hf11.size ?_); intro w12 ho12 hg12))
  have hr11' := hr11.sub (S' := fun k => w10.heap.size ≤ k ∧ k < w11.heap.size) fun k hk hl => ⟨hk, hl⟩
  have hz : (Value.int .i64 0).cells = #[.int .i64 0] := rfl
  rw [hz, Nat.mul_one, toList_madeCells_one, rowV_rep] at ho12
  have ho : w12.ownsRow w10.heap.size 3 1 (.slice (some ⟨w11.heap.size, 0, none⟩) l.length l.length) l.length (rowV l.length fun k => .int .i64 ((cntA (L.take 0) k : Nat) : Int)) := ho12
  have hf12 : Fr No w11 w12 := (Fr.ofGrown hg12).mono fun _ _ h => by cases h
  have hK : BlS w2.heap.size m7 a L l.length Aa capa A9 cap9 (fun k => w6.heap.size ≤ k ∧ k < w7.heap.size) (fun k => w10.heap.size ≤ k ∧ k < w11.heap.size) w w12 := ⟨(haut10.no hf11).no hf12, (hm10.fr hf11 id).fr hf12 id, hr11'.frNo hf12, (hF10.no hf11).no hf12⟩
  have hG1 : w7.heap.size ≤ w11.heap.size := Nat.le_trans hs710 hf11.size
  have hG2 : w2.heap.size < w11.heap.size := (hm10.fr hf11 id).lt
  have hG3 : w.heap.size ≤ w11.heap.size := (hF10.no hf11).size
  have hG4 : w10.heap.size ≤ w11.heap.size := hf11.size
  clear haut10 hm10 hF10 hstates hr11 hf11 ho12 hz hg12 hf12 hr11'
  generalize hGG : w11.heap.size = G at *
  go_loopg [118] L.length (fun g i wr => ∃ j : Nat, j + g = L.length ∧ i = .int .i64 j ∧ BlS w2.heap.size m7 a L l.length Aa capa A9 cap9 (fun k => w6.heap.size ≤ k ∧ k < w7.heap.size) (fun k => w10.heap.size ≤ k ∧ k < G) w wr ∧ wr.ownsRow w10.heap.size 3 1 (.slice (some ⟨G, 0, none⟩) l.length l.length) l.length (rowV l.length fun k => .int .i64 ((cntA (L.take j) k : Nat) : Int)))
  case atStart => exact ⟨0, by omega, rfl, hK, ho⟩
  case round =>
    obtain ⟨j, hj, rfl, hB, hrow⟩ := hrel
    clear hK ho
    cases gk with
    | zero =>
      have hd1 : decide (j < L.length) = false := decide_eq_false (by omega)
      obtain rfl : j = L.length := by omega
      rw [List.take_length] at hrow
      have hone : rowV l.length (fun k => Value.int .i64 ((cntA L k : Nat) : Int)) = rowV l.length (fun _ => Value.int .i64 1) := rowV_congr fun i hi => by rw [hcnt i hi]; rfl
      rw [hone] at hrow
      have hright := fun W (hW : Fr No wr W) => right_c L 44 l.length A9 cap9 _ W (hB.rep.frNo hW) (fun x hx => by
        obtain ⟨h1, h2, h3, h4⟩ := heach x hx
        refine ⟨h2, h3, ?_, ?_, h4⟩
        · rcases h1 with ⟨k, _, h, _⟩ | ⟨h, _⟩ <;> omega
        · rcases h1 with ⟨k, _, h, _⟩ | ⟨h, _⟩ <;> omega) (by have := (List.getElem?_eq_some_iff.1 hx0).1; omega)
      have hLpos : 0 < L.length := (List.getElem?_eq_some_iff.1 hx0).1
      have hLpos' : (0 : Int) < (L.length : Int) := by omega
      obtain ⟨b0, off0, A0, cap0, rfl, hS0, hlt0, hrng0, hrep0⟩ := states_at hB.rep hx0
      have hk0 := st_eps hrng0
      rw [Nat.mul_zero, Nat.add_zero, hx0e] at hk0
      have hsteps := steps_c _ m7 wr hB.me
      rw [hd7, hs7] at hsteps
      have hln := fun W (hW : Fr No wr W) => len_c W _ a L l.length Aa capa (hB.auto.no hW)
      have hru := fun W (hW : Fr No wr W) => rules_c W _ a L l.length Aa capa (hB.auto.no hW)
      have hdr := fun W (hW : Fr No wr W) => drop_c W _ a L l.length Aa capa w2.heap.size m7 (hB.auto.no hW) (hB.me.fr hW id) hfit7 (by omega)
      have hg1 : m7.give L.length = (true, { m7 with used := m7.used - L.length }) := by unfold Mtr.give; rw [if_neg (by omega)]
      rw [hg1] at hdr
      have hfit8 : Mtr.fits { m7 with used := m7.used - L.length } := by have := Mtr.give_fits hfit7 L.length (by omega); rw [hg1] at this; exact this
      have hu8 : m7.used - (L.length : Int) = 0 := by omega
      generalize hM : ({ m7 with used := m7.used - L.length } : Mtr) = M at *
      have hMu : M.used = 0 := by rw [← hM]; exact hu8
      have hdr2 := fun W (hA : AutoA W (fun k => k = a) a [] 0 none 0) (hM : Me W w2.heap.size M) => drop_c W _ a [] 0 none 0 w2.heap.size M hA hM hfit8 (by decide)
      have hg2 : M.give ((([] : List NS).length : Nat) : Int) = (true, { M with used := M.used - 0 }) := by unfold Mtr.give; rw [if_neg (by simp; omega)]; rfl
      rw [hg2] at hdr2
      generalize hM2 : ({ M with used := M.used - 0 } : Mtr) = M2 at *
      have hcl := fun W (h : Me W w2.heap.size M2) => cells_c _ M2 W h
      have hM2u : M2.used = 0 := by rw [← hM2]; show M.used - 0 = 0; omega
      rw [hM2u] at hcl
      have hln2 := fun W (hA : AutoA W (fun k => k = a) a [] 0 none 0) => len_c W _ a [] 0 none 0 hA
      have h00 : ((([] : List NS).length : Nat) : Int) = 0 := rfl
      rw [h00] at hln2
      have haw6 : w6.heap.size ≤ a := hB.auto.here.1
      have hBfr := hB.fr
      have hxl : l.length < 4294967296 := by omega
      clear hone hcnt heach hj hrng0 hrep0 hx0 hx0e hg1 hg2 hM hM2 hM2u hMu hu8 hfit8 hfit7 hap hnew hB
      go_wp2_with fail
      go_loopg [160] l.length (fun g i w2 => ∃ q : Nat, q + g = l.length ∧ i = .int .i64 q ∧ w2 = wr)
      case atStart => exact ⟨0, by omega, rfl, rfl⟩
      case round =>
        obtain ⟨q, hq, rfl, hwr⟩ := hrel
        replace hwr := hwr.symm
        subst hwr
        cases gk with
        | zero =>
          have hd4 : decide (q < l.length) = false := decide_eq_false (by omega)
          clear hrow
          go_wp2_with (first | (go_at_call 28; refine hsteps.mono ?_; rintro e w20 ⟨rfl, hf20⟩; have ck0 := hf20.cell (p := ⟨b0, off0 + 6, none⟩) id hk0) |
            (go_at_call 18; refine (hln _ hf20).mono ?_; rintro e w21 ⟨rfl, hw21⟩; replace hw21 := hw21.symm; subst hw21) |
            (go_at_call 25; refine (hru _ hf20).mono ?_; rintro e w22 ⟨rfl, hw22⟩; replace hw22 := hw22.symm; subst hw22) |
            (go_at_call 30; refine (hright _ hf20).mono ?_; rintro e w23 ⟨rfl, hw23⟩; replace hw23 := hw23.symm; subst hw23) |
            (go_at_call 23; refine (hdr _ hf20).mono ?_; rintro e w24 ⟨rfl, hm24, ha24, hf24⟩) |
            (go_at_call 23; refine (hdr2 _ ha24 hm24).mono ?_; rintro e w25 ⟨rfl, hm25, ha25, hf25⟩) |
            (go_at_call 27; refine (hcl _ hm25).mono ?_; rintro e w26 ⟨rfl, hf26⟩) |
            (go_at_call 18; refine (hln2 _ (ha25.no hf26)).mono ?_; rintro e w27 ⟨rfl, hw27⟩; replace hw27 := hw27.symm; subst hw27))
          go_ret
          refine ⟨rfl, (((hBfr.no hf20).call hf24 fun k hk h => ?_).call hf25 fun k hk h => ?_).no hf26⟩
          · rcases h with h | h <;> omega
          · rcases h with h | h <;> omega
        | succ g' =>
          have hd4 : decide (q < l.length) = true := decide_eq_true (by omega)
          have hqL : (q : Int) < (l.length : Int) := by omega
          have hq1 : wr.cell? ⟨G, q, none⟩ = some (.int .i64 1) := by rw [hrow.cellAt q (by omega), rowV_get _ (by omega)]
          have Hq := hid hq
          clear hq
          go_wp2_with fail
          go_roundg g'
          case measure => omega
          case rel => exact ⟨q + 1, by have := Hq.out; omega, (by first | rfl | exact wrap_succ (by have := Hq.out; omega)), rfl⟩
    | succ g =>
      obtain ⟨x, hxj⟩ : ∃ x, L[j]? = some x := ⟨_, List.getElem?_eq_getElem (by omega)⟩
      have hd1 : decide (j < L.length) = true := decide_eq_true (by omega)
      have hjL : (j : Int) < (L.length : Int) := by omega
      obtain ⟨hea, _, _, _⟩ := heach x (List.mem_of_getElem? hxj)
      obtain ⟨b, off, A', cap', rfl, hSb, hltb, hrng, hrep'⟩ := states_at hB.rep hxj
      rw [Nat.mul_comm 7 j] at hrng
      have Htk := hid (fun k => cntA_take hxj k)
      have hz := Blk.new wr 44 #[.int .u64 0, .int .u64 0, .int .u64 0, .int .u64 0, .int .i64 0, .int .i64 0, .slice none 0 0]
      have hFz : Fr No wr _ := (Fr.refl No wr).alloc (.cells #[.int .u64 0, .int .u64 0, .int .u64 0, .int .u64 0, .int .i64 0, .int .i64 0, .slice none 0 0] 44)
      have hrz := hrow.alloc (.cells #[.int .u64 0, .int .u64 0, .int .u64 0, .int .u64 0, .int .i64 0, .int .i64 0, .slice none 0 0] 44)
      have hGlt : G < wr.heap.size := (hrow.lt G rfl).2
      have Hj := hid hj
      have Hcnt := hid hcnt
      have Heach := hid heach
      have hjN : j < 4294967296 := by omega
      clear hxj hj hrep' hcnt heach
      rcases hea with ⟨k, hk, hacc, hto, hep⟩ | ⟨hacc, hto⟩
      · have hrk : ∀ W : World, Fr (At wr.heap.size) (wr.alloc (.cells #[.int .u64 0, .int .u64 0, .int .u64 0, .int .u64 0, .int .i64 0, .int .i64 0, .slice none 0 0] 44)) W → W.ownsRow w10.heap.size 3 1 (.slice (some ⟨G, 0, none⟩) l.length l.length) l.length (rowV l.length fun k => .int .i64 ((cntA (L.take j) k : Nat) : Int)) := fun W hW => own_fr hrz hW fun q hq e => by
          have e1 : q = wr.heap.size := e
          have e2 : G = q := Option.some.inj hq
          omega
        have hkc : ∀ W : World, W.ownsRow w10.heap.size 3 1 (.slice (some ⟨G, 0, none⟩) l.length l.length) l.length (rowV l.length fun k => .int .i64 ((cntA (L.take j) k : Nat) : Int)) → W.cell? ⟨G, k, none⟩ = some (.int .i64 ((cntA (L.take j) k : Nat) : Int)) := fun W hW => by rw [hW.cellAt k (by omega), rowV_get _ hk]
        have hcb := cntA_le (L.take j) k
        rw [List.length_take] at hcb
        have hcb2 : cntA (L.take j) k < 4294967296 := by omega
        have hd2 : decide (k < l.length) = true := decide_eq_true hk
        have hkL : (k : Int) < (l.length : Int) := by omega
        have Hset := hid (rowV_set (n := l.length) (q := k) (fun k => Value.int .i64 ((cntA (L.take j) k : Nat) : Int)) (.int .i64 ((cntA (L.take j) k : Int) + 1)))
        have hw : wrap64 ((cntA (L.take j) k : Int) + 1) = (cntA (L.take j) k : Int) + 1 := by unfold wrap64; omega
        go_wp2_with (first | ((with_reducible refine at_load _ ?_); refine wpList_load_rng (cs := stA x A' cap') rfl rfl rfl hrng Try.underlying44 rfl infoRSt ?_) |
          ((with_reducible refine at_store _ ?_); refine wpList_store_blk (cs := stA x A' cap') rfl rfl rfl rfl hz rfl infoRSt (stA_one _ _ _) ?_; intro W hW hfW _; have c4 : W.cell? ⟨wr.heap.size, 4, none⟩ = some (.int .i64 (-1)) := (hW.cell 4).trans (by rw [← hto]; rfl); have c5 : W.cell? ⟨wr.heap.size, 5, none⟩ = some (.int .i64 k) := (hW.cell 5).trans (by rw [← hacc]; rfl); have c6 : W.cell? ⟨wr.heap.size, 6, none⟩ = some (.slice A' 0 cap') := (hW.cell 6).trans (by rw [← show x.eps.length = 0 by rw [hep]; rfl]; rfl); have ck := hkc _ (hrk _ hfW); have zk := (hrk _ hfW).frozenAt k))
        go_roundg g
        case measure => omega
        case rel =>
          have hFW : Fr No wr W := hFz.callAt hfW (Nat.le_refl _)
          have hrW := hrk _ hfW
          obtain ⟨hst, _⟩ := hrW.stored k (.int .i64 ((cntA (L.take j) k : Int) + 1))
          rw [Hset.out] at hst
          refine ⟨j + 1, by have := Hj.out; omega, (by first | rfl | exact wrap_succ (by omega)), (hB.no hFW).at_ ((Fr.refl (At G) W).setB k _) (fun q hq e => by have := hq.2; omega) (by omega) (fun q hq e => by have := hq.2; omega) hG3, ?_⟩
          have he : rowV l.length (fun q => Value.int .i64 ((cntA (L.take (j + 1)) q : Nat) : Int)) = rowV l.length (fun i => if i = k then .int .i64 ((cntA (L.take j) k : Int) + 1) else .int .i64 ((cntA (L.take j) i : Nat) : Int)) := rowV_congr fun i hi => by
            rw [Htk.out i, hacc]
            by_cases hik : i = k
            · subst hik; rw [if_pos rfl, if_pos rfl]; rfl
            · rw [if_neg hik, if_neg (by omega), Nat.add_zero]
          rw [he]; exact hst
      · have hrk : ∀ W : World, Fr (At wr.heap.size) (wr.alloc (.cells #[.int .u64 0, .int .u64 0, .int .u64 0, .int .u64 0, .int .i64 0, .int .i64 0, .slice none 0 0] 44)) W → W.ownsRow w10.heap.size 3 1 (.slice (some ⟨G, 0, none⟩) l.length l.length) l.length (rowV l.length fun k => .int .i64 ((cntA (L.take (j + 1)) k : Nat) : Int)) := fun W hW => by
          have he : rowV l.length (fun q => Value.int .i64 ((cntA (L.take (j + 1)) q : Nat) : Int)) = rowV l.length (fun q => Value.int .i64 ((cntA (L.take j) q : Nat) : Int)) := rowV_congr fun i hi => by
            rw [Htk.out i, if_neg (by omega), Nat.add_zero]
          rw [he]
          exact own_fr hrz hW fun q hq e => by
            have e1 : q = wr.heap.size := e
            have e2 : G = q := Option.some.inj hq
            omega
        rcases hto with hto | ⟨hto, hep⟩
        · go_wp2_with (first | ((with_reducible refine at_load _ ?_); refine wpList_load_rng (cs := stA x A' cap') rfl rfl rfl hrng Try.underlying44 rfl infoRSt ?_) |
            ((with_reducible refine at_store _ ?_); refine wpList_store_blk (cs := stA x A' cap') rfl rfl rfl rfl hz rfl infoRSt (stA_one _ _ _) ?_; intro W hW hfW _; have c4 : W.cell? ⟨wr.heap.size, 4, none⟩ = some (.int .i64 (-1)) := (hW.cell 4).trans (by rw [← hto]; rfl); have c5 : W.cell? ⟨wr.heap.size, 5, none⟩ = some (.int .i64 (-1)) := (hW.cell 5).trans (by rw [← hacc]; rfl)))
          go_roundg g
          case measure => omega
          case rel =>
            have hFW : Fr No wr W := hFz.callAt hfW (Nat.le_refl _)
            exact ⟨j + 1, by have := Hj.out; omega, (by first | rfl | exact wrap_succ (by omega)), hB.no hFW, hrk _ hfW⟩
        · have hd2 : decide (0 ≤ x.to) = true := decide_eq_true hto
          go_wp2_with (first | ((with_reducible refine at_load _ ?_); refine wpList_load_rng (cs := stA x A' cap') rfl rfl rfl hrng Try.underlying44 rfl infoRSt ?_) |
            ((with_reducible refine at_store _ ?_); refine wpList_store_blk (cs := stA x A' cap') rfl rfl rfl rfl hz rfl infoRSt (stA_one _ _ _) ?_; intro W hW hfW _; have c4 : W.cell? ⟨wr.heap.size, 4, none⟩ = some (.int .i64 x.to) := hW.cell 4; have c5 : W.cell? ⟨wr.heap.size, 5, none⟩ = some (.int .i64 (-1)) := (hW.cell 5).trans (by rw [← hacc]; rfl); have c6 : W.cell? ⟨wr.heap.size, 6, none⟩ = some (.slice A' 0 cap') := (hW.cell 6).trans (by rw [← show x.eps.length = 0 by rw [hep]; rfl]; rfl)))
          go_roundg g
          case measure => omega
          case rel =>
            have hFW : Fr No wr W := hFz.callAt hfW (Nat.le_refl _)
            exact ⟨j + 1, by have := Hj.out; omega, (by first | rfl | exact wrap_succ (by omega)), hB.no hFW, hrk _ hfW⟩
theorem lawBld_c (hl : NodesIn w S (.slice A l.length cap) l) (hS : ∀ k, S k → k < w.heap.size) (hA : A = none → cap = 0) : Calls Try.prog 7 #[.slice A l.length cap, .int .i64 cells, .int .i64 steps] w fun e w' => e = .returned (.bool true) ∧ Fr No w w' := by
  cases hf : fewL l with
  | false => exact bld_few l A cap S cells steps w hl hf
  | true => cases hm : mayL l with
    | false => exact bld_no l A cap S cells steps w hl hS hA hf hm
    | true =>
      by_cases hfull : (betw cells 1048576 < (nfaAll l).length ∧ betw cells 1048576 ≤ betw steps 1073741824) ∨ betw steps 1073741824 < (nfaAll l).length
      · exact bld_full l A cap S cells steps w hl hS hA hf hm hfull
      · exact bld_ok l A cap S cells steps w hl hS hA hf hm hfull
end
end Go.Proofs.Ytldmdlkjpdfonaa
