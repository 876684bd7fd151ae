/- The walk of awake: answers that the document fixes. -/
import Derived.Test.YtldmdlkjpdfonaaAw
import Derived.Deep.Cut
namespace Go.Proofs.Ytldmdlkjpdfonaa
set_option linter.unusedVariables false
set_option linter.unusedSimpArgs false
open Go Go.RowKit

def awN : Nd := .mk 4 0 0 0 [.mk 2 (2 ^ 97) 0 0 [], .mk 5 0 0 (-1) [.mk 2 (2 ^ 98) 0 0 []]]
def awB : Nd := .mk 2 (2 ^ 97) 0 0 []
def awC : Nd := .mk 5 0 0 1 [.mk 2 (2 ^ 97) 0 0 []]
theorem awp1 : Rx.parse ⟨#[97, 124, 98, 42]⟩ = .ok awN 0 := by kernel_rfl
theorem awp2 : Rx.parse ⟨#[97]⟩ = .ok awB 0 := by kernel_rfl
theorem awp3 : Rx.parse ⟨#[97, 63]⟩ = .ok awC 0 := by kernel_rfl
theorem awL1 : (nfaAll [awN]).length = 6 := by kernel_rfl
theorem awL0 : (nfaAll [awN])[0]? = some (over [5]) := by kernel_rfl
theorem awLs : (setsOf (nfaAll [awN])).length = 2 := by kernel_rfl
theorem awL2 : (nfaAll [awB]).length = 3 := by kernel_rfl
theorem awP1 : allPlain [awN] = true := by kernel_rfl
theorem awP2 : allPlain [awB] = true := by kernel_rfl
theorem awP3 : allPlain [awC] = false := by kernel_rfl
theorem awS : nfaStates awN = 4 := by kernel_rfl
theorem awc1 : ncounts [awN] = 4 := by kernel_rfl
theorem awc2 : ncounts [awB] = 1 := by kernel_rfl
theorem awc4 : awN.count = 4 := by kernel_rfl
theorem awB6 : betw 6 1048576 = 6 := by kernel_rfl
theorem awB9 : betw 9 1073741824 = 9 := by kernel_rfl
set_option maxRecDepth 100000 in
set_option maxHeartbeats 8000000 in
theorem awake_c (w : World) : Calls Try.prog 8 #[] w fun e w' => e = .returned (.bool true) ∧ Fr No w w' := by
  have hnew := new_c w 6 9
  have hfit := betw_fits 6 9
  rw [awB6, awB9] at hnew hfit
  have T1 := hid (fun W : World => text_c ⟨#[97, 124, 98, 42]⟩ awN 0 W (by simp [ByteArray.size]) awp1)
  have T2 := hid (fun W : World => text_c ⟨#[97]⟩ awB 0 W (by simp [ByteArray.size]) awp2)
  have T3 := hid (fun W : World => text_c ⟨#[97, 63]⟩ awC 0 W (by simp [ByteArray.size]) awp3)
  generalize hnN : awN = nN at T1
  generalize hnB : awB = nB at T2
  generalize hnC : awC = nC at T3
  have HnN := hid hnN
  have HnB := hid hnB
  have HnC := hid hnC
  clear hnN hnB hnC
  go_enter Try.func8, Try.ntmps8
  go_wp2_with fail
  refine hnew.mono ?_
  rintro e w1 ⟨rfl, hm1, hf1⟩
  generalize hg : w.heap.size = g at *
  have hgl : g < w1.heap.size := hm1.lt
  go_wp2_with fail
  refine (T1.out _).mono ?_
  rintro e w2 ⟨⟨A, cap, rfl, hr⟩, hf2⟩
  go_wp2_with ((with_reducible refine at_build ?_); refine wpList_oneNode rfl 18 rfl rfl ?_)
  have hNs := one_nodes hr
  have hm2 := (hm1.fr hf2 id).alloc (.cells (nodeA nN A cap) 37)
  have hF2 := (hf1.no hf2).alloc (.cells (nodeA nN A cap) 37)
  have hsz2 : (w2.alloc (.cells (nodeA nN A cap) 37)).heap.size = w2.heap.size + 1 := World.size_alloc _ _
  have hg2 : g < w2.heap.size := Nat.lt_of_lt_of_le hgl hf2.size
  have hb1 := build_meter [nN] (some ⟨w2.heap.size, 0, none⟩) 1 (fun k => (w1.heap.size ≤ k ∨ k = w2.heap.size) ∧ k < w2.heap.size + 1) _ g _ hm2 hfit (hNs.sub fun k hk hl => ⟨hk, by rw [hsz2] at hl; exact hl⟩) (Nat.le_refl 1) (show 1 ≤ 8 by decide) (by rw [← HnN.out]; exact awP1) (fun k hk => ⟨by rw [hsz2]; exact hk.2, by omega⟩) (by rw [← HnN.out, awc1]; decide)
  refine hb1.mono ?_
  rintro e w3 ⟨m3, hm3, hf3, hfit3, hc3, hs3, hcase⟩
  rw [← HnN.out, awL1] at hcase
  have hcase2 : ∃ a, e = .returned (.tuple #[.pointer (some ⟨a, 0, none⟩), .int .i64 0]) ∧ AutoIn w3 (fun k => (w2.alloc (.cells (nodeA nN A cap) 37)).heap.size ≤ k) a (nfaAll [awN]) [nN].length := by
    rcases hcase with ⟨h, _⟩ | ⟨k, er, _, hk, hu, hd, hcs⟩
    · rw [HnN.out] at h ⊢; exact h
    · exfalso
      simp only [] at hcs
      omega
  have hu3 : m3.used = 6 ∧ m3.done = 6 := by
    rcases hcase with ⟨_, h1, h2⟩ | ⟨k, er, _, hk, hu, hd, hcs⟩
    · simp only [] at h1 h2; omega
    · exfalso
      simp only [] at hcs
      omega
  clear hcase
  obtain ⟨a, rfl, ha⟩ := hcase2
  obtain ⟨Aa, capa, haut⟩ := ha.open_
  rw [hsz2] at haut
  have hF3 : Fr No w w3 := hF2.call hf3 fun k hk e => by have e : k = g := e; omega
  simp only [] at hc3 hs3
  clear hb1 hNs hm2 hF2 ha hf3 hfit hr
  have hsz3 : w2.heap.size + 1 ≤ w3.heap.size := by have := haut.here; have := haut.blk.lt; omega
  -- the second one: no cell is left
  go_wp2_with fail
  refine (T2.out _).mono ?_
  rintro e w4 ⟨⟨A4, cap4, rfl, hr4⟩, hf4⟩
  go_wp2_with ((with_reducible refine at_build ?_); refine wpList_oneNode rfl 25 rfl rfl ?_)
  have hNs4 := one_nodes hr4
  have hm4 := (hm3.fr hf4 id).alloc (.cells (nodeA nB A4 cap4) 37)
  have haut4 := (haut.no hf4).no ((Fr.refl No w4).alloc (.cells (nodeA nB A4 cap4) 37))
  have hF4 := (hF3.no hf4).alloc (.cells (nodeA nB A4 cap4) 37)
  have hsz4 : (w4.alloc (.cells (nodeA nB A4 cap4) 37)).heap.size = w4.heap.size + 1 := World.size_alloc _ _
  have hw34 := hf4.size
  have hb4 := build_meter [nB] (some ⟨w4.heap.size, 0, none⟩) 1 (fun k => (w3.heap.size ≤ k ∨ k = w4.heap.size) ∧ k < w4.heap.size + 1) _ g _ hm4 hfit3 (hNs4.sub fun k hk hl => ⟨hk, by rw [hsz4] at hl; exact hl⟩) (Nat.le_refl 1) (show 1 ≤ 8 by decide) (by rw [← HnB.out]; exact awP2) (fun k hk => ⟨by rw [hsz4]; exact hk.2, by omega⟩) (by rw [← HnB.out, awc2]; decide)
  refine hb4.mono ?_
  rintro e w5 ⟨m5, hm5, hf5, hfit5, hc5, hs5, hcase⟩
  rw [← HnB.out, awL2] at hcase
  have hcase2 : e = .returned (.tuple #[.pointer none, .int .i64 3]) ∧ m5.used = 6 := by
    rcases hcase with ⟨_, h1, h2⟩ | ⟨k, er, h1, hk, hu, hd, hcs⟩
    · exfalso
      obtain ⟨t1, t2, _⟩ := hfit5
      omega
    · rcases hcs with ⟨_, h2⟩ | ⟨h2, _⟩
      · exact ⟨by rw [h1, h2], by omega⟩
      · exfalso; omega
  clear hcase
  obtain ⟨rfl, hu5⟩ := hcase2
  have haut5 := haut4.fr hf5 fun k hk _ e => by have e : k = g := e; omega
  have hF5 : Fr No w w5 := hF4.call hf5 fun k hk e => by have e : k = g := e; omega
  clear hb4 hNs4 hm4 hF4 haut4 haut hF3 hm3 hfit3 hf5 hr4 hf4
  -- the third one: no plain expression
  go_wp2_with fail
  refine (T3.out _).mono ?_
  rintro e w6 ⟨⟨A6, cap6, rfl, hr6⟩, hf6⟩
  go_wp2_with ((with_reducible refine at_build ?_); refine wpList_oneNode rfl 31 rfl rfl ?_)
  have hb6 := build_arg (.pointer none) [nC] (some ⟨w6.heap.size, 0, none⟩) 1 _ _ (one_nodes hr6) (by rw [← HnC.out, awP3]; simp)
  refine hb6.mono ?_
  rintro e w7 ⟨rfl, hf7⟩
  have hf67 : Fr No w5 w7 := (hf6.alloc _).no hf7
  have hm7 := hm5.fr hf67 id
  have haut7 := haut5.no hf67
  have hF7 := hF5.no hf67
  clear hb6 hr6 hf6 hf7 hf67 hm5 haut5 hF5 T2 T3
  -- what it tells
  have hcl := cells_c g m5 w7 hm7
  rw [hu5, hc5, hc3] at hcl
  generalize hmo : m5.most = mo5 at *
  clear hfit5 hm7 hu5
  have hst := fun W (hW : Fr No w7 W) => state_c W _ a (nfaAll [awN]) [nN].length Aa capa 0 (over [5]) (haut7.no hW) awL0 (by decide)
  have hso := fun W (hW : Fr No w7 W) => state_out W _ a (nfaAll [awN]) [nN].length Aa capa 6 (haut7.no hW) (by rw [awL1]; exact Nat.le_refl 6)
  have hln := fun W (hW : Fr No w7 W) => len_c W _ a (nfaAll [awN]) [nN].length Aa capa (haut7.no hW)
  have hru := fun W (hW : Fr No w7 W) => rules_c W _ a (nfaAll [awN]) [nN].length Aa capa (haut7.no hW)
  have hse := fun W (hW : Fr No w7 W) => sets_c W _ a (nfaAll [awN]) [nN].length Aa capa (haut7.no hW) (by rw [awL1]; decide)
  rw [awL1] at hln
  rw [awLs] at hse
  clear haut7
  go_wp2_with fail
  refine hcl.mono ?_
  rintro e w8 ⟨rfl, hf8⟩
  go_wp2_with fail
  refine (hst _ hf8).mono ?_
  rintro e w9 ⟨⟨A9, cap9, rfl, hr9⟩, hf9⟩
  have hf79 := hf8.no hf9
  have hN9 := Blk.new w9 54 #[.int .u64 0, .int .u64 0, .int .u64 0, .int .u64 0, .int .i64 0, .int .i64 0, .slice none 0 0]
  have hF9 := hf79.alloc (.cells #[.int .u64 0, .int .u64 0, .int .u64 0, .int .u64 0, .int .i64 0, .int .i64 0, .slice none 0 0] 54)
  have hs79 := hf79.size
  clear hst hf8 hf9 hf79 hr9
  go_wp2_with ((with_reducible refine at_store 54 ?_); refine wpList_store_blk (cs := stA (over [5]) A9 cap9) rfl rfl rfl rfl hN9 rfl infoState (stA_one _ _ _) ?_; intro W9 hW9 hfW9 _)
  have hF79 := hF9.callAt hfW9 hs79
  refine (hso _ hF79).mono ?_
  rintro e w10 ⟨rfl, hf10⟩
  have hN10 := Blk.new w10 54 #[.int .u64 0, .int .u64 0, .int .u64 0, .int .u64 0, .int .i64 0, .int .i64 0, .slice none 0 0]
  have hB10 := (hf10.blk hW9 id).alloc (.cells #[.int .u64 0, .int .u64 0, .int .u64 0, .int .u64 0, .int .i64 0, .int .i64 0, .slice none 0 0] 54)
  have hF10 := (hF79.no hf10).alloc (.cells #[.int .u64 0, .int .u64 0, .int .u64 0, .int .u64 0, .int .i64 0, .int .i64 0, .slice none 0 0] 54)
  have hlt9 : w9.heap.size < w10.heap.size := (hf10.blk hW9 id).lt
  have hs710 := (hF79.no hf10).size
  clear hso hN9 hF9 hfW9 hW9
  go_upto_region 10 with ((with_reducible refine at_store 54 ?_); refine wpList_store_blk (cs := stA (over []) none 0) rfl rfl rfl rfl hN10 rfl infoState (stA_one _ _ _) ?_; intro W11 hW11 hfW11 _)
  have hB11 := hfW11.blk hB10 (by show ¬ w9.heap.size = w10.heap.size; omega)
  have hF11 := hF10.callAt hfW11 hs710
  have c6 : ∀ W, Fr No W11 W → W.cell? ⟨w9.heap.size, 6, none⟩ = some (.slice A9 1 cap9) := fun W hW => (hW.blk hB11 id).cell 6
  have c5 : ∀ W, Fr No W11 W → W.cell? ⟨w9.heap.size, 5, none⟩ = some (.int .i64 (-1)) := fun W hW => (hW.blk hB11 id).cell 5
  have hlnW := hln _ hF11
  have hruW := hru _ hF11
  have hseW := hse _ hF11
  have hn1 : [nN].length = 1 := rfl
  rw [hn1] at hruW
  have hNS := fun W A cap (hr : Rep W (fun _ => True) (.slice A nN.subs.length cap) (.sl 37 nN.subs.length (encNs nN.subs))) => nfaStates_c nN (.agg (nodeA nN A cap)) (fun _ => True) W (by rw [← HnN.out, awc4]; decide) ⟨A, cap, rfl, hr⟩
  rw [← HnN.out, awS, HnN.out] at hNS
  clear hN10 hB10 hF10 hfW11 hW11 hB11 hln hru hse hn1 hF79 hf10
  generalize w9.heap.size = g9 at *
  go_wp2_with (first | (go_at_call 18; refine hlnW.mono ?_; rintro e w20 ⟨rfl, hw20⟩; replace hw20 := hw20.symm; subst hw20) |
    (go_at_call 25; refine hruW.mono ?_; rintro e w21 ⟨rfl, hw21⟩; replace hw21 := hw21.symm; subst hw21) |
    (go_at_call 19; refine hseW.mono ?_; rintro e w22 ⟨⟨A22, cap22, rfl, hr22⟩, hf22⟩; have c622 := c6 _ hf22; have c522 := c5 _ hf22) |
    (go_at_call 31; refine (T1.out _).mono ?_; rintro e w23 ⟨⟨A23, cap23, rfl, hr23⟩, hf23⟩) |
    (go_at_call 16; refine (hNS _ _ _ (hr23.sub fun _ _ _ => trivial)).mono ?_; rintro e w24 ⟨rfl, hf24⟩))
  go_ret
  exact ⟨rfl, (((hF7.no hF11).no hf22).no hf23).no hf24⟩
end Go.Proofs.Ytldmdlkjpdfonaa
