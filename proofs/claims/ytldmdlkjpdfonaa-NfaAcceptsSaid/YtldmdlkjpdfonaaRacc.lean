/- The walk of the law NfaAccepts: true for all expressions, texts and places. -/
import Derived.Test.YtldmdlkjpdfonaaCp
import Derived.Test.YtldmdlkjpdfonaaSt1
import Derived.Deep.DeepCutAuto
namespace Go.Proofs.Ytldmdlkjpdfonaa
set_option linter.unusedVariables false
set_option linter.unusedSimpArgs false
open Go Go.RowKit

/-- Which of the expressions matches from a place up to another one. -/
def accBy (l : List Nd) (s : ByteArray) (st k j : Nat) : Bool := match l[k]? with | some n => stepS s n (fun p => decide (p = st)) j | none => false
theorem accBy_iff {l : List Nd} (hoks : ∀ n ∈ l, okN n = true) {s : ByteArray} {st j : Nat} (hst : st ≤ s.size) (hj : j ≤ s.size) (k : Nat) : (∃ q x, Reach (nfaAll l) s 0 st q j ∧ (nfaAll l)[q]? = some x ∧ x.acc = (k : Int)) ↔ (k < l.length ∧ accBy l s st k j = true) := by
  rw [accepts_iff l hoks st j k (by omega) (by omega)]
  unfold accBy
  constructor
  · rintro ⟨n, hn, hs⟩
    exact ⟨(List.getElem?_eq_some_iff.1 hn).1, by rw [hn]; exact hs⟩
  · rintro ⟨hk, hs⟩
    obtain ⟨n, hn⟩ : ∃ n, l[k]? = some n := ⟨_, List.getElem?_eq_getElem hk⟩
    rw [hn] at hs
    exact ⟨n, hn, hs⟩
theorem accBy_mt {l : List Nd} {s : ByteArray} {st j k : Nat} {n : Nd} (hn : l[k]? = some n) (hok : okN n = true) (hst : st ≤ s.size) (hj : j ≤ s.size) : accBy l s st k j = true ↔ Mt s n st j := by
  unfold accBy
  rw [hn]
  show stepS s n _ j = true ↔ _
  rw [(stepS_is s n hok).2 _ j (by omega)]
  constructor
  · rintro ⟨i, _, h1, h2⟩
    simp only [decide_eq_true_eq] at h1
    exact h1 ▸ h2
  · exact fun h => ⟨st, by omega, by simp, h⟩
/-- A rule's greatest place is taken, or the best one stays. -/
theorem acc_round {l : List Nd} {s : ByteArray} {st j : Nat} {n : Nd} {e z t : Int} (hn : l[j]? = some n) (hok : okN n = true) (hst : st ≤ s.size) (hB : Best (accBy l s st) j st s.size (z, t)) (he : LongOf s (Mt s n) st e) :
    ((decide ((st : Int) < e) = false ∨ (decide ((st : Int) < e) = true ∧ decide (t < e) = false)) ∧ Best (accBy l s st) (j + 1) st s.size (z, t)) ∨ (decide ((st : Int) < e) = true ∧ decide (t < e) = true ∧ Best (accBy l s st) (j + 1) st s.size ((j : Int), e)) := by
  have hto : ∀ i, i ≤ s.size → (accBy l s st j i = true ↔ Mt s n st i) := fun i hi => accBy_mt hn hok hst hi
  by_cases h1 : (st : Int) < e
  · rcases he with ⟨rfl, _⟩ | ⟨i, rfl, hi, hm, hmax⟩
    · omega
    by_cases h2 : t < (i : Int)
    · refine .inr ⟨decide_eq_true h1, decide_eq_true h2, Best.take hB (fun j' hj' hm' => hmax j' (by omega) ((hto j' hj').1 hm')) ((hto i (by omega)).2 hm) (by omega) (by omega) h2⟩
    · refine .inl ⟨.inr ⟨decide_eq_true h1, decide_eq_false h2⟩, Best.keep (e := (i : Int)) hB (fun j' hj' hm' => ?_) (.inr (by simp only []; omega))⟩
      have := hmax j' (by omega) ((hto j' hj').1 hm')
      omega
  · refine .inl ⟨.inl (decide_eq_false h1), Best.keep (e := e) hB (fun j' hj' hm' => ?_) (.inl (by omega))⟩
    rcases he with ⟨rfl, h⟩ | ⟨i, rfl, hi, hm, hmax⟩
    · exact absurd ((hto j' hj').1 hm') (h j' (by omega))
    · have := hmax j' (by omega) ((hto j' hj').1 hm')
      omega
section
variable (l : List Nd) (A : Option Addr) (cap : Nat) (S : Nat → Prop) (s : ByteArray) (z : Int) (w : World)
set_option maxRecDepth 100000 in
set_option maxHeartbeats 8000000 in
theorem acc_few (hl : NodesIn w S (.slice A l.length cap) l) (hf : fewL l = false) : Calls Try.prog 3 #[.slice A l.length cap, .string s, .int .i64 z] w fun e w' => e = .returned (.bool true) ∧ Fr No w w' := by
  have Haw := hid (fun W : World => awake_c W)
  have hfw := fun W (hW : Fr No w W) => lfew_c l A cap S W (hl.frNo hW)
  rw [hf] at hfw
  go_enter Try.func3, Try.ntmps3
  go_wp2_with (first | (go_at_call 8; refine (Haw.out _).mono ?_; rintro e w1 ⟨rfl, hf1⟩; have hf01 : Fr No w w1 := hf1) |
    (go_at_call 9; refine (hfw _ hf1).mono ?_; rintro e w2 ⟨rfl, hf2⟩) |
    (go_at_call 8; refine (Haw.out _).mono ?_; rintro e w3 ⟨rfl, hf3⟩))
  go_ret
  exact ⟨rfl, (hf1.no hf2).no hf3⟩
set_option maxRecDepth 100000 in
set_option maxHeartbeats 8000000 in
theorem acc_long (hl : NodesIn w S (.slice A l.length cap) l) (hf : fewL l = true) (hs : 20 < s.size) : Calls Try.prog 3 #[.slice A l.length cap, .string s, .int .i64 z] w fun e w' => e = .returned (.bool true) ∧ Fr No w w' := by
  have Haw := hid (fun W : World => awake_c W)
  have hfw := fun W (hW : Fr No w W) => lfew_c l A cap S W (hl.frNo hW)
  rw [hf] at hfw
  have t1 : decide (20 < s.size) = true := decide_eq_true (by omega)
  have t2 : decide ((20 : Int) < (s.size : Int)) = true := decide_eq_true (by omega)
  go_enter Try.func3, Try.ntmps3
  go_wp2_with (first | (go_at_call 8; refine (Haw.out _).mono ?_; rintro e w1 ⟨rfl, hf1⟩; have hf01 : Fr No w w1 := hf1) |
    (go_at_call 9; refine (hfw _ hf1).mono ?_; rintro e w2 ⟨rfl, hf2⟩) |
    (go_at_call 8; refine (Haw.out _).mono ?_; rintro e w3 ⟨rfl, hf3⟩))
  go_ret
  exact ⟨rfl, (hf1.no hf2).no hf3⟩
set_option maxRecDepth 100000 in
set_option maxHeartbeats 8000000 in
theorem acc_neg (hl : NodesIn w S (.slice A l.length cap) l) (hf : fewL l = true) (hs : s.size ≤ 20) (hz : z < 0) : Calls Try.prog 3 #[.slice A l.length cap, .string s, .int .i64 z] w fun e w' => e = .returned (.bool true) ∧ Fr No w w' := by
  have Haw := hid (fun W : World => awake_c W)
  have hfw := fun W (hW : Fr No w W) => lfew_c l A cap S W (hl.frNo hW)
  rw [hf] at hfw
  have t1 : decide (20 < s.size) = false := decide_eq_false (by omega)
  have t2 : decide ((20 : Int) < (s.size : Int)) = false := decide_eq_false (by omega)
  have t3 : decide (z < 0) = true := decide_eq_true hz
  go_enter Try.func3, Try.ntmps3
  go_wp2_with (first | (go_at_call 8; refine (Haw.out _).mono ?_; rintro e w1 ⟨rfl, hf1⟩; have hf01 : Fr No w w1 := hf1) |
    (go_at_call 9; refine (hfw _ hf1).mono ?_; rintro e w2 ⟨rfl, hf2⟩) |
    (go_at_call 8; refine (Haw.out _).mono ?_; rintro e w3 ⟨rfl, hf3⟩))
  go_ret
  exact ⟨rfl, (hf1.no hf2).no hf3⟩
set_option maxRecDepth 100000 in
set_option maxHeartbeats 8000000 in
theorem acc_far (hl : NodesIn w S (.slice A l.length cap) l) (hf : fewL l = true) (hs : s.size ≤ 20) (hz : 0 ≤ z) (hz2 : (s.size : Int) < z) : Calls Try.prog 3 #[.slice A l.length cap, .string s, .int .i64 z] w fun e w' => e = .returned (.bool true) ∧ Fr No w w' := by
  have Haw := hid (fun W : World => awake_c W)
  have hfw := fun W (hW : Fr No w W) => lfew_c l A cap S W (hl.frNo hW)
  rw [hf] at hfw
  have t1 : decide (20 < s.size) = false := decide_eq_false (by omega)
  have t2 : decide ((20 : Int) < (s.size : Int)) = false := decide_eq_false (by omega)
  have t3 : decide (z < 0) = false := decide_eq_false (by omega)
  have t4 : decide ((s.size : Int) < z) = true := decide_eq_true hz2
  go_enter Try.func3, Try.ntmps3
  go_wp2_with (first | (go_at_call 8; refine (Haw.out _).mono ?_; rintro e w1 ⟨rfl, hf1⟩; have hf01 : Fr No w w1 := hf1) |
    (go_at_call 9; refine (hfw _ hf1).mono ?_; rintro e w2 ⟨rfl, hf2⟩) |
    (go_at_call 8; refine (Haw.out _).mono ?_; rintro e w3 ⟨rfl, hf3⟩))
  go_ret
  exact ⟨rfl, (hf1.no hf2).no hf3⟩
set_option maxRecDepth 100000 in
set_option maxHeartbeats 8000000 in
theorem acc_no (hl : NodesIn w S (.slice A l.length cap) l) (hf : fewL l = true) (hs : s.size ≤ 20) (hz : 0 ≤ z) (hz2 : z ≤ (s.size : Int)) (hmy : mayL l = false) : Calls Try.prog 3 #[.slice A l.length cap, .string s, .int .i64 z] w fun e w' => e = .returned (.bool true) ∧ Fr No w w' := by
  have Haw := hid (fun W : World => awake_c W)
  have hfw := fun W (hW : Fr No w W) => lfew_c l A cap S W (hl.frNo hW)
  have hmay := fun W (hW : Fr No w W) => may_c l A cap S W (hl.frNo hW)
  rw [hf] at hfw
  rw [hmy] at hmay
  have t1 : decide (20 < s.size) = false := decide_eq_false (by omega)
  have t2 : decide ((20 : Int) < (s.size : Int)) = false := decide_eq_false (by omega)
  have t3 : decide (z < 0) = false := decide_eq_false (by omega)
  have t4 : decide ((s.size : Int) < z) = false := decide_eq_false (by omega)
  go_enter Try.func3, Try.ntmps3
  go_wp2_with (first | (go_at_call 8; refine (Haw.out _).mono ?_; rintro e w1 ⟨rfl, hf1⟩; have hf01 : Fr No w w1 := hf1) |
    (go_at_call 9; refine (hfw _ hf1).mono ?_; rintro e w2 ⟨rfl, hf2⟩) |
    (go_at_call 10; refine (hmay _ (hf1.no hf2)).mono ?_; rintro e w4 ⟨rfl, hf4⟩) |
    (go_at_call 8; refine (Haw.out _).mono ?_; rintro e w3 ⟨rfl, hf3⟩))
  go_ret
  exact ⟨rfl, ((hf1.no hf2).no hf4).no hf3⟩
set_option maxRecDepth 100000 in
set_option maxHeartbeats 16000000 in
theorem acc_main (st : Nat) (hl : NodesIn w S (.slice A l.length cap) l) (hS : ∀ k, S k → k < w.heap.size) (hA : A = none → cap = 0) (hf : fewL l = true) (hs : s.size ≤ 20) (hst : st ≤ s.size) (hmy : mayL l = true) : Calls Try.prog 3 #[.slice A l.length cap, .string s, .int .i64 st] w fun e w' => e = .returned (.bool true) ∧ Fr No w w' := by
  have Haw := hid (fun W : World => awake_c W)
  have hfw := fun W (hW : Fr No w W) => lfew_c l A cap S W (hl.frNo hW)
  have hmay := fun W (hW : Fr No w W) => may_c l A cap S W (hl.frNo hW)
  have hlen : l.length ≤ 20 := by
    unfold fewL at hf
    simp only [Bool.and_eq_true, decide_eq_true_eq] at hf
    exact hf.2.1
  have hall : allFew l = true := by
    unfold fewL at hf
    exact (Bool.and_eq_true _ _ ▸ hf).1
  have hcts := allFew_counts l hall
  rw [hf] at hfw
  rw [hmy] at hmay
  have hmy' := hmy
  unfold mayL at hmy'
  simp only [Bool.and_eq_true, decide_eq_true_eq] at hmy'
  obtain ⟨hap, hn1, hn8⟩ := hmy'
  have t1 : decide (20 < s.size) = false := decide_eq_false (by omega)
  have t2 : decide ((20 : Int) < (s.size : Int)) = false := decide_eq_false (by omega)
  have t3 : decide ((st : Int) < 0) = false := decide_eq_false (by omega)
  have t4 : decide ((s.size : Int) < (st : Int)) = false := decide_eq_false (by omega)
  have t5 : decide (s.size < st) = false := decide_eq_false (by omega)
  go_enter Try.func3, Try.ntmps3
  go_wp2_with (first | (go_at_call 8; refine (Haw.out _).mono ?_; rintro e w1 ⟨rfl, hf1⟩; have hf01 : Fr No w w1 := hf1) |
    (go_at_call 9; refine (hfw _ hf1).mono ?_; rintro e w2 ⟨rfl, hf2⟩) |
    (go_at_call 10; refine (hmay _ (hf1.no hf2)).mono ?_; rintro e w4 ⟨rfl, hf4⟩) |
    (at_builtin; go_loud ((with_reducible refine at_call ?_); refine wpList_copy (S := fun k => k < w.heap.size) rfl (.tmp 45) (.tmp 46) rfl rfl rfl hA (by omega) (((hl.frNo ((hf1.no hf2).no hf4)).sub fun k hk _ => hS k hk)) (fun k hk => Nat.lt_of_lt_of_le hk ((hf1.no hf2).no hf4).size) ?_); intro A6 cap6 w6 hl6 hf6))
  have hF6 : Fr No w w6 := ((hf1.no hf2).no hf4).no hf6
  refine (build_free l A6 cap6 (fun k => k < w6.heap.size) w6 (hl6.sub fun k _ hk => hk) hn1 hn8 hap (fun k hk => hk) (by omega)).mono ?_
  rintro e w7 ⟨⟨a, rfl, ha⟩, hf7⟩
  obtain ⟨Aa, capa, haut⟩ := ha.open_
  have hF7 := hF6.no hf7
  have hNb : (nfaAll l).length < 4294967296 := by rw [nfaAll_len]; have := rulesLen_le l; omega
  have hLpos : 0 < (nfaAll l).length := by rw [nfaAll_len]; omega
  have hstates := states_c w7 _ a (nfaAll l) l.length Aa capa haut hNb (nfaAll_eps l (by omega) hn8)
  have heach := nfaAll_each l
  have hoks : ∀ n ∈ l, okN n = true := fun n hn => by
    obtain ⟨j, hj⟩ := List.mem_iff_getElem?.1 hn
    exact okNs_get hj (okNs_plain l hap)
  have hMM : Hid (∀ j, st ≤ j → j ≤ s.size → ∀ k : Nat, (∃ q x, Reach (nfaAll l) s 0 st q j ∧ (nfaAll l)[q]? = some x ∧ x.acc = (k : Int)) ↔ (k < l.length ∧ accBy l s st k j = true)) := hid fun j _ hj k => accBy_iff hoks hst hj k
  clear hfw hmay hf1 hf2 hf4 hf6 hF6 hl6 hf7 ha haut hf
  go_wp2_with (go_at_call 13; refine hstates.mono ?_; rintro e w8 ⟨⟨A9, cap9, rfl, hr8⟩, hf8⟩)
  have hF8 := hF7.no hf8
  have hr8' := hr8.sub (S' := fun k => k < w8.heap.size) fun _ _ h => h
  have hlong := long14_c s (nfaAll l) _ A9 cap9 st l.length (accBy l s st) w8 (by omega) hst hr8' hLpos hNb (hid fun x hx => ⟨(heach x hx).2.1, (heach x hx).2.2.1, (heach x hx).2.2.2⟩) hMM
  refine hlong.mono ?_
  rintro e w9 ⟨⟨z9, t9, rfl, hB9⟩, hf9⟩
  have hF9 := hF8.no hf9
  have hl9 : NodesIn w9 (fun k => k < w9.heap.size) (.slice A l.length cap) l := (hl.frNo hF9).sub fun _ _ h => h
  have Hall := hid hall
  have Hap := hid hap
  have Hoks := hid hoks
  have HB9 := hid hB9
  clear hl hstates hr8 hf8 hF7 hall hap heach hoks hMM hlong hr8' hF8 hf9 hB9
  go_wp2_with fail
  go_loopg [11, 12, 63] l.length (fun g x11 x12 i wr => ∃ (j : Nat) (z t : Int), j + g = l.length ∧ x11 = .int .i64 z ∧ x12 = .int .i64 t ∧ i = .int .i64 j ∧ NodesIn wr (fun k => k < wr.heap.size) (.slice A l.length cap) l ∧ Fr No w wr ∧ Best (accBy l s st) j st s.size (z, t))
  case atStart => exact ⟨0, -1, -1, by omega, rfl, rfl, rfl, hl9, hF9, Best.zero⟩
  case round =>
    obtain ⟨j, z, t, hj, rfl, rfl, rfl, hlr, hF, hB⟩ := hrel
    clear hl9 hF9
    have HB := hid hB
    have HF := hid hF
    clear hB hF
    cases gk with
    | zero =>
      have hd1 : decide (j < l.length) = false := decide_eq_false (by omega)
      have hge : l.length ≤ j := by omega
      have hje : j = l.length := by omega
      have hu := Best.unique HB9.out (hje ▸ HB.out)
      injection hu with hu1 hu2
      subst hu1
      subst hu2
      clear hje hlr
      go_wp2_with fail
      go_ret
      exact ⟨rfl, HF.out⟩
    | succ g =>
      obtain ⟨x, hx⟩ : ∃ x, l[j]? = some x := ⟨_, List.getElem?_eq_getElem (by omega)⟩
      obtain ⟨b, off, A', cap', rfl, hSb, hltb, hrng, hrep'⟩ := NodesIn.at_ hlr hx
      rw [Nat.mul_comm 8 j] at hrng
      have hd1 : decide (j < l.length) = true := decide_eq_true (by omega)
      have hjL : (j : Int) < (l.length : Int) := by omega
      have hok := Hoks.out x (List.mem_of_getElem? hx)
      have hpl : isPlain x = true := allPlain_mem (List.mem_of_getElem? hx) Hap.out
      have hcall := fun W (hW : Fr No wr W) => long11_c s x st (by omega) hpl hst A' cap' W (hrep'.here hW)
      have Hj := hid hj
      have Hx := hid hx
      clear hj hx
      have hz : Fr No wr _ := (Fr.refl No wr).alloc (.cells #[.int .i64 0, .int .u64 0, .int .u64 0, .int .u64 0, .int .u64 0, .int .i64 0, .int .i64 0, .slice none 0 0] 37)
      go_upto_region 12 with (first | ((with_reducible refine at_load _ ?_); refine wpList_load_rng (cs := nodeA x A' cap') rfl rfl rfl hrng Try.underlying37 rfl infoNode ?_) |
        ((with_reducible refine at_store _ ?_); refine wpList_store_blk (cs := nodeA x A' cap') rfl rfl rfl rfl (Blk.new wr 37 #[.int .i64 0, .int .u64 0, .int .u64 0, .int .u64 0, .int .u64 0, .int .i64 0, .int .i64 0, .slice none 0 0]) rfl infoNode (nodeA_one _ _ _) ?_; intro W hW hfW _; have hFW := hz.callAt hfW (Nat.le_refl _)) |
        ((with_reducible refine at_load _ ?_); refine wpList_load_blk (cs := nodeA x A' cap') rfl rfl rfl hW Try.underlying37 rfl infoNode ?_) |
        (go_at_call 14; refine (hcall _ hFW).mono ?_; rintro e w2 ⟨⟨y, rfl, hy⟩, hf2⟩))
      have hrd := acc_round Hx.out hok hst HB.out hy
      have hl2 := hid ((hlr.here hFW).here hf2)
      have hF2 := hid ((HF.out.no hFW).no hf2)
      clear hlr hrng hrep' hcall hz hW hfW hFW hf2 hy hok hpl
      rcases hrd with ⟨h | ⟨h1, h2⟩, hb⟩ | ⟨h1, h2, hb⟩
      all_goals
        have Hb := hid hb
        clear hb
        go_wp2_with fail
        go_roundg g
        case measure => omega
        case rel => exact ⟨j + 1, _, _, by have := Hj.out; omega, rfl, rfl, (by first | rfl | exact wrap_succ (by have := Hj.out; omega)), hl2.out, hF2.out, Hb.out⟩
theorem lawAcc_c (hl : NodesIn w S (.slice A l.length cap) l) (hS : ∀ k, S k → k < w.heap.size) (hA : A = none → cap = 0) : Calls Try.prog 3 #[.slice A l.length cap, .string s, .int .i64 z] w fun e w' => e = .returned (.bool true) ∧ Fr No w w' := by
  cases hf : fewL l with
  | false => exact acc_few l A cap S s z w hl hf
  | true =>
    rcases Nat.lt_or_ge 20 s.size with h | h
    · exact acc_long l A cap S s z w hl hf h
    · by_cases h1 : z < 0
      · exact acc_neg l A cap S s z w hl hf h h1
      · by_cases h2 : (s.size : Int) < z
        · exact acc_far l A cap S s z w hl hf h (by omega) h2
        · cases hm : mayL l with
          | false => exact acc_no l A cap S s z w hl hf h (by omega) (by omega) hm
          | true =>
            obtain ⟨st, rfl⟩ : ∃ st : Nat, z = (st : Int) := ⟨z.toNat, by omega⟩
            exact acc_main l A cap S s w st hl hS hA hf h (by omega) hm
end
end Go.Proofs.Ytldmdlkjpdfonaa
