/- The walk of sieveref07's parser: class. Condition: the text has fewer than 2^20 bytes, the place is within it. -/
import Derived.Test.YtcphepjfnnbonaaPf4
import Derived.Test.YtcphepjfnnbonaaNode
import Derived.Test.YtcphepjfnnbonaaRxW10
namespace Go.Proofs.Ytcphepjfnnbonaa
set_option linter.unusedVariables false
set_option linter.unusedSimpArgs false
open Go Go.RowKit

def rng (lo m : Nat) : List Nat := List.range' lo (m - lo)
theorem rng_nil (lo : Nat) : rng lo lo = [] := by simp [rng]
theorem rng_succ {lo m : Nat} (h : lo ≤ m) : rng lo (m + 1) = rng lo m ++ [m] := by
  unfold rng
  rw [show m + 1 - lo = (m - lo) + 1 by omega, List.range'_concat]
  congr 2
  omega
theorem rng_len (lo m : Nat) : (rng lo m).length = m - lo := by simp [rng]
theorem rng_mem {lo m y : Nat} (h : y ∈ rng lo m) : y < m := by
  unfold rng at h
  rw [List.mem_range'_1] at h
  omega
theorem bits_rng (L : List Nat) {lo m : Nat} (h : lo ≤ m) : bitsOf (L ++ rng lo m) = bitsOf L ||| rangeS lo m := by
  obtain ⟨d, rfl⟩ := Nat.exists_eq_add_of_le h
  induction d with
  | zero => simp [rng, rangeS]
  | succ d ih =>
    rw [show lo + (d + 1) = lo + d + 1 by omega, rng_succ (by omega), ← List.append_assoc, bitsOf_snoc, ih (by omega), rangeS_succ _ _ (by omega), Nat.or_assoc]
theorem rangeS_of (lo hi : Nat) : rangeS lo (hi + 1) = ofS (lo : Int) (hi : Int) := rfl
theorem rangeS_one (lo : Nat) : rangeS lo (lo + 1) = oneS (lo : Int) := by
  unfold rangeS oneS
  rw [Nat.pow_succ, Int.toNat_natCast]
  omega
def ClsW : World → Value → Nat → Prop := fun _ v a => v = .agg (nodeA (.mk 2 a 0 0 []) none 0)
theorem pone_u {w w' : World} {b : Nat} {s : ByteArray} {i op : Nat} {e : Ending} (h : OutP ByteW w b s op (Rx.one s i) e w') :
    ∃ lo : Nat, e = .returned (.int .i64 lo) ∧ lo < 256 := by
  cases hr : Rx.one s i with
  | out => exact absurd hr (one_ne _ _)
  | ok a j =>
    rw [hr] at h
    obtain ⟨⟨v, rfl, rfl, h0, h1⟩, _⟩ := h
    obtain ⟨n, rfl⟩ := Int.eq_ofNat_of_zero_le h0
    exact ⟨n, rfl, by omega⟩
  | bad k =>
    rw [hr] at h
    obtain ⟨⟨v, a, rfl, rfl, h0, h1⟩, _⟩ := h
    obtain ⟨n, rfl⟩ := Int.eq_ofNat_of_zero_le h0
    exact ⟨n, rfl, by omega⟩
section
variable (b : Nat) (s : ByteArray) (i op : Nat) (w : World)
set_option maxHeartbeats 16000000 in
theorem pclass_a (hs : s.size < 1048576) (hr : Ps w b s i (-1) op) (hi : i ≤ s.size) :
    Calls Try.prog 45 #[.pointer (some ⟨b, 0, none⟩)] w (OutP ClsW w b s op (Rx.cls s i)) := by
  unfold Rx.cls
  have hbw := hr.lt
  generalize hnb : (nx s i == 94) = nb
  have hni : (nx s i = 94) = (nb = true) := by rw [← hnb]; simp
  simp only [hni]
  generalize hi1 : (if nb = true then i + 1 else i) = i1 at *
  have hi1' : i1 ≤ s.size := by
    rw [← hi1]
    split
    · rename_i hc
      have h94 := hni.symm ▸ hc
      have := nx_nonneg (s := s) (i := i) (by omega)
      omega
    · exact hi
  have hne := classLoop_ne s (s.size + 1) i1 0 (by omega) hi1'
  generalize hres : Rx.classLoop s (s.size + 1) i1 0 = res at *
  have Hres := hid hres
  have Hne := hid hne
  have Hi1 := hid hi1
  have Hi1' := hid hi1'
  have Hbw := hid hbw
  have Hs := hid hs
  have hN := pnext_a b s i op (w.alloc (.cells #[.int .i64 0, .int .u64 0, .int .u64 0, .int .u64 0, .int .u64 0, .int .i64 0, .int .i64 0, .slice none 0 0] 28)) (hr.alloc _)
  have hB0 := Blk.new w 28 #[.int .i64 0, .int .u64 0, .int .u64 0, .int .u64 0, .int .u64 0, .int .i64 0, .int .i64 0, .slice none 0 0]
  have hF0 : Fr (At b) w _ := (Fr.refl (At b) w).alloc (.cells #[.int .i64 0, .int .u64 0, .int .u64 0, .int .u64 0, .int .u64 0, .int .i64 0, .int .i64 0, .slice none 0 0] 28)
  have hr0 := hr.alloc (.cells #[.int .i64 0, .int .u64 0, .int .u64 0, .int .u64 0, .int .u64 0, .int .i64 0, .int .i64 0, .slice none 0 0] 28)
  obtain ⟨h00, h1, h2, h3, f1, f2, f3⟩ := hr0.cells
  clear hres hi1 hni hi hi1' hne hr hs hbw
  cases nb with
  | false =>
    go_enter Try.func45, Try.ntmps45
    go_wp2_with (go_at_call 28; refine hN.mono ?_; rintro e wn ⟨rfl, nn, rfl⟩)
    go_loopg [4] (s.size + 1) (fun k l wr => (∃ (i' a : Nat) (L : List Nat), Aside (Rx.classLoop s k i' a = res) ∧ Ps wr b s i' (-1) op ∧ i' ≤ s.size ∧ bitsOf L = a ∧ (∀ y ∈ L, y < 256) ∧ L.length ≤ 256 * i' ∧ Own wr (w.heap.size + 1) (fun k => w.heap.size < k) 3 1 l L.length (encI L) ∧ Blk wr w.heap.size 28 #[.int .i64 0, .int .u64 0, .int .u64 0, .int .u64 0, .int .u64 0, .int .i64 0, .int .i64 0, .slice none 0 0] ∧ Fr (At b) w wr) ∨
      (∃ (k0 : Nat) (x : Int) (L : List Nat), Aside (R.bad k0 = res) ∧ Ps wr b s x k0 op ∧ k0 ≤ s.size ∧ (∀ y ∈ L, y < 256) ∧ Own wr (w.heap.size + 1) (fun k => w.heap.size < k) 3 1 l L.length (encI L) ∧ Blk wr w.heap.size 28 #[.int .i64 0, .int .u64 0, .int .u64 0, .int .u64 0, .int .u64 0, .int .i64 0, .int .i64 0, .slice none 0 0] ∧ Fr (At b) w wr))
    case atStart => exact .inl ⟨i1, 0, [], Hres.out, by have := hr0.drewN nn; rw [← Hi1.out, if_neg (by decide)]; exact this, Hi1'.out, rfl, (fun y hy => by cases hy), Nat.zero_le _, Own.nil _ _ _ _ _, hB0.drewN nn, hF0.drewN nn⟩
    case round =>
      clear hr0 hB0 hF0 h00 h1 h2 h3 f1 f2 f3 hN
      rcases hrel with ⟨i', a, L, HA, hP, hi2, hL, hL2, hL3, hO, hB, hF⟩ | ⟨k0, x, L, HA, hP, hk0, hL2, hO, hB, hF⟩
      · cases gk with
        | zero => exact absurd (HA.out : R.out = res).symm Hne.out
        | succ kn =>
          have H := HA.out
          clear HA
          unfold Rx.classLoop at H
          have hNx := fun (W : World) (h : Ps W b s i' (-1) op) => pnext_a b s i' op W h
          obtain ⟨h00, h1, h2, h3, f1, f2, f3⟩ := hP.cells
          by_cases hx : nx s i' = 93
          · rw [if_pos hx] at H
            subst H
            have hd : (nx s i' != 93) = false := by simp [hx]
            have Hx := hid hx
            clear hx
            have hsz := Hs.out
            have hmu := fun (W : World) (hW : Ps W b s i' (-1) op) => pmust_a b s i' op W 93 (by omega) hW (by omega) hi2
            unfold Rx.must at hmu
            simp only [if_pos Hx.out] at hmu
            have Hmu := hid hmu
            clear hmu
            have hO0 := hO
            obtain ⟨A0, cap0, rfl, hc1, hc2⟩ := hO.form
            have hsep : ∀ k, k < wr.heap.size → (w.heap.size < k ∨ (Value.slice A0 L.length cap0).ownBlock = some k) → ¬ At b k := fun k hk h => by
              have := Hbw.out
              rcases h with h | h
              · show ¬ k = b; omega
              · have := hO0.blk_lt k h; show ¬ k = b; omega
            have hBb : ¬ At b w.heap.size := by have := Hbw.out; show ¬ w.heap.size = b; omega
            go_wp2_with (first | (go_at_call 28; refine (hNx _ (by repeat (first | assumption | apply Ps.drewN | apply Ps.drew | apply Ps.alloc | (apply Ps.setAt (hx := by first | rfl | omega)) | (apply Ps.setBad (hx := by omega)) | (apply Ps.setOp (hx := by omega)) | (apply Ps.far (hp := by simp only []; omega))))).mono ?_; rintro e wn ⟨rfl, nn, rfl⟩) |
              (go_at_call 38; refine (Hmu.out _ (by repeat (first | assumption | apply Ps.drewN | apply Ps.drew | apply Ps.alloc | (apply Ps.setAt (hx := by first | rfl | omega)) | (apply Ps.setBad (hx := by omega)) | (apply Ps.setOp (hx := by omega)) | (apply Ps.far (hp := by simp only []; omega))))).mono ?_; rintro e w3 ⟨⟨v, rfl, rfl⟩, hP3, hj3, hf3⟩; have hO3 := (hO0.drewN nn).fr hf3 hsep; have hB3 := hf3.blk (hB.drewN nn) hBb))
            clear h00 h1 h2 h3 f1 f2 f3
            have hset := set_c L _ (fun k => w.heap.size < k) w3 hL2 (hO3.rep (fun k hk => by omega))
            rw [hL] at hset
            go_wp2_with (first | (go_at_call 47; refine hset.mono ?_; rintro e w4 ⟨rfl, hf4⟩; have hA4 := Blk.new w4 25 (setA 0)) |
              ((with_reducible refine at_store 25 ?_); refine wpList_store_blk (w := w4.alloc _) (cs := setA a) rfl rfl rfl rfl hA4 rfl infoSet (setA_one _) ?_; intro W5 hW5 hfW5 hsz5; have hgt3 := hB3.lt; have hsw4 : w3.heap.size ≤ w4.heap.size := hf4.size; have hB5 : Blk W5 w.heap.size 28 #[.int .i64 0, .int .u64 0, .int .u64 0, .int .u64 0, .int .u64 0, .int .i64 0, .int .i64 0, .slice none 0 0] := hfW5.blk ((hf4.blk hB3 id).alloc _) (by show ¬ w.heap.size = w4.heap.size; omega); have hP5 := (((hP3.fr hf4 id).alloc (.cells (setA 0) 25)).fr hfW5 (by have := Hbw.out; show ¬ b = w4.heap.size; omega)); have hF5 : Fr (At b) w W5 := (((Fr.trans hF (Fr.undrewN hf3)).no hf4).alloc _).callAt hfW5 (by omega)) |
              ((with_reducible refine at_load 25 ?_); refine wpList_load_blk (w := W5) (cs := setA a) rfl rfl rfl hW5 Try.underlying25 rfl infoSet ?_; try unfold setA) |
              ((with_reducible refine at_store 28 ?_); refine wpList_store_blk (w := W5) (cs := nodeA (.mk 2 a 0 0 []) none 0) rfl rfl rfl rfl hB5 rfl infoNode (nodeA_one _ _ _) ?_; intro W8 hW8 hfW8 _))
            refine bodyPost_blk rfl rfl hW8 Try.underlying28 rfl infoNode rfl ?_
            exact ⟨⟨_, rfl, rfl⟩, hP5.fr hfW8 (by have := Hbw.out; show ¬ b = w.heap.size; omega), hj3, hF5.callAt hfW8 (Nat.le_refl _)⟩
          · rw [if_neg hx] at H
            have hd : (nx s i' != 93) = true := by simp [hx]
            clear hx
            have hsz := Hs.out
            have hone := fun (W : World) (hW : Ps W b s i' (-1) op) => pone_a b s i' op W (by omega) hW hi2
            have hLlen : L.length ≤ 268435456 := by omega
            have HL := hid hL
            have HL2 := hid hL2
            have HL3 := hid hL3
            clear hL hL2 hL3
            obtain ⟨A0, cap0, rfl, hc1, hc2⟩ := hO.form
            have hsep : ∀ k, k < wr.heap.size → (w.heap.size < k ∨ (Value.slice A0 L.length cap0).ownBlock = some k) → ¬ At b k := fun k hk h => by
              have := Hbw.out
              rcases h with h | h
              · show ¬ k = b; omega
              · have := hO.blk_lt k h; show ¬ k = b; omega
            have hBb : ¬ At b w.heap.size := by have := Hbw.out; show ¬ w.heap.size = b; omega
            unfold Rx.span at H
            cases hc1 : Rx.one s i' with
            | out => exact absurd hc1 (one_ne _ _)
            | bad k1 =>
              rw [hc1] at hone H
              simp only [R.bind] at H
              have HK := hid H
              clear H hc1
              go_wp2_with (first | (go_at_call 28; refine (pnext_d b s op _ _ _ hP3).mono ?_; rintro e wn2 ⟨rfl, n2, rfl⟩) | (go_at_call 28; refine (hNx _ hP).mono ?_; rintro e wn ⟨rfl, nn, rfl⟩) |
                (go_at_call 46; refine (hone _ (hP.drewN _)).mono ?_; rintro e w3 ⟨⟨v, lo, rfl, rfl, hlo0, hlo1⟩, ⟨x0, hP3⟩, hk1, hf3⟩; obtain ⟨lo, rfl⟩ := Int.eq_ofNat_of_zero_le hlo0; clear h00 h1 h2 h3 f1 f2 f3; have hO3 := (hO.drewN nn).fr hf3 hsep; have hB3 := hf3.blk (hB.drewN nn) hBb; have hF3 := Fr.trans hF (Fr.undrewN hf3)))
              replace hP := hP3.drewN n2
              replace hO := hO3.drewN n2
              replace hB := hB3.drewN n2
              replace hF := hF3.drewN n2
              clear hP3 hO3 hB3 hF3 hf3 hsep hone hNx
              have hlo : lo < 256 := by omega
              clear hlo0 hlo1
              obtain ⟨bad0, hbad0⟩ : ∃ bad0 : Int, bad0 = (k1 : Int) := ⟨_, rfl⟩
              rw [← hbad0] at hP
              have Hbad0 := hid hbad0
              clear hbad0
              go_loopg [4, 8] (lo + 1 - lo) (fun g l bb wr => ∃ m : Nat, m + g = max lo (lo + 1) ∧ lo ≤ m ∧ bb = .int .i64 m ∧ Own wr (w.heap.size + 1) (fun k => w.heap.size < k) 3 1 l (L ++ rng lo m).length (encI (L ++ rng lo m)) ∧ Ps wr b s x0 bad0 op ∧ Blk wr w.heap.size 28 #[.int .i64 0, .int .u64 0, .int .u64 0, .int .u64 0, .int .u64 0, .int .i64 0, .int .i64 0, .slice none 0 0] ∧ Fr (At b) w wr)
              case atStart => exact ⟨lo, by omega, Nat.le_refl _, rfl, by rw [rng_nil, List.append_nil]; exact hO, hP, hB, hF⟩
              case round =>
                clear hO hP hB hF
                obtain ⟨m, hm, hlm, rfl, hO, hP, hB, hF⟩ := hrel
                cases gk with
                | zero =>
                  obtain rfl : m = max lo (lo + 1) := by omega
                  have hd : decide (max lo (lo + 1) ≤ lo) = false := decide_eq_false (by omega)
                  have hd' : ¬ ((max lo (lo + 1) : Nat) : Int) ≤ (lo : Int) := by omega
                  generalize hmx : max lo (lo + 1) = M at *
                  have Hmx := hid hmx
                  clear hmx hm
                  go_wp2_with fail
                  go_roundg kn
                  case measure => omega
                  case rel =>
                    rw [Hbad0.out] at hP
                    refine .inr ⟨k1, x0, L ++ rng lo M, HK.out, hP, hk1, ?_, hO, hB, hF⟩
                    intro y hy
                    rcases List.mem_append.1 hy with h | h
                    · exact HL2.out y h
                    · have := rng_mem h; have := Hmx.out; omega
                | succ gg =>
                  have hd : decide (m ≤ lo) = true := decide_eq_true (by omega)
                  have hd' : (m : Int) ≤ (lo : Int) := by omega
                  have hml : (L ++ rng lo m).length ≤ 300000000 := by rw [List.length_append, rng_len]; omega
                  obtain ⟨A0, cap0, rfl, hc1, hc2⟩ := hO.form
                  have hO3 := hO.alloc (.cells #[.int .i64 m] 3)
                  have hgt := hB.lt
                  have Hm := hid hm
                  clear hm
                  generalize hR : L ++ rng lo m = R at *
                  have HR := hid hR
                  clear hR
                  go_wp2_with (at_builtin; go_loud ((with_reducible refine at_call ?_); refine wpList_append_D (es := [.v (.int .i64 m)]) (m := 1) rfl (.tmp 69) (.tmp 71) 66 rfl _ 8 Try.underlying66 infoInt3 rfl (by decide) rfl hO3 rfl (news := [.int .i64 m]) rfl (Blk.new _ 3 #[.int .i64 m]).news (.cons (.v rfl) .nil) (by omega) (by omega) (by rw [World.size_alloc]; omega) ?_); intro v' w9 hO9 hg9 hat9)
                  have hgw : ¬ (some w.heap.size = (Value.slice A0 R.length cap0).ownBlock) := fun h => by have := hO.blk_lt _ h.symm; omega
                  have hgb : ¬ (some b = (Value.slice A0 R.length cap0).ownBlock) := fun h => by have := hO.blk_lt _ h.symm; have := Hbw.out; omega
                  have hFg := Fr.ofGrown hg9
                  go_roundg gg
                  case measure => omega
                  case rel =>
                    have hj1 : m + 1 + gg = max lo (lo + 1) := by have := Hm.out; omega
                    refine ⟨m + 1, hj1, by omega, by simp, ?_, (hP.alloc _).fr hFg hgb, hFg.blk (hB.alloc _) hgw, Fr.call (Fr.alloc hF _) hFg (fun k hk h => by have := hO.blk_lt k h.symm; omega)⟩
                    rw [rng_succ hlm, ← List.append_assoc, HR.out, List.length_append, encI_append]
                    exact hO9
            | ok lo j =>
              have hgt1 := one_gt hc1
              rw [hc1] at hone H
              simp only [R.bind] at H
              have hNx2 := fun (W : World) (h : Ps W b s j (-1) op) => pnext_a b s j op W h
              by_cases hx45 : nx s j = 45
              · rw [if_pos hx45] at H
                have hlt45 := nx_nonneg (s := s) (i := j) (by omega)
                have hd45 : (nx s j == 45) = true := by simp [hx45]
                clear hx45
                have hone2 := fun (W : World) (hW : Ps W b s (j + 1 : Nat) (-1) op) => pone_a b s (j + 1) op W (by omega) hW (by omega)
                cases hc2 : Rx.one s (j + 1) with
                | out => exact absurd hc2 (one_ne _ _)
                | bad k2 =>
                  rw [hc2] at hone2 H
                  simp only [R.bind] at H
                  have HK := hid H
                  clear H hc1 hc2
                  go_wp2_with (first | (go_at_call 28; refine (hNx2 _ hP3).mono ?_; rintro e wn2 ⟨rfl, n2, rfl⟩) | (go_at_call 28; refine (hNx _ hP).mono ?_; rintro e wn ⟨rfl, nn, rfl⟩) | (go_at_call 46; refine (hone _ (hP.drewN _)).mono ?_; rintro e w3 ⟨⟨v, rfl, rfl, hlo0, hlo1⟩, hP3, hj3, hf3⟩; obtain ⟨lo, rfl⟩ := Int.eq_ofNat_of_zero_le hlo0; clear h00 h1 h2 h3 f1 f2 f3; have hO3 := (hO.drewN nn).fr hf3 hsep; have hB3 := hf3.blk (hB.drewN nn) hBb; have hF3 := Fr.trans hF (Fr.undrewN hf3); obtain ⟨h00, h1, h2, h3, f1, f2, f3⟩ := hP3.cells))
                  have hP4 := (hP3.drewN n2).setAt (y := (j : Int) + 1) (z := ((j + 1 : Nat) : Int)) (by omega)
                  have hF4 := (hF3.drewN n2).setB 1 (.int .i64 ((j : Int) + 1))
                  have hO4 := (hO3.drewN n2).set (p := ⟨b, 1, none⟩) (by have := Hbw.out; show ¬ w.heap.size < b; omega) (fun h => by have h2 : w.heap.size + 1 ≤ b := ((hO3.drewN n2).blk_lt _ h).1; have := Hbw.out; omega) (.int .i64 ((j : Int) + 1))
                  have hB4 := (hB3.drewN n2).far (p := ⟨b, 1, none⟩) (by have := Hbw.out; show w.heap.size ≠ b; omega) (.int .i64 ((j : Int) + 1))
                  clear h00 h1 h2 h3 f1 f2 f3
                  refine (hone2 _ hP4).mono ?_
                  rintro e w5 ⟨⟨v, hi, rfl, rfl, hhi0, hhi1⟩, ⟨x0, hP5⟩, hk2, hf5⟩
                  obtain ⟨hi, rfl⟩ := Int.eq_ofNat_of_zero_le hhi0
                  have hO5 := hO4.fr hf5 (fun k hk h => by
                    have := Hbw.out
                    rcases h with h | h
                    · show ¬ k = b; omega
                    · have := hO4.blk_lt k h; show ¬ k = b; omega)
                  have hB5 := hf5.blk hB4 hBb
                  have hF5 := Fr.trans hF4 hf5
                  clear hP4 hO4 hB4 hF4 hf5 hP3 hO3 hB3 hF3 hf3 hP hO hB hF hone hone2 hNx hNx2 hsep
                  have hdk : decide ((k2 : Int) < 0) = false := decide_eq_false (by omega)
                  have hlo : lo < 256 := by omega
                  have hhi : hi < 256 := by omega
                  clear hlo0 hlo1 hhi0 hhi1
                  have hP := hP5
                  have hO := hO5
                  have hB := hB5
                  have hF := hF5
                  clear hP5 hO5 hB5 hF5
                  obtain ⟨h00, h1, h2, h3, f1, f2, f3⟩ := hP.cells
                  go_wp2_with fail
                  clear h00 h1 h2 h3 f1 f2 f3
                  obtain ⟨bad0, hbad0⟩ : ∃ bad0 : Int, bad0 = (k2 : Int) := ⟨_, rfl⟩
                  rw [← hbad0] at hP
                  have Hbad0 := hid hbad0
                  clear hbad0
                  go_loopg [4, 8] (hi + 1 - lo) (fun g l bb wr => ∃ m : Nat, m + g = max lo (hi + 1) ∧ lo ≤ m ∧ bb = .int .i64 m ∧ Own wr (w.heap.size + 1) (fun k => w.heap.size < k) 3 1 l (L ++ rng lo m).length (encI (L ++ rng lo m)) ∧ Ps wr b s x0 bad0 op ∧ Blk wr w.heap.size 28 #[.int .i64 0, .int .u64 0, .int .u64 0, .int .u64 0, .int .u64 0, .int .i64 0, .int .i64 0, .slice none 0 0] ∧ Fr (At b) w wr)
                  case atStart => exact ⟨lo, by omega, Nat.le_refl _, rfl, by rw [rng_nil, List.append_nil]; exact hO, hP, hB, hF⟩
                  case round =>
                    clear hO hP hB hF
                    obtain ⟨m, hm, hlm, rfl, hO, hP, hB, hF⟩ := hrel
                    cases gk with
                    | zero =>
                      obtain rfl : m = max lo (hi + 1) := by omega
                      have hd : decide (max lo (hi + 1) ≤ hi) = false := decide_eq_false (by omega)
                      have hd' : ¬ ((max lo (hi + 1) : Nat) : Int) ≤ (hi : Int) := by omega
                      generalize hmx : max lo (hi + 1) = M at *
                      have Hmx := hid hmx
                      clear hmx hm
                      go_wp2_with fail
                      go_roundg kn
                      case measure => omega
                      case rel =>
                        rw [Hbad0.out] at hP
                        refine .inr ⟨k2, x0, L ++ rng lo M, HK.out, hP, hk2, ?_, hO, hB, hF⟩
                        intro y hy
                        rcases List.mem_append.1 hy with h | h
                        · exact HL2.out y h
                        · have := rng_mem h; have := Hmx.out; omega
                    | succ gg =>
                      have hd : decide (m ≤ hi) = true := decide_eq_true (by omega)
                      have hd' : (m : Int) ≤ (hi : Int) := by omega
                      have hml : (L ++ rng lo m).length ≤ 300000000 := by rw [List.length_append, rng_len]; omega
                      obtain ⟨A0, cap0, rfl, hc1, hc2⟩ := hO.form
                      have hO3 := hO.alloc (.cells #[.int .i64 m] 3)
                      have hgt := hB.lt
                      have Hm := hid hm
                      clear hm
                      generalize hR : L ++ rng lo m = R at *
                      have HR := hid hR
                      clear hR
                      go_wp2_with (at_builtin; go_loud ((with_reducible refine at_call ?_); refine wpList_append_D (es := [.v (.int .i64 m)]) (m := 1) rfl (.tmp 69) (.tmp 71) 66 rfl _ 8 Try.underlying66 infoInt3 rfl (by decide) rfl hO3 rfl (news := [.int .i64 m]) rfl (Blk.new _ 3 #[.int .i64 m]).news (.cons (.v rfl) .nil) (by omega) (by omega) (by rw [World.size_alloc]; omega) ?_); intro v' w9 hO9 hg9 hat9)
                      have hgw : ¬ (some w.heap.size = (Value.slice A0 R.length cap0).ownBlock) := fun h => by have := hO.blk_lt _ h.symm; omega
                      have hgb : ¬ (some b = (Value.slice A0 R.length cap0).ownBlock) := fun h => by have := hO.blk_lt _ h.symm; have := Hbw.out; omega
                      have hFg := Fr.ofGrown hg9
                      go_roundg gg
                      case measure => omega
                      case rel =>
                        have hj1 : m + 1 + gg = max lo (hi + 1) := by have := Hm.out; omega
                        refine ⟨m + 1, hj1, by omega, by simp, ?_, (hP.alloc _).fr hFg hgb, hFg.blk (hB.alloc _) hgw, Fr.call (Fr.alloc hF _) hFg (fun k hk h => by have := hO.blk_lt k h.symm; omega)⟩
                        rw [rng_succ hlm, ← List.append_assoc, HR.out, List.length_append, encI_append]
                        exact hO9
                | ok hi j2 =>
                  have hgt2 := one_gt hc2
                  rw [hc2] at hone2 H
                  simp only [R.bind] at H
                  by_cases hle : lo ≤ hi
                  · rw [if_pos hle] at H
                    have HK := hid H
                    clear H hc1 hc2
                    go_wp2_with (first | (go_at_call 28; refine (hNx2 _ hP3).mono ?_; rintro e wn2 ⟨rfl, n2, rfl⟩) | (go_at_call 28; refine (hNx _ hP).mono ?_; rintro e wn ⟨rfl, nn, rfl⟩) | (go_at_call 46; refine (hone _ (hP.drewN _)).mono ?_; rintro e w3 ⟨⟨v, rfl, rfl, hlo0, hlo1⟩, hP3, hj3, hf3⟩; obtain ⟨lo, rfl⟩ := Int.eq_ofNat_of_zero_le hlo0; clear h00 h1 h2 h3 f1 f2 f3; have hO3 := (hO.drewN nn).fr hf3 hsep; have hB3 := hf3.blk (hB.drewN nn) hBb; have hF3 := Fr.trans hF (Fr.undrewN hf3); obtain ⟨h00, h1, h2, h3, f1, f2, f3⟩ := hP3.cells))
                    have hP4 := (hP3.drewN n2).setAt (y := (j : Int) + 1) (z := ((j + 1 : Nat) : Int)) (by omega)
                    have hF4 := (hF3.drewN n2).setB 1 (.int .i64 ((j : Int) + 1))
                    have hO4 := (hO3.drewN n2).set (p := ⟨b, 1, none⟩) (by have := Hbw.out; show ¬ w.heap.size < b; omega) (fun h => by have h2 : w.heap.size + 1 ≤ b := ((hO3.drewN n2).blk_lt _ h).1; have := Hbw.out; omega) (.int .i64 ((j : Int) + 1))
                    have hB4 := (hB3.drewN n2).far (p := ⟨b, 1, none⟩) (by have := Hbw.out; show w.heap.size ≠ b; omega) (.int .i64 ((j : Int) + 1))
                    clear h00 h1 h2 h3 f1 f2 f3
                    refine (hone2 _ hP4).mono ?_
                    rintro e w5 ⟨⟨v, rfl, rfl, hhi0, hhi1⟩, hP5, hk2, hf5⟩
                    obtain ⟨hi, rfl⟩ := Int.eq_ofNat_of_zero_le hhi0
                    have hO5 := hO4.fr hf5 (fun k hk h => by
                      have := Hbw.out
                      rcases h with h | h
                      · show ¬ k = b; omega
                      · have := hO4.blk_lt k h; show ¬ k = b; omega)
                    have hB5 := hf5.blk hB4 hBb
                    have hF5 := Fr.trans hF4 hf5
                    clear hP4 hO4 hB4 hF4 hf5 hP3 hO3 hB3 hF3 hf3 hP hO hB hF hone hone2 hNx hNx2 hsep
                    have hdk : decide ((hi : Int) < (lo : Int)) = false := decide_eq_false (by omega)
                    have hdk2 : decide (hi < lo) = false := decide_eq_false (by omega)
                    have hlo : lo < 256 := by omega
                    have hhi : hi < 256 := by omega
                    clear hlo0 hlo1 hhi0 hhi1
                    have hP := hP5
                    have hO := hO5
                    have hB := hB5
                    have hF := hF5
                    clear hP5 hO5 hB5 hF5
                    obtain ⟨h00, h1, h2, h3, f1, f2, f3⟩ := hP.cells
                    go_wp2_with fail
                    clear h00 h1 h2 h3 f1 f2 f3
                    obtain ⟨x0, hx0⟩ : ∃ x0 : Int, x0 = (j2 : Int) := ⟨_, rfl⟩
                    obtain ⟨bad0, hbad0⟩ : ∃ bad0 : Int, bad0 = -1 := ⟨_, rfl⟩
                    rw [← hx0, ← hbad0] at hP
                    have Hbad0 := hid (And.intro hx0 hbad0)
                    clear hx0 hbad0
                    have Hjj : Hid (i' < j2) := by show i' < j2; omega
                    have Hj2 : Hid (j2 ≤ s.size) := hgt2.2
                    have Hle : Hid (lo ≤ hi) := by show lo ≤ hi; omega
                    clear hgt1 hgt2
                    go_loopg [4, 8] (hi + 1 - lo) (fun g l bb wr => ∃ m : Nat, m + g = max lo (hi + 1) ∧ lo ≤ m ∧ bb = .int .i64 m ∧ Own wr (w.heap.size + 1) (fun k => w.heap.size < k) 3 1 l (L ++ rng lo m).length (encI (L ++ rng lo m)) ∧ Ps wr b s x0 bad0 op ∧ Blk wr w.heap.size 28 #[.int .i64 0, .int .u64 0, .int .u64 0, .int .u64 0, .int .u64 0, .int .i64 0, .int .i64 0, .slice none 0 0] ∧ Fr (At b) w wr)
                    case atStart => exact ⟨lo, by omega, Nat.le_refl _, rfl, by rw [rng_nil, List.append_nil]; exact hO, hP, hB, hF⟩
                    case round =>
                      clear hO hP hB hF
                      obtain ⟨m, hm, hlm, rfl, hO, hP, hB, hF⟩ := hrel
                      cases gk with
                      | zero =>
                        obtain rfl : m = max lo (hi + 1) := by omega
                        have hd : decide (max lo (hi + 1) ≤ hi) = false := decide_eq_false (by omega)
                        have hd' : ¬ ((max lo (hi + 1) : Nat) : Int) ≤ (hi : Int) := by omega
                        generalize hmx : max lo (hi + 1) = M at *
                        have Hmx := hid hmx
                        clear hmx hm
                        go_wp2_with fail
                        go_roundg kn
                        case measure => omega
                        case rel =>
                          obtain ⟨hx0, hbad0⟩ := Hbad0.out
                          rw [hx0, hbad0] at hP
                          refine .inl ⟨j2, orS a (ofS (lo : Int) (hi : Int)), L ++ rng lo M, HK.out, hP, Hj2.out, ?_, ?_, ?_, hO, hB, hF⟩
                          · have e : M = hi + 1 := by have := Hmx.out; omega
                            rw [bits_rng _ (by omega), e, HL.out]; exact rfl
                          · intro y hy
                            rcases List.mem_append.1 hy with h | h
                            · exact HL2.out y h
                            · have := rng_mem h; have := Hmx.out; omega
                          · rw [List.length_append, rng_len]; have := HL3.out; have := Hmx.out; have := Hjj.out; omega
                      | succ gg =>
                        have hd : decide (m ≤ hi) = true := decide_eq_true (by omega)
                        have hd' : (m : Int) ≤ (hi : Int) := by omega
                        have hml : (L ++ rng lo m).length ≤ 300000000 := by rw [List.length_append, rng_len]; omega
                        obtain ⟨A0, cap0, rfl, hc1, hc2⟩ := hO.form
                        have hO3 := hO.alloc (.cells #[.int .i64 m] 3)
                        have hgt := hB.lt
                        have Hm := hid hm
                        clear hm
                        generalize hR : L ++ rng lo m = R at *
                        have HR := hid hR
                        clear hR
                        go_wp2_with (at_builtin; go_loud ((with_reducible refine at_call ?_); refine wpList_append_D (es := [.v (.int .i64 m)]) (m := 1) rfl (.tmp 69) (.tmp 71) 66 rfl _ 8 Try.underlying66 infoInt3 rfl (by decide) rfl hO3 rfl (news := [.int .i64 m]) rfl (Blk.new _ 3 #[.int .i64 m]).news (.cons (.v rfl) .nil) (by omega) (by omega) (by rw [World.size_alloc]; omega) ?_); intro v' w9 hO9 hg9 hat9)
                        have hgw : ¬ (some w.heap.size = (Value.slice A0 R.length cap0).ownBlock) := fun h => by have := hO.blk_lt _ h.symm; omega
                        have hgb : ¬ (some b = (Value.slice A0 R.length cap0).ownBlock) := fun h => by have := hO.blk_lt _ h.symm; have := Hbw.out; omega
                        have hFg := Fr.ofGrown hg9
                        go_roundg gg
                        case measure => omega
                        case rel =>
                          have hj1 : m + 1 + gg = max lo (hi + 1) := by have := Hm.out; omega
                          refine ⟨m + 1, hj1, by omega, by simp, ?_, (hP.alloc _).fr hFg hgb, hFg.blk (hB.alloc _) hgw, Fr.call (Fr.alloc hF _) hFg (fun k hk h => by have := hO.blk_lt k h.symm; omega)⟩
                          rw [rng_succ hlm, ← List.append_assoc, HR.out, List.length_append, encI_append]
                          exact hO9
                  · rw [if_neg hle] at H
                    have HK := hid H
                    clear H hc1 hc2
                    go_wp2_with (first | (go_at_call 28; refine (hNx2 _ hP3).mono ?_; rintro e wn2 ⟨rfl, n2, rfl⟩) | (go_at_call 28; refine (hNx _ hP).mono ?_; rintro e wn ⟨rfl, nn, rfl⟩) | (go_at_call 46; refine (hone _ (hP.drewN _)).mono ?_; rintro e w3 ⟨⟨v, rfl, rfl, hlo0, hlo1⟩, hP3, hj3, hf3⟩; obtain ⟨lo, rfl⟩ := Int.eq_ofNat_of_zero_le hlo0; clear h00 h1 h2 h3 f1 f2 f3; have hO3 := (hO.drewN nn).fr hf3 hsep; have hB3 := hf3.blk (hB.drewN nn) hBb; have hF3 := Fr.trans hF (Fr.undrewN hf3); obtain ⟨h00, h1, h2, h3, f1, f2, f3⟩ := hP3.cells))
                    have hP4 := (hP3.drewN n2).setAt (y := (j : Int) + 1) (z := ((j + 1 : Nat) : Int)) (by omega)
                    have hF4 := (hF3.drewN n2).setB 1 (.int .i64 ((j : Int) + 1))
                    have hO4 := (hO3.drewN n2).set (p := ⟨b, 1, none⟩) (by have := Hbw.out; show ¬ w.heap.size < b; omega) (fun h => by have h2 : w.heap.size + 1 ≤ b := ((hO3.drewN n2).blk_lt _ h).1; have := Hbw.out; omega) (.int .i64 ((j : Int) + 1))
                    have hB4 := (hB3.drewN n2).far (p := ⟨b, 1, none⟩) (by have := Hbw.out; show w.heap.size ≠ b; omega) (.int .i64 ((j : Int) + 1))
                    clear h00 h1 h2 h3 f1 f2 f3
                    refine (hone2 _ hP4).mono ?_
                    rintro e w5 ⟨⟨v, rfl, rfl, hhi0, hhi1⟩, hP5, hk2, hf5⟩
                    obtain ⟨hi, rfl⟩ := Int.eq_ofNat_of_zero_le hhi0
                    have hO5 := hO4.fr hf5 (fun k hk h => by
                      have := Hbw.out
                      rcases h with h | h
                      · show ¬ k = b; omega
                      · have := hO4.blk_lt k h; show ¬ k = b; omega)
                    have hB5 := hf5.blk hB4 hBb
                    have hF5 := Fr.trans hF4 hf5
                    clear hP4 hO4 hB4 hF4 hf5 hP3 hO3 hB3 hF3 hf3 hP hO hB hF hone hone2 hNx hNx2 hsep
                    have hdk : decide ((hi : Int) < (lo : Int)) = true := decide_eq_true (by omega)
                    have hdk2 : decide (hi < lo) = true := decide_eq_true (by omega)
                    have hlo : lo < 256 := by omega
                    have hhi : hi < 256 := by omega
                    clear hlo0 hlo1 hhi0 hhi1
                    obtain ⟨h00, h1, h2, h3, f1, f2, f3⟩ := hP5.cells
                    go_wp2_with (go_at_call 22; refine (pfail_a b s _ _ _ _ hP5).mono ?_; rintro e w6 ⟨rfl, hP6, hf6⟩)
                    clear h00 h1 h2 h3 f1 f2 f3
                    have hsep6 : ∀ k, k < w5.heap.size → (w.heap.size < k ∨ (Value.slice A0 L.length cap0).ownBlock = some k) → ¬ At b k := fun k hk h => by
                      have := Hbw.out
                      rcases h with h | h
                      · show ¬ k = b; omega
                      · have := hO5.blk_lt k h; show ¬ k = b; omega
                    have hO := hO5.fr hf6 hsep6
                    have hB := hf6.blk hB5 hBb
                    have hF := Fr.trans hF5 hf6
                    have hP := hP6
                    clear hP5 hO5 hB5 hF5 hP6 hf6 hsep6
                    obtain ⟨x0, hx0⟩ : ∃ x0 : Int, x0 = (j2 : Int) := ⟨_, rfl⟩
                    obtain ⟨bad0, hbad0⟩ : ∃ bad0 : Int, bad0 = ((j + 1 : Nat) : Int) := ⟨_, rfl⟩
                    replace hP : Ps w6 b s x0 bad0 op := by rw [hx0, hbad0]; exact hP
                    have Hbad0 := hid hbad0
                    clear hx0 hbad0
                    have Hj1 : Hid (j + 1 ≤ s.size) := by show j + 1 ≤ s.size; omega
                    go_loopg [4, 8] (hi + 1 - lo) (fun g l bb wr => ∃ m : Nat, m + g = max lo (hi + 1) ∧ lo ≤ m ∧ bb = .int .i64 m ∧ Own wr (w.heap.size + 1) (fun k => w.heap.size < k) 3 1 l (L ++ rng lo m).length (encI (L ++ rng lo m)) ∧ Ps wr b s x0 bad0 op ∧ Blk wr w.heap.size 28 #[.int .i64 0, .int .u64 0, .int .u64 0, .int .u64 0, .int .u64 0, .int .i64 0, .int .i64 0, .slice none 0 0] ∧ Fr (At b) w wr)
                    case atStart => exact ⟨lo, by omega, Nat.le_refl _, rfl, by rw [rng_nil, List.append_nil]; exact hO, hP, hB, hF⟩
                    case round =>
                      clear hO hP hB hF
                      obtain ⟨m, hm, hlm, rfl, hO, hP, hB, hF⟩ := hrel
                      cases gk with
                      | zero =>
                        obtain rfl : m = max lo (hi + 1) := by omega
                        have hd : decide (max lo (hi + 1) ≤ hi) = false := decide_eq_false (by omega)
                        have hd' : ¬ ((max lo (hi + 1) : Nat) : Int) ≤ (hi : Int) := by omega
                        generalize hmx : max lo (hi + 1) = M at *
                        have Hmx := hid hmx
                        clear hmx hm
                        go_wp2_with fail
                        go_roundg kn
                        case measure => omega
                        case rel =>
                          rw [Hbad0.out] at hP
                          refine .inr ⟨j + 1, x0, L ++ rng lo M, HK.out, hP, Hj1.out, ?_, hO, hB, hF⟩
                          intro y hy
                          rcases List.mem_append.1 hy with h | h
                          · exact HL2.out y h
                          · have := rng_mem h; have := Hmx.out; omega
                      | succ gg => exact absurd hle (by omega)
              · rw [if_neg hx45] at H
                have hd45 : (nx s j == 45) = false := by simp [hx45]
                clear hx45
                have HK := hid H
                clear H hc1
                go_wp2_with (first | (go_at_call 28; refine (hNx2 _ hP3).mono ?_; rintro e wn2 ⟨rfl, n2, rfl⟩) | (go_at_call 28; refine (hNx _ hP).mono ?_; rintro e wn ⟨rfl, nn, rfl⟩) | (go_at_call 46; refine (hone _ (hP.drewN _)).mono ?_; rintro e w3 ⟨⟨v, rfl, rfl, hlo0, hlo1⟩, hP3, hj3, hf3⟩; obtain ⟨lo, rfl⟩ := Int.eq_ofNat_of_zero_le hlo0; clear h00 h1 h2 h3 f1 f2 f3; have hO3 := (hO.drewN nn).fr hf3 hsep; have hB3 := hf3.blk (hB.drewN nn) hBb; have hF3 := Fr.trans hF (Fr.undrewN hf3); obtain ⟨h00, h1, h2, h3, f1, f2, f3⟩ := hP3.cells))
                replace hP := hP3.drewN n2
                replace hO := hO3.drewN n2
                replace hB := hB3.drewN n2
                replace hF := hF3.drewN n2
                clear hP3 hO3 hB3 hF3 hf3 hsep hone hNx hNx2
                have hlo : lo < 256 := by omega
                clear hlo0 hlo1
                obtain ⟨x0, hx0⟩ : ∃ x0 : Int, x0 = (j : Int) := ⟨_, rfl⟩
                obtain ⟨bad0, hbad0⟩ : ∃ bad0 : Int, bad0 = -1 := ⟨_, rfl⟩
                rw [← hx0, ← hbad0] at hP
                have Hbad0 := hid (And.intro hx0 hbad0)
                clear hx0 hbad0
                have Hjj : Hid (i' < j) := hgt1.1
                have Hj2 : Hid (j ≤ s.size) := hgt1.2
                clear hgt1
                go_loopg [4, 8] (lo + 1 - lo) (fun g l bb wr => ∃ m : Nat, m + g = max lo (lo + 1) ∧ lo ≤ m ∧ bb = .int .i64 m ∧ Own wr (w.heap.size + 1) (fun k => w.heap.size < k) 3 1 l (L ++ rng lo m).length (encI (L ++ rng lo m)) ∧ Ps wr b s x0 bad0 op ∧ Blk wr w.heap.size 28 #[.int .i64 0, .int .u64 0, .int .u64 0, .int .u64 0, .int .u64 0, .int .i64 0, .int .i64 0, .slice none 0 0] ∧ Fr (At b) w wr)
                case atStart => exact ⟨lo, by omega, Nat.le_refl _, rfl, by rw [rng_nil, List.append_nil]; exact hO, hP, hB, hF⟩
                case round =>
                  clear hO hP hB hF
                  obtain ⟨m, hm, hlm, rfl, hO, hP, hB, hF⟩ := hrel
                  cases gk with
                  | zero =>
                    obtain rfl : m = max lo (lo + 1) := by omega
                    have hd : decide (max lo (lo + 1) ≤ lo) = false := decide_eq_false (by omega)
                    have hd' : ¬ ((max lo (lo + 1) : Nat) : Int) ≤ (lo : Int) := by omega
                    generalize hmx : max lo (lo + 1) = M at *
                    have Hmx := hid hmx
                    clear hmx hm
                    go_wp2_with fail
                    go_roundg kn
                    case measure => omega
                    case rel =>
                      obtain ⟨hx0, hbad0⟩ := Hbad0.out
                      rw [hx0, hbad0] at hP
                      refine .inl ⟨j, orS a (oneS (lo : Int)), L ++ rng lo M, HK.out, hP, Hj2.out, ?_, ?_, ?_, hO, hB, hF⟩
                      · have e : M = lo + 1 := by have := Hmx.out; omega
                        rw [bits_rng _ (by omega), e, HL.out]; exact by rw [rangeS_one]; rfl
                      · intro y hy
                        rcases List.mem_append.1 hy with h | h
                        · exact HL2.out y h
                        · have := rng_mem h; have := Hmx.out; omega
                      · rw [List.length_append, rng_len]; have := HL3.out; have := Hmx.out; have := Hjj.out; omega
                  | succ gg =>
                    have hd : decide (m ≤ lo) = true := decide_eq_true (by omega)
                    have hd' : (m : Int) ≤ (lo : Int) := by omega
                    have hml : (L ++ rng lo m).length ≤ 300000000 := by rw [List.length_append, rng_len]; omega
                    obtain ⟨A0, cap0, rfl, hc1, hc2⟩ := hO.form
                    have hO3 := hO.alloc (.cells #[.int .i64 m] 3)
                    have hgt := hB.lt
                    have Hm := hid hm
                    clear hm
                    generalize hR : L ++ rng lo m = R at *
                    have HR := hid hR
                    clear hR
                    go_wp2_with (at_builtin; go_loud ((with_reducible refine at_call ?_); refine wpList_append_D (es := [.v (.int .i64 m)]) (m := 1) rfl (.tmp 69) (.tmp 71) 66 rfl _ 8 Try.underlying66 infoInt3 rfl (by decide) rfl hO3 rfl (news := [.int .i64 m]) rfl (Blk.new _ 3 #[.int .i64 m]).news (.cons (.v rfl) .nil) (by omega) (by omega) (by rw [World.size_alloc]; omega) ?_); intro v' w9 hO9 hg9 hat9)
                    have hgw : ¬ (some w.heap.size = (Value.slice A0 R.length cap0).ownBlock) := fun h => by have := hO.blk_lt _ h.symm; omega
                    have hgb : ¬ (some b = (Value.slice A0 R.length cap0).ownBlock) := fun h => by have := hO.blk_lt _ h.symm; have := Hbw.out; omega
                    have hFg := Fr.ofGrown hg9
                    go_roundg gg
                    case measure => omega
                    case rel =>
                      have hj1 : m + 1 + gg = max lo (lo + 1) := by have := Hm.out; omega
                      refine ⟨m + 1, hj1, by omega, by simp, ?_, (hP.alloc _).fr hFg hgb, hFg.blk (hB.alloc _) hgw, Fr.call (Fr.alloc hF _) hFg (fun k hk h => by have := hO.blk_lt k h.symm; omega)⟩
                      rw [rng_succ hlm, ← List.append_assoc, HR.out, List.length_append, encI_append]
                      exact hO9
      · have hdk : decide ((k0 : Int) < 0) = false := decide_eq_false (by omega)
        have hk00 : (0 : Int) ≤ (k0 : Int) := by omega
        have H := HA.out
        subst H
        clear HA
        obtain ⟨h00, h1, h2, h3, f1, f2, f3⟩ := hP.cells
        have hO0 := hO
        obtain ⟨A0, cap0, rfl, hc1, hc2⟩ := hO.form
        have hsep : ∀ k, k < wr.heap.size → (w.heap.size < k ∨ (Value.slice A0 L.length cap0).ownBlock = some k) → ¬ At b k := fun k hk h => by
          have := Hbw.out
          rcases h with h | h
          · show ¬ k = b; omega
          · have := hO0.blk_lt k h; show ¬ k = b; omega
        have hBb : ¬ At b w.heap.size := by have := Hbw.out; show ¬ w.heap.size = b; omega
        go_wp2_with (go_at_call 38; refine (pmust_d b s op _ 93 _ _ (by repeat (first | assumption | apply Ps.drewN | apply Ps.drew | apply Ps.alloc | (apply Ps.setAt (hx := by first | rfl | omega)) | (apply Ps.setBad (hx := by omega)) | (apply Ps.setOp (hx := by omega)) | (apply Ps.far (hp := by simp only []; omega)))) (by omega)).mono ?_; rintro e w3 ⟨rfl, ⟨x3, hP3⟩, hf3⟩; have hO3 := hO0.fr hf3 hsep; have hB3 := hf3.blk hB hBb; have hF3 := Fr.trans hF hf3)
        clear h00 h1 h2 h3 f1 f2 f3
        have hset := set_c L _ (fun k => w.heap.size < k) w3 hL2 (hO3.rep (fun k hk => by omega))
        go_wp2_with (first | (go_at_call 47; refine hset.mono ?_; rintro e w4 ⟨rfl, hf4⟩; have hA4 := Blk.new w4 25 (setA 0)) |
          ((with_reducible refine at_store 25 ?_); refine wpList_store_blk (w := w4.alloc _) (cs := setA (bitsOf L)) rfl rfl rfl rfl hA4 rfl infoSet (setA_one _) ?_; intro W5 hW5 hfW5 hsz5; have hgt3 := hB3.lt; have hsw4 : w3.heap.size ≤ w4.heap.size := hf4.size; have hB5 : Blk W5 w.heap.size 28 #[.int .i64 0, .int .u64 0, .int .u64 0, .int .u64 0, .int .u64 0, .int .i64 0, .int .i64 0, .slice none 0 0] := hfW5.blk ((hf4.blk hB3 id).alloc _) (by show ¬ w.heap.size = w4.heap.size; omega); have hP5 := (((hP3.fr hf4 id).alloc (.cells (setA 0) 25)).fr hfW5 (by have := Hbw.out; show ¬ b = w4.heap.size; omega)); have hF5 : Fr (At b) w W5 := (((hF3).no hf4).alloc _).callAt hfW5 (by omega)) |
          ((with_reducible refine at_load 25 ?_); refine wpList_load_blk (w := W5) (cs := setA (bitsOf L)) rfl rfl rfl hW5 Try.underlying25 rfl infoSet ?_; try unfold setA) |
          ((with_reducible refine at_store 28 ?_); refine wpList_store_blk (w := W5) (cs := nodeA (.mk 2 (bitsOf L) 0 0 []) none 0) rfl rfl rfl rfl hB5 rfl infoNode (nodeA_one _ _ _) ?_; intro W8 hW8 hfW8 _))
        refine bodyPost_blk rfl rfl hW8 Try.underlying28 rfl infoNode rfl ?_
        exact ⟨⟨_, _, rfl, rfl⟩, ⟨x3, hP5.fr hfW8 (by have := Hbw.out; show ¬ b = w.heap.size; omega)⟩, hk0, hF5.callAt hfW8 (Nat.le_refl _)⟩
  | true =>
    go_enter Try.func45, Try.ntmps45
    go_wp2_with (go_at_call 28; refine hN.mono ?_; rintro e wn ⟨rfl, nn, rfl⟩)
    go_loopg [4] (s.size + 1) (fun k l wr => (∃ (i' a : Nat) (L : List Nat), Aside (Rx.classLoop s k i' a = res) ∧ Ps wr b s i' (-1) op ∧ i' ≤ s.size ∧ bitsOf L = a ∧ (∀ y ∈ L, y < 256) ∧ L.length ≤ 256 * i' ∧ Own wr (w.heap.size + 1) (fun k => w.heap.size < k) 3 1 l L.length (encI L) ∧ Blk wr w.heap.size 28 #[.int .i64 0, .int .u64 0, .int .u64 0, .int .u64 0, .int .u64 0, .int .i64 0, .int .i64 0, .slice none 0 0] ∧ Fr (At b) w wr) ∨
      (∃ (k0 : Nat) (x : Int) (L : List Nat), Aside (R.bad k0 = res) ∧ Ps wr b s x k0 op ∧ k0 ≤ s.size ∧ (∀ y ∈ L, y < 256) ∧ Own wr (w.heap.size + 1) (fun k => w.heap.size < k) 3 1 l L.length (encI L) ∧ Blk wr w.heap.size 28 #[.int .i64 0, .int .u64 0, .int .u64 0, .int .u64 0, .int .u64 0, .int .i64 0, .int .i64 0, .slice none 0 0] ∧ Fr (At b) w wr))
    case atStart => exact .inl ⟨i1, 0, [], Hres.out, (hr0.drewN nn).setAt (by have h1 : i + 1 = i1 := (by simpa using Hi1.out); have := Hs.out; have := Hi1'.out; unfold wrap64; omega), Hi1'.out, rfl, (fun y hy => by cases hy), Nat.zero_le _, Own.nil _ _ _ _ _, (hB0.drewN nn).far (by have := Hbw.out; show w.heap.size ≠ b; omega) _, (hF0.drewN nn).setB 1 _⟩
    case round =>
      clear hr0 hB0 hF0 h00 h1 h2 h3 f1 f2 f3 hN
      rcases hrel with ⟨i', a, L, HA, hP, hi2, hL, hL2, hL3, hO, hB, hF⟩ | ⟨k0, x, L, HA, hP, hk0, hL2, hO, hB, hF⟩
      · cases gk with
        | zero => exact absurd (HA.out : R.out = res).symm Hne.out
        | succ kn =>
          have H := HA.out
          clear HA
          unfold Rx.classLoop at H
          have hNx := fun (W : World) (h : Ps W b s i' (-1) op) => pnext_a b s i' op W h
          obtain ⟨h00, h1, h2, h3, f1, f2, f3⟩ := hP.cells
          by_cases hx : nx s i' = 93
          · rw [if_pos hx] at H
            subst H
            have hd : (nx s i' != 93) = false := by simp [hx]
            have Hx := hid hx
            clear hx
            have hsz := Hs.out
            have hmu := fun (W : World) (hW : Ps W b s i' (-1) op) => pmust_a b s i' op W 93 (by omega) hW (by omega) hi2
            unfold Rx.must at hmu
            simp only [if_pos Hx.out] at hmu
            have Hmu := hid hmu
            clear hmu
            have hO0 := hO
            obtain ⟨A0, cap0, rfl, hc1, hc2⟩ := hO.form
            have hsep : ∀ k, k < wr.heap.size → (w.heap.size < k ∨ (Value.slice A0 L.length cap0).ownBlock = some k) → ¬ At b k := fun k hk h => by
              have := Hbw.out
              rcases h with h | h
              · show ¬ k = b; omega
              · have := hO0.blk_lt k h; show ¬ k = b; omega
            have hBb : ¬ At b w.heap.size := by have := Hbw.out; show ¬ w.heap.size = b; omega
            go_wp2_with (first | (go_at_call 28; refine (hNx _ (by repeat (first | assumption | apply Ps.drewN | apply Ps.drew | apply Ps.alloc | (apply Ps.setAt (hx := by first | rfl | omega)) | (apply Ps.setBad (hx := by omega)) | (apply Ps.setOp (hx := by omega)) | (apply Ps.far (hp := by simp only []; omega))))).mono ?_; rintro e wn ⟨rfl, nn, rfl⟩) |
              (go_at_call 38; refine (Hmu.out _ (by repeat (first | assumption | apply Ps.drewN | apply Ps.drew | apply Ps.alloc | (apply Ps.setAt (hx := by first | rfl | omega)) | (apply Ps.setBad (hx := by omega)) | (apply Ps.setOp (hx := by omega)) | (apply Ps.far (hp := by simp only []; omega))))).mono ?_; rintro e w3 ⟨⟨v, rfl, rfl⟩, hP3, hj3, hf3⟩; have hO3 := (hO0.drewN nn).fr hf3 hsep; have hB3 := hf3.blk (hB.drewN nn) hBb))
            clear h00 h1 h2 h3 f1 f2 f3
            have hset := set_c L _ (fun k => w.heap.size < k) w3 hL2 (hO3.rep (fun k hk => by omega))
            rw [hL] at hset
            go_wp2_with (first | (go_at_call 47; refine hset.mono ?_; rintro e w4 ⟨rfl, hf4⟩; have hA4 := Blk.new w4 25 (setA 0)) |
              ((with_reducible refine at_store 25 ?_); refine wpList_store_blk (w := w4.alloc _) (cs := setA a) rfl rfl rfl rfl hA4 rfl infoSet (setA_one _) ?_; intro W5 hW5 hfW5 hsz5; have hgt3 := hB3.lt; have hsw4 : w3.heap.size ≤ w4.heap.size := hf4.size; have hB5 : Blk W5 w.heap.size 28 #[.int .i64 0, .int .u64 0, .int .u64 0, .int .u64 0, .int .u64 0, .int .i64 0, .int .i64 0, .slice none 0 0] := hfW5.blk ((hf4.blk hB3 id).alloc _) (by show ¬ w.heap.size = w4.heap.size; omega); have hP5 := (((hP3.fr hf4 id).alloc (.cells (setA 0) 25)).fr hfW5 (by have := Hbw.out; show ¬ b = w4.heap.size; omega)); have hF5 : Fr (At b) w W5 := (((Fr.trans hF (Fr.undrewN hf3)).no hf4).alloc _).callAt hfW5 (by omega)) |
              ((with_reducible refine at_load 25 ?_); refine wpList_load_blk (w := W5) (cs := setA a) rfl rfl rfl hW5 Try.underlying25 rfl infoSet ?_; try unfold setA) |
              (go_at_call 44; refine (not04_c a _).mono ?_; rintro e w6 ⟨rfl, hf6⟩; have hA6 := hf6.blk hW5 id) |
              ((with_reducible refine at_store 25 ?_); refine wpList_store_blk (w := w6) (cs := setA (notS a)) rfl rfl rfl rfl hA6 rfl infoSet (setA_one _) ?_; intro W7 hW7 hfW7 hsz7; have hB7 : Blk W7 w.heap.size 28 #[.int .i64 0, .int .u64 0, .int .u64 0, .int .u64 0, .int .u64 0, .int .i64 0, .int .i64 0, .slice none 0 0] := hfW7.blk (hf6.blk hB5 id) (by show ¬ w.heap.size = w4.heap.size; omega); have hP7 := (hP5.fr hf6 id).fr hfW7 (by have := Hbw.out; show ¬ b = w4.heap.size; omega); have hF7 : Fr (At b) w W7 := (hF5.no hf6).callAt hfW7 (by omega)) |
              ((with_reducible refine at_load 25 ?_); refine wpList_load_blk (w := W7) (cs := setA (notS a)) rfl rfl rfl hW7 Try.underlying25 rfl infoSet ?_; try unfold setA) |
              ((with_reducible refine at_store 28 ?_); refine wpList_store_blk (w := W7) (cs := nodeA (.mk 2 (notS a) 0 0 []) none 0) rfl rfl rfl rfl hB7 rfl infoNode (nodeA_one _ _ _) ?_; intro W8 hW8 hfW8 _))
            refine bodyPost_blk rfl rfl hW8 Try.underlying28 rfl infoNode rfl ?_
            exact ⟨⟨_, rfl, rfl⟩, hP7.fr hfW8 (by have := Hbw.out; show ¬ b = w.heap.size; omega), hj3, hF7.callAt hfW8 (Nat.le_refl _)⟩
          · rw [if_neg hx] at H
            have hd : (nx s i' != 93) = true := by simp [hx]
            clear hx
            have hsz := Hs.out
            have hone := fun (W : World) (hW : Ps W b s i' (-1) op) => pone_a b s i' op W (by omega) hW hi2
            have hLlen : L.length ≤ 268435456 := by omega
            have HL := hid hL
            have HL2 := hid hL2
            have HL3 := hid hL3
            clear hL hL2 hL3
            obtain ⟨A0, cap0, rfl, hc1, hc2⟩ := hO.form
            have hsep : ∀ k, k < wr.heap.size → (w.heap.size < k ∨ (Value.slice A0 L.length cap0).ownBlock = some k) → ¬ At b k := fun k hk h => by
              have := Hbw.out
              rcases h with h | h
              · show ¬ k = b; omega
              · have := hO.blk_lt k h; show ¬ k = b; omega
            have hBb : ¬ At b w.heap.size := by have := Hbw.out; show ¬ w.heap.size = b; omega
            unfold Rx.span at H
            cases hc1 : Rx.one s i' with
            | out => exact absurd hc1 (one_ne _ _)
            | bad k1 =>
              rw [hc1] at hone H
              simp only [R.bind] at H
              have HK := hid H
              clear H hc1
              go_wp2_with (first | (go_at_call 28; refine (pnext_d b s op _ _ _ hP3).mono ?_; rintro e wn2 ⟨rfl, n2, rfl⟩) | (go_at_call 28; refine (hNx _ hP).mono ?_; rintro e wn ⟨rfl, nn, rfl⟩) |
                (go_at_call 46; refine (hone _ (hP.drewN _)).mono ?_; rintro e w3 ⟨⟨v, lo, rfl, rfl, hlo0, hlo1⟩, ⟨x0, hP3⟩, hk1, hf3⟩; obtain ⟨lo, rfl⟩ := Int.eq_ofNat_of_zero_le hlo0; clear h00 h1 h2 h3 f1 f2 f3; have hO3 := (hO.drewN nn).fr hf3 hsep; have hB3 := hf3.blk (hB.drewN nn) hBb; have hF3 := Fr.trans hF (Fr.undrewN hf3)))
              replace hP := hP3.drewN n2
              replace hO := hO3.drewN n2
              replace hB := hB3.drewN n2
              replace hF := hF3.drewN n2
              clear hP3 hO3 hB3 hF3 hf3 hsep hone hNx
              have hlo : lo < 256 := by omega
              clear hlo0 hlo1
              obtain ⟨bad0, hbad0⟩ : ∃ bad0 : Int, bad0 = (k1 : Int) := ⟨_, rfl⟩
              rw [← hbad0] at hP
              have Hbad0 := hid hbad0
              clear hbad0
              go_loopg [4, 8] (lo + 1 - lo) (fun g l bb wr => ∃ m : Nat, m + g = max lo (lo + 1) ∧ lo ≤ m ∧ bb = .int .i64 m ∧ Own wr (w.heap.size + 1) (fun k => w.heap.size < k) 3 1 l (L ++ rng lo m).length (encI (L ++ rng lo m)) ∧ Ps wr b s x0 bad0 op ∧ Blk wr w.heap.size 28 #[.int .i64 0, .int .u64 0, .int .u64 0, .int .u64 0, .int .u64 0, .int .i64 0, .int .i64 0, .slice none 0 0] ∧ Fr (At b) w wr)
              case atStart => exact ⟨lo, by omega, Nat.le_refl _, rfl, by rw [rng_nil, List.append_nil]; exact hO, hP, hB, hF⟩
              case round =>
                clear hO hP hB hF
                obtain ⟨m, hm, hlm, rfl, hO, hP, hB, hF⟩ := hrel
                cases gk with
                | zero =>
                  obtain rfl : m = max lo (lo + 1) := by omega
                  have hd : decide (max lo (lo + 1) ≤ lo) = false := decide_eq_false (by omega)
                  have hd' : ¬ ((max lo (lo + 1) : Nat) : Int) ≤ (lo : Int) := by omega
                  generalize hmx : max lo (lo + 1) = M at *
                  have Hmx := hid hmx
                  clear hmx hm
                  go_wp2_with fail
                  go_roundg kn
                  case measure => omega
                  case rel =>
                    rw [Hbad0.out] at hP
                    refine .inr ⟨k1, x0, L ++ rng lo M, HK.out, hP, hk1, ?_, hO, hB, hF⟩
                    intro y hy
                    rcases List.mem_append.1 hy with h | h
                    · exact HL2.out y h
                    · have := rng_mem h; have := Hmx.out; omega
                | succ gg =>
                  have hd : decide (m ≤ lo) = true := decide_eq_true (by omega)
                  have hd' : (m : Int) ≤ (lo : Int) := by omega
                  have hml : (L ++ rng lo m).length ≤ 300000000 := by rw [List.length_append, rng_len]; omega
                  obtain ⟨A0, cap0, rfl, hc1, hc2⟩ := hO.form
                  have hO3 := hO.alloc (.cells #[.int .i64 m] 3)
                  have hgt := hB.lt
                  have Hm := hid hm
                  clear hm
                  generalize hR : L ++ rng lo m = R at *
                  have HR := hid hR
                  clear hR
                  go_wp2_with (at_builtin; go_loud ((with_reducible refine at_call ?_); refine wpList_append_D (es := [.v (.int .i64 m)]) (m := 1) rfl (.tmp 69) (.tmp 71) 66 rfl _ 8 Try.underlying66 infoInt3 rfl (by decide) rfl hO3 rfl (news := [.int .i64 m]) rfl (Blk.new _ 3 #[.int .i64 m]).news (.cons (.v rfl) .nil) (by omega) (by omega) (by rw [World.size_alloc]; omega) ?_); intro v' w9 hO9 hg9 hat9)
                  have hgw : ¬ (some w.heap.size = (Value.slice A0 R.length cap0).ownBlock) := fun h => by have := hO.blk_lt _ h.symm; omega
                  have hgb : ¬ (some b = (Value.slice A0 R.length cap0).ownBlock) := fun h => by have := hO.blk_lt _ h.symm; have := Hbw.out; omega
                  have hFg := Fr.ofGrown hg9
                  go_roundg gg
                  case measure => omega
                  case rel =>
                    have hj1 : m + 1 + gg = max lo (lo + 1) := by have := Hm.out; omega
                    refine ⟨m + 1, hj1, by omega, by simp, ?_, (hP.alloc _).fr hFg hgb, hFg.blk (hB.alloc _) hgw, Fr.call (Fr.alloc hF _) hFg (fun k hk h => by have := hO.blk_lt k h.symm; omega)⟩
                    rw [rng_succ hlm, ← List.append_assoc, HR.out, List.length_append, encI_append]
                    exact hO9
            | ok lo j =>
              have hgt1 := one_gt hc1
              rw [hc1] at hone H
              simp only [R.bind] at H
              have hNx2 := fun (W : World) (h : Ps W b s j (-1) op) => pnext_a b s j op W h
              by_cases hx45 : nx s j = 45
              · rw [if_pos hx45] at H
                have hlt45 := nx_nonneg (s := s) (i := j) (by omega)
                have hd45 : (nx s j == 45) = true := by simp [hx45]
                clear hx45
                have hone2 := fun (W : World) (hW : Ps W b s (j + 1 : Nat) (-1) op) => pone_a b s (j + 1) op W (by omega) hW (by omega)
                cases hc2 : Rx.one s (j + 1) with
                | out => exact absurd hc2 (one_ne _ _)
                | bad k2 =>
                  rw [hc2] at hone2 H
                  simp only [R.bind] at H
                  have HK := hid H
                  clear H hc1 hc2
                  go_wp2_with (first | (go_at_call 28; refine (hNx2 _ hP3).mono ?_; rintro e wn2 ⟨rfl, n2, rfl⟩) | (go_at_call 28; refine (hNx _ hP).mono ?_; rintro e wn ⟨rfl, nn, rfl⟩) | (go_at_call 46; refine (hone _ (hP.drewN _)).mono ?_; rintro e w3 ⟨⟨v, rfl, rfl, hlo0, hlo1⟩, hP3, hj3, hf3⟩; obtain ⟨lo, rfl⟩ := Int.eq_ofNat_of_zero_le hlo0; clear h00 h1 h2 h3 f1 f2 f3; have hO3 := (hO.drewN nn).fr hf3 hsep; have hB3 := hf3.blk (hB.drewN nn) hBb; have hF3 := Fr.trans hF (Fr.undrewN hf3); obtain ⟨h00, h1, h2, h3, f1, f2, f3⟩ := hP3.cells))
                  have hP4 := (hP3.drewN n2).setAt (y := (j : Int) + 1) (z := ((j + 1 : Nat) : Int)) (by omega)
                  have hF4 := (hF3.drewN n2).setB 1 (.int .i64 ((j : Int) + 1))
                  have hO4 := (hO3.drewN n2).set (p := ⟨b, 1, none⟩) (by have := Hbw.out; show ¬ w.heap.size < b; omega) (fun h => by have h2 : w.heap.size + 1 ≤ b := ((hO3.drewN n2).blk_lt _ h).1; have := Hbw.out; omega) (.int .i64 ((j : Int) + 1))
                  have hB4 := (hB3.drewN n2).far (p := ⟨b, 1, none⟩) (by have := Hbw.out; show w.heap.size ≠ b; omega) (.int .i64 ((j : Int) + 1))
                  clear h00 h1 h2 h3 f1 f2 f3
                  refine (hone2 _ hP4).mono ?_
                  rintro e w5 ⟨⟨v, hi, rfl, rfl, hhi0, hhi1⟩, ⟨x0, hP5⟩, hk2, hf5⟩
                  obtain ⟨hi, rfl⟩ := Int.eq_ofNat_of_zero_le hhi0
                  have hO5 := hO4.fr hf5 (fun k hk h => by
                    have := Hbw.out
                    rcases h with h | h
                    · show ¬ k = b; omega
                    · have := hO4.blk_lt k h; show ¬ k = b; omega)
                  have hB5 := hf5.blk hB4 hBb
                  have hF5 := Fr.trans hF4 hf5
                  clear hP4 hO4 hB4 hF4 hf5 hP3 hO3 hB3 hF3 hf3 hP hO hB hF hone hone2 hNx hNx2 hsep
                  have hdk : decide ((k2 : Int) < 0) = false := decide_eq_false (by omega)
                  have hlo : lo < 256 := by omega
                  have hhi : hi < 256 := by omega
                  clear hlo0 hlo1 hhi0 hhi1
                  have hP := hP5
                  have hO := hO5
                  have hB := hB5
                  have hF := hF5
                  clear hP5 hO5 hB5 hF5
                  obtain ⟨h00, h1, h2, h3, f1, f2, f3⟩ := hP.cells
                  go_wp2_with fail
                  clear h00 h1 h2 h3 f1 f2 f3
                  obtain ⟨bad0, hbad0⟩ : ∃ bad0 : Int, bad0 = (k2 : Int) := ⟨_, rfl⟩
                  rw [← hbad0] at hP
                  have Hbad0 := hid hbad0
                  clear hbad0
                  go_loopg [4, 8] (hi + 1 - lo) (fun g l bb wr => ∃ m : Nat, m + g = max lo (hi + 1) ∧ lo ≤ m ∧ bb = .int .i64 m ∧ Own wr (w.heap.size + 1) (fun k => w.heap.size < k) 3 1 l (L ++ rng lo m).length (encI (L ++ rng lo m)) ∧ Ps wr b s x0 bad0 op ∧ Blk wr w.heap.size 28 #[.int .i64 0, .int .u64 0, .int .u64 0, .int .u64 0, .int .u64 0, .int .i64 0, .int .i64 0, .slice none 0 0] ∧ Fr (At b) w wr)
                  case atStart => exact ⟨lo, by omega, Nat.le_refl _, rfl, by rw [rng_nil, List.append_nil]; exact hO, hP, hB, hF⟩
                  case round =>
                    clear hO hP hB hF
                    obtain ⟨m, hm, hlm, rfl, hO, hP, hB, hF⟩ := hrel
                    cases gk with
                    | zero =>
                      obtain rfl : m = max lo (hi + 1) := by omega
                      have hd : decide (max lo (hi + 1) ≤ hi) = false := decide_eq_false (by omega)
                      have hd' : ¬ ((max lo (hi + 1) : Nat) : Int) ≤ (hi : Int) := by omega
                      generalize hmx : max lo (hi + 1) = M at *
                      have Hmx := hid hmx
                      clear hmx hm
                      go_wp2_with fail
                      go_roundg kn
                      case measure => omega
                      case rel =>
                        rw [Hbad0.out] at hP
                        refine .inr ⟨k2, x0, L ++ rng lo M, HK.out, hP, hk2, ?_, hO, hB, hF⟩
                        intro y hy
                        rcases List.mem_append.1 hy with h | h
                        · exact HL2.out y h
                        · have := rng_mem h; have := Hmx.out; omega
                    | succ gg =>
                      have hd : decide (m ≤ hi) = true := decide_eq_true (by omega)
                      have hd' : (m : Int) ≤ (hi : Int) := by omega
                      have hml : (L ++ rng lo m).length ≤ 300000000 := by rw [List.length_append, rng_len]; omega
                      obtain ⟨A0, cap0, rfl, hc1, hc2⟩ := hO.form
                      have hO3 := hO.alloc (.cells #[.int .i64 m] 3)
                      have hgt := hB.lt
                      have Hm := hid hm
                      clear hm
                      generalize hR : L ++ rng lo m = R at *
                      have HR := hid hR
                      clear hR
                      go_wp2_with (at_builtin; go_loud ((with_reducible refine at_call ?_); refine wpList_append_D (es := [.v (.int .i64 m)]) (m := 1) rfl (.tmp 69) (.tmp 71) 66 rfl _ 8 Try.underlying66 infoInt3 rfl (by decide) rfl hO3 rfl (news := [.int .i64 m]) rfl (Blk.new _ 3 #[.int .i64 m]).news (.cons (.v rfl) .nil) (by omega) (by omega) (by rw [World.size_alloc]; omega) ?_); intro v' w9 hO9 hg9 hat9)
                      have hgw : ¬ (some w.heap.size = (Value.slice A0 R.length cap0).ownBlock) := fun h => by have := hO.blk_lt _ h.symm; omega
                      have hgb : ¬ (some b = (Value.slice A0 R.length cap0).ownBlock) := fun h => by have := hO.blk_lt _ h.symm; have := Hbw.out; omega
                      have hFg := Fr.ofGrown hg9
                      go_roundg gg
                      case measure => omega
                      case rel =>
                        have hj1 : m + 1 + gg = max lo (hi + 1) := by have := Hm.out; omega
                        refine ⟨m + 1, hj1, by omega, by simp, ?_, (hP.alloc _).fr hFg hgb, hFg.blk (hB.alloc _) hgw, Fr.call (Fr.alloc hF _) hFg (fun k hk h => by have := hO.blk_lt k h.symm; omega)⟩
                        rw [rng_succ hlm, ← List.append_assoc, HR.out, List.length_append, encI_append]
                        exact hO9
                | ok hi j2 =>
                  have hgt2 := one_gt hc2
                  rw [hc2] at hone2 H
                  simp only [R.bind] at H
                  by_cases hle : lo ≤ hi
                  · rw [if_pos hle] at H
                    have HK := hid H
                    clear H hc1 hc2
                    go_wp2_with (first | (go_at_call 28; refine (hNx2 _ hP3).mono ?_; rintro e wn2 ⟨rfl, n2, rfl⟩) | (go_at_call 28; refine (hNx _ hP).mono ?_; rintro e wn ⟨rfl, nn, rfl⟩) | (go_at_call 46; refine (hone _ (hP.drewN _)).mono ?_; rintro e w3 ⟨⟨v, rfl, rfl, hlo0, hlo1⟩, hP3, hj3, hf3⟩; obtain ⟨lo, rfl⟩ := Int.eq_ofNat_of_zero_le hlo0; clear h00 h1 h2 h3 f1 f2 f3; have hO3 := (hO.drewN nn).fr hf3 hsep; have hB3 := hf3.blk (hB.drewN nn) hBb; have hF3 := Fr.trans hF (Fr.undrewN hf3); obtain ⟨h00, h1, h2, h3, f1, f2, f3⟩ := hP3.cells))
                    have hP4 := (hP3.drewN n2).setAt (y := (j : Int) + 1) (z := ((j + 1 : Nat) : Int)) (by omega)
                    have hF4 := (hF3.drewN n2).setB 1 (.int .i64 ((j : Int) + 1))
                    have hO4 := (hO3.drewN n2).set (p := ⟨b, 1, none⟩) (by have := Hbw.out; show ¬ w.heap.size < b; omega) (fun h => by have h2 : w.heap.size + 1 ≤ b := ((hO3.drewN n2).blk_lt _ h).1; have := Hbw.out; omega) (.int .i64 ((j : Int) + 1))
                    have hB4 := (hB3.drewN n2).far (p := ⟨b, 1, none⟩) (by have := Hbw.out; show w.heap.size ≠ b; omega) (.int .i64 ((j : Int) + 1))
                    clear h00 h1 h2 h3 f1 f2 f3
                    refine (hone2 _ hP4).mono ?_
                    rintro e w5 ⟨⟨v, rfl, rfl, hhi0, hhi1⟩, hP5, hk2, hf5⟩
                    obtain ⟨hi, rfl⟩ := Int.eq_ofNat_of_zero_le hhi0
                    have hO5 := hO4.fr hf5 (fun k hk h => by
                      have := Hbw.out
                      rcases h with h | h
                      · show ¬ k = b; omega
                      · have := hO4.blk_lt k h; show ¬ k = b; omega)
                    have hB5 := hf5.blk hB4 hBb
                    have hF5 := Fr.trans hF4 hf5
                    clear hP4 hO4 hB4 hF4 hf5 hP3 hO3 hB3 hF3 hf3 hP hO hB hF hone hone2 hNx hNx2 hsep
                    have hdk : decide ((hi : Int) < (lo : Int)) = false := decide_eq_false (by omega)
                    have hdk2 : decide (hi < lo) = false := decide_eq_false (by omega)
                    have hlo : lo < 256 := by omega
                    have hhi : hi < 256 := by omega
                    clear hlo0 hlo1 hhi0 hhi1
                    have hP := hP5
                    have hO := hO5
                    have hB := hB5
                    have hF := hF5
                    clear hP5 hO5 hB5 hF5
                    obtain ⟨h00, h1, h2, h3, f1, f2, f3⟩ := hP.cells
                    go_wp2_with fail
                    clear h00 h1 h2 h3 f1 f2 f3
                    obtain ⟨x0, hx0⟩ : ∃ x0 : Int, x0 = (j2 : Int) := ⟨_, rfl⟩
                    obtain ⟨bad0, hbad0⟩ : ∃ bad0 : Int, bad0 = -1 := ⟨_, rfl⟩
                    rw [← hx0, ← hbad0] at hP
                    have Hbad0 := hid (And.intro hx0 hbad0)
                    clear hx0 hbad0
                    have Hjj : Hid (i' < j2) := by show i' < j2; omega
                    have Hj2 : Hid (j2 ≤ s.size) := hgt2.2
                    have Hle : Hid (lo ≤ hi) := by show lo ≤ hi; omega
                    clear hgt1 hgt2
                    go_loopg [4, 8] (hi + 1 - lo) (fun g l bb wr => ∃ m : Nat, m + g = max lo (hi + 1) ∧ lo ≤ m ∧ bb = .int .i64 m ∧ Own wr (w.heap.size + 1) (fun k => w.heap.size < k) 3 1 l (L ++ rng lo m).length (encI (L ++ rng lo m)) ∧ Ps wr b s x0 bad0 op ∧ Blk wr w.heap.size 28 #[.int .i64 0, .int .u64 0, .int .u64 0, .int .u64 0, .int .u64 0, .int .i64 0, .int .i64 0, .slice none 0 0] ∧ Fr (At b) w wr)
                    case atStart => exact ⟨lo, by omega, Nat.le_refl _, rfl, by rw [rng_nil, List.append_nil]; exact hO, hP, hB, hF⟩
                    case round =>
                      clear hO hP hB hF
                      obtain ⟨m, hm, hlm, rfl, hO, hP, hB, hF⟩ := hrel
                      cases gk with
                      | zero =>
                        obtain rfl : m = max lo (hi + 1) := by omega
                        have hd : decide (max lo (hi + 1) ≤ hi) = false := decide_eq_false (by omega)
                        have hd' : ¬ ((max lo (hi + 1) : Nat) : Int) ≤ (hi : Int) := by omega
                        generalize hmx : max lo (hi + 1) = M at *
                        have Hmx := hid hmx
                        clear hmx hm
                        go_wp2_with fail
                        go_roundg kn
                        case measure => omega
                        case rel =>
                          obtain ⟨hx0, hbad0⟩ := Hbad0.out
                          rw [hx0, hbad0] at hP
                          refine .inl ⟨j2, orS a (ofS (lo : Int) (hi : Int)), L ++ rng lo M, HK.out, hP, Hj2.out, ?_, ?_, ?_, hO, hB, hF⟩
                          · have e : M = hi + 1 := by have := Hmx.out; omega
                            rw [bits_rng _ (by omega), e, HL.out]; exact rfl
                          · intro y hy
                            rcases List.mem_append.1 hy with h | h
                            · exact HL2.out y h
                            · have := rng_mem h; have := Hmx.out; omega
                          · rw [List.length_append, rng_len]; have := HL3.out; have := Hmx.out; have := Hjj.out; omega
                      | succ gg =>
                        have hd : decide (m ≤ hi) = true := decide_eq_true (by omega)
                        have hd' : (m : Int) ≤ (hi : Int) := by omega
                        have hml : (L ++ rng lo m).length ≤ 300000000 := by rw [List.length_append, rng_len]; omega
                        obtain ⟨A0, cap0, rfl, hc1, hc2⟩ := hO.form
                        have hO3 := hO.alloc (.cells #[.int .i64 m] 3)
                        have hgt := hB.lt
                        have Hm := hid hm
                        clear hm
                        generalize hR : L ++ rng lo m = R at *
                        have HR := hid hR
                        clear hR
                        go_wp2_with (at_builtin; go_loud ((with_reducible refine at_call ?_); refine wpList_append_D (es := [.v (.int .i64 m)]) (m := 1) rfl (.tmp 69) (.tmp 71) 66 rfl _ 8 Try.underlying66 infoInt3 rfl (by decide) rfl hO3 rfl (news := [.int .i64 m]) rfl (Blk.new _ 3 #[.int .i64 m]).news (.cons (.v rfl) .nil) (by omega) (by omega) (by rw [World.size_alloc]; omega) ?_); intro v' w9 hO9 hg9 hat9)
                        have hgw : ¬ (some w.heap.size = (Value.slice A0 R.length cap0).ownBlock) := fun h => by have := hO.blk_lt _ h.symm; omega
                        have hgb : ¬ (some b = (Value.slice A0 R.length cap0).ownBlock) := fun h => by have := hO.blk_lt _ h.symm; have := Hbw.out; omega
                        have hFg := Fr.ofGrown hg9
                        go_roundg gg
                        case measure => omega
                        case rel =>
                          have hj1 : m + 1 + gg = max lo (hi + 1) := by have := Hm.out; omega
                          refine ⟨m + 1, hj1, by omega, by simp, ?_, (hP.alloc _).fr hFg hgb, hFg.blk (hB.alloc _) hgw, Fr.call (Fr.alloc hF _) hFg (fun k hk h => by have := hO.blk_lt k h.symm; omega)⟩
                          rw [rng_succ hlm, ← List.append_assoc, HR.out, List.length_append, encI_append]
                          exact hO9
                  · rw [if_neg hle] at H
                    have HK := hid H
                    clear H hc1 hc2
                    go_wp2_with (first | (go_at_call 28; refine (hNx2 _ hP3).mono ?_; rintro e wn2 ⟨rfl, n2, rfl⟩) | (go_at_call 28; refine (hNx _ hP).mono ?_; rintro e wn ⟨rfl, nn, rfl⟩) | (go_at_call 46; refine (hone _ (hP.drewN _)).mono ?_; rintro e w3 ⟨⟨v, rfl, rfl, hlo0, hlo1⟩, hP3, hj3, hf3⟩; obtain ⟨lo, rfl⟩ := Int.eq_ofNat_of_zero_le hlo0; clear h00 h1 h2 h3 f1 f2 f3; have hO3 := (hO.drewN nn).fr hf3 hsep; have hB3 := hf3.blk (hB.drewN nn) hBb; have hF3 := Fr.trans hF (Fr.undrewN hf3); obtain ⟨h00, h1, h2, h3, f1, f2, f3⟩ := hP3.cells))
                    have hP4 := (hP3.drewN n2).setAt (y := (j : Int) + 1) (z := ((j + 1 : Nat) : Int)) (by omega)
                    have hF4 := (hF3.drewN n2).setB 1 (.int .i64 ((j : Int) + 1))
                    have hO4 := (hO3.drewN n2).set (p := ⟨b, 1, none⟩) (by have := Hbw.out; show ¬ w.heap.size < b; omega) (fun h => by have h2 : w.heap.size + 1 ≤ b := ((hO3.drewN n2).blk_lt _ h).1; have := Hbw.out; omega) (.int .i64 ((j : Int) + 1))
                    have hB4 := (hB3.drewN n2).far (p := ⟨b, 1, none⟩) (by have := Hbw.out; show w.heap.size ≠ b; omega) (.int .i64 ((j : Int) + 1))
                    clear h00 h1 h2 h3 f1 f2 f3
                    refine (hone2 _ hP4).mono ?_
                    rintro e w5 ⟨⟨v, rfl, rfl, hhi0, hhi1⟩, hP5, hk2, hf5⟩
                    obtain ⟨hi, rfl⟩ := Int.eq_ofNat_of_zero_le hhi0
                    have hO5 := hO4.fr hf5 (fun k hk h => by
                      have := Hbw.out
                      rcases h with h | h
                      · show ¬ k = b; omega
                      · have := hO4.blk_lt k h; show ¬ k = b; omega)
                    have hB5 := hf5.blk hB4 hBb
                    have hF5 := Fr.trans hF4 hf5
                    clear hP4 hO4 hB4 hF4 hf5 hP3 hO3 hB3 hF3 hf3 hP hO hB hF hone hone2 hNx hNx2 hsep
                    have hdk : decide ((hi : Int) < (lo : Int)) = true := decide_eq_true (by omega)
                    have hdk2 : decide (hi < lo) = true := decide_eq_true (by omega)
                    have hlo : lo < 256 := by omega
                    have hhi : hi < 256 := by omega
                    clear hlo0 hlo1 hhi0 hhi1
                    obtain ⟨h00, h1, h2, h3, f1, f2, f3⟩ := hP5.cells
                    go_wp2_with (go_at_call 22; refine (pfail_a b s _ _ _ _ hP5).mono ?_; rintro e w6 ⟨rfl, hP6, hf6⟩)
                    clear h00 h1 h2 h3 f1 f2 f3
                    have hsep6 : ∀ k, k < w5.heap.size → (w.heap.size < k ∨ (Value.slice A0 L.length cap0).ownBlock = some k) → ¬ At b k := fun k hk h => by
                      have := Hbw.out
                      rcases h with h | h
                      · show ¬ k = b; omega
                      · have := hO5.blk_lt k h; show ¬ k = b; omega
                    have hO := hO5.fr hf6 hsep6
                    have hB := hf6.blk hB5 hBb
                    have hF := Fr.trans hF5 hf6
                    have hP := hP6
                    clear hP5 hO5 hB5 hF5 hP6 hf6 hsep6
                    obtain ⟨x0, hx0⟩ : ∃ x0 : Int, x0 = (j2 : Int) := ⟨_, rfl⟩
                    obtain ⟨bad0, hbad0⟩ : ∃ bad0 : Int, bad0 = ((j + 1 : Nat) : Int) := ⟨_, rfl⟩
                    replace hP : Ps w6 b s x0 bad0 op := by rw [hx0, hbad0]; exact hP
                    have Hbad0 := hid hbad0
                    clear hx0 hbad0
                    have Hj1 : Hid (j + 1 ≤ s.size) := by show j + 1 ≤ s.size; omega
                    go_loopg [4, 8] (hi + 1 - lo) (fun g l bb wr => ∃ m : Nat, m + g = max lo (hi + 1) ∧ lo ≤ m ∧ bb = .int .i64 m ∧ Own wr (w.heap.size + 1) (fun k => w.heap.size < k) 3 1 l (L ++ rng lo m).length (encI (L ++ rng lo m)) ∧ Ps wr b s x0 bad0 op ∧ Blk wr w.heap.size 28 #[.int .i64 0, .int .u64 0, .int .u64 0, .int .u64 0, .int .u64 0, .int .i64 0, .int .i64 0, .slice none 0 0] ∧ Fr (At b) w wr)
                    case atStart => exact ⟨lo, by omega, Nat.le_refl _, rfl, by rw [rng_nil, List.append_nil]; exact hO, hP, hB, hF⟩
                    case round =>
                      clear hO hP hB hF
                      obtain ⟨m, hm, hlm, rfl, hO, hP, hB, hF⟩ := hrel
                      cases gk with
                      | zero =>
                        obtain rfl : m = max lo (hi + 1) := by omega
                        have hd : decide (max lo (hi + 1) ≤ hi) = false := decide_eq_false (by omega)
                        have hd' : ¬ ((max lo (hi + 1) : Nat) : Int) ≤ (hi : Int) := by omega
                        generalize hmx : max lo (hi + 1) = M at *
                        have Hmx := hid hmx
                        clear hmx hm
                        go_wp2_with fail
                        go_roundg kn
                        case measure => omega
                        case rel =>
                          rw [Hbad0.out] at hP
                          refine .inr ⟨j + 1, x0, L ++ rng lo M, HK.out, hP, Hj1.out, ?_, hO, hB, hF⟩
                          intro y hy
                          rcases List.mem_append.1 hy with h | h
                          · exact HL2.out y h
                          · have := rng_mem h; have := Hmx.out; omega
                      | succ gg => exact absurd hle (by omega)
              · rw [if_neg hx45] at H
                have hd45 : (nx s j == 45) = false := by simp [hx45]
                clear hx45
                have HK := hid H
                clear H hc1
                go_wp2_with (first | (go_at_call 28; refine (hNx2 _ hP3).mono ?_; rintro e wn2 ⟨rfl, n2, rfl⟩) | (go_at_call 28; refine (hNx _ hP).mono ?_; rintro e wn ⟨rfl, nn, rfl⟩) | (go_at_call 46; refine (hone _ (hP.drewN _)).mono ?_; rintro e w3 ⟨⟨v, rfl, rfl, hlo0, hlo1⟩, hP3, hj3, hf3⟩; obtain ⟨lo, rfl⟩ := Int.eq_ofNat_of_zero_le hlo0; clear h00 h1 h2 h3 f1 f2 f3; have hO3 := (hO.drewN nn).fr hf3 hsep; have hB3 := hf3.blk (hB.drewN nn) hBb; have hF3 := Fr.trans hF (Fr.undrewN hf3); obtain ⟨h00, h1, h2, h3, f1, f2, f3⟩ := hP3.cells))
                replace hP := hP3.drewN n2
                replace hO := hO3.drewN n2
                replace hB := hB3.drewN n2
                replace hF := hF3.drewN n2
                clear hP3 hO3 hB3 hF3 hf3 hsep hone hNx hNx2
                have hlo : lo < 256 := by omega
                clear hlo0 hlo1
                obtain ⟨x0, hx0⟩ : ∃ x0 : Int, x0 = (j : Int) := ⟨_, rfl⟩
                obtain ⟨bad0, hbad0⟩ : ∃ bad0 : Int, bad0 = -1 := ⟨_, rfl⟩
                rw [← hx0, ← hbad0] at hP
                have Hbad0 := hid (And.intro hx0 hbad0)
                clear hx0 hbad0
                have Hjj : Hid (i' < j) := hgt1.1
                have Hj2 : Hid (j ≤ s.size) := hgt1.2
                clear hgt1
                go_loopg [4, 8] (lo + 1 - lo) (fun g l bb wr => ∃ m : Nat, m + g = max lo (lo + 1) ∧ lo ≤ m ∧ bb = .int .i64 m ∧ Own wr (w.heap.size + 1) (fun k => w.heap.size < k) 3 1 l (L ++ rng lo m).length (encI (L ++ rng lo m)) ∧ Ps wr b s x0 bad0 op ∧ Blk wr w.heap.size 28 #[.int .i64 0, .int .u64 0, .int .u64 0, .int .u64 0, .int .u64 0, .int .i64 0, .int .i64 0, .slice none 0 0] ∧ Fr (At b) w wr)
                case atStart => exact ⟨lo, by omega, Nat.le_refl _, rfl, by rw [rng_nil, List.append_nil]; exact hO, hP, hB, hF⟩
                case round =>
                  clear hO hP hB hF
                  obtain ⟨m, hm, hlm, rfl, hO, hP, hB, hF⟩ := hrel
                  cases gk with
                  | zero =>
                    obtain rfl : m = max lo (lo + 1) := by omega
                    have hd : decide (max lo (lo + 1) ≤ lo) = false := decide_eq_false (by omega)
                    have hd' : ¬ ((max lo (lo + 1) : Nat) : Int) ≤ (lo : Int) := by omega
                    generalize hmx : max lo (lo + 1) = M at *
                    have Hmx := hid hmx
                    clear hmx hm
                    go_wp2_with fail
                    go_roundg kn
                    case measure => omega
                    case rel =>
                      obtain ⟨hx0, hbad0⟩ := Hbad0.out
                      rw [hx0, hbad0] at hP
                      refine .inl ⟨j, orS a (oneS (lo : Int)), L ++ rng lo M, HK.out, hP, Hj2.out, ?_, ?_, ?_, hO, hB, hF⟩
                      · have e : M = lo + 1 := by have := Hmx.out; omega
                        rw [bits_rng _ (by omega), e, HL.out]; exact by rw [rangeS_one]; rfl
                      · intro y hy
                        rcases List.mem_append.1 hy with h | h
                        · exact HL2.out y h
                        · have := rng_mem h; have := Hmx.out; omega
                      · rw [List.length_append, rng_len]; have := HL3.out; have := Hmx.out; have := Hjj.out; omega
                  | succ gg =>
                    have hd : decide (m ≤ lo) = true := decide_eq_true (by omega)
                    have hd' : (m : Int) ≤ (lo : Int) := by omega
                    have hml : (L ++ rng lo m).length ≤ 300000000 := by rw [List.length_append, rng_len]; omega
                    obtain ⟨A0, cap0, rfl, hc1, hc2⟩ := hO.form
                    have hO3 := hO.alloc (.cells #[.int .i64 m] 3)
                    have hgt := hB.lt
                    have Hm := hid hm
                    clear hm
                    generalize hR : L ++ rng lo m = R at *
                    have HR := hid hR
                    clear hR
                    go_wp2_with (at_builtin; go_loud ((with_reducible refine at_call ?_); refine wpList_append_D (es := [.v (.int .i64 m)]) (m := 1) rfl (.tmp 69) (.tmp 71) 66 rfl _ 8 Try.underlying66 infoInt3 rfl (by decide) rfl hO3 rfl (news := [.int .i64 m]) rfl (Blk.new _ 3 #[.int .i64 m]).news (.cons (.v rfl) .nil) (by omega) (by omega) (by rw [World.size_alloc]; omega) ?_); intro v' w9 hO9 hg9 hat9)
                    have hgw : ¬ (some w.heap.size = (Value.slice A0 R.length cap0).ownBlock) := fun h => by have := hO.blk_lt _ h.symm; omega
                    have hgb : ¬ (some b = (Value.slice A0 R.length cap0).ownBlock) := fun h => by have := hO.blk_lt _ h.symm; have := Hbw.out; omega
                    have hFg := Fr.ofGrown hg9
                    go_roundg gg
                    case measure => omega
                    case rel =>
                      have hj1 : m + 1 + gg = max lo (lo + 1) := by have := Hm.out; omega
                      refine ⟨m + 1, hj1, by omega, by simp, ?_, (hP.alloc _).fr hFg hgb, hFg.blk (hB.alloc _) hgw, Fr.call (Fr.alloc hF _) hFg (fun k hk h => by have := hO.blk_lt k h.symm; omega)⟩
                      rw [rng_succ hlm, ← List.append_assoc, HR.out, List.length_append, encI_append]
                      exact hO9
      · have hdk : decide ((k0 : Int) < 0) = false := decide_eq_false (by omega)
        have hk00 : (0 : Int) ≤ (k0 : Int) := by omega
        have H := HA.out
        subst H
        clear HA
        obtain ⟨h00, h1, h2, h3, f1, f2, f3⟩ := hP.cells
        have hO0 := hO
        obtain ⟨A0, cap0, rfl, hc1, hc2⟩ := hO.form
        have hsep : ∀ k, k < wr.heap.size → (w.heap.size < k ∨ (Value.slice A0 L.length cap0).ownBlock = some k) → ¬ At b k := fun k hk h => by
          have := Hbw.out
          rcases h with h | h
          · show ¬ k = b; omega
          · have := hO0.blk_lt k h; show ¬ k = b; omega
        have hBb : ¬ At b w.heap.size := by have := Hbw.out; show ¬ w.heap.size = b; omega
        go_wp2_with (go_at_call 38; refine (pmust_d b s op _ 93 _ _ (by repeat (first | assumption | apply Ps.drewN | apply Ps.drew | apply Ps.alloc | (apply Ps.setAt (hx := by first | rfl | omega)) | (apply Ps.setBad (hx := by omega)) | (apply Ps.setOp (hx := by omega)) | (apply Ps.far (hp := by simp only []; omega)))) (by omega)).mono ?_; rintro e w3 ⟨rfl, ⟨x3, hP3⟩, hf3⟩; have hO3 := hO0.fr hf3 hsep; have hB3 := hf3.blk hB hBb; have hF3 := Fr.trans hF hf3)
        clear h00 h1 h2 h3 f1 f2 f3
        have hset := set_c L _ (fun k => w.heap.size < k) w3 hL2 (hO3.rep (fun k hk => by omega))
        go_wp2_with (first | (go_at_call 47; refine hset.mono ?_; rintro e w4 ⟨rfl, hf4⟩; have hA4 := Blk.new w4 25 (setA 0)) |
          ((with_reducible refine at_store 25 ?_); refine wpList_store_blk (w := w4.alloc _) (cs := setA (bitsOf L)) rfl rfl rfl rfl hA4 rfl infoSet (setA_one _) ?_; intro W5 hW5 hfW5 hsz5; have hgt3 := hB3.lt; have hsw4 : w3.heap.size ≤ w4.heap.size := hf4.size; have hB5 : Blk W5 w.heap.size 28 #[.int .i64 0, .int .u64 0, .int .u64 0, .int .u64 0, .int .u64 0, .int .i64 0, .int .i64 0, .slice none 0 0] := hfW5.blk ((hf4.blk hB3 id).alloc _) (by show ¬ w.heap.size = w4.heap.size; omega); have hP5 := (((hP3.fr hf4 id).alloc (.cells (setA 0) 25)).fr hfW5 (by have := Hbw.out; show ¬ b = w4.heap.size; omega)); have hF5 : Fr (At b) w W5 := (((hF3).no hf4).alloc _).callAt hfW5 (by omega)) |
          ((with_reducible refine at_load 25 ?_); refine wpList_load_blk (w := W5) (cs := setA (bitsOf L)) rfl rfl rfl hW5 Try.underlying25 rfl infoSet ?_; try unfold setA) |
          (go_at_call 44; refine (not04_c (bitsOf L) _).mono ?_; rintro e w6 ⟨rfl, hf6⟩; have hA6 := hf6.blk hW5 id) |
          ((with_reducible refine at_store 25 ?_); refine wpList_store_blk (w := w6) (cs := setA (notS (bitsOf L))) rfl rfl rfl rfl hA6 rfl infoSet (setA_one _) ?_; intro W7 hW7 hfW7 hsz7; have hB7 : Blk W7 w.heap.size 28 #[.int .i64 0, .int .u64 0, .int .u64 0, .int .u64 0, .int .u64 0, .int .i64 0, .int .i64 0, .slice none 0 0] := hfW7.blk (hf6.blk hB5 id) (by show ¬ w.heap.size = w4.heap.size; omega); have hP7 := (hP5.fr hf6 id).fr hfW7 (by have := Hbw.out; show ¬ b = w4.heap.size; omega); have hF7 : Fr (At b) w W7 := (hF5.no hf6).callAt hfW7 (by omega)) |
          ((with_reducible refine at_load 25 ?_); refine wpList_load_blk (w := W7) (cs := setA (notS (bitsOf L))) rfl rfl rfl hW7 Try.underlying25 rfl infoSet ?_; try unfold setA) |
          ((with_reducible refine at_store 28 ?_); refine wpList_store_blk (w := W7) (cs := nodeA (.mk 2 (notS (bitsOf L)) 0 0 []) none 0) rfl rfl rfl rfl hB7 rfl infoNode (nodeA_one _ _ _) ?_; intro W8 hW8 hfW8 _))
        refine bodyPost_blk rfl rfl hW8 Try.underlying28 rfl infoNode rfl ?_
        exact ⟨⟨_, _, rfl, rfl⟩, ⟨x3, hP7.fr hfW8 (by have := Hbw.out; show ¬ b = w.heap.size; omega)⟩, hk0, hF7.callAt hfW8 (Nat.le_refl _)⟩
end
end Go.Proofs.Ytcphepjfnnbonaa
