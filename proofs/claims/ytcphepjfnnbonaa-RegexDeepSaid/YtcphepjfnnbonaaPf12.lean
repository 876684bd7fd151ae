/- The walks of sieveref07's parser: item, cat. Condition: the text has fewer than 2^20 bytes, the place is within it. -/
import Derived.Test.YtcphepjfnnbonaaPf11
import Derived.Test.YtcphepjfnnbonaaRxP
import Derived.Test.YtcphepjfnnbonaaRxW13
namespace Go.Proofs.Ytcphepjfnnbonaa
set_option linter.unusedVariables false
set_option linter.unusedSimpArgs false
open Go Go.RowKit

theorem lit1_node : (#[.int .i64 1, .int .u64 0, .int .u64 0, .int .u64 0, .int .u64 0, .int .i64 0, .int .i64 0, .slice none 0 0] : Array Value) = nodeA (.mk 1 0 0 0 []) none 0 := by simp [nodeA, wd_zero, Nd.kind, Nd.set, Nd.mn, Nd.mx, Nd.subs]
section
variable (b : Nat) (s : ByteArray) (i op : Nat) (w : World)
theorem pitem_a (sub : Option (Nat → R Nd)) (hs : s.size < 1048576) (hr : Ps w b s i (-1) op) (hi : i ≤ s.size) (hsub : PAltSpec s op sub) (hgo : SubGoes s sub) :
    Calls Try.prog 32 #[.pointer (some ⟨b, 0, none⟩)] w (OutP (NewN w) w b s op (Rx.item s sub i)) := by
  have hat := fun (W : World) (h : Ps W b s i (-1) op) => patom_a b s i op W sub hs h hi hsub (atom_goes hgo i hi).1
  unfold Rx.item
  cases ha : Rx.atom s sub i with
  | out => exact absurd ha (atom_goes hgo i hi).1
  | bad k =>
    rw [ha] at hat
    exact pitem_bad b s i op w hs hr k hat
  | ok a j =>
    rw [ha] at hat
    simp only [R.bind]
    split
    · exact pitem_42 b s i op w hs hr a j _ rfl (by assumption) hat
    split
    · exact pitem_43 b s i op w hs hr a j _ rfl (by assumption) hat
    split
    · exact pitem_63 b s i op w hs hr a j _ rfl (by assumption) hat
    split
    · rename_i hc
      unfold Rx.bounds
      cases hn : Rx.number s (j + 1) with
      | out => exact absurd hn (number_ne _ _)
      | bad k => exact pitem_n0 b s i op w hs hr a j _ rfl hc hat k hn
      | ok m j1 =>
        have hb1 := number_bd hn
        simp only [R.bind]
        by_cases h44 : nx s j1 = 44
        · rw [if_pos h44]
          by_cases h125 : nx s (j1 + 1) = 125
          · rw [if_pos h125]
            exact pitem_open b s i op w hs hr a j _ rfl hc hat m j1 hn _ rfl h44 _ rfl h125
          · rw [if_neg h125]
            cases hn2 : Rx.number s (j1 + 1) with
            | out => exact absurd hn2 (number_ne _ _)
            | bad k => exact pitem_n2 b s i op w hs hr a j _ rfl hc hat m j1 hn _ rfl h44 _ rfl h125 k hn2
            | ok n j2 =>
              have hb2 := number_bd hn2
              simp only []
              by_cases hle : m ≤ n
              · rw [if_pos hle]
                cases hm : Rx.must s 125 j2 with
                | out => exact absurd hm (must_ne _ _ _)
                | bad k => exact pitem_mn_bad b s i op w hs hr a j _ rfl hc hat m j1 hn _ rfl h44 _ rfl h125 n j2 hn2 hb2.2.2.2 hle k hm
                | ok u k => exact pitem_mn_ok b s i op w hs hr a j _ rfl hc hat m j1 hn _ rfl h44 _ rfl h125 n j2 hn2 hb2.2.2.2 hle k hm
              · rw [if_neg hle]
                exact pitem_gt b s i op w hs hr a j _ rfl hc hat m j1 hn _ rfl h44 _ rfl h125 n j2 hn2 hb2.2.2.2 hle
        · rw [if_neg h44]
          cases hm : Rx.must s 125 j1 with
          | out => exact absurd hm (must_ne _ _ _)
          | bad k => exact pitem_m_bad b s i op w hs hr a j _ rfl hc hat m j1 hn hb1.2.2.2 _ rfl h44 k hm
          | ok u k => exact pitem_m_ok b s i op w hs hr a j _ rfl hc hat m j1 hn hb1.2.2.2 _ rfl h44 k hm
    · exact pitem_none b s i op w hs hr a j _ rfl ⟨by assumption, by assumption, by assumption, by assumption⟩ hat
set_option maxHeartbeats 16000000 in
theorem pcat_a (sub : Option (Nat → R Nd)) (hs : s.size < 1048576) (hr : Ps w b s i (-1) op) (hi : i ≤ s.size) (hsub : PAltSpec s op sub) (hgo : SubGoes s sub) :
    Calls Try.prog 27 #[.pointer (some ⟨b, 0, none⟩)] w (OutP (NewN w) w b s op (Rx.cat s sub i)) := by
  unfold Rx.cat
  have hbw := hr.lt
  have hB0 := Blk.new w 28 #[.int .i64 0, .int .u64 0, .int .u64 0, .int .u64 0, .int .u64 0, .int .i64 0, .int .i64 0, .slice none 0 0]
  have hF0 : Fr (At b) w _ := (Fr.refl (At b) w).alloc (.cells #[.int .i64 0, .int .u64 0, .int .u64 0, .int .u64 0, .int .u64 0, .int .i64 0, .int .i64 0, .slice none 0 0] 28)
  have hr0 := hr.alloc (.cells #[.int .i64 0, .int .u64 0, .int .u64 0, .int .u64 0, .int .u64 0, .int .i64 0, .int .i64 0, .slice none 0 0] 28)
  have Hs := hid hs
  have Hbw := hid hbw
  have Hgo := hid hgo
  have Hsub := hid hsub
  have hne := (catLoop_goes hgo (s.size + 1) i [] (by omega) hi).1
  generalize hres : Rx.catLoop s sub (s.size + 1) i [] = res at *
  have Hres := hid hres
  have Hne := hid hne
  clear hres hne hgo hsub hs
  go_enter Try.func27, Try.ntmps27
  go_wp2_with fail
  go_loopg [3] (s.size + 1) (fun k v wr => (∃ (i' : Nat) (l : List Nd), Aside (Rx.catLoop s sub k i' l = res) ∧ Ps wr b s i' (-1) op ∧ Own wr (w.heap.size + 1) (fun k => w.heap.size < k) 28 8 v l.length (encNs l) ∧ Blk wr w.heap.size 28 #[.int .i64 0, .int .u64 0, .int .u64 0, .int .u64 0, .int .u64 0, .int .i64 0, .int .i64 0, .slice none 0 0] ∧ Fr (At b) w wr ∧ i' ≤ s.size ∧ l.length ≤ i') ∨
    (∃ (k0 : Nat) (x : Int) (l : List Nd), Aside (R.bad k0 = res) ∧ Ps wr b s x k0 op ∧ Own wr (w.heap.size + 1) (fun k => w.heap.size < k) 28 8 v l.length (encNs l) ∧ Blk wr w.heap.size 28 #[.int .i64 0, .int .u64 0, .int .u64 0, .int .u64 0, .int .u64 0, .int .i64 0, .int .i64 0, .slice none 0 0] ∧ Fr (At b) w wr ∧ k0 ≤ s.size))
  case atStart => exact .inl ⟨i, [], Hres.out, hr0, by simp only [encNs, List.length_nil]; exact Own.nil _ _ _ _ _, hB0, hF0, hi, Nat.zero_le _⟩
  case round =>
    clear hr0 hB0 hF0 Hres hr
    rcases hrel with ⟨i', l, HA, hP, hO, hB, hF, hi2, hll⟩ | ⟨k0, x, l, HA, hP, hO, hB, hF, hk0⟩
    · cases gk with
      | zero => exact absurd (HA.out : R.out = res).symm Hne.out
      | succ kn =>
        have H := HA.out
        clear HA
        unfold Rx.catLoop at H
        have hN0 := pnext_a b s i' op wr hP
        have hNn := fun (n : Nat) => pnext_a b s i' op (wr.drewN n) (hP.drewN n)
        obtain ⟨c0, Hc0⟩ : ∃ c0, Hid (nx s i' = c0) := ⟨_, rfl⟩
        rw [Hc0.out] at hN0 hNn
        obtain ⟨h00, h1, h2, h3, f1, f2, f3⟩ := hP.cells
        by_cases hx : Rx.ends s i' = true
        · rw [if_pos hx] at H
          subst H
          unfold Rx.ends at hx
          rw [Hc0.out] at hx
          by_cases q1 : c0 < 0
          · have d1 : decide (0 ≤ c0) = false := decide_eq_false (by omega)
            clear hx q1
            obtain ⟨A, cap, rfl, hcp1, hcp2⟩ := hO.form
            have hN := (hO.rep (fun k hk => by omega)).sub (S' := fun k => w.heap.size < k) (fun k hk _ => hk)
            cases l with
            | nil =>
              generalize hL : ([] : List Nd).length = L at *
              have e0 : ((L : Int) == 0) = true := by subst hL; rfl
              have HL := hid hL
              clear hL hO
              go_wp2_with (first | (go_at_call 28; first | (refine hN0.mono ?_; rintro e wn ⟨rfl, nn, rfl⟩) | (refine (hNn _).mono ?_; rintro e wn ⟨rfl, nn, rfl⟩; rw [drewN_drewN'])) | ((with_reducible refine at_store 28 ?_); refine wpList_store_blk (cs := #[.int .i64 1, .int .u64 0, .int .u64 0, .int .u64 0, .int .u64 0, .int .i64 0, .int .i64 0, .slice none 0 0]) rfl rfl rfl rfl (hB.drewN _) rfl infoNode (by simp [Value.oneCell']) ?_; intro W9 hW9 hfW9 _))
              refine bodyPost_blk rfl rfl hW9 Try.underlying28 rfl infoNode rfl ?_
              have hN9 : NewN w W9 (.agg #[.int .i64 1, .int .u64 0, .int .u64 0, .int .u64 0, .int .u64 0, .int .i64 0, .int .i64 0, .slice none 0 0]) (Rx.of 3 []) := by rw [lit1_node]; exact NodeIn.leaf W9 _ 1 0 0 0
              exact ⟨⟨_, rfl, hN9⟩, (hP.drewN _).fr hfW9 (by show ¬ b = w.heap.size; omega), hi2, (hF.drewN _).callAt hfW9 (Nat.le_refl _)⟩
            | cons n r =>
              cases r with
              | nil =>
                obtain ⟨g, off, A', cap', rfl, hSg, hlg, hrng, hrep⟩ := NodesIn.at_ (l := [n]) (i := 0) hN rfl
                generalize hL : [n].length = L at *
                have e0 : ((L : Int) == 0) = false := by subst hL; rfl
                have e1 : ((L : Int) == 1) = true := by subst hL; rfl
                have e2 : (0 : Int) < (L : Int) := by subst hL; simp
                have HL := hid hL
                clear hL hO
                rw [Nat.mul_zero, Nat.add_zero] at hrng
                go_wp2_with (first | (go_at_call 28; first | (refine hN0.mono ?_; rintro e wn ⟨rfl, nn, rfl⟩) | (refine (hNn _).mono ?_; rintro e wn ⟨rfl, nn, rfl⟩; rw [drewN_drewN'])) | ((with_reducible refine at_load 28 ?_); refine wpList_load_rng (cs := nodeA n A' cap') rfl rfl rfl hrng Try.underlying28 rfl infoNode ?_) | ((with_reducible refine at_store 28 ?_); refine wpList_store_blk (cs := nodeA n A' cap') rfl rfl rfl rfl (hB.drewN _) rfl infoNode (nodeA_one _ _ _) ?_; intro W9 hW9 hfW9 _))
                refine bodyPost_blk rfl rfl hW9 Try.underlying28 rfl infoNode rfl ?_
                have hN9 : NewN w W9 (.agg (nodeA n A' cap')) (Rx.of 3 [n]) := ⟨A', cap', rfl, (hrep.drewN _).fr hfW9 (fun k hk _ => ⟨by show ¬ k = w.heap.size; omega, Nat.le_of_lt hk⟩)⟩
                exact ⟨⟨_, rfl, hN9⟩, (hP.drewN _).fr hfW9 (by show ¬ b = w.heap.size; omega), hi2, (hF.drewN _).callAt hfW9 (Nat.le_refl _)⟩
              | cons m r =>
                have hlen2 : 2 ≤ (n :: m :: r).length := by simp
                generalize hL : (n :: m :: r).length = L at *
                have e0 : ((L : Int) == 0) = false := by simp; omega
                have e1 : ((L : Int) == 1) = false := by simp; omega
                have HL := hid hL
                clear hL hO
                go_wp2_with (first | (go_at_call 28; first | (refine hN0.mono ?_; rintro e wn ⟨rfl, nn, rfl⟩) | (refine (hNn _).mono ?_; rintro e wn ⟨rfl, nn, rfl⟩; rw [drewN_drewN'])) | ((with_reducible refine at_store 28 ?_); refine wpList_store_blk (cs := #[.int .i64 3, .int .u64 0, .int .u64 0, .int .u64 0, .int .u64 0, .int .i64 0, .int .i64 0, .slice A L cap]) rfl rfl rfl rfl (hB.drewN _) rfl infoNode (by simp [Value.oneCell']) ?_; intro W9 hW9 hfW9 _))
                refine bodyPost_blk rfl rfl hW9 Try.underlying28 rfl infoNode rfl ?_
                have hN9 : NewN w W9 (.agg #[.int .i64 3, .int .u64 0, .int .u64 0, .int .u64 0, .int .u64 0, .int .i64 0, .int .i64 0, .slice A L cap]) (Rx.of 3 (n :: m :: r)) := by
                  refine ⟨A, cap, ?_, ?_⟩
                  · simp only [Rx.of, nodeA, wd_zero, Nd.kind, Nd.set, Nd.mn, Nd.mx, Nd.subs, HL.out]
                  · show Rep _ _ (.slice A (n :: m :: r).length cap) (.sl 28 (n :: m :: r).length (encNs (n :: m :: r)))
                    rw [HL.out]
                    exact (hN.drewN _).fr hfW9 (fun k hk _ => ⟨by show ¬ k = w.heap.size; omega, Nat.le_of_lt hk⟩)
                exact ⟨⟨_, rfl, hN9⟩, (hP.drewN _).fr hfW9 (by show ¬ b = w.heap.size; omega), hi2, (hF.drewN _).callAt hfW9 (Nat.le_refl _)⟩
          · have d1 : decide (0 ≤ c0) = true := decide_eq_true (by omega)
            by_cases q2 : c0 = 124
            · have d2 : (c0 != 124) = false := by simp [q2]
              clear hx q1 q2
              obtain ⟨A, cap, rfl, hcp1, hcp2⟩ := hO.form
              have hN := (hO.rep (fun k hk => by omega)).sub (S' := fun k => w.heap.size < k) (fun k hk _ => hk)
              cases l with
              | nil =>
                generalize hL : ([] : List Nd).length = L at *
                have e0 : ((L : Int) == 0) = true := by subst hL; rfl
                have HL := hid hL
                clear hL hO
                go_wp2_with (first | (go_at_call 28; first | (refine hN0.mono ?_; rintro e wn ⟨rfl, nn, rfl⟩) | (refine (hNn _).mono ?_; rintro e wn ⟨rfl, nn, rfl⟩; rw [drewN_drewN'])) | ((with_reducible refine at_store 28 ?_); refine wpList_store_blk (cs := #[.int .i64 1, .int .u64 0, .int .u64 0, .int .u64 0, .int .u64 0, .int .i64 0, .int .i64 0, .slice none 0 0]) rfl rfl rfl rfl (hB.drewN _) rfl infoNode (by simp [Value.oneCell']) ?_; intro W9 hW9 hfW9 _))
                refine bodyPost_blk rfl rfl hW9 Try.underlying28 rfl infoNode rfl ?_
                have hN9 : NewN w W9 (.agg #[.int .i64 1, .int .u64 0, .int .u64 0, .int .u64 0, .int .u64 0, .int .i64 0, .int .i64 0, .slice none 0 0]) (Rx.of 3 []) := by rw [lit1_node]; exact NodeIn.leaf W9 _ 1 0 0 0
                exact ⟨⟨_, rfl, hN9⟩, (hP.drewN _).fr hfW9 (by show ¬ b = w.heap.size; omega), hi2, (hF.drewN _).callAt hfW9 (Nat.le_refl _)⟩
              | cons n r =>
                cases r with
                | nil =>
                  obtain ⟨g, off, A', cap', rfl, hSg, hlg, hrng, hrep⟩ := NodesIn.at_ (l := [n]) (i := 0) hN rfl
                  generalize hL : [n].length = L at *
                  have e0 : ((L : Int) == 0) = false := by subst hL; rfl
                  have e1 : ((L : Int) == 1) = true := by subst hL; rfl
                  have e2 : (0 : Int) < (L : Int) := by subst hL; simp
                  have HL := hid hL
                  clear hL hO
                  rw [Nat.mul_zero, Nat.add_zero] at hrng
                  go_wp2_with (first | (go_at_call 28; first | (refine hN0.mono ?_; rintro e wn ⟨rfl, nn, rfl⟩) | (refine (hNn _).mono ?_; rintro e wn ⟨rfl, nn, rfl⟩; rw [drewN_drewN'])) | ((with_reducible refine at_load 28 ?_); refine wpList_load_rng (cs := nodeA n A' cap') rfl rfl rfl hrng Try.underlying28 rfl infoNode ?_) | ((with_reducible refine at_store 28 ?_); refine wpList_store_blk (cs := nodeA n A' cap') rfl rfl rfl rfl (hB.drewN _) rfl infoNode (nodeA_one _ _ _) ?_; intro W9 hW9 hfW9 _))
                  refine bodyPost_blk rfl rfl hW9 Try.underlying28 rfl infoNode rfl ?_
                  have hN9 : NewN w W9 (.agg (nodeA n A' cap')) (Rx.of 3 [n]) := ⟨A', cap', rfl, (hrep.drewN _).fr hfW9 (fun k hk _ => ⟨by show ¬ k = w.heap.size; omega, Nat.le_of_lt hk⟩)⟩
                  exact ⟨⟨_, rfl, hN9⟩, (hP.drewN _).fr hfW9 (by show ¬ b = w.heap.size; omega), hi2, (hF.drewN _).callAt hfW9 (Nat.le_refl _)⟩
                | cons m r =>
                  have hlen2 : 2 ≤ (n :: m :: r).length := by simp
                  generalize hL : (n :: m :: r).length = L at *
                  have e0 : ((L : Int) == 0) = false := by simp; omega
                  have e1 : ((L : Int) == 1) = false := by simp; omega
                  have HL := hid hL
                  clear hL hO
                  go_wp2_with (first | (go_at_call 28; first | (refine hN0.mono ?_; rintro e wn ⟨rfl, nn, rfl⟩) | (refine (hNn _).mono ?_; rintro e wn ⟨rfl, nn, rfl⟩; rw [drewN_drewN'])) | ((with_reducible refine at_store 28 ?_); refine wpList_store_blk (cs := #[.int .i64 3, .int .u64 0, .int .u64 0, .int .u64 0, .int .u64 0, .int .i64 0, .int .i64 0, .slice A L cap]) rfl rfl rfl rfl (hB.drewN _) rfl infoNode (by simp [Value.oneCell']) ?_; intro W9 hW9 hfW9 _))
                  refine bodyPost_blk rfl rfl hW9 Try.underlying28 rfl infoNode rfl ?_
                  have hN9 : NewN w W9 (.agg #[.int .i64 3, .int .u64 0, .int .u64 0, .int .u64 0, .int .u64 0, .int .i64 0, .int .i64 0, .slice A L cap]) (Rx.of 3 (n :: m :: r)) := by
                    refine ⟨A, cap, ?_, ?_⟩
                    · simp only [Rx.of, nodeA, wd_zero, Nd.kind, Nd.set, Nd.mn, Nd.mx, Nd.subs, HL.out]
                    · show Rep _ _ (.slice A (n :: m :: r).length cap) (.sl 28 (n :: m :: r).length (encNs (n :: m :: r)))
                      rw [HL.out]
                      exact (hN.drewN _).fr hfW9 (fun k hk _ => ⟨by show ¬ k = w.heap.size; omega, Nat.le_of_lt hk⟩)
                  exact ⟨⟨_, rfl, hN9⟩, (hP.drewN _).fr hfW9 (by show ¬ b = w.heap.size; omega), hi2, (hF.drewN _).callAt hfW9 (Nat.le_refl _)⟩
            · have d2 : (c0 != 124) = true := by simp [q2]
              have d3 : (c0 != 41) = false := by
                have : c0 = 41 := by
                  rw [decide_eq_false q1] at hx
                  simpa [q2] using hx
                simp [this]
              clear hx q1 q2
              obtain ⟨A, cap, rfl, hcp1, hcp2⟩ := hO.form
              have hN := (hO.rep (fun k hk => by omega)).sub (S' := fun k => w.heap.size < k) (fun k hk _ => hk)
              cases l with
              | nil =>
                generalize hL : ([] : List Nd).length = L at *
                have e0 : ((L : Int) == 0) = true := by subst hL; rfl
                have HL := hid hL
                clear hL hO
                go_wp2_with (first | (go_at_call 28; first | (refine hN0.mono ?_; rintro e wn ⟨rfl, nn, rfl⟩) | (refine (hNn _).mono ?_; rintro e wn ⟨rfl, nn, rfl⟩; rw [drewN_drewN'])) | ((with_reducible refine at_store 28 ?_); refine wpList_store_blk (cs := #[.int .i64 1, .int .u64 0, .int .u64 0, .int .u64 0, .int .u64 0, .int .i64 0, .int .i64 0, .slice none 0 0]) rfl rfl rfl rfl (hB.drewN _) rfl infoNode (by simp [Value.oneCell']) ?_; intro W9 hW9 hfW9 _))
                refine bodyPost_blk rfl rfl hW9 Try.underlying28 rfl infoNode rfl ?_
                have hN9 : NewN w W9 (.agg #[.int .i64 1, .int .u64 0, .int .u64 0, .int .u64 0, .int .u64 0, .int .i64 0, .int .i64 0, .slice none 0 0]) (Rx.of 3 []) := by rw [lit1_node]; exact NodeIn.leaf W9 _ 1 0 0 0
                exact ⟨⟨_, rfl, hN9⟩, (hP.drewN _).fr hfW9 (by show ¬ b = w.heap.size; omega), hi2, (hF.drewN _).callAt hfW9 (Nat.le_refl _)⟩
              | cons n r =>
                cases r with
                | nil =>
                  obtain ⟨g, off, A', cap', rfl, hSg, hlg, hrng, hrep⟩ := NodesIn.at_ (l := [n]) (i := 0) hN rfl
                  generalize hL : [n].length = L at *
                  have e0 : ((L : Int) == 0) = false := by subst hL; rfl
                  have e1 : ((L : Int) == 1) = true := by subst hL; rfl
                  have e2 : (0 : Int) < (L : Int) := by subst hL; simp
                  have HL := hid hL
                  clear hL hO
                  rw [Nat.mul_zero, Nat.add_zero] at hrng
                  go_wp2_with (first | (go_at_call 28; first | (refine hN0.mono ?_; rintro e wn ⟨rfl, nn, rfl⟩) | (refine (hNn _).mono ?_; rintro e wn ⟨rfl, nn, rfl⟩; rw [drewN_drewN'])) | ((with_reducible refine at_load 28 ?_); refine wpList_load_rng (cs := nodeA n A' cap') rfl rfl rfl hrng Try.underlying28 rfl infoNode ?_) | ((with_reducible refine at_store 28 ?_); refine wpList_store_blk (cs := nodeA n A' cap') rfl rfl rfl rfl (hB.drewN _) rfl infoNode (nodeA_one _ _ _) ?_; intro W9 hW9 hfW9 _))
                  refine bodyPost_blk rfl rfl hW9 Try.underlying28 rfl infoNode rfl ?_
                  have hN9 : NewN w W9 (.agg (nodeA n A' cap')) (Rx.of 3 [n]) := ⟨A', cap', rfl, (hrep.drewN _).fr hfW9 (fun k hk _ => ⟨by show ¬ k = w.heap.size; omega, Nat.le_of_lt hk⟩)⟩
                  exact ⟨⟨_, rfl, hN9⟩, (hP.drewN _).fr hfW9 (by show ¬ b = w.heap.size; omega), hi2, (hF.drewN _).callAt hfW9 (Nat.le_refl _)⟩
                | cons m r =>
                  have hlen2 : 2 ≤ (n :: m :: r).length := by simp
                  generalize hL : (n :: m :: r).length = L at *
                  have e0 : ((L : Int) == 0) = false := by simp; omega
                  have e1 : ((L : Int) == 1) = false := by simp; omega
                  have HL := hid hL
                  clear hL hO
                  go_wp2_with (first | (go_at_call 28; first | (refine hN0.mono ?_; rintro e wn ⟨rfl, nn, rfl⟩) | (refine (hNn _).mono ?_; rintro e wn ⟨rfl, nn, rfl⟩; rw [drewN_drewN'])) | ((with_reducible refine at_store 28 ?_); refine wpList_store_blk (cs := #[.int .i64 3, .int .u64 0, .int .u64 0, .int .u64 0, .int .u64 0, .int .i64 0, .int .i64 0, .slice A L cap]) rfl rfl rfl rfl (hB.drewN _) rfl infoNode (by simp [Value.oneCell']) ?_; intro W9 hW9 hfW9 _))
                  refine bodyPost_blk rfl rfl hW9 Try.underlying28 rfl infoNode rfl ?_
                  have hN9 : NewN w W9 (.agg #[.int .i64 3, .int .u64 0, .int .u64 0, .int .u64 0, .int .u64 0, .int .i64 0, .int .i64 0, .slice A L cap]) (Rx.of 3 (n :: m :: r)) := by
                    refine ⟨A, cap, ?_, ?_⟩
                    · simp only [Rx.of, nodeA, wd_zero, Nd.kind, Nd.set, Nd.mn, Nd.mx, Nd.subs, HL.out]
                    · show Rep _ _ (.slice A (n :: m :: r).length cap) (.sl 28 (n :: m :: r).length (encNs (n :: m :: r)))
                      rw [HL.out]
                      exact (hN.drewN _).fr hfW9 (fun k hk _ => ⟨by show ¬ k = w.heap.size; omega, Nat.le_of_lt hk⟩)
                  exact ⟨⟨_, rfl, hN9⟩, (hP.drewN _).fr hfW9 (by show ¬ b = w.heap.size; omega), hi2, (hF.drewN _).callAt hfW9 (Nat.le_refl _)⟩
        · rw [if_neg hx] at H
          unfold Rx.ends at hx
          rw [Hc0.out] at hx
          simp only [Bool.or_eq_true, decide_eq_true_eq, beq_iff_eq, not_or, Int.not_lt] at hx
          have d1 : decide (0 ≤ c0) = true := decide_eq_true (by omega)
          have d2 : (c0 != 124) = true := by simp [hx.1.2]
          have d3 : (c0 != 41) = true := by simp [hx.2]
          clear hx
          have hitem := fun (W : World) (hW : Ps W b s i' (-1) op) => pitem_a b s i' op W sub Hs.out hW hi2 Hsub.out Hgo.out
          obtain ⟨A0, cap0, rfl, hc1, hc2⟩ := hO.form
          have hsep : ∀ k, k < wr.heap.size → (w.heap.size < k ∨ (Value.slice A0 l.length cap0).ownBlock = some k) → ¬ At b k := fun k hk h => by
            rcases h with h | h
            · show ¬ k = b; omega
            · have := hO.blk_lt k h; show ¬ k = b; omega
          have hnew : ∀ k, wr.heap.size ≤ k → w.heap.size < k ∧ some k ≠ (Value.slice A0 l.length cap0).ownBlock := fun k hk => by
            refine ⟨by have := hB.lt; omega, fun h => ?_⟩
            have := hO.blk_lt k h.symm
            omega
          have hgb : ¬ (some b = (Value.slice A0 l.length cap0).ownBlock) := fun h => by have := hO.blk_lt b h.symm; omega
          have hgw : ¬ (some w.heap.size = (Value.slice A0 l.length cap0).ownBlock) := fun h => by have := hO.blk_lt _ h.symm; omega
          have hgt := hB.lt
          have hsz := Hs.out
          cases hir : Rx.item s sub i' with
          | out => rw [hir] at H; exact absurd (H : R.out = res).symm Hne.out
          | bad kk =>
            rw [hir] at H hitem
            simp only [R.bind] at H
            have HK := hid H
            have Hitem := hid hitem
            clear hitem H
            go_wp2_with (first | (go_at_call 28; first | (refine hN0.mono ?_; rintro e wn ⟨rfl, nn, rfl⟩) | (refine (hNn _).mono ?_; rintro e wn ⟨rfl, nn, rfl⟩; rw [drewN_drewN'])) | (go_at_call 32; refine (Hitem.out _ (hP.drewN _)).mono ?_; rintro e w3 ⟨⟨v1, nd, rfl, A, cap, rfl, hrep⟩, ⟨x3, hP3⟩, hk3, hf3⟩; unfold nodeA; have hO3 := ((hO.drewN _).fr hf3 hsep).alloc (.cells (nodeA nd A cap) 28)) |
              (at_builtin; go_loud ((with_reducible refine at_call ?_); refine wpList_append_D (es := encN nd) rfl (.tmp 24) (.tmp 27) 26 rfl _ 80 Try.underlying26 infoNode3 rfl (by decide) rfl hO3 rfl (news := (nodeA nd A cap).toList) rfl (Blk.new w3 28 (nodeA nd A cap)).news ((NodeIn.cells (hrep.alloc _)).mono (fun k hk hl => ⟨rfl, hnew k hk⟩)) (by omega) (by omega) (by have h1 : wr.heap.size ≤ w3.heap.size := hf3.size; rw [World.size_alloc]; omega) ?_); intro v' w4 hO4 hg4 hat4))
            have hFg := Fr.ofGrown hg4
            have hB3 : Blk w3 w.heap.size 28 #[.int .i64 0, .int .u64 0, .int .u64 0, .int .u64 0, .int .u64 0, .int .i64 0, .int .i64 0, .slice none 0 0] := hf3.blk (hB.drewN _) (by show ¬ w.heap.size = b; omega)
            go_roundg kn
            case measure => omega
            case rel =>
              refine .inr ⟨kk, x3, l ++ [nd], HK.out, (hP3.alloc _).fr hFg hgb, ?_, hFg.blk (hB3.alloc _) hgw, Fr.call (Fr.alloc (Fr.trans hF (Fr.undrewN hf3)) _) hFg (fun k hk h => by have := hO.blk_lt k h.symm; omega), hk3⟩
              rw [List.length_append, encNs_append, encNs_one]
              exact hO4
          | ok nd j =>
            have hgo2 := (item_goes Hgo.out i' hi2).2 nd j hir
            rw [hir] at H hitem
            simp only [R.bind] at H
            have HK := hid H
            have Hitem := hid hitem
            clear hitem H
            go_wp2_with (first | (go_at_call 28; first | (refine hN0.mono ?_; rintro e wn ⟨rfl, nn, rfl⟩) | (refine (hNn _).mono ?_; rintro e wn ⟨rfl, nn, rfl⟩; rw [drewN_drewN'])) | (go_at_call 32; refine (Hitem.out _ (hP.drewN _)).mono ?_; rintro e w3 ⟨⟨v1, rfl, A, cap, rfl, hrep⟩, hP3, hj3, hf3⟩; unfold nodeA; have hO3 := ((hO.drewN _).fr hf3 hsep).alloc (.cells (nodeA nd A cap) 28)) |
              (at_builtin; go_loud ((with_reducible refine at_call ?_); refine wpList_append_D (es := encN nd) rfl (.tmp 24) (.tmp 27) 26 rfl _ 80 Try.underlying26 infoNode3 rfl (by decide) rfl hO3 rfl (news := (nodeA nd A cap).toList) rfl (Blk.new w3 28 (nodeA nd A cap)).news ((NodeIn.cells (hrep.alloc _)).mono (fun k hk hl => ⟨rfl, hnew k hk⟩)) (by omega) (by omega) (by have h1 : wr.heap.size ≤ w3.heap.size := hf3.size; rw [World.size_alloc]; omega) ?_); intro v' w4 hO4 hg4 hat4))
            have hFg := Fr.ofGrown hg4
            have hB3 : Blk w3 w.heap.size 28 #[.int .i64 0, .int .u64 0, .int .u64 0, .int .u64 0, .int .u64 0, .int .i64 0, .int .i64 0, .slice none 0 0] := hf3.blk (hB.drewN _) (by show ¬ w.heap.size = b; omega)
            go_roundg kn
            case measure => omega
            case rel =>
              refine .inl ⟨j, l ++ [nd], HK.out, (hP3.alloc _).fr hFg hgb, ?_, hFg.blk (hB3.alloc _) hgw, Fr.call (Fr.alloc (Fr.trans hF (Fr.undrewN hf3)) _) hFg (fun k hk h => by have := hO.blk_lt k h.symm; omega), hj3, by simp; omega⟩
              rw [List.length_append, encNs_append, encNs_one]
              exact hO4
    · have d0 : decide ((k0 : Int) < 0) = false := decide_eq_false (by omega)
      have H := HA.out
      subst H
      clear HA
      obtain ⟨h00, h1, h2, h3, f1, f2, f3⟩ := hP.cells
      obtain ⟨A, cap, rfl, hcp1, hcp2⟩ := hO.form
      have hN := (hO.rep (fun k hk => by omega)).sub (S' := fun k => w.heap.size < k) (fun k hk _ => hk)
      cases l with
      | nil =>
        generalize hL : ([] : List Nd).length = L at *
        have e0 : ((L : Int) == 0) = true := by subst hL; rfl
        have HL := hid hL
        clear hL hO
        go_wp2_with (first | ((with_reducible refine at_store 28 ?_); refine wpList_store_blk (cs := #[.int .i64 1, .int .u64 0, .int .u64 0, .int .u64 0, .int .u64 0, .int .i64 0, .int .i64 0, .slice none 0 0]) rfl rfl rfl rfl hB rfl infoNode (by simp [Value.oneCell']) ?_; intro W9 hW9 hfW9 _))
        refine bodyPost_blk rfl rfl hW9 Try.underlying28 rfl infoNode rfl ?_
        have hN9 : NewN w W9 (.agg #[.int .i64 1, .int .u64 0, .int .u64 0, .int .u64 0, .int .u64 0, .int .i64 0, .int .i64 0, .slice none 0 0]) (Rx.of 3 []) := by rw [lit1_node]; exact NodeIn.leaf W9 _ 1 0 0 0
        exact ⟨⟨_, _, rfl, hN9⟩, ⟨_, hP.fr hfW9 (by show ¬ b = w.heap.size; omega)⟩, hk0, hF.callAt hfW9 (Nat.le_refl _)⟩
      | cons n r =>
        cases r with
        | nil =>
          obtain ⟨g, off, A', cap', rfl, hSg, hlg, hrng, hrep⟩ := NodesIn.at_ (l := [n]) (i := 0) hN rfl
          generalize hL : [n].length = L at *
          have e0 : ((L : Int) == 0) = false := by subst hL; rfl
          have e1 : ((L : Int) == 1) = true := by subst hL; rfl
          have e2 : (0 : Int) < (L : Int) := by subst hL; simp
          have HL := hid hL
          clear hL hO
          rw [Nat.mul_zero, Nat.add_zero] at hrng
          go_wp2_with (first | ((with_reducible refine at_load 28 ?_); refine wpList_load_rng (cs := nodeA n A' cap') rfl rfl rfl hrng Try.underlying28 rfl infoNode ?_) | ((with_reducible refine at_store 28 ?_); refine wpList_store_blk (cs := nodeA n A' cap') rfl rfl rfl rfl hB rfl infoNode (nodeA_one _ _ _) ?_; intro W9 hW9 hfW9 _))
          refine bodyPost_blk rfl rfl hW9 Try.underlying28 rfl infoNode rfl ?_
          have hN9 : NewN w W9 (.agg (nodeA n A' cap')) (Rx.of 3 [n]) := ⟨A', cap', rfl, hrep.fr hfW9 (fun k hk _ => ⟨by show ¬ k = w.heap.size; omega, Nat.le_of_lt hk⟩)⟩
          exact ⟨⟨_, _, rfl, hN9⟩, ⟨_, hP.fr hfW9 (by show ¬ b = w.heap.size; omega)⟩, hk0, hF.callAt hfW9 (Nat.le_refl _)⟩
        | cons m r =>
          have hlen2 : 2 ≤ (n :: m :: r).length := by simp
          generalize hL : (n :: m :: r).length = L at *
          have e0 : ((L : Int) == 0) = false := by simp; omega
          have e1 : ((L : Int) == 1) = false := by simp; omega
          have HL := hid hL
          clear hL hO
          go_wp2_with (first | ((with_reducible refine at_store 28 ?_); refine wpList_store_blk (cs := #[.int .i64 3, .int .u64 0, .int .u64 0, .int .u64 0, .int .u64 0, .int .i64 0, .int .i64 0, .slice A L cap]) rfl rfl rfl rfl hB rfl infoNode (by simp [Value.oneCell']) ?_; intro W9 hW9 hfW9 _))
          refine bodyPost_blk rfl rfl hW9 Try.underlying28 rfl infoNode rfl ?_
          have hN9 : NewN w W9 (.agg #[.int .i64 3, .int .u64 0, .int .u64 0, .int .u64 0, .int .u64 0, .int .i64 0, .int .i64 0, .slice A L cap]) (Rx.of 3 (n :: m :: r)) := by
            refine ⟨A, cap, ?_, ?_⟩
            · simp only [Rx.of, nodeA, wd_zero, Nd.kind, Nd.set, Nd.mn, Nd.mx, Nd.subs, HL.out]
            · show Rep _ _ (.slice A (n :: m :: r).length cap) (.sl 28 (n :: m :: r).length (encNs (n :: m :: r)))
              rw [HL.out]
              exact hN.fr hfW9 (fun k hk _ => ⟨by show ¬ k = w.heap.size; omega, Nat.le_of_lt hk⟩)
          exact ⟨⟨_, _, rfl, hN9⟩, ⟨_, hP.fr hfW9 (by show ¬ b = w.heap.size; omega)⟩, hk0, hF.callAt hfW9 (Nat.le_refl _)⟩
end
end Go.Proofs.Ytcphepjfnnbonaa
