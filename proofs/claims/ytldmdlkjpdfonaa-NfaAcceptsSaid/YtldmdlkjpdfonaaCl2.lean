/- The walk of sieveref14.Close. Condition: each state leads to states that there are; fewer than 2^32 states. -/
import Derived.Test.YtldmdlkjpdfonaaCl
import Derived.Test.YtldmdlkjpdfonaaRt
import Derived.Deep.LoopGhost
namespace Go.Proofs.Ytldmdlkjpdfonaa
set_option linter.unusedVariables false
set_option linter.unusedSimpArgs false
open Go Go.RowKit

def rowB (n : Nat) (f : Nat → Bool) : List Value := rowV n fun i => .bool (f i)
def encB (n : Nat) (f : Nat → Bool) : List D := (rowB n f).map .v
theorem encB_len (n : Nat) (f : Nat → Bool) : (encB n f).length = n := by simp [encB, rowB, rowV_len]
/-- A slice of truth values. -/
def BoolsIn (w : World) (S : Nat → Prop) (v : Value) (n : Nat) (f : Nat → Bool) : Prop := Rep w S v (.sl 4 n (encB n f))
theorem rowB_one (n : Nat) (f : Nat → Bool) : ∀ u ∈ rowB n f, u.oneCell' = true := by
  intro u hu
  unfold rowB rowV at hu
  obtain ⟨i, _, rfl⟩ := List.mem_map.1 hu
  rfl
theorem infoBool3 : (Try.prog.info? 4).map (fun i => (i.zero, i.size, i.bytes)) = some (some (.bool false), 1, 1) := by kernel_rfl
theorem bools_cells {w : World} {S : Nat → Prop} {A : Option Addr} {n cap : Nat} {f : Nat → Bool} (h : BoolsIn w S (.slice A n cap) n f) (hp : 0 < n) : ∃ b off, A = some ⟨b, off, none⟩ ∧ S b ∧ w.rangeAt b off (rowB n f) := by
  obtain ⟨b, off, cs, rfl, hS, hlt, hr, hl, hreps⟩ := Rep.at_ h (o := 0) (n := n) hp (by rw [encB_len]; omega)
  rw [List.drop_zero, List.take_of_length_le (by rw [encB_len]; exact Nat.le_refl _)] at hreps
  have := Reps.vs_inv hreps
  subst this
  exact ⟨b, off, rfl, hS, hr⟩
theorem bools_at {w : World} {S : Nat → Prop} {A : Option Addr} {n cap : Nat} {f : Nat → Bool} (h : BoolsIn w S (.slice A n cap) n f) {i : Nat} (hi : i < n) : ∃ b off, A = some ⟨b, off, none⟩ ∧ S b ∧ w.cell? ⟨b, off + i, none⟩ = some (.bool (f i)) := by
  obtain ⟨b, off, rfl, hS, hr⟩ := bools_cells h (by omega)
  exact ⟨b, off, rfl, hS, hr i _ (rowV_get _ hi)⟩
/-- A row of truth values of the call's own. -/
def RowB (w : World) (B : Nat) (v : Value) (n : Nat) (f : Nat → Bool) : Prop := w.ownsRow B 4 1 v n (rowB n f)
theorem RowB.bools {w : World} {B : Nat} {S : Nat → Prop} {v : Value} {n : Nat} {f : Nat → Bool} (h : RowB w B v n f) (hs : ∀ k, B ≤ k → S k) : BoolsIn w S v n f := by
  have h2 : Own w B (fun _ => False) 4 1 v n (encB n f) := ⟨rowB n f, h, Reps.vs (rowB_one n f)⟩
  obtain ⟨xs, ho, hr⟩ := h2
  obtain ⟨h3, h4⟩ := ho
  have hr' : Reps w S xs (encB n f) := hr.mono fun k hk _ => hk.1.elim
  rcases h4 with ⟨rfl, rfl⟩ | ⟨g, cap, cur, rfl, hg, hh, hn, hc, hsz, ht⟩
  · exact .nil0 (Nat.zero_le _)
  · refine .row hn hc (hs g hg) hh ?_ hr'
    rw [List.drop_zero, encB_len]
    rw [Nat.mul_one] at ht
    exact ht
theorem RowB.set {w : World} {B G n cap : Nat} {f : Nat → Bool} (h : RowB w B (.slice (some ⟨G, 0, none⟩) n cap) n f) (e : Nat) : RowB (w.setCell ⟨G, e, none⟩ (.bool true)) B (.slice (some ⟨G, 0, none⟩) n cap) n (setF f e) := by
  obtain ⟨h1, _⟩ := World.ownsRow.stored h e (.bool true)
  unfold RowB rowB
  unfold rowB at h1
  rw [rowV_set] at h1
  rwa [show rowV n (fun i => if i = e then Value.bool true else .bool (f i)) = rowV n (fun i => .bool (setF f e i)) from rowV_congr fun i _ => by unfold setF; split <;> rfl] at h1
theorem RowB.cell {w : World} {B G n cap : Nat} {f : Nat → Bool} (h : RowB w B (.slice (some ⟨G, 0, none⟩) n cap) n f) {i : Nat} (hi : i < n) : w.cell? ⟨G, i, none⟩ = some (.bool (f i)) := by
  rw [World.ownsRow.cellAt h i (by omega)]
  exact rowV_get _ hi
/-- What stands through the passes. -/
structure ClS (L : List NS) (e : TypeId) (A : Option Addr) (cap G B capG : Nat) (S : Nat → Prop) (w W : World) (f : Nat → Bool) : Prop where
  row : RowB W B (.slice (some ⟨G, 0, none⟩) L.length capG) L.length f
  rep : Rep W S (.slice A L.length cap) (.sl e L.length (encSs L))
  fr : Fr No w W
set_option maxRecDepth 100000 in
set_option maxHeartbeats 16000000 in
theorem close_c (L : List NS) (e : TypeId) (A : Option Addr) (cap : Nat) (S : Nat → Prop) (A2 : Option Addr) (cap2 : Nat) (f0 : Nat → Bool) (w : World) (hL : Rep w S (.slice A L.length cap) (.sl e L.length (encSs L))) (hS : ∀ k, S k → k < w.heap.size)
    (hin : BoolsIn w S (.slice A2 L.length cap2) L.length f0) (hpos : 0 < L.length) (hb : L.length < 4294967296) (hr : ∀ x ∈ L, ∀ e ∈ x.eps, e < L.length) :
    Calls Try.prog 20 #[.slice A L.length cap, .slice A2 L.length cap2] w fun r w' => (∃ A' cap' f, r = .returned (.slice A' L.length cap') ∧ BoolsIn w' (fun k => w.heap.size ≤ k) (.slice A' L.length cap') L.length f ∧ CloseOf L f0 f) ∧ Fr No w w' := by
  obtain ⟨b2, off2, rfl, hS2, hr2⟩ := bools_cells hin hpos
  have hO : Own (w.alloc (.cells #[] 4)) w.heap.size (fun _ => False) 4 1 (.slice (some ⟨w.heap.size, 0, none⟩) 0 0) 0 [] := Own.made (Blk.new w 4 #[]) rfl (Nat.le_refl _) (by decide) .nil
  have hF0 : Fr No w _ := (Fr.refl No w).alloc (.cells #[] 4)
  have hr2' := range_fr hr2 hF0 id
  have hnews : Reps (w.alloc (.cells #[] 4)) (fun k => False ∧ some k ≠ (Value.slice (some ⟨w.heap.size, 0, none⟩) 0 0).ownBlock) (rowB L.length f0) (encB L.length f0) := Reps.vs (rowB_one _ _)
  have hrl : (rowB L.length f0).length = L.length := rowV_len _ _
  go_enter Try.func20, Try.ntmps20
  go_wp2_with (at_builtin; go_loud ((with_reducible refine at_call ?_); refine wpList_append_D (m := L.length) rfl (.tmp 9) (.tmp 10) 48 rfl _ 1 Try.underlying48 infoBool3 rfl (by decide) rfl hO rfl (news := rowB L.length f0) (by rw [hrl, Nat.mul_one]) (fun j u hu => by rw [Addr.add_mid]; exact hr2' j u hu) hnews (by omega) (by omega) (by rw [World.size_alloc]; omega) ?_); intro v3 w3 hO3 hg3 hat3)
  have hO3' : Own w3 w.heap.size (fun _ => False) 4 1 v3 (0 + L.length) (encB L.length f0) := hO3
  rw [Nat.zero_add] at hO3'
  obtain ⟨xs3, ho3, hx3⟩ := hO3'
  have hx3' := Reps.vs_inv hx3
  subst hx3'
  obtain ⟨G, capG, rfl, hGB, hGl⟩ := World.ownsRow.form ho3 hpos
  have hF3 : Fr No w w3 := hF0.call (Fr.ofGrown hg3) fun k hk e => by
    have e : k = w.heap.size := by injection e
    omega
  have hK : ClS L e A cap G w.heap.size capG S w w3 f0 := ⟨ho3, hL.frNo hF3, hF3⟩
  have hcap : L.length ≤ cap ∧ cap ≤ maxLen := by
    obtain ⟨A2, c2, heq, h1, h2⟩ := hL.sl_inv
    injection heq with e1 e2 e3
    omega
  clear hO hF0 hr2 hr2' hnews hrl hO3 hg3 hat3 hx3 ho3 hF3 hGl hin hL hcap
  have Hr := hid hr
  clear hr
  go_loopg [6, 7, 8] (L.length + 2) (fun g t u1 u2 wr => ∃ (ag : Bool) (f : Nat → Bool), t = .bool ag ∧ ClS L e A cap G w.heap.size capG S w wr f ∧ Bgn L f0 f ∧ Sd L f0 f ∧ (ag = false → ∀ p x, L[p]? = some x → f p = true → ∀ e ∈ x.eps, f e = true) ∧ cf L.length f + (if ag = true then 1 else 0) ≤ g)
  case atStart => exact ⟨true, f0, rfl, hK, fun _ _ h => h, fun q hq h => ⟨q, hq, h, .nil⟩, fun h => (by cases h), by have := cf_le L.length f0; rw [if_pos rfl]; omega⟩
  case round =>
    obtain ⟨ag, f, rfl, hC, hB0, hSd, hCl, hcf⟩ := hrel
    clear hK
    cases ag with
    | false =>
      go_wp2_with fail
      go_ret
      refine ⟨?_, hC.fr⟩
      exact ⟨some ⟨G, 0, none⟩, capG, rfl, f, hC.row.bools fun _ h => h, close_of Hr.out hB0 hSd (hCl trivial)⟩
    | true =>
      rw [if_pos rfl] at hcf
      obtain ⟨g, rfl⟩ : ∃ g, gk = g + 1 := ⟨gk - 1, by omega⟩
      have Hcf := hid hcf
      have HB0 := hid hB0
      have HSd := hid hSd
      clear hcf hB0 hSd hCl
      go_wp2_with fail
      go_loopg [6, 7, 8] L.length (fun g1 t1 i1 u1 wi => ∃ (i : Nat) (ag' : Bool) (f' : Nat → Bool), i + g1 = L.length ∧ i1 = .int .i64 i ∧ t1 = .bool ag' ∧ ClS L e A cap G w.heap.size capG S w wi f' ∧ PassI L f0 f i 0 f' ag')
      case atStart => exact ⟨0, false, f, by omega, rfl, rfl, hC, PassI.start HSd.out⟩
      case round =>
        obtain ⟨i, ag', f', hi, rfl, rfl, hC1, hP⟩ := hrel
        clear hC
        cases gk with
        | zero =>
          have hd1 : decide (i < L.length) = false := decide_eq_false (by omega)
          have hge : L.length ≤ i := by omega
          go_wp2_with fail
          go_roundg g
          case measure => omega
          case rel =>
            have hc := Hcf.out
            have hle := hP.cf_le
            obtain ⟨p1, p2, p3, p4⟩ := hP
            refine ⟨ag', f', rfl, hC1, fun q hq h => p1 q hq (HB0.out q hq h), p2, fun ha p x hx hf e he => ?_, ?_⟩
            · obtain ⟨a1, a2, _⟩ := p3 ha
              have hp := (List.getElem?_eq_some_iff.1 hx).1
              rw [a1 e (Hr.out x (List.mem_of_getElem? hx) e he)]
              exact a2 p x (by omega) hx (by rw [← a1 p hp]; exact hf) e he
            · cases ag' with
              | false => rw [if_neg (by decide)]; omega
              | true => rw [if_pos rfl]; have := p4 rfl; omega
        | succ g1 =>
          obtain ⟨x, hxi⟩ : ∃ x, L[i]? = some x := ⟨_, List.getElem?_eq_getElem (by omega)⟩
          have hil : i < L.length := by omega
          have hd1 : decide (i < L.length) = true := decide_eq_true hil
          have hiL : (i : Int) < (L.length : Int) := by omega
          have Hi := hid hi
          have Hxi := hid hxi
          obtain ⟨b, off, A', cap', rfl, hSb, hltb, hrng, hrep'⟩ := states_at hC1.rep hxi
          have hx32 : x.eps.length ≤ cap' ∧ cap' ≤ maxLen := by
            obtain ⟨A2, c2, heq, h1, h2⟩ := hrep'.sl_inv
            injection heq with e1 e2 e3
            omega
          clear hi hxi hrng hrep'
          go_wp2_with fail
          go_loopg [6, 8] (x.eps.length + 1) (fun g2 t2 k2 wk => ∃ (k : Nat) (ag2 : Bool) (f2 : Nat → Bool), k + g2 = x.eps.length + 1 ∧ k ≤ x.eps.length ∧ k2 = .int .i64 k ∧ t2 = .bool ag2 ∧ ClS L e (some ⟨b, off, none⟩) cap G w.heap.size capG S w wk f2 ∧ PassI L f0 f i k f2 ag2)
          case atStart => exact ⟨0, ag', f', by omega, Nat.zero_le _, rfl, rfl, hC1, hP⟩
          case round =>
            obtain ⟨k, ag2, f2, hk, hkl, rfl, rfl, hC2, hP2⟩ := hrel
            clear hC1 hP
            obtain ⟨b', off', A'', cap'', he1, hSb', hltb', hrng, hrep'⟩ := states_at hC2.rep Hxi.out
            injection he1 with he1
            injection he1 with e1 e2 e3
            subst e1; subst e2
            rw [Nat.mul_comm 7 i] at hrng
            have hep := st_eps hrng
            generalize hpa : off + i * 7 = pa at *
            have hci := hC2.row.cell hil
            have hzr := fun q => World.ownsRow.frozenAt hC2.row q
            have Hk := hid hk
            clear hk hrng
            by_cases hfi : f2 i = false
            · rw [hfi] at hci
              go_wp2_with fail
              go_roundg g1
              case measure => omega
              case rel => exact ⟨i + 1, ag2, f2, by have := Hi.out; omega, (by first | rfl | exact wrap_succ (by omega)), rfl, hC2, hP2.next hil (.inl hfi)⟩
            · have hfi' : f2 i = true := by simpa using hfi
              rw [hfi'] at hci
              by_cases hkx : k < x.eps.length
              · have hd2 : decide (k < x.eps.length) = true := decide_eq_true hkx
                have hkL : (k : Int) < (x.eps.length : Int) := by omega
                obtain ⟨e', he'⟩ : ∃ e', x.eps[k]? = some e' := ⟨_, List.getElem?_eq_getElem hkx⟩
                have hlt := Hr.out x (List.mem_of_getElem? Hxi.out) e' (List.mem_of_getElem? he')
                obtain ⟨b3, o3, rfl, hS3, hlt3, hc3⟩ := ints_at hrep' he'
                have hce := hC2.row.cell hlt
                have hze := hzr e'
                have heL : (e' : Int) < (L.length : Int) := by omega
                have hd3 : decide (e' < L.length) = true := decide_eq_true hlt
                have He := hid he'
                clear he' hrep'
                cases hfe : f2 e' with
                | true =>
                  rw [hfe] at hce
                  go_wp2_with fail
                  obtain ⟨g3, hg3⟩ : ∃ g3, k + 1 + g3 = x.eps.length + 1 := ⟨x.eps.length - k, by omega⟩
                  go_roundg g3
                  case measure => have := Hk.out; omega
                  case rel => exact ⟨k + 1, ag2, f2, hg3, by omega, (by first | rfl | exact wrap_succ (by have := maxLen_eq; omega)), rfl, hC2, hP2.stay Hxi.out He.out hlt hfe⟩
                | false =>
                  rw [hfe] at hce
                  go_wp2_with fail
                  obtain ⟨g3, hg3⟩ : ∃ g3, k + 1 + g3 = x.eps.length + 1 := ⟨x.eps.length - k, by omega⟩
                  go_roundg g3
                  case measure => have := Hk.out; omega
                  case rel =>
                    refine ⟨k + 1, true, setF f2 e', hg3, by omega, (by first | rfl | exact wrap_succ (by have := maxLen_eq; omega)), rfl, ?_, hP2.add Hxi.out He.out hlt hfi' hfe⟩
                    have hfs : Fr (At G) wr _ := (Fr.refl (At G) wr).setB e' (.bool true)
                    exact ⟨hC2.row.set e', hC2.rep.fr hfs fun q hq _ => ⟨fun e => by have e : q = G := e; have := hS q hq; omega, hq⟩, hC2.fr.callAt hfs hGB⟩
              · have hd2 : decide (k < x.eps.length) = false := decide_eq_false hkx
                have hke : x.eps.length ≤ k := by omega
                go_wp2_with fail
                go_roundg g1
                case measure => omega
                case rel => exact ⟨i + 1, ag2, f2, by have := Hi.out; omega, (by first | rfl | exact wrap_succ (by omega)), rfl, hC2, hP2.next hil (.inr fun y hy => by have h := Hxi.out; rw [hy] at h; injection h with h; subst h; exact hke)⟩
end Go.Proofs.Ytldmdlkjpdfonaa
