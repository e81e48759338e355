/-
  Lemmas on the way to Rr1: Dr5.
-/
import Derived.Test.YtbogjkggfdhckaaGreatDoorMA19
import Derived.Deep.LoopGhost
/-
  drive: Run, through the interface: over any engine.
-/
namespace Go.Proofs.YtbogjkggfdhckaaGreatDoor
open Go.RowKit Go.Um

/-- What Run asks of an engine. -/
structure Eng {σ : Type} (At : Nat → σ → World → Prop) (stepI : σ → Int → σ) (done : σ → Bool) (evs : σ → List Ev) (mu : σ → Nat) (K B0 n no : Nat) (objs : List Ob) (dt fs fd fh : Nat) (pv : Value) : Prop where
  ms : ∀ k w, (method (k + 1) dt pv "Step").run Tryz.prog w = .ok (fs, pv) w
  msc : ∀ (args : Array Value) (w : World), (callFunc fs args).run Tryz.prog w = .ok (.enter fs args) w
  md : ∀ k w, (method (k + 1) dt pv "Done").run Tryz.prog w = .ok (fd, pv) w
  mdc : ∀ (args : Array Value) (w : World), (callFunc fd args).run Tryz.prog w = .ok (.enter fd args) w
  mh : ∀ k w, (method (k + 1) dt pv "History").run Tryz.prog w = .ok (fh, pv) w
  mhc : ∀ (args : Array Value) (w : World), (callFunc fh args).run Tryz.prog w = .ok (.enter fh args) w
  step : ∀ r s w i, At r s w → Calls Tryz.prog fs #[pv, .int .i64 i] w fun e w' => (e = .returned (.bool true) ∨ e = .returned (.bool false)) ∧ At r (stepI s i) w' ∧ ∃ S, Kp S w w' ∧ ∀ x ∈ S, B0 ≤ x ∧ x ≠ r
  dn : ∀ r s w, At r s w → Calls Tryz.prog fd #[pv] w fun e w' => e = .returned (.bool (done s)) ∧ Kp [] w w'
  hist : ∀ r s w, At r s w → Calls Tryz.prog fh #[pv] w fun e w' => (∃ vo vev, e = .returned (.agg #[vo, vev]) ∧ RdP w' (fun x => w.heap.size ≤ x) vo no (flatO objs) ∧ RdP w' (fun x => w.heap.size ≤ x) vev (evs s).length (flatE (evs s))) ∧ Kp [] w w'
  ext : ∀ r s w w', At r s w → Kp [] w w' → At r s w'
  mule : ∀ r s w, At r s w → mu s ≤ K
  prog : ∀ r s w, At r s w → done s = false → mu s < mu ((List.range n).foldl (fun s (i : Nat) => stepI s i) s)
/-- How a world may have changed. -/
def Far (B0 r : Nat) (w w' : World) : Prop := ∃ S, Kp S w w' ∧ ∀ x ∈ S, B0 ≤ x ∧ x ≠ r
theorem Far.refl {B0 r : Nat} (w : World) : Far B0 r w w := ⟨[], Kp.refl _ _, by simp⟩
theorem Far.trans {B0 r : Nat} {a b c : World} (h : Far B0 r a b) (h2 : Far B0 r b c) : Far B0 r a c := by
  obtain ⟨S, k, hS⟩ := h
  obtain ⟨T, k2, hT⟩ := h2
  refine ⟨S ++ T, (k.mono (T := S ++ T) (fun x hx _ => by simp [hx])).trans k2 (fun x hx _ => by simp [hx]), fun x hx => ?_⟩
  rcases List.mem_append.1 hx with hx | hx
  · exact hS x hx
  · exact hT x hx
theorem Far.ofKp {B0 r : Nat} {a b : World} (h : Kp [] a b) : Far B0 r a b := ⟨[], h, by simp⟩
theorem Far.size {B0 r : Nat} {a b : World} (h : Far B0 r a b) : a.heap.size ≤ b.heap.size := by
  obtain ⟨S, k, _⟩ := h
  exact k.size
theorem Far.at_ {B0 r : Nat} {a b : World} (h : Far B0 r a b) (hr : r < a.heap.size) : r < b.heap.size ∧ (∀ o, b.cell? ⟨r, o, none⟩ = a.cell? ⟨r, o, none⟩) ∧ ∀ o, b.frozen? ⟨r, o, none⟩ = a.frozen? ⟨r, o, none⟩ := by
  obtain ⟨S, k, hS⟩ := h
  exact k.blk r hr (fun hx => (hS r hx).2 rfl)
theorem Far.rdP {B0 r : Nat} {a b : World} {P : Nat → Prop} {n : Nat} {v : Value} {xs : List Value} (h : Far B0 r a b) (hr : RdP a P v n xs) (hP : ∀ x, P x → x < B0 ∨ x = r) : RdP b P v n xs := by
  obtain ⟨S, k, hS⟩ := h
  exact hr.kp k (fun x hx hp => by
    have := hS x hx
    rcases hP x hp with h | h
    · omega
    · exact this.2 h)

/-- Where a run ends. -/
def RunEnd {σ : Type} (full : Bool) (R : σ → Prop) (done : σ → Bool) (s1 s : σ) : Prop := if full then R s ∧ done s = true else s = s1

set_option maxRecDepth 100000 in
set_option maxHeartbeats 4000000 in
theorem drun {σ : Type} {At : Nat → σ → World → Prop} {stepI : σ → Int → σ} {done : σ → Bool} {evs : σ → List Ev} {mu : σ → Nat} {K B0 n no : Nat} {objs : List Ob} {dt fs fd fh : Nat} {pv : Value}
    (hE : Eng At stepI done evs mu K B0 n no objs dt fs fd fh pv) {s0 : σ} {R : σ → Prop} (sched : List Int) (full : Bool) (vs : Value) (w : World) (hAt : ∀ W, Kp [] w W → w.heap.size < W.heap.size → At w.heap.size s0 W) (hs : RdP w (fun x => x < B0) vs sched.length (flatI sched)) (hB : B0 ≤ w.heap.size) (hl : sched.length ≤ 300) (hn : n ≤ 1000)
    (hR0 : R (sched.foldl stepI s0)) (hR : ∀ s i, R s → R (stepI s i)) :
    Calls Tryz.prog 64 #[.iface dt pv, .int .i64 n, vs, .bool full] w fun r w' => ∃ s vo vev, r = .returned (.tuple #[.agg #[vo, vev], .nilIface]) ∧ RunEnd full R done (sched.foldl stepI s0) s ∧ RdP w' (fun x => w.heap.size ≤ x) vo no (flatO objs) ∧ RdP w' (fun x => w.heap.size ≤ x) vev (evs s).length (flatE (evs s)) ∧ ∃ S, Kp S w w' ∧ ∀ x ∈ S, B0 ≤ x := by
  have hms := hE.ms
  have hmd := hE.md
  have hmh := hE.mh
  have hmsc := hE.msc
  have hmdc := hE.mdc
  have hmhc := hE.mhc
  have HE := Lib.hid hE
  have HAT := Lib.hid hAt
  have HS := Lib.hid hs
  have HR0 := Lib.hid hR0
  have HRS := Lib.hid hR
  have HB := Lib.hid hB
  obtain ⟨asl, csl, rfl, hrow⟩ := hs
  have HROW := Lib.hid hrow
  have hl2 : (sched.length : Int) ≤ 300 := by omega
  clear hE hAt hR0 hR hB hrow
  go_enter Tryz.func64, Tryz.ntmps64
  go_upto_region 3 with fail
  refine wp_gen fun W hW => ?_
  have hkW : Kp [] w W := by rw [hW]; exact (Kp.refl _ _).alloc _
  have hlt : w.heap.size < W.heap.size := by rw [hW]; simp
  obtain ⟨r, hr⟩ : ∃ x, x = w.heap.size := ⟨_, rfl⟩
  have r0 : W.cell? ⟨r, 0, none⟩ = some (.slice none 0 0) := by rw [hW, hr]; simp [go_sem]
  have r1 : W.cell? ⟨r, 1, none⟩ = some (.slice none 0 0) := by rw [hW, hr]; simp [go_sem]
  have rf : ∀ j, W.frozen? ⟨r, j, none⟩ = false := by intro j; rw [hW, hr]; simp [go_sem]
  have hrl : r < W.heap.size := by omega
  rw [← hr]
  have HA0 : RowKit.Hid (At r s0 W) := Lib.hid (by rw [hr]; exact HAT.out W hkW hlt)
  have HR := Lib.hid hr
  have HKW := Lib.hid hkW
  have RR := Lib.hid (show W.cell? ⟨r, 0, none⟩ = some (.slice none 0 0) ∧ W.cell? ⟨r, 1, none⟩ = some (.slice none 0 0) ∧ (∀ j, W.frozen? ⟨r, j, none⟩ = false) ∧ r < W.heap.size from ⟨r0, r1, rf, hrl⟩)
  clear hW hkW hlt hr HAT r0 r1 rf hrl
  go_wp2
  go_loopw [20] (fun s20 wr => ∃ k : Nat, k ≤ sched.length ∧ s20 = .int .i64 k ∧ At r ((sched.take k).foldl stepI s0) wr ∧ Far B0 r W wr) (fun s20 _ => sched.length + 1 - (intOf s20).toNat)
  case atStart => exact ⟨0, by omega, rfl, HA0.out, Far.refl _⟩
  case round =>
    obtain ⟨k, hk, rfl, hA, hF⟩ := hrel
    by_cases hlt : k < sched.length
    · obtain ⟨x, hx⟩ : ∃ x, sched[k]? = some x := ⟨sched[k], by simp [hlt]⟩
      obtain ⟨b, o, rfl, hPb, hbl, hc⟩ := HROW.out (by omega)
      have hkW : Far B0 r w W := Far.ofKp HKW.out
      have hblk : b < wr.heap.size ∧ wr.cell? ⟨b, o + k, none⟩ = some (.int .i64 x) := by
        obtain ⟨S, kk, hS⟩ := hkW.trans hF
        obtain ⟨g1, g2, _⟩ := kk.blk b hbl (fun h => by have := (hS b h).1; have : b < B0 := hPb; omega)
        exact ⟨g1, (g2 _).trans (hc k (.int .i64 x) (by simp [flatI, hx]))⟩
      obtain ⟨bl, bc⟩ := hblk
      have HF := Lib.hid hF
      have HX := Lib.hid hx
      have HC := Lib.hid (HE.out.step r _ wr x hA)
      clear hF hx hA hc hPb hbl hkW
      go_wp2_with ((with_reducible refine (HC.out).mono ?_); rintro e w2 ⟨he, hA2, hF2⟩; have HA2 := Lib.hid hA2; have HF2 := Lib.hid hF2; clear hA2 hF2; rcases he with rfl | rfl)
      all_goals
        go_roundw
        case rel => exact ⟨k + 1, by omega, by go_num, by rw [List.take_add_one, HX.out]; simpa using HA2.out, HF.out.trans HF2.out⟩
        case measure => simp [intOf]; omega
    · obtain rfl : k = sched.length := by omega
      rw [List.take_of_length_le (Nat.le_refl _)] at hA
      obtain ⟨s1, hs1⟩ : ∃ s, s = sched.foldl stepI s0 := ⟨_, rfl⟩
      rw [← hs1] at hA
      have HS1 := Lib.hid hs1
      have HR1 : RowKit.Hid (R s1) := Lib.hid (by rw [hs1]; exact HR0.out)
      obtain ⟨lr, cr, fr⟩ := hF.at_ RR.out.2.2.2
      have d0 : wr.cell? ⟨r, 0, none⟩ = some (.slice none 0 0) := (cr 0).trans RR.out.1
      have d1 : wr.cell? ⟨r, 1, none⟩ = some (.slice none 0 0) := (cr 1).trans RR.out.2.1
      have df : ∀ j, wr.frozen? ⟨r, j, none⟩ = false := fun j => (fr j).trans (RR.out.2.2.1 j)
      have HF := Lib.hid hF
      have HA := Lib.hid hA
      clear hF hA hs1 cr fr
      cases full with
      | false =>
        have HC := Lib.hid (HE.out.hist r _ wr HA.out)
        go_wp2
        rename World => wq
        go_loopg [28] 1 (fun _ s28 wr => wr = wq)
        case atStart => rfl
        case round =>
          subst hrel
          go_wp2_with ((with_reducible refine (HC.out).mono ?_); rintro e w2 ⟨⟨vo, vev, rfl, hv1, hv2⟩, hk2⟩; obtain ⟨av, cv, rfl, hx1⟩ := hv1; obtain ⟨ae, ce, rfl, hx2⟩ := hv2; have H1 := Lib.hid hx1; have H2 := Lib.hid hx2; obtain ⟨lb, cb, fb⟩ := hk2.blk r lr (by simp); have q0 : w2.cell? ⟨r, 0, none⟩ = some (.slice none 0 0) := (cb 0).trans d0; have q1 : w2.cell? ⟨r, 1, none⟩ = some (.slice none 0 0) := (cb 1).trans d1; have qf : ∀ j, w2.frozen? ⟨r, j, none⟩ = false := fun j => (fb j).trans (df j); have HK2 := Lib.hid hk2; clear hx1 hx2 hk2 cb fb)
          have hr := HR.out
          have hkE : Kp [r] w2 ((w2.setCell ⟨r, 0, none⟩ (.slice av no cv)).setCell ⟨r, 1, none⟩ (.slice ae (evs s1).length ce)) := ((Kp.refl _ _).setCell _ _ (fun _ => by simp)).setCell _ _ (fun _ => by simp)
          have hsz := HF.out.size
          have hsW := HKW.out.size
          have hrW := RR.out.2.2.2
          have v1 : RdP ((w2.setCell ⟨r, 0, none⟩ (.slice av no cv)).setCell ⟨r, 1, none⟩ (.slice ae (evs s1).length ce)) (fun x => w.heap.size ≤ x) (.slice av no cv) no (flatO objs) := (RdP.kp ⟨av, cv, rfl, H1.out⟩ hkE (fun x hx hp => by simp at hx; omega)).mono (fun x _ h => by omega)
          have v2 : RdP ((w2.setCell ⟨r, 0, none⟩ (.slice av no cv)).setCell ⟨r, 1, none⟩ (.slice ae (evs s1).length ce)) (fun x => w.heap.size ≤ x) (.slice ae (evs s1).length ce) (evs s1).length (flatE (evs s1)) := (RdP.kp ⟨ae, ce, rfl, H2.out⟩ hkE (fun x hx hp => by simp at hx; omega)).mono (fun x _ h => by omega)
          refine bodyPost_ret (v := .tuple #[.agg #[.slice av no cv, .slice ae (evs s1).length ce], .nilIface]) ?_ rfl ⟨_, _, _, rfl, HS1.out, v1, v2, ?_⟩
          · simp [results, Tryz.results64, go_sem, q0, q1]
          · obtain ⟨S, k1, hS⟩ := (Far.ofKp (B0 := B0) (r := r) HKW.out).trans (HF.out.trans (Far.ofKp HK2.out))
            exact ⟨r :: S, (k1.mono (T := r :: S) (fun x hx _ => by simp [hx])).trans hkE (fun x hx _ => by simp at hx; simp [hx]), fun x hx => by
              simp at hx
              rcases hx with rfl | hx
              · have := HB.out; omega
              · exact (hS x hx).1⟩
      | true =>
        have D := Lib.hid (show wr.cell? ⟨r, 0, none⟩ = some (.slice none 0 0) ∧ wr.cell? ⟨r, 1, none⟩ = some (.slice none 0 0) ∧ (∀ j, wr.frozen? ⟨r, j, none⟩ = false) ∧ r < wr.heap.size from ⟨d0, d1, df, lr⟩)
        clear d0 d1 df lr
        go_wp2
        rename World => wq
        go_loopg [28] (K - mu s1) (fun g s28 wr => ∃ s, g = K - mu s ∧ R s ∧ At r s wr ∧ Far B0 r wq wr)
        case atStart => exact ⟨s1, rfl, HR1.out, HA.out, Far.refl _⟩
        case round =>
          obtain ⟨s, hg, hRs, hA, hF⟩ := hrel
          have HG := Lib.hid hg
          have HRS1 := Lib.hid hRs
          have HAS := Lib.hid hA
          obtain ⟨lr, cr, fr⟩ := hF.at_ D.out.2.2.2
          have d0 : wr.cell? ⟨r, 0, none⟩ = some (.slice none 0 0) := (cr 0).trans D.out.1
          have d1 : wr.cell? ⟨r, 1, none⟩ = some (.slice none 0 0) := (cr 1).trans D.out.2.1
          have df : ∀ j, wr.frozen? ⟨r, j, none⟩ = false := fun j => (fr j).trans (D.out.2.2.1 j)
          have HFQ := HF
          have HF := Lib.hid (HFQ.out.trans hF)
          have HFq := Lib.hid hF
          clear hg hRs hA hF cr fr
          have HD := Lib.hid (HE.out.dn r s wr HAS.out)
          cases hdn : done s with
          | true =>
            rw [hdn] at HD
            have HDN := Lib.hid hdn
            have HHI : RowKit.Hid (∀ W, Kp [] wr W → _) := Lib.hid (fun W hW => HE.out.hist r s W (HE.out.ext r s wr W HAS.out hW))
            clear hdn
            go_wp2_with (first | ((with_reducible refine (HD.out).mono ?_); rintro e w1 ⟨rfl, hk1⟩; obtain ⟨lb1, cb1, fb1⟩ := hk1.blk r lr (by simp); have HC1 := Lib.hid (HHI.out w1 hk1); have HK1 := Lib.hid hk1; clear hk1) | ((with_reducible refine (HC1.out).mono ?_); rintro e w2 ⟨⟨vo, vev, rfl, hv1, hv2⟩, hk2⟩; obtain ⟨av, cv, rfl, hx1⟩ := hv1; obtain ⟨ae, ce, rfl, hx2⟩ := hv2; have H1 := Lib.hid hx1; have H2 := Lib.hid hx2; obtain ⟨lb, cb, fb⟩ := hk2.blk r lb1 (by simp); have q0 : w2.cell? ⟨r, 0, none⟩ = some (.slice none 0 0) := (cb 0).trans ((cb1 0).trans d0); have q1 : w2.cell? ⟨r, 1, none⟩ = some (.slice none 0 0) := (cb 1).trans ((cb1 1).trans d1); have qf : ∀ j, w2.frozen? ⟨r, j, none⟩ = false := fun j => (fb j).trans ((fb1 j).trans (df j)); have HK2 := Lib.hid hk2; clear hx1 hx2 hk2 cb fb cb1 fb1))
            have hr := HR.out
            have hkE : Kp [r] w2 ((w2.setCell ⟨r, 0, none⟩ (.slice av no cv)).setCell ⟨r, 1, none⟩ (.slice ae (evs s).length ce)) := ((Kp.refl _ _).setCell _ _ (fun _ => by simp)).setCell _ _ (fun _ => by simp)
            have hsz := (HF.out.trans (Far.ofKp HK1.out)).size
            have hsW := HKW.out.size
            have hrW := RR.out.2.2.2
            have v1 : RdP ((w2.setCell ⟨r, 0, none⟩ (.slice av no cv)).setCell ⟨r, 1, none⟩ (.slice ae (evs s).length ce)) (fun x => w.heap.size ≤ x) (.slice av no cv) no (flatO objs) := (RdP.kp ⟨av, cv, rfl, H1.out⟩ hkE (fun x hx hp => by simp at hx; omega)).mono (fun x _ h => by omega)
            have v2 : RdP ((w2.setCell ⟨r, 0, none⟩ (.slice av no cv)).setCell ⟨r, 1, none⟩ (.slice ae (evs s).length ce)) (fun x => w.heap.size ≤ x) (.slice ae (evs s).length ce) (evs s).length (flatE (evs s)) := (RdP.kp ⟨ae, ce, rfl, H2.out⟩ hkE (fun x hx hp => by simp at hx; omega)).mono (fun x _ h => by omega)
            refine bodyPost_ret (v := .tuple #[.agg #[.slice av no cv, .slice ae (evs s).length ce], .nilIface]) ?_ rfl ⟨_, _, _, rfl, ⟨HRS1.out, HDN.out⟩, v1, v2, ?_⟩
            · simp [results, Tryz.results64, go_sem, q0, q1]
            · obtain ⟨S, k1, hS⟩ := (Far.ofKp (B0 := B0) (r := r) HKW.out).trans ((HF.out.trans (Far.ofKp HK1.out)).trans (Far.ofKp HK2.out))
              exact ⟨r :: S, (k1.mono (T := r :: S) (fun x hx _ => by simp [hx])).trans hkE (fun x hx _ => by simp at hx; simp [hx]), fun x hx => by
                simp at hx
                rcases hx with rfl | hx
                · have := HB.out; omega
                · exact (hS x hx).1⟩
          | false =>
            rw [hdn] at HD
            have HPR := Lib.hid (HE.out.prog r s wr HAS.out hdn)
            have HML := Lib.hid (HE.out.mule r s wr HAS.out)
            clear hdn d0 d1 df
            go_wp2_with ((with_reducible refine (HD.out).mono ?_); rintro e w1 ⟨rfl, hk1⟩; have HA1 := Lib.hid (HE.out.ext r s wr w1 HAS.out hk1); have HK1 := Lib.hid hk1; clear hk1)
            go_loopw [35] (fun s35 wr => ∃ k : Nat, k ≤ n ∧ s35 = .int .i64 k ∧ At r ((List.range k).foldl (fun s (i : Nat) => stepI s i) s) wr ∧ R ((List.range k).foldl (fun s (i : Nat) => stepI s i) s) ∧ Far B0 r w1 wr) (fun s35 _ => n + 1 - (intOf s35).toNat)
            case atStart => exact ⟨0, by omega, rfl, HA1.out, HRS1.out, Far.refl _⟩
            case round =>
              rename World => wx
              obtain ⟨k, hk, rfl, hAk, hRk, hFk⟩ := hrel
              have HFK := Lib.hid hFk
              have HRK := Lib.hid hRk
              by_cases hlt : k < n
              · have HCK := Lib.hid (HE.out.step r _ wx k hAk)
                clear hFk hRk hAk
                go_wp2_with ((with_reducible refine (HCK.out).mono ?_); rintro e w2 ⟨he, hA2, hF2⟩; have HA2 := Lib.hid hA2; have HF2 := Lib.hid hF2; clear hA2 hF2; rcases he with rfl | rfl)
                all_goals
                  go_roundw
                  case rel => exact ⟨k + 1, by omega, by go_num, by rw [List.range_succ, List.foldl_append]; exact HA2.out, by rw [List.range_succ, List.foldl_append]; exact HRS.out _ _ HRK.out, HFK.out.trans HF2.out⟩
                  case measure => simp [intOf]; omega
              · obtain rfl : k = n := by omega
                have HAK := Lib.hid hAk
                clear hFk hRk hAk
                have HML2 := Lib.hid (HE.out.mule r _ wx HAK.out)
                go_wp2
                go_roundg (K - mu ((List.range k).foldl (fun s (i : Nat) => stepI s i) s))
                case measure =>
                  have h1 := HG.out
                  have h2 := HPR.out
                  have h3 := HML2.out
                  omega
                case rel => exact ⟨_, rfl, HRK.out, HAK.out, HFq.out.trans ((Far.ofKp HK1.out).trans HFK.out)⟩
end Go.Proofs.YtbogjkggfdhckaaGreatDoor
