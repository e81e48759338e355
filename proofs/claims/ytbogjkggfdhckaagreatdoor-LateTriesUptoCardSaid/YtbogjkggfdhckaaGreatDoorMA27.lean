/-
  Lemmas on the way to Rr1: Lw5.
-/
import Derived.Test.YtbogjkggfdhckaaGreatDoorMA26
/-
  the laws of chapter 21: LateTries, walked.
-/
namespace Go.Proofs.YtbogjkggfdhckaaGreatDoor
open Go.RowKit Go.Um

theorem Fed.some {objs : List Ob} {evs : List Ev} {l : List St} (h : Fed objs evs l) : 0 < evs.length → 0 < l.length := by
  intro hn
  cases h with
  | nil => simp at hn
  | @snoc evs l0 l' e h hf =>
    unfold feed at hf
    split at hf
    · cases hf
    · split at hf
      · cases hf
      · split at hf
        · split at hf
          · cases hf
          · split at hf
            · cases hf
            · cases hf; simp
        · split at hf
          · cases hf
          · split at hf
            · cases hf
            · rename_i i _ s hs
              split at hf
              · split at hf
                · cases hf
                · cases hf
                  have := (List.getElem?_eq_some_iff.1 hs).1
                  simp; omega
              · cases hf
def canc (evs : List Ev) (tx : Int) (j : Nat) : Bool := (evs.take j).any (fun e => e.kind == 7 && e.tx == tx)
theorem canc_succ {evs : List Ev} {tx : Int} {j : Nat} {e : Ev} (h : evs[j]? = some e) : canc evs tx (j + 1) = (canc evs tx j || (e.kind == 7 && e.tx == tx)) := by
  unfold canc
  rw [List.take_add_one, h, List.any_append]
  simp
theorem find_map (l : List St) (id : Int) : findTx (l.map St.t) id = l.findIdx? (St.has id) := by
  unfold findTx
  rw [List.findIdx?_map]
  rfl
/-- An abort is earned. -/
theorem tries_ok {p : Pg} {m : Mc} {l : List St} (hI : Inv p m l) {k : Nat} {e : Ev} (he : m.evs[k]? = some e) (h6 : e.kind = 6) :
    ∃ t, (l.map St.t)[(findTx (l.map St.t) e.tx).getD 0]? = some t ∧ (canc m.evs e.tx k = true ∨ 0 ≤ t.try_) := by
  have hn : 0 < l.length := hI.sim.fed.some (by have := (List.getElem?_eq_some_iff.1 he).1; omega)
  have hin : (findTx (l.map St.t) e.tx).getD 0 < (l.map St.t).length := by
    cases hf : findTx (l.map St.t) e.tx with
    | none => simpa using hn
    | some j =>
      unfold findTx at hf
      have := (List.findIdx?_eq_some_iff_getElem.1 hf).1
      simpa using this
  refine ⟨_, List.getElem?_eq_getElem hin, ?_⟩
  rcases hI.ab k e he h6 with ⟨k', e', h1, h2, h3, h4⟩ | ⟨j, s, h1, h2, h3⟩
  · left
    unfold canc
    rw [List.any_eq_true]
    refine ⟨e', List.mem_of_getElem? (i := k') (by rw [List.getElem?_take, if_pos h1]; exact h2), by simp [h3, h4]⟩
  · right
    have h5 : findTx (l.map St.t) e.tx = some j := by rw [find_map]; exact h1
    have h6 : (l.map St.t)[j]? = some s.t := by simp [h2]
    have h7 : (l.map St.t)[(findTx (l.map St.t) e.tx).getD 0]? = some s.t := by rw [h5]; exact h6
    rw [List.getElem?_eq_getElem hin] at h7
    rw [Option.some.inj h7]
    exact h3
/-- An event's cells. -/
theorem evAt {w : World} {P : Nat → Prop} {v : Value} {evs : List Ev} (h : RdP w P v evs.length (flatE evs)) {j : Nat} {e : Ev} (hj : evs[j]? = some e) :
    ∃ b o c, v = .slice (some ⟨b, o, none⟩) evs.length c ∧ b < w.heap.size ∧ w.cell? ⟨b, o + j * 8, none⟩ = some (.int .i64 e.kind) ∧ w.cell? ⟨b, o + j * 8 + 1, none⟩ = some (.int .i64 e.tx) := by
  obtain ⟨al, c, rfl, h⟩ := h
  obtain ⟨b, o, rfl, _, hb, hc⟩ := h (by have := (List.getElem?_eq_some_iff.1 hj).1; omega)
  have q := Rd.at (c := Ev.cells) (sz := 8) (fun _ => rfl) hc hj
  exact ⟨b, o, c, rfl, hb, by simpa [Ev.cells] using q 0 (by decide), by simpa [Ev.cells] using q 1 (by decide)⟩

set_option maxRecDepth 100000 in
set_option maxHeartbeats 4000000 in
theorem lateTries_any (E : Nat → Addr) (P PS : Nat → Prop) (p : Pg) (vc vt vs : Value) (sched : List Int) (w : World) (hG : Gl E w) (h : PgAt w P vc vt p) (hs : RdP w PS vs sched.length (flatI sched)) :
    Calls Tryz.prog 4 #[.agg #[vc, vt], vs] w fun r w' => r = .returned (.bool true) ∧ Kp [] w w' := by
  have hF : ∀ W, Kp [] w W → _ := fun W hW => first_any E W (hG.kp0 hW)
  have hSm : ∀ W, Kp [] w W → _ := fun W hW => small_any P p vc vt W (h.kp hW (by simp))
  have HG := Lib.hid hG
  have HFI := Lib.hid hF
  have HSM := Lib.hid hSm
  cases hp : p.ok with
  | false =>
    have hB : ∀ W, Kp [] w W → p.ths.length ≤ 20 → _ := fun W hW h20 => lfull_bad E P p vc vt vs W (hG.kp0 hW) (h.kp hW (by simp)) hp (min100 _ h20)
    have HB := Lib.hid hB
    obtain ⟨⟨ac, cc, rfl, _⟩, us, _, ⟨at_, ct, rfl, _⟩, _⟩ := h
    obtain ⟨asl, csl, rfl, _⟩ := hs
    clear hG hF hSm hB hp
    unfold errV at HB
    by_cases hl : sched.length ≤ 300
    · have hl2 : (sched.length : Int) ≤ 300 := by omega
      go_enter Tryz.func4, Tryz.ntmps4
      go_wp2_with (first | (go_at_call 10; refine (HFI.out _ ((Kp.refl _ _).alloc _)).mono ?_; rintro e w1 ⟨rfl, hk1⟩; obtain ⟨lb, cb, fb⟩ := hk1.blk w.heap.size (by simp) (by simp); have HK1 := Lib.hid (((Kp.refl [] w).alloc _).trans hk1 (by simp)); have e0 : w1.cell? ⟨w.heap.size, 0, none⟩ = some (.slice ac p.cells.length cc) := (cb 0).trans (by simp [go_sem]); have e1 : w1.cell? ⟨w.heap.size, 1, none⟩ = some (.slice at_ p.ths.length ct) := (cb 1).trans (by simp [go_sem]); clear hk1 cb fb) | (go_at_call 11; refine (HSM.out _ HK1.out).mono ?_; rintro e w2 ⟨he, hk2⟩; obtain ⟨lb2, cb2, fb2⟩ := hk2.blk w.heap.size lb (by simp); have HK2 := Lib.hid (HK1.out.trans hk2 (by simp)); have e0 : w2.cell? ⟨w.heap.size, 0, none⟩ = some (.slice ac p.cells.length cc) := (cb2 0).trans e0; have e1 : w2.cell? ⟨w.heap.size, 1, none⟩ = some (.slice at_ p.ths.length ct) := (cb2 1).trans e1; clear hk2 cb2 fb2; rcases he with ⟨rfl, h20⟩ | rfl) | (go_at_call 12; refine (HB.out _ HK2.out h20).mono ?_; rintro e w3 ⟨rfl, hk3⟩; have HK3 := Lib.hid (HK2.out.trans hk3 (by simp)); clear hk3))
      all_goals go_ret
      all_goals first | exact ⟨rfl, HK3.out.alloc _⟩ | exact ⟨rfl, HK2.out⟩
    · have hl2 : 300 < (sched.length : Int) := by omega
      go_enter Tryz.func4, Tryz.ntmps4
      go_wp2_with (first | (go_at_call 10; refine (HFI.out _ ((Kp.refl _ _).alloc _)).mono ?_; rintro e w1 ⟨rfl, hk1⟩; obtain ⟨lb, cb, fb⟩ := hk1.blk w.heap.size (by simp) (by simp); have HK1 := Lib.hid (((Kp.refl [] w).alloc _).trans hk1 (by simp)); have e0 : w1.cell? ⟨w.heap.size, 0, none⟩ = some (.slice ac p.cells.length cc) := (cb 0).trans (by simp [go_sem]); have e1 : w1.cell? ⟨w.heap.size, 1, none⟩ = some (.slice at_ p.ths.length ct) := (cb 1).trans (by simp [go_sem]); clear hk1 cb fb) | (go_at_call 11; refine (HSM.out _ HK1.out).mono ?_; rintro e w2 ⟨he, hk2⟩; have HK2 := Lib.hid (HK1.out.trans hk2 (by simp)); clear hk2; rcases he with ⟨rfl, h20⟩ | rfl))
      all_goals go_ret
      all_goals exact ⟨rfl, HK2.out⟩
  | true =>
    have hpo := Pg.ok.all hp
    by_cases hl : sched.length ≤ 300
    · have hFu : ∀ W, Kp [] w W → _ := fun W hW => lfull_ok E P PS p vc vt vs sched W (hG.kp0 hW) (h.kp hW (by simp)) hp (hs.kp hW (by simp)) hl
      have HFU := Lib.hid hFu
      have HPO := Lib.hid hpo
      obtain ⟨⟨ac, cc, rfl, _⟩, us, _, ⟨at_, ct, rfl, _⟩, _⟩ := h
      obtain ⟨asl, csl, rfl, _⟩ := hs
      have hl2 : (sched.length : Int) ≤ 300 := by omega
      clear hG hF hSm hFu hp hpo
      go_enter Tryz.func4, Tryz.ntmps4
      go_wp2_with (first | (go_at_call 10; refine (HFI.out _ ((Kp.refl _ _).alloc _)).mono ?_; rintro e w1 ⟨rfl, hk1⟩; obtain ⟨lb, cb, fb⟩ := hk1.blk w.heap.size (by simp) (by simp); have HK1 := Lib.hid (((Kp.refl [] w).alloc _).trans hk1 (by simp)); have e0 : w1.cell? ⟨w.heap.size, 0, none⟩ = some (.slice ac p.cells.length cc) := (cb 0).trans (by simp [go_sem]); have e1 : w1.cell? ⟨w.heap.size, 1, none⟩ = some (.slice at_ p.ths.length ct) := (cb 1).trans (by simp [go_sem]); clear hk1 cb fb) | (go_at_call 11; refine (HSM.out _ HK1.out).mono ?_; rintro e w2 ⟨he, hk2⟩; obtain ⟨lb2, cb2, fb2⟩ := hk2.blk w.heap.size lb (by simp); have HK2 := Lib.hid (HK1.out.trans hk2 (by simp)); have e0 : w2.cell? ⟨w.heap.size, 0, none⟩ = some (.slice ac p.cells.length cc) := (cb2 0).trans e0; have e1 : w2.cell? ⟨w.heap.size, 1, none⟩ = some (.slice at_ p.ths.length ct) := (cb2 1).trans e1; clear hk2 cb2 fb2; rcases he with ⟨rfl, h20⟩ | rfl) | (go_at_call 12; refine (HFU.out _ HK2.out).mono ?_; rintro e w3 ⟨⟨m, vo, vev, rfl, hend, hv1, hv2⟩, hk3⟩; have HEND := Lib.hid hend; obtain ⟨l, hI⟩ := hend.inv HPO.out; have HI := Lib.hid hI; have HV1 := Lib.hid hv1; have HV2 := Lib.hid hv2; obtain ⟨ao, co, rfl, _⟩ := hv1; obtain ⟨ae, ce, rfl, _⟩ := hv2; have HK3 := Lib.hid (HK2.out.trans hk3 (by simp)); clear hk3 hend hI) | (go_at_call 13; refine (table_late HPO.out HI.out (w := w3.alloc _) (HG.out.kp0 (HK3.out.alloc _)) (HV1.out.kp ((Kp.refl [] _).alloc _) (by simp)) (HV2.out.kp ((Kp.refl [] _).alloc _) (by simp))).mono ?_; rintro e w4 ⟨⟨v, rfl, hT⟩, hk4⟩; have HT := Lib.hid hT; obtain ⟨lb4, cb4, fb4⟩ := hk4.blk w3.heap.size (by simp) (by simp); have h1 : w4.cell? ⟨w3.heap.size, 1, none⟩ = some (.slice ae m.evs.length ce) := (cb4 1).trans (by simp [go_sem]); have HV4 := Lib.hid ((HV2.out.kp ((Kp.refl [] w3).alloc _) (by simp)).kp hk4 (by simp)); have HK4 := Lib.hid ((HK3.out.alloc _).trans hk4 (by simp)); clear hT hk4 cb4 fb4))
      · obtain ⟨l, hl0⟩ : ∃ x, x = l := ⟨_, rfl⟩
        have hI := HI.out
        have hdone := HEND.out.done
        have hsz := hI.sim.fed.sizes
        have hfew := hI.sim.few HPO.out
        have hlen : (l.map St.t).length ≤ 1000000 := by rw [hl0, List.length_map]; omega
        have hback : ∀ (i : Nat) t, (l.map St.t)[i]? = some t → (∀ d ∈ t.deeds, 0 ≤ d.back) ∧ t.deeds.length ≤ 1000000 := fun i t ht => by
          simp only [List.getElem?_map, Option.map_eq_some_iff] at ht
          obtain ⟨s, hs, rfl⟩ := ht
          rw [hl0] at hs
          have hm := List.mem_of_getElem? hs
          exact ⟨hI.fin s hm (done_all hI hdone s hm), by have := hsz.2 s hm; omega⟩
        have htry : ∀ (k : Nat) e, m.evs[k]? = some e → e.kind = 6 → ∃ t, (l.map St.t)[(findTx (l.map St.t) e.tx).getD 0]? = some t ∧ (canc m.evs e.tx k = true ∨ 0 ≤ t.try_) := fun k e he h6 => by
          rw [hl0]; exact tries_ok hI he h6
        rw [← hl0] at HT
        obtain ⟨txs, htxs⟩ : ∃ x, x = l.map St.t := ⟨_, rfl⟩
        rw [← htxs] at HT hback hlen htry
        have HBACK := Lib.hid hback
        have HTRY := Lib.hid htry
        have HLEN := Lib.hid hlen
        have hev : m.evs.length ≤ 324 := hfew
        obtain ⟨evs, hevs⟩ : ∃ x, x = m.evs := ⟨_, rfl⟩
        rw [← hevs] at HTRY HV4 h1 hev
        clear hI hdone hsz hfew hback htry hlen hl0 htxs HI HEND HV1 HV2 HK3 HK2 HK1 hevs
        have hv : ∃ a c, v = .slice a txs.length c := by
          obtain ⟨_, _, ⟨a, c, h, _⟩, _⟩ := HT.out
          exact ⟨a, c, h⟩
        obtain ⟨av, cv, rfl⟩ := hv
        obtain ⟨bh, hbh⟩ : ∃ x, x = w3.heap.size := ⟨_, rfl⟩
        rw [← hbh] at h1 lb4 ⊢
        clear hbh
        have H1 := Lib.hid h1
        have LB4 := Lib.hid lb4
        clear h1 lb4
        go_loopw [10] (fun s10 wr => ∃ i : Nat, i ≤ evs.length ∧ s10 = .int .i64 i ∧ Kp [] w4 wr) (fun s10 _ => evs.length + 1 - (intOf s10).toNat)
        case atStart => exact ⟨0, by omega, rfl, Kp.refl _ _⟩
        case round =>
          obtain ⟨i, hi, rfl, hkr⟩ := hrel
          have g1 := (hkr.cellAt H1.out (by simp)).1
          have lg := (hkr.blk bh LB4.out (by simp)).1
          by_cases hlt : i < evs.length
          · obtain ⟨e, he⟩ : ∃ e, evs[i]? = some e := ⟨evs[i], by simp [hlt]⟩
            obtain ⟨b, o, c', hv, hb, q0, q1⟩ := evAt (HV4.out.kp hkr (by simp)) he
            obtain ⟨rfl, rfl⟩ : ae = some ⟨b, o, none⟩ ∧ ce = c' := by simpa using hv
            have HKR := Lib.hid hkr
            have HEE := Lib.hid he
            clear hkr hv he
            by_cases h6 : e.kind = 6
            · have hb6 : (e.kind != 6) = false := by simp [h6]
              obtain ⟨t, ht, hor⟩ := HTRY.out i e HEE.out h6
              have H6 := Lib.hid h6
              have HOR := Lib.hid hor
              have HTT := Lib.hid ht
              clear h6 hor ht
              go_wp2_with (go_at_call 14; refine (find_any _ txs e.tx _ _ (HT.out.kp HKR.out (by simp)) HLEN.out).mono ?_; rintro e5 w5 ⟨rfl, hk5⟩; have g15 := (hk5.cellAt g1 (by simp)).1; have lg5 := (hk5.blk bh lg (by simp)).1; have q05 := (hk5.cellAt q0 (by simp)).1; have q15 := (hk5.cellAt q1 (by simp)).1; have hb5 := (hk5.blk b hb (by simp)).1; have HK5 := Lib.hid (HKR.out.trans hk5 (by simp)); clear hk5)
              obtain ⟨idx, hidx⟩ : ∃ x, x = (findTx txs e.tx).getD 0 := ⟨_, rfl⟩
              rw [← hidx] at HTT ⊢
              have hixl := (List.getElem?_eq_some_iff.1 HTT.out).1
              clear hidx g1 lg q0 q1 hb HKR
              go_loopw [13, 14] (fun s13 s14 wr => ∃ j : Nat, j ≤ i ∧ s14 = .int .i64 j ∧ s13 = .bool (canc evs e.tx j) ∧ Kp [] w5 wr) (fun _ s14 _ => i + 1 - (intOf s14).toNat)
              case atStart => exact ⟨0, by omega, rfl, rfl, Kp.refl _ _⟩
              case round =>
                obtain ⟨j, hj, rfl, rfl, hkr⟩ := hrel
                have g6 := (hkr.cellAt g15 (by simp)).1
                have lg6 := (hkr.blk bh lg5 (by simp)).1
                have r0 := (hkr.cellAt q05 (by simp)).1
                have r1 := (hkr.cellAt q15 (by simp)).1
                have hb6' := (hkr.blk b hb5 (by simp)).1
                by_cases hlj : j < i
                · obtain ⟨x, hx⟩ : ∃ x, evs[j]? = some x := ⟨evs[j]'(by omega), List.getElem?_eq_getElem _⟩
                  obtain ⟨b2, o2, c2, hv, _, p0, p1⟩ := evAt (HV4.out.kp (HK5.out.trans hkr (by simp)) (by simp)) hx
                  obtain ⟨⟨rfl, rfl⟩, _⟩ : (b = b2 ∧ o = o2) ∧ ce = c2 := by simpa using hv
                  have hcs := canc_succ (tx := e.tx) hx
                  have HKR6 := Lib.hid hkr
                  have HCS := Lib.hid hcs
                  clear hkr hv hx hcs
                  obtain ⟨cj, hcj⟩ : ∃ c, c = canc evs e.tx j := ⟨_, rfl⟩
                  rw [← hcj]
                  have HCJ := Lib.hid hcj
                  clear hcj
                  have fin : ∀ r, r = (cj || (x.kind == 7 && x.tx == e.tx)) → Value.bool r = .bool (canc evs e.tx (j + 1)) := fun r hr => by rw [hr, HCJ.out, ← HCS.out]
                  have FIN := Lib.hid fin
                  clear fin
                  cases cj with
                  | true =>
                    go_wp2_with fail
                    go_quiet (fail)
                    go_wp2_with fail
                    go_roundw
                    case rel => exact ⟨j + 1, by omega, by go_num, FIN.out _ rfl, HKR6.out.drewN _⟩
                    case measure => simp [intOf]; omega
                  | false =>
                    by_cases hk7 : x.kind = 7
                    · have hk7b : (x.kind == 7) = true := by simpa using hk7
                      clear hk7
                      by_cases htx : x.tx = e.tx
                      · have htxb : (x.tx == e.tx) = true := by simpa using htx
                        clear htx
                        go_wp2_with fail
                        go_quiet (fail)
                        go_wp2_with fail
                        go_roundw
                        case rel => exact ⟨j + 1, by omega, by go_num, FIN.out _ (by simp only [hk7b, htxb]; rfl), HKR6.out.drewN _⟩
                        case measure => simp [intOf]; omega
                      · have htxb : (x.tx == e.tx) = false := by simpa using htx
                        clear htx
                        go_wp2_with fail
                        go_quiet (fail)
                        go_wp2_with fail
                        go_roundw
                        case rel => exact ⟨j + 1, by omega, by go_num, FIN.out _ (by simp only [hk7b, htxb]; rfl), HKR6.out.drewN _⟩
                        case measure => simp [intOf]; omega
                    · have hk7b : (x.kind == 7) = false := by simpa using hk7
                      clear hk7
                      go_wp2_with fail
                      go_quiet (fail)
                      go_wp2_with fail
                      go_roundw
                      case rel => exact ⟨j + 1, by omega, by go_num, FIN.out _ (by simp only [hk7b]; rfl), HKR6.out.drewN _⟩
                      case measure => simp [intOf]; omega
                · obtain rfl : j = i := by omega
                  obtain ⟨b3, o3, c3, u3, hv3, hb3, hc3, _⟩ := (HT.out.kp (HK5.out.trans hkr (by simp)) (by simp)).row HTT.out
                  obtain ⟨rfl, rfl⟩ : av = some ⟨b3, o3, none⟩ ∧ cv = c3 := by simpa using hv3
                  have t5 : wr.cell? ⟨b3, o3 + idx * 7 + 5, none⟩ = some (.int .i64 t.try_) := hc3 5 (by decide)
                  have HKR6 := Lib.hid hkr
                  clear hkr hc3 hv3
                  have jx0 : (0 : Int) ≤ idx := by omega
                  have jx1 : (idx : Int) < txs.length := by omega
                  by_cases ht0 : t.try_ < 0
                  · have hcc : canc evs e.tx j = true := by
                      rcases HOR.out with h | h
                      · exact h
                      · omega
                    rw [hcc]
                    clear hcc
                    go_wp2_with fail
                    go_roundw
                    case rel => exact ⟨j + 1, by omega, by go_num, HK5.out.trans HKR6.out (by simp)⟩
                    case measure => simp [intOf]; omega
                  · have ht0b : decide (t.try_ < 0) = false := by simpa using ht0
                    go_wp2_with fail
                    go_roundw
                    case rel => exact ⟨j + 1, by omega, by go_num, HK5.out.trans HKR6.out (by simp)⟩
                    case measure => simp [intOf]; omega
            · have hb6 : (e.kind != 6) = true := by simpa using h6
              clear h6
              go_wp2_with fail
              go_roundw
              case rel => exact ⟨i + 1, by omega, by go_num, HKR.out⟩
              case measure => simp [intOf]; omega
          · obtain rfl : i = evs.length := by omega
            have HKR := Lib.hid hkr
            clear hkr
            go_wp2_with fail
            rename World => wq
            go_loopw [15] (fun s10 wr => ∃ i : Nat, i ≤ txs.length ∧ s10 = .int .i64 i ∧ Kp [] wq wr) (fun s10 _ => txs.length + 1 - (intOf s10).toNat)
            case atStart => exact ⟨0, by omega, rfl, Kp.refl _ _⟩
            case round =>
              obtain ⟨i, hi, rfl, hkr⟩ := hrel
              have hln := HLEN.out
              by_cases hlt : i < txs.length
              · obtain ⟨t, ht⟩ : ∃ t, txs[i]? = some t := ⟨txs[i], by simp [hlt]⟩
                obtain ⟨b, o, c', u, hv, hb, hc, hR⟩ := (HT.out.kp (HKR.out.trans hkr (by simp)) (by simp)).row ht
                obtain ⟨rfl, rfl⟩ : av = some ⟨b, o, none⟩ ∧ cv = c' := by simpa using hv
                have q6 : wr.cell? ⟨b, o + i * 7 + 6, none⟩ = some u := hc 6 (by decide)
                obtain ⟨hbk, hdl⟩ := HBACK.out i t ht
                have HR := Lib.hid hR
                obtain ⟨au, cu, rfl, _⟩ := hR
                have HBK := Lib.hid hbk
                have HKR2 := Lib.hid hkr
                obtain ⟨ds, hds⟩ : ∃ x, x = t.deeds := ⟨_, rfl⟩
                rw [← hds] at HBK HR hdl
                simp only [← hds] at q6 ⊢
                clear hkr hc hv ht hbk hds
                go_wp2_with fail
                rename World => wx
                go_loopw [16] (fun s12 wr => ∃ k : Nat, k ≤ ds.length ∧ s12 = .int .i64 k ∧ Kp [] wx wr) (fun s12 _ => ds.length + 1 - (intOf s12).toNat)
                case atStart => exact ⟨0, by omega, rfl, Kp.refl _ _⟩
                case round =>
                  obtain ⟨k, hk, rfl, hkr⟩ := hrel
                  have hb2 := (hkr.blk b hb (by simp)).1
                  have q62 := (hkr.cellAt q6 (by simp)).1
                  by_cases hlk : k < ds.length
                  · obtain ⟨d, hd⟩ : ∃ d, ds[k]? = some d := ⟨ds[k], by simp [hlk]⟩
                    obtain ⟨b1, o1, c1, hv, hb1, hdd⟩ := ddAt (HR.out.kp hkr (by simp)) hd
                    obtain ⟨rfl, rfl⟩ : au = some ⟨b1, o1, none⟩ ∧ cu = c1 := by simpa using hv
                    obtain ⟨_, _, _, p7⟩ := hdd
                    have h0 : 0 ≤ d.back := HBK.out d (List.mem_of_getElem? hd)
                    have h0b : decide (d.back < 0) = false := by simp; omega
                    have HKR3 := Lib.hid hkr
                    clear hkr hv hd
                    go_wp2_with fail
                    go_roundw
                    case rel => exact ⟨k + 1, by omega, by go_num, HKR3.out⟩
                    case measure => simp [intOf]; omega
                  · obtain rfl : k = ds.length := by omega
                    have HKR3 := Lib.hid hkr
                    clear hkr
                    go_wp2_with fail
                    go_roundw
                    case rel => exact ⟨i + 1, by omega, by go_num, HKR2.out.trans HKR3.out (by simp)⟩
                    case measure => simp [intOf]; omega
              · obtain rfl : i = txs.length := by omega
                have HKR2 := Lib.hid hkr
                clear hkr
                go_wp2_with fail
                go_ret
                exact ⟨rfl, HK4.out.trans (HKR.out.trans HKR2.out (by simp)) (by simp)⟩
      · go_ret
        exact ⟨rfl, HK2.out⟩
    · have hl2 : 300 < (sched.length : Int) := by omega
      obtain ⟨⟨ac, cc, rfl, _⟩, us, _, ⟨at_, ct, rfl, _⟩, _⟩ := h
      obtain ⟨asl, csl, rfl, _⟩ := hs
      clear hG hF hSm hp hpo
      go_enter Tryz.func4, Tryz.ntmps4
      go_wp2_with (first | (go_at_call 10; refine (HFI.out _ ((Kp.refl _ _).alloc _)).mono ?_; rintro e w1 ⟨rfl, hk1⟩; obtain ⟨lb, cb, fb⟩ := hk1.blk w.heap.size (by simp) (by simp); have HK1 := Lib.hid (((Kp.refl [] w).alloc _).trans hk1 (by simp)); have e0 : w1.cell? ⟨w.heap.size, 0, none⟩ = some (.slice ac p.cells.length cc) := (cb 0).trans (by simp [go_sem]); have e1 : w1.cell? ⟨w.heap.size, 1, none⟩ = some (.slice at_ p.ths.length ct) := (cb 1).trans (by simp [go_sem]); clear hk1 cb fb) | (go_at_call 11; refine (HSM.out _ HK1.out).mono ?_; rintro e w2 ⟨he, hk2⟩; have HK2 := Lib.hid (HK1.out.trans hk2 (by simp)); clear hk2; rcases he with ⟨rfl, h20⟩ | rfl))
      all_goals go_ret
      all_goals exact ⟨rfl, HK2.out⟩
end Go.Proofs.YtbogjkggfdhckaaGreatDoor
