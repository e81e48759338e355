/-
  Lemmas on the way to Rr1: Pv.
-/
import Derived.Test.YtbogjkggfdhckaaGreatDoorMA4
import Derived.Test.YtbogjkggfdhckaaGreatDoorMA3
import Derived.Deep.DeepCutAuto
/-
  prog: Valid.
-/
namespace Go.Proofs.YtbogjkggfdhckaaGreatDoor
open Go.RowKit Go.Um

def numb (k : Int) : Int := if k = 1 then 1 else if k = 2 ∨ k = 3 then 2 else 0
theorem numbers_any (k : Int) (w : World) : Calls Tryz.prog 156 #[.int .i64 k] w fun e w' => e = .returned (.int .i64 (numb k)) ∧ w' = w := by
  go_enter Tryz.func156, Tryz.ntmps156
  go_wp2
  all_goals go_ret
  all_goals exact ⟨ret_congr (by simp_all [numb]), by first | rfl | trivial⟩
set_option maxRecDepth 100000 in
set_option maxHeartbeats 1000000 in
theorem valid_act (a : Ac) (n : Nat) (last : Bool) (w : World) : Calls Tryz.prog 132 #[.agg #[.int .i64 a.k, .int .i64 a.c, .int .i64 a.v], .int .i64 n, .bool last] w fun e w' => e = .returned (.bool (actOk n last a)) ∧ Kp [] w w' := by
  have hcase : a.k = 1 ∨ (a.k = 2 ∨ a.k = 3) ∨ (a.k ≠ 1 ∧ a.k ≠ 2 ∧ a.k ≠ 3) := by omega
  rcases hcase with h | h | ⟨h1, h2, h3⟩
  · have hnb : numb a.k = 1 := by simp [numb, h]
    have hok : actOk n last a = (decide (a.v = 0) && decide (0 ≤ a.c) && decide (a.c < n)) := by simp [actOk, h]
    rw [hok]
    have HN := Lib.hid hnb
    clear h hnb hok
    go_enter Tryz.func132, Tryz.ntmps132
    go_wp2_with (go_at_call 156; refine (numbers_any _ _).mono ?_; rintro e w1 ⟨rfl, hw1⟩; rw [hw1, HN.out])
    all_goals go_ret
    all_goals refine ⟨ret_congr ?_, (Kp.refl _ _).alloc _⟩
    all_goals (simp_all <;> omega)
  · have hnb : numb a.k = 2 := by rcases h with h | h <;> simp [numb, h]
    have hok : actOk n last a = (decide (0 ≤ a.c) && decide (a.c < n) && decide (-1000 ≤ a.v) && decide (a.v ≤ 1000)) := by
      have h1 : ¬ a.k = 1 := by omega
      simp [actOk, h, h1]
    rw [hok]
    have HN := Lib.hid hnb
    clear h hnb hok
    go_enter Tryz.func132, Tryz.ntmps132
    go_wp2_with (go_at_call 156; refine (numbers_any _ _).mono ?_; rintro e w1 ⟨rfl, hw1⟩; rw [hw1, HN.out])
    all_goals go_ret
    all_goals refine ⟨ret_congr ?_, (Kp.refl _ _).alloc _⟩
    all_goals (simp_all <;> omega)
  · have hnb : numb a.k = 0 := by simp [numb, h1, h2, h3]
    have hok : actOk n last a = (a.k == 4 && last && a.c == 0 && a.v == 0) := by simp [actOk, h1, h2, h3]
    rw [hok]
    have HN := Lib.hid hnb
    clear h1 h2 h3 hnb hok
    go_enter Tryz.func132, Tryz.ntmps132
    go_wp2_with (go_at_call 156; refine (numbers_any _ _).mono ?_; rintro e w1 ⟨rfl, hw1⟩; rw [hw1, HN.out])
    all_goals go_ret
    all_goals refine ⟨ret_congr ?_, (Kp.refl _ _).alloc _⟩
    all_goals (simp_all <;> omega)

theorem all_of {α : Type} {f : α → Bool} : ∀ {l : List α}, (∀ (j : Nat) x, l[j]? = some x → f x = true) → l.all f = true
  | [], _ => rfl
  | y :: l, h => by
    rw [List.all_cons, h 0 y (by simp), all_of (fun j x hx => h (j + 1) x (by simpa using hx))]
    rfl
theorem actsOk_of {n : Nat} : ∀ {l : List Ac}, (∀ (j : Nat) a, l[j]? = some a → actOk n (decide (j + 1 = l.length)) a = true) → actsOk n l = true
  | [], _ => rfl
  | y :: l, h => by
    have h0 := h 0 y (by simp)
    have e0 : decide (0 + 1 = (y :: l).length) = l.isEmpty := by cases l <;> simp
    rw [e0] at h0
    rw [actsOk, h0, actsOk_of (fun j a ha => by
      have := h (j + 1) a (by simpa using ha)
      simpa using this)]
    rfl
theorem pgOk_of {p : Pg} (h1 : 1 ≤ p.cells.length) (h2 : p.cells.length ≤ 4) (h3 : 1 ≤ p.ths.length) (h4 : p.ths.length ≤ 4) (h5 : ∀ (j : Nat) x, p.cells[j]? = some x → cellOk x = true) (h6 : ∀ (j : Nat) x, p.ths[j]? = some x → thOk p.cells.length x = true) : p.ok = true := by
  simp only [Pg.ok, Bool.and_eq_true, decide_eq_true_eq]
  exact ⟨⟨⟨⟨⟨h1, h2⟩, h3⟩, h4⟩, all_of h5⟩, all_of h6⟩

set_option maxRecDepth 100000 in
set_option maxHeartbeats 4000000 in
theorem valid_prog (E : Nat → Addr) (P : Nat → Prop) (p : Pg) (vc vt : Value) (w : World) (hG : Gl E w) (h : PgAt w P vc vt p) :
    Calls Tryz.prog 104 #[.agg #[vc, vt]] w fun r w' => r = .returned (if p.ok then .nilIface else errV E 10) ∧ Kp [] w w' := by
  have hpr := hG.prog
  unfold errV at hpr ⊢
  have hgs := hG.sz
  have hgl : 10 < w.heap.size := by omega
  obtain ⟨res, hres⟩ : ∃ res, res = (if p.ok then Value.nilIface else .iface 238 (.pointer (some (E 10)))) := ⟨_, rfl⟩
  have hyes : p.ok = true → res = .nilIface := fun h => by rw [hres, if_pos h]
  have hno : p.ok ≠ true → res = .iface 238 (.pointer (some (E 10))) := fun h => by rw [hres, if_neg h]
  rw [← hres]
  have HY := Lib.hid hyes
  have HN := Lib.hid hno
  have HP := Lib.hid h
  obtain ⟨⟨ac, cc, rfl, hc⟩, us, hus, ⟨at_, ct, rfl, ht⟩, hu⟩ := h
  have HC := Lib.hid hc
  clear hG hgs hres hyes hno hc ht hu hus
  by_cases hL : 1 ≤ p.cells.length ∧ p.cells.length ≤ 4 ∧ 1 ≤ p.ths.length ∧ p.ths.length ≤ 4
  · obtain ⟨hL1, hL2, hL3, hL4⟩ := hL
    have q1 : ((p.cells.length : Int) < 1) = False := by simp; omega
    have q2 : ((4 : Int) < p.cells.length) = False := by simp; omega
    have q3 : ((p.ths.length : Int) < 1) = False := by simp; omega
    have q4 : ((4 : Int) < p.ths.length) = False := by simp; omega
    go_enter Tryz.func104, Tryz.ntmps104
    go_wp2
    go_loopw [37] (fun i wr => ∃ k : Nat, k ≤ p.cells.length ∧ i = .int .i64 k ∧ Kp [] w wr ∧ wr.cell? ⟨w.heap.size, 0, none⟩ = some (.slice ac p.cells.length cc) ∧ wr.cell? ⟨w.heap.size, 1, none⟩ = some (.slice at_ p.ths.length ct) ∧ ∀ (j : Nat) x, j < k → p.cells[j]? = some x → cellOk x = true) (fun i _ => p.cells.length + 1 - (intOf i).toNat)
    case atStart => exact ⟨0, by omega, rfl, (Kp.refl _ _).alloc _, by simp, by simp, by intro j x hj; omega⟩
    case round =>
      obtain ⟨k, hk, rfl, hkr, b0, b1, hall⟩ := hrel
      by_cases hlt : k < p.cells.length
      · obtain ⟨x, hx⟩ : ∃ x, p.cells[k]? = some x := ⟨p.cells[k], by simp [hlt]⟩
        obtain ⟨b, o, rfl, hPb, hbl, hcc⟩ := HC.out (by omega)
        have hcx := (hkr.cellAt (hcc k (.int .i64 x) (by simp [flatI, hx])) (by simp)).1
        have HX := Lib.hid hx
        have HA := Lib.hid hall
        have HKR := Lib.hid hkr
        have hpr' := (hkr.cellAt hpr (by simp)).1
        have hgl' := (hkr.blk 10 hgl (by simp)).1
        clear hx hall hkr hcc
        by_cases hx1 : x < -1000000
        · go_wp2
          go_ret
          exact ⟨ret_congr (HN.out (fun h => by have := (Pg.ok.all h).ce x (List.mem_of_getElem? HX.out); omega)).symm, HKR.out⟩
        · by_cases hx2 : 1000000 < x
          · go_wp2
            go_ret
            exact ⟨ret_congr (HN.out (fun h => by have := (Pg.ok.all h).ce x (List.mem_of_getElem? HX.out); omega)).symm, HKR.out⟩
          · go_wp2
            go_roundw
            case rel => exact ⟨k + 1, by omega, by go_num, HKR.out, b0, b1, fun j y hj hy => by
              rcases Nat.lt_succ_iff_lt_or_eq.1 hj with hj | rfl
              · exact HA.out j y hj hy
              · rw [HX.out] at hy; cases hy; simp [cellOk]; omega⟩
            case measure => simp [intOf]; omega
      · have hkl : k = p.cells.length := by omega
        subst hkl
        have HA1 := Lib.hid (fun (j : Nat) x (hx : p.cells[j]? = some x) => hall j x (List.getElem?_eq_some_iff.1 hx).1 hx)
        have HK0 := Lib.hid hkr
        clear hall hkr
        go_wp2
        go_loopw [52] (fun i wr => ∃ k : Nat, k ≤ p.ths.length ∧ i = .int .i64 k ∧ Kp [] w wr ∧ wr.cell? ⟨w.heap.size, 0, none⟩ = some (.slice ac p.cells.length cc) ∧ ∀ (j : Nat) x, j < k → p.ths[j]? = some x → thOk p.cells.length x = true) (fun i _ => p.ths.length + 1 - (intOf i).toNat)
        case atStart => exact ⟨0, by omega, rfl, HK0.out, b0, by intro j x hj; omega⟩
        case round =>
          obtain ⟨k2, hk2, rfl, hkr, c0, hall⟩ := hrel
          by_cases hlt2 : k2 < p.ths.length
          · obtain ⟨txs, hx⟩ : ∃ x, p.ths[k2]? = some x := ⟨p.ths[k2], by simp [hlt2]⟩
            obtain ⟨b2, o2, cc2, v2, hv2, hc2w, hT⟩ := HP.out.row hx
            have hc2 := (hkr.cellAt hc2w (by simp)).1
            obtain ⟨a3, c3, rfl⟩ := hT.len
            obtain ⟨rfl, rfl⟩ : at_ = some ⟨b2, o2, none⟩ ∧ ct = cc2 := by simpa using hv2
            have HX := Lib.hid hx
            have HA := Lib.hid hall
            have HKR := Lib.hid hkr
            have HT := Lib.hid hT
            have hpr' := (hkr.cellAt hpr (by simp)).1
            have hgl' := (hkr.blk 10 hgl (by simp)).1
            clear hx hall hkr hT hv2 hc2w
            by_cases h3 : 3 < txs.length
            · have q5 : ((3 : Int) < txs.length) = True := by simp; omega
              go_wp2
              go_ret
              exact ⟨ret_congr (HN.out (fun h => by have := (Pg.ok.all h).tx k2 txs HX.out; omega)).symm, HKR.out⟩
            · have q5 : ((3 : Int) < txs.length) = False := by simp; omega
              go_wp2
              go_loopw [62] (fun i wr => ∃ k : Nat, k ≤ txs.length ∧ i = .int .i64 k ∧ Kp [] w wr ∧ wr.cell? ⟨w.heap.size, 0, none⟩ = some (.slice ac p.cells.length cc) ∧ ∀ (j : Nat) x, j < k → txs[j]? = some x → txOk p.cells.length x = true) (fun i _ => txs.length + 1 - (intOf i).toNat)
              case atStart => exact ⟨0, by omega, rfl, HKR.out, c0, by intro j x hj; omega⟩
              case round =>
                obtain ⟨k3, hk3, rfl, hkr, d0, hall⟩ := hrel
                by_cases hlt3 : k3 < txs.length
                · obtain ⟨acts, hx⟩ : ∃ x, txs[k3]? = some x := ⟨txs[k3], by simp [hlt3]⟩
                  obtain ⟨b4, o4, cc4, v4, hv4, hc4w, hR⟩ := HT.out.row hx
                  have hc4 := (hkr.cellAt hc4w (by simp)).1
                  obtain ⟨a5, c5, rfl, hacc⟩ := id hR
                  obtain ⟨rfl, rfl⟩ : a3 = some ⟨b4, o4, none⟩ ∧ c3 = cc4 := by simpa using hv4
                  have HX3 := Lib.hid hx
                  have HA3 := Lib.hid hall
                  have HKR3 := Lib.hid hkr
                  have HR := Lib.hid hR
                  have hpr3 := (hkr.cellAt hpr (by simp)).1
                  have hgl3 := (hkr.blk 10 hgl (by simp)).1
                  clear hx hall hkr hR hv4 hc4w hacc
                  by_cases h6 : 1 ≤ acts.length ∧ acts.length ≤ 6
                  · obtain ⟨h61, h62⟩ := h6
                    have q6 : ((acts.length : Int) < 1) = False := by simp; omega
                    have q7 : ((6 : Int) < acts.length) = False := by simp; omega
                    go_wp2
                    go_loopw [77] (fun i wr => ∃ k : Nat, k ≤ acts.length ∧ i = .int .i64 k ∧ Kp [] w wr ∧ wr.cell? ⟨w.heap.size, 0, none⟩ = some (.slice ac p.cells.length cc) ∧ ∀ (j : Nat) x, j < k → acts[j]? = some x → actOk p.cells.length (decide (j + 1 = acts.length)) x = true) (fun i _ => acts.length + 1 - (intOf i).toNat)
                    case atStart => exact ⟨0, by omega, rfl, HKR3.out, d0, by intro j x hj; omega⟩
                    case round =>
                      obtain ⟨k4, hk4, rfl, hkr, e0, hall⟩ := hrel
                      by_cases hlt4 : k4 < acts.length
                      · obtain ⟨a, hx⟩ : ∃ x, acts[k4]? = some x := ⟨acts[k4], by simp [hlt4]⟩
                        obtain ⟨b6, o6, cc6, hv6, m0, m1, m2⟩ := HR.out.act hx
                        obtain ⟨rfl, rfl⟩ : a5 = some ⟨b6, o6, none⟩ ∧ c5 = cc6 := by simpa using hv6
                        replace m0 := (hkr.cellAt m0 (by simp)).1
                        replace m1 := (hkr.cellAt m1 (by simp)).1
                        replace m2 := (hkr.cellAt m2 (by simp)).1
                        have HX4 := Lib.hid hx
                        have HA4 := Lib.hid hall
                        have HKR4 := Lib.hid hkr
                        have hpr4 := (hkr.cellAt hpr (by simp)).1
                        have hgl4 := (hkr.blk 10 hgl (by simp)).1
                        have hbl4 := World.block_lt_of_cell? wr _ e0
                        have hlast : (((k4 : Nat) : Int) == (acts.length : Int) - 1) = decide (k4 + 1 = acts.length) := by
                          rw [Bool.eq_iff_iff]; simp; omega
                        clear hx hall hkr hv6
                        by_cases hok : actOk p.cells.length (decide (k4 + 1 = acts.length)) a = true
                        · have HOK := Lib.hid hok
                          clear hok
                          go_wp2_with (go_at_call 132; (refine (valid_act a _ _ _).mono ?_; rintro r w5 ⟨rfl, hk5⟩; rw [HOK.out]; have f0 := (hk5.cellAt (k := w.heap.size) (o := 0) (v := .slice ac p.cells.length cc) ((World.cell?_alloc_past _ _ _ hbl4).trans e0) (by simp)).1; have HK5 := Lib.hid hk5; clear hk5))
                          go_roundw
                          case rel => exact ⟨k4 + 1, by omega, by go_num, (HKR4.out.alloc _).trans HK5.out (by simp), f0, fun j y hj hy => by
                            rcases Nat.lt_succ_iff_lt_or_eq.1 hj with hj | rfl
                            · exact HA4.out j y hj hy
                            · rw [HX4.out] at hy; cases hy; exact HOK.out⟩
                          case measure => simp [intOf]; omega
                        · have HOK := Lib.hid (show actOk p.cells.length (decide (k4 + 1 = acts.length)) a = false by simpa using hok)
                          clear hok
                          go_wp2_with (go_at_call 132; refine (valid_act a _ _ _).mono ?_; rintro r w5 ⟨rfl, hk5⟩; rw [HOK.out]; have f0 := (hk5.cellAt (k := 10) (o := 0) (v := .iface 238 (.pointer (some (E 10)))) ((World.cell?_alloc_past _ _ _ hgl4).trans hpr4) (by simp)).1; have hl5 := (hk5.blk 10 (by simp; omega) (by simp)).1; have HK5 := Lib.hid hk5; clear hk5)
                          go_ret
                          exact ⟨ret_congr (HN.out (fun h => by have := (Pg.ok.all h).a k2 k3 k4 txs acts a HX.out HX3.out HX4.out; rw [HOK.out] at this; cases this)).symm, (HKR4.out.alloc _).trans HK5.out (by simp)⟩
                      · have hkl4 : k4 = acts.length := by omega
                        have HA5 := Lib.hid (fun (j : Nat) x (hx : acts[j]? = some x) => hall j x (by rw [hkl4]; exact (List.getElem?_eq_some_iff.1 hx).1) hx)
                        have HK4 := Lib.hid hkr
                        clear hall hkr
                        go_wp2
                        go_roundw
                        case rel => exact ⟨k3 + 1, by omega, by go_num, HK4.out, e0, fun j y hj hy => by
                          rcases Nat.lt_succ_iff_lt_or_eq.1 hj with hj | rfl
                          · exact HA3.out j y hj hy
                          · rw [HX3.out] at hy; cases hy; simp only [txOk, Bool.and_eq_true, decide_eq_true_eq]; exact ⟨⟨h61, h62⟩, actsOk_of HA5.out⟩⟩
                        case measure => simp [intOf]; omega
                  · have H6 := Lib.hid h6
                    clear h6
                    go_wp2
                    all_goals first
                      | (exfalso; have := H6.out; omega)
                      | (go_ret; exact ⟨ret_congr (HN.out (fun h => H6.out ((Pg.ok.all h).ac k2 k3 txs acts HX.out HX3.out))).symm, HKR3.out⟩)
                · have hkl3 : k3 = txs.length := by omega
                  have HA6 := Lib.hid (fun (j : Nat) x (hx : txs[j]? = some x) => hall j x (by rw [hkl3]; exact (List.getElem?_eq_some_iff.1 hx).1) hx)
                  have HK3 := Lib.hid hkr
                  clear hall hkr
                  go_wp2
                  go_roundw
                  case rel => exact ⟨k2 + 1, by omega, by go_num, HK3.out, d0, fun j y hj hy => by
                    rcases Nat.lt_succ_iff_lt_or_eq.1 hj with hj | rfl
                    · exact HA.out j y hj hy
                    · rw [HX.out] at hy; cases hy; simp only [thOk, Bool.and_eq_true, decide_eq_true_eq]; exact ⟨by omega, all_of HA6.out⟩⟩
                  case measure => simp [intOf]; omega
          · have hkl2 : k2 = p.ths.length := by omega
            have HA2 := Lib.hid (fun (j : Nat) x (hx : p.ths[j]? = some x) => hall j x (by rw [hkl2]; exact (List.getElem?_eq_some_iff.1 hx).1) hx)
            have HK1 := Lib.hid hkr
            clear hall hkr
            go_wp2
            go_ret
            exact ⟨ret_congr (HY.out (pgOk_of hL1 hL2 hL3 hL4 HA1.out HA2.out)).symm, HK1.out⟩
  · have HLL := Lib.hid hL
    clear hL
    go_enter Tryz.func104, Tryz.ntmps104
    go_wp2
    all_goals first
      | (exfalso; have := HLL.out; omega)
      | (go_ret; exact ⟨ret_congr (HN.out (fun h => HLL.out ⟨(Pg.ok.all h).c1, (Pg.ok.all h).c4, (Pg.ok.all h).t1, (Pg.ok.all h).t4⟩)).symm, (Kp.refl _ _).alloc _⟩)
end Go.Proofs.YtbogjkggfdhckaaGreatDoor
