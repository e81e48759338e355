/-
  Lemmas on the way to Rr1: LaC, LaD.
-/
import Derived.Test.YtbogjkggfdhckaaGreatDoorMA22
import Derived.Test.YtbogjkggfdhckaaGreatDoorMA24
import Derived.Test.YtbogjkggfdhckaaGreatDoorMA20
import Derived.Test.YtbogjkggfdhckaaGreatDoorMA19
/-
  late: New.
-/
namespace Go.Proofs.YtbogjkggfdhckaaGreatDoor
open Go.RowKit Go.Um

theorem info_wk : (Tryz.prog.info? tWorker).map (fun i => (i.zero, i.size, i.bytes)) = some (some (.agg #[.map none, .map none]), 2, 16) := by kernel_rfl
theorem info_cell : (Tryz.prog.info? tCell).map (fun i => (i.zero, i.size, i.bytes)) = some (some (.agg #[.int .i64 0, .int .i64 0]), 2, 16) := by kernel_rfl
theorem made_wk1 : (madeCells #[Value.map none, .map none] (1 * 2)).toList = flatW (List.replicate 1 (.map none, .map none)) := by kernel_rfl
theorem made_wk2 : (madeCells #[Value.map none, .map none] (2 * 2)).toList = flatW (List.replicate 2 (.map none, .map none)) := by kernel_rfl
theorem made_wk3 : (madeCells #[Value.map none, .map none] (3 * 2)).toList = flatW (List.replicate 3 (.map none, .map none)) := by kernel_rfl
theorem made_wk4 : (madeCells #[Value.map none, .map none] (4 * 2)).toList = flatW (List.replicate 4 (.map none, .map none)) := by kernel_rfl
theorem made_wk (n : Nat) (h1 : 1 ≤ n) (h4 : n ≤ 4) : (madeCells #[Value.map none, .map none] (n * 2)).toList = flatW (List.replicate n (.map none, .map none)) := by
  match n, h1, h4 with
  | 1, _, _ => exact made_wk1
  | 2, _, _ => exact made_wk2
  | 3, _, _ => exact made_wk3
  | 4, _, _ => exact made_wk4
theorem new_mach {W w3 wr : World} {p : Pg} {bm bt bw gt ct gn gw B : Nat} {P Q : Nat → Prop} {vc vt vcd vtd vce : Value} (hT : ThrNew W w3 p bm 48 bt bw gt ct gn P Q vc vt vcd vtd) (hk : Kp [bm] w3 wr) (hbm : bm < W.heap.size) (hB : B ≤ bm) (hgw : gw < W.heap.size) (hBg : B ≤ gw) (hne : gw ≠ bm)
    (m0 : wr.cell? ⟨bm, 0, none⟩ = some (.pointer (some ⟨bt, 0, none⟩))) (m1 : wr.cell? ⟨bm, 1, none⟩ = some vce) (m2 : wr.cell? ⟨bm, 2, none⟩ = some (.slice (some ⟨gw, 0, none⟩) p.ths.length p.ths.length)) (hW3 : W.heap.size ≤ w3.heap.size)
    (ce : wr.ownsRow w3.heap.size tCell 2 vce p.cells.length (flatC (p.cells.map (fun c => (c, 0))))) (wo : wr.ownsRow B tWorker 2 (.slice (some ⟨gw, 0, none⟩) p.ths.length p.ths.length) p.ths.length (flatW (List.replicate p.ths.length (.map none, .map none)))) :
    MachAt wr p { bm := bm, bt := bt, bw := bw, B := B, gt := gt, ct := ct, gn := gn, cn := p.ths.length, ve := .slice none 0 0, vc := vc, vt := vt, vcd := vcd, vtd := vtd, vce := vce, vwk := .slice (some ⟨gw, 0, none⟩) p.ths.length p.ths.length, P := P, Q := Q, ρ := fun x => if x = bw then 1 else if x = gt then 2 else if x = gn then 4 else if x = gw then 6 else if vce.ownBlock = some x then 5 else 0 } (startM p) (List.replicate p.ths.length .nilFunc) (List.replicate p.ths.length (.map none, .map none)) := by
  obtain ⟨b1, b2, b3, b4⟩ := hT.lb
  obtain ⟨n1, n2, n3, n4, n5⟩ := hT.ne
  have lbt : bt < w3.heap.size := World.block_lt_of_cell? w3 _ hT.t0
  have lbw := hT.wk.lt
  have lgt : gt < w3.heap.size := (hT.wk.ow.lt _ rfl).2
  have lgn : gn < w3.heap.size := (hT.nx.lt _ rfl).2
  have lce := fun g hg => (ce.lt g hg).1
  have hce0 : ∀ x, x < w3.heap.size → vce.ownBlock ≠ some x := fun x hx he => by have := lce x he; omega
  have ρ0 : ∀ x, x < w3.heap.size → x ≠ bw → x ≠ gt → x ≠ gn → x ≠ gw → (if x = bw then 1 else if x = gt then 2 else if x = gn then 4 else if x = gw then 6 else if vce.ownBlock = some x then 5 else 0) = 0 := fun x hx h1 h2 h3 h4 => by
    rw [if_neg h1, if_neg h2, if_neg h3, if_neg h4, if_neg (hce0 x hx)]
  have c : ∀ {b o : Nat} {v : Value}, W.heap.size ≤ b → w3.cell? ⟨b, o, none⟩ = some v → wr.cell? ⟨b, o, none⟩ = some v := fun hb hc => (hk.cellAt hc (by simp; omega)).1
  exact {
    wk := (hT.wk.kp hk (by simp; omega) (by simp; omega) (by simp [Value.ownBlock]) (fun x hx hP => by simp at hx; subst hx; have := (hT.p0 _ hP).1; omega)).base (by show B ≤ W.heap.size; omega)
    t0 := c b1 hT.t0, t1 := c b1 hT.t1, t2 := c b1 hT.t2, t3 := c b1 hT.t3, t4 := c b1 hT.t4
    pg := hT.pg.kp hk (fun x hx hq => by simp at hx; subst hx; have := (hT.q0 _ hq).2.1; omega)
    q0 := fun x hx => by
      obtain ⟨h1, h2, h3, h4, h5⟩ := hT.q0 x hx
      exact ⟨Nat.lt_of_lt_of_le h1 hk.size, ρ0 x h1 h3 h4 h5 (by omega)⟩
    p0 := fun x hx => by
      obtain ⟨h1, h2⟩ := hT.p0 x hx
      exact ρ0 x (hT.wk.p0 x hx) (fun e => hT.wk.p1 (e ▸ hx)) (fun e => hT.wk.p2 (e ▸ hx)) h2 (by omega)
    nx := (own_kp hT.nx hk (fun g hg => by simp [Value.ownBlock] at hg; subst hg; simp; omega)).mono (by show B ≤ W.heap.size; omega)
    st := fun i x v hx hv => by
      have h1 := List.mem_of_getElem? hx
      have h2 := List.mem_of_getElem? hv
      simp only [startM, List.mem_map] at h1
      obtain ⟨_, _, rfl⟩ := h1
      exact (List.mem_replicate.1 h2).2
    m0 := m0, m1 := m1, m2 := m2
    ce := by simpa [startM] using ce.mono (base' := B) (by omega)
    wo := by simpa [startM] using wo
    wl := by simp [startM]
    wm := fun i q v hq hv => by
      have h1 := List.mem_of_getElem? hq
      have h2 := List.mem_of_getElem? hv
      simp only [startM, List.mem_map] at h1
      obtain ⟨_, _, rfl⟩ := h1
      have := (List.mem_replicate.1 h2).2
      subst this
      exact ⟨.inl ⟨rfl, rfl⟩, .inl ⟨rfl, rfl⟩⟩
    bg := fun i t v hi hb hv => by
      obtain ⟨rfl, _⟩ := ths0_at hi
      cases hb
    k1 := by show (if _ then _ else _) = 1; rw [if_pos rfl]
    k2 := by show (if _ then _ else _) = 2; rw [if_neg hT.wk.d1, if_pos rfl]
    k3 := fun g hg => by simp [Value.ownBlock] at hg
    k4 := by show (if _ then _ else _) = 4; rw [if_neg n1, if_neg n2, if_pos rfl]
    k5 := fun g hg => by
      have := lce g hg
      show (if _ then _ else _) = 5
      rw [if_neg (by omega), if_neg (by omega), if_neg (by omega), if_neg (by omega), if_pos hg]
    k6 := fun g hg => by
      simp [Value.ownBlock] at hg
      subst hg
      show (if _ then _ else _) = 6
      rw [if_neg (by omega), if_neg (by omega), if_neg (by omega), if_pos rfl]
    kt := ρ0 bt lbt n3 n4 n5 (by omega)
    km := ρ0 bm (by omega) (by omega) (by omega) (by omega) (Ne.symm hne)
    mb := fun i v r hv hor => by
      have h2 := (List.mem_replicate.1 (List.mem_of_getElem? hv)).2
      subst h2
      rcases hor with h | h <;> simp at h
    base := ⟨by show B ≤ bw; omega, by show B ≤ gt; omega, by show B ≤ gn; omega⟩ }

set_option maxRecDepth 100000 in
set_option maxHeartbeats 2000000 in
theorem new_bad (E : Nat → Addr) (P : Nat → Prop) (p : Pg) (vc vt : Value) (w : World) (hG : Gl E w) (h : PgAt w P vc vt p) (hp : p.ok = false) (h4 : p.ths.length ≤ 100000) :
    Calls Tryz.prog 16 #[.agg #[vc, vt]] w fun r w' => r = .returned (.tuple #[.pointer none, errV E 10]) ∧ Kp [] w w' := by
  have hV : ∀ fv W, Kp [] w W → _ := fun fv W hW => dstart_bad E P p vc vt fv W (hG.kp0 hW) (h.kp hW (by simp)) hp
  obtain ⟨⟨ac, cc, rfl, _⟩, us, _, ⟨at_, ct, rfl, _⟩, _⟩ := h
  obtain ⟨i0, hi', hz0, hz1, hz2⟩ := info_parts info_wk
  have hmk : ∀ W : World, (Instr.makeSlice 79 (.int .i64 p.ths.length) (.int .i64 p.ths.length)).run Tryz.prog W = .ok (.slice (some ⟨W.heap.size, 0, none⟩) p.ths.length p.ths.length) (W.alloc (.cells (madeCells (Value.agg #[.map none, .map none]).cells (p.ths.length * 2)) tWorker)) := fun W => by
    have := run_makeSlice (P := Tryz.prog) (w := W) 79 tWorker i0 _ Tryz.underlying79 hi' hz0 .i64 .i64 p.ths.length p.ths.length (by omega) (by omega) (by rw [hz1]; simp; omega) (by rw [hz2]; omega) (by omega)
    rw [this, hz1]
    simp only [Int.toNat_natCast]
  have HV := Lib.hid hV
  clear hG hV hp
  unfold errV at HV ⊢
  go_enter Tryz.func16, Tryz.ntmps16
  go_wp2_with (go_at_call 47; go_loud (refine (HV.out _ _ (((Kp.refl _ _).alloc _).alloc _ |>.alloc _)).mono ?_; rintro e w1 ⟨rfl, hk1⟩; have HK1 := Lib.hid ((((Kp.refl [] w).alloc _).alloc _ |>.alloc _).trans hk1 (by simp)); clear hk1))
  refine bodyPost_ret (v := .tuple #[.pointer none, .iface 238 (.pointer (some (E 10)))]) ?_ rfl ⟨rfl, HK1.out⟩
  simp [results, Tryz.results16, go_sem]

set_option maxRecDepth 100000 in
set_option maxHeartbeats 2000000 in
theorem new_ok (E : Nat → Addr) (P0 : Nat → Prop) (p : Pg) (vc vt : Value) (w : World) (hG : Gl E w) (h : PgAt w P0 vc vt p) (hp : p.ok = true) :
    Calls Tryz.prog 16 #[.agg #[vc, vt]] w fun r w' => (∃ L nv wv, r = .returned (.tuple #[.pointer (some ⟨L.bm, 0, none⟩), .nilIface]) ∧ MachAt w' p L (startM p) nv wv ∧ w.heap.size ≤ L.B) ∧ Kp [] w w' := by
  have hpo := Pg.ok.all hp
  have hV : ∀ bm W, Kp [] w W → _ := fun bm W hW => dstart_ok E P0 p vc vt bm 48 W (hG.kp0 hW) (h.kp hW (by simp)) hp
  have ht1 := hpo.t1
  have ht4 := hpo.t4
  have hc1 := hpo.c1
  have hc4 := hpo.c4
  obtain ⟨⟨ac, cc, rfl, hcl⟩, us, _, ⟨at_, ct, rfl, _⟩, _⟩ := h
  obtain ⟨bc, oc, rfl, _, hbc, hcell⟩ := hcl (by omega)
  have HC := Lib.hid hcell
  obtain ⟨i0, hi', hz0, hz1, hz2⟩ := info_parts info_wk
  obtain ⟨i1, hj', hy0, hy1, hy2⟩ := info_parts info_cell
  have hmk : ∀ W : World, (Instr.makeSlice 79 (.int .i64 p.ths.length) (.int .i64 p.ths.length)).run Tryz.prog W = .ok (.slice (some ⟨W.heap.size, 0, none⟩) p.ths.length p.ths.length) (W.alloc (.cells (madeCells (Value.agg #[.map none, .map none]).cells (p.ths.length * 2)) tWorker)) := fun W => by
    have := run_makeSlice (P := Tryz.prog) (w := W) 79 tWorker i0 _ Tryz.underlying79 hi' hz0 .i64 .i64 p.ths.length p.ths.length (by omega) (by omega) (by rw [hz1]; simp; omega) (by rw [hz2]; omega) (by omega)
    rw [this, hz1]
    simp only [Int.toNat_natCast]
  have HV := Lib.hid hV
  have HPO := Lib.hid hpo
  clear hG hV hp hpo hcl hcell
  go_enter Tryz.func16, Tryz.ntmps16
  go_upto_region 2 with fail
  refine wp_gen fun W hW => ?_
  obtain ⟨be, hbe⟩ : ∃ x, x = w.heap.size := ⟨_, rfl⟩
  obtain ⟨gw, hgw⟩ : ∃ x, x = w.heap.size + 1 := ⟨_, rfl⟩
  obtain ⟨bm, hbm⟩ : ∃ x, x = w.heap.size + 1 + 1 := ⟨_, rfl⟩
  have hkW : Kp [] w W := by rw [hW]; exact (((Kp.refl _ _).alloc _).alloc _).alloc _
  have e0 : W.cell? ⟨be, 0, none⟩ = some (.slice (some ⟨bc, oc, none⟩) p.cells.length cc) := by rw [hW, hbe]; simp [go_sem]
  have e1 : W.cell? ⟨be, 1, none⟩ = some (.slice at_ p.ths.length ct) := by rw [hW, hbe]; simp [go_sem]
  have d0 : W.cell? ⟨bm, 0, none⟩ = some (.pointer none) := by rw [hW, hbm]; simp [go_sem]
  have d1 : W.cell? ⟨bm, 1, none⟩ = some (.slice none 0 0) := by rw [hW, hbm]; simp [go_sem]
  have d2 : W.cell? ⟨bm, 2, none⟩ = some (.slice (some ⟨gw, 0, none⟩) p.ths.length p.ths.length) := by rw [hW, hbm, hgw]; simp [go_sem]
  have df : ∀ j, W.frozen? ⟨bm, j, none⟩ = false := by intro j; rw [hW, hbm]; simp [go_sem]
  have hho := own_of_block (w := W) (g := gw) (e := tWorker) (n := p.ths.length) (sz := 2) (B := w.heap.size) (cs := madeCells #[Value.map none, .map none] (p.ths.length * 2)) (by rw [hW, hgw, Below.heap_alloc _ _ _ (by simp)]; have := heap_alloc_new (w.alloc (.cells #[.slice (some ⟨bc, oc, none⟩) p.cells.length cc, .slice at_ p.ths.length ct] 25)) (.cells (madeCells #[Value.map none, .map none] (p.ths.length * 2)) tWorker); rw [World.size_alloc] at this; exact this) (by rw [size_madeCells]) (by simp only [maxLen]; omega) (by omega)
  rw [made_wk _ ht1 ht4] at hho
  have le := World.block_lt_of_cell? W _ e0
  have lm := World.block_lt_of_cell? W _ d0
  have hsz : W.heap.size = w.heap.size + 3 := by rw [hW]; simp
  dsimp only at le lm
  rw [← hbm, ← hgw, ← hbe]
  have HNE := Lib.hid (show be = w.heap.size ∧ gw = w.heap.size + 1 ∧ bm = w.heap.size + 1 + 1 ∧ W.heap.size = w.heap.size + 3 from ⟨hbe, hgw, hbm, hsz⟩)
  have nbm : be ≠ bm := by omega
  have HKW := Lib.hid hkW
  have HHO := Lib.hid hho
  clear hW hbe hgw hbm hkW hho hsz hmk
  go_upto_region 5 with (go_at_call 47; go_loud (refine (HV.out _ _ HKW.out).mono ?_; rintro e w3 ⟨⟨bt, bw, gt, ct', gn, P, Q, vc', vt', vcd, vtd, rfl, hT⟩, hk3⟩; have HT := Lib.hid hT; obtain ⟨lm3, cm3, fm3⟩ := hk3.blk bm lm (by simp); obtain ⟨le3, ce3, fe3⟩ := hk3.blk be le (by simp); have HK3 := Lib.hid hk3; clear hk3 hT))
  have m0 : w3.cell? ⟨bm, 0, none⟩ = some (.pointer none) := (cm3 0).trans d0
  have m1 : w3.cell? ⟨bm, 1, none⟩ = some (.slice none 0 0) := (cm3 1).trans d1
  have m2 : w3.cell? ⟨bm, 2, none⟩ = some (.slice (some ⟨gw, 0, none⟩) p.ths.length p.ths.length) := (cm3 2).trans d2
  have mf : ∀ j, w3.frozen? ⟨bm, j, none⟩ = false := fun j => (fm3 j).trans (df j)
  have x0 : w3.cell? ⟨be, 0, none⟩ = some (.slice (some ⟨bc, oc, none⟩) p.cells.length cc) := (ce3 0).trans e0
  have x1 : w3.cell? ⟨be, 1, none⟩ = some (.slice at_ p.ths.length ct) := (ce3 1).trans e1
  have M2 := Lib.hid m2
  clear cm3 fm3 ce3 fe3 d0 d1 d2 df e0 e1 le lm
  go_wp2
  go_loopw [32] (fun i wr => ∃ (k : Nat) (vce : Value), k ≤ p.cells.length ∧ i = .int .i64 k ∧ Kp [bm] w3 wr ∧ wr.cell? ⟨bm, 0, none⟩ = some (.pointer (some ⟨bt, 0, none⟩)) ∧ wr.cell? ⟨bm, 1, none⟩ = some vce ∧ wr.cell? ⟨bm, 2, none⟩ = some (.slice (some ⟨gw, 0, none⟩) p.ths.length p.ths.length) ∧ (∀ j, wr.frozen? ⟨bm, j, none⟩ = false) ∧ wr.ownsRow w3.heap.size tCell 2 vce k (flatC ((p.cells.take k).map (fun c => (c, 0))))) (fun i _ => p.cells.length + 1 - (intOf i).toNat)
  case atStart =>
    refine ⟨0, .slice none 0 0, by omega, rfl, (Kp.refl _ _).setCell _ _ (fun _ => by simp), ?_, ?_, ?_, ?_, by simpa [flatC] using World.ownsRow_nil _ _ _ _⟩
    · rw [World.cell?_setCell_same' _ _ _ (by rw [m0]; rfl)]
    · rw [World.cell?_setCell_other _ _ _ _ (by simp)]; exact m1
    · rw [World.cell?_setCell_other _ _ _ _ (by simp)]; exact M2.out
    · intro j; rw [World.frozen?_setCell]; exact mf j
  case round =>
    obtain ⟨k, vce, hk, rfl, hkr, g0, g1, g2, gf, hown⟩ := hrel
    have lbr := World.block_lt_of_cell? wr _ g0
    have ler := (hkr.blk be le3 (by simpa using nbm)).1
    have y0 := (hkr.cellAt x0 (by simpa using nbm)).1
    dsimp only at lbr
    by_cases hlt : k < p.cells.length
    · obtain ⟨x, hx⟩ : ∃ x, p.cells[k]? = some x := ⟨p.cells[k], by simp [hlt]⟩
      have hnbc : bc ∉ [bm] := by have := HNE.out; simp; omega
      have hcx := (((HKW.out.trans HK3.out (by simp)).mono (T := [bm]) (fun x hx _ => by simp at hx)).trans hkr (fun x hx _ => hx) |>.cellAt (HC.out k (.int .i64 x) (by simp [flatI, hx])) hnbc).1
      have hbcr := (((HKW.out.trans HK3.out (by simp)).mono (T := [bm]) (fun x hx _ => by simp at hx)).trans hkr (fun x hx _ => hx) |>.blk bc hbc hnbc).1
      have hvb : bm ∉ vce.ownBlock.toList := fun h => by
        have h1 := (hown.lt bm (by simpa using h)).1
        have := HK3.out.size
        have := HNE.out
        omega
      have hmx : k + 1 ≤ maxLen := by simp only [maxLen]; omega
      have hby : (k + 1) * 16 ≤ 140737488355328 := by omega
      have HX := Lib.hid hx
      have HKR := Lib.hid hkr
      have HOWN := Lib.hid hown
      have G0 := Lib.hid g0
      have G2 := Lib.hid g2
      have hb3 : w3.heap.size ≤ wr.heap.size := hkr.size
      clear hx hkr hown g0 g2
      go_wp2_with (at_builtin; refine wpList_append_lies (w := _) (hgd := by rfl) (s := .tmp 40) (x := .tmp 43) (t := 81) (ho := by rfl) (base := w3.heap.size) (e := tCell) (i := i1) (z := .agg #[.int .i64 0, .int .i64 0]) (size := 2) (bytes := 16) (ht := Tryz.underlying81) (hi := hj') (hz := hy0) (hsize := hy1) (hby := hy2) (hzs := by rfl) (hsz := by decide) (v := vce) (n := k) (xs := flatC ((p.cells.take k).map (fun c => (c, 0)))) (hs := by rfl) (hown := by exact own_kp HOWN.out ((Kp.refl [] _).alloc _) (by simp)) (ad := ⟨wr.heap.size, 0, none⟩) (m := 1) (c := 1) (news := [.int .i64 x, .int .i64 0]) (hx := by rfl) (hl := by rfl) (hnews := by exact news_of (heap_alloc_new wr _)) (h1 := by intro u hu; simp at hu; rcases hu with rfl | rfl <;> rfl) (hm := by decide) (h63 := hmx) (hbytes := hby) (hbase := by simp; omega) (H := _) (hH := by rfl) ?_; intro g cap w5 hown5 hgr5 hat5 hlt5; have hk5 := Kp.of_grown hgr5; obtain ⟨lb5, cb5, fb5⟩ := hk5.blk bm (by simp; omega) hvb)
      have HK5 := Lib.hid hk5
      have HOWN5 := Lib.hid hown5
      have hgb : g ≠ bm := by
        rcases hat5 with h | h
        · intro e0; subst e0; exact hvb (by simpa using h)
        · simp at h; omega
      have c50 : w5.cell? ⟨bm, 0, none⟩ = some (.pointer (some ⟨bt, 0, none⟩)) := (cb5 0).trans ((World.cell?_alloc_past _ _ _ lbr).trans G0.out)
      have c51 : w5.cell? ⟨bm, 1, none⟩ = some vce := (cb5 1).trans ((World.cell?_alloc_past _ _ _ lbr).trans g1)
      have c52 : w5.cell? ⟨bm, 2, none⟩ = some (.slice (some ⟨gw, 0, none⟩) p.ths.length p.ths.length) := (cb5 2).trans ((World.cell?_alloc_past _ _ _ lbr).trans G2.out)
      have f5 : ∀ j, w5.frozen? ⟨bm, j, none⟩ = false := fun j => (fb5 j).trans ((((Kp.refl [] wr).alloc _).frozen lbr (by simp)).trans (gf j))
      have C52 := Lib.hid c52
      have C50 := Lib.hid c50
      clear cb5 fb5 c52 c50
      go_wp2
      go_roundw
      case rel =>
        have hks : Kp [bm] w5 (w5.setCell ⟨bm, 1, none⟩ (.slice (some ⟨g, 0, none⟩) (k + 1) cap)) := (Kp.refl _ _).setCell _ _ (fun _ => by simp)
        have hk6 : Kp [bm] w3 w5 := (HKR.out.alloc _).trans HK5.out (fun x hx hl => by have := (HOWN.out.lt x (by simpa using hx)).1; omega)
        refine ⟨k + 1, .slice (some ⟨g, 0, none⟩) (k + 1) cap, by omega, by go_num, hk6.trans hks (fun x hx _ => hx), ?_, ?_, ?_, ?_, ?_⟩
        · rw [World.cell?_setCell_other _ _ _ _ (by simp)]; exact C50.out
        · rw [World.cell?_setCell_same' _ _ _ (by rw [c51]; rfl)]
        · rw [World.cell?_setCell_other _ _ _ _ (by simp)]; exact C52.out
        · intro j; rw [World.frozen?_setCell]; exact f5 j
        · have e1 : flatC ((p.cells.take (k + 1)).map (fun c => (c, (0 : Int)))) = flatC ((p.cells.take k).map (fun c => (c, 0))) ++ [.int .i64 x, .int .i64 0] := by
            rw [List.take_add_one, HX.out]; simp [flatC]
          rw [e1]
          exact own_kp HOWN5.out hks (fun y hy => by simp [Value.ownBlock] at hy; subst hy; simpa using hgb)
      case measure => simp [intOf]; omega
    · obtain rfl : k = p.cells.length := by omega
      have HKR := Lib.hid hkr
      rw [List.take_of_length_le (Nat.le_refl _)] at hown
      have HOWN := Lib.hid hown
      have G0 := Lib.hid g0
      have G1 := Lib.hid g1
      have G2 := Lib.hid g2
      clear hkr hown g0 g1 g2
      go_wp2
      have hne := HNE.out
      have hM := new_mach (B := w.heap.size) (gw := gw) HT.out HKR.out (by omega) (by omega) (by omega) (by omega) (by omega) G0.out G1.out G2.out HK3.out.size HOWN.out (own_kp (own_kp HHO.out HK3.out (by simp)) HKR.out (fun g hg => by simp [Value.ownBlock] at hg; subst hg; simp; omega))
      refine bodyPost_ret (v := .tuple #[.pointer (some ⟨bm, 0, none⟩), .nilIface]) ?_ rfl ⟨⟨_, _, _, rfl, hM, Nat.le_refl _⟩, ((HKW.out.trans HK3.out (by simp)).mono (T := [bm]) (fun x hx _ => by simp at hx)).trans HKR.out (fun x hx _ => hx) |>.mono (fun x hx hl => by simp at hx; omega)⟩
      simp [results, Tryz.results16, go_sem]
end Go.Proofs.YtbogjkggfdhckaaGreatDoor

/-
  late in memory: any step; Done; History.
-/
namespace Go.Proofs.YtbogjkggfdhckaaGreatDoor
open Go.RowKit Go.Um

theorem Sim.le {p : Pg} {ths : List Th} {evs : List Ev} {l : List St} (h : Sim p ths evs l) : ∀ (k : Nat) t txs, ths[k]? = some t → p.ths[k]? = some txs → t.tx ≤ txs.length := fun k t txs hk ht => by
  obtain ⟨txs', h1, h2, _⟩ := h.cur k t hk
  rw [ht] at h1; cases h1
  exact h2
theorem Stepped.same {w w' : World} {p : Pg} {L : Lay} {m : Mc} {nv : List Value} {wv : List (Value × Value)} (h : MachAt w p L m nv wv) (hk : Kp [] w w') : Stepped w w' p L m :=
  ⟨⟨L, nv, wv, h.kp0 hk, rfl, rfl, rfl, fun _ _ => rfl⟩, [], hk, by simp⟩
theorem step_any {w : World} {p : Pg} {L : Lay} {m : Mc} {nv : List Value} {wv : List (Value × Value)} {l : List St} (hp : PgOk p) (hI : Inv p m l) (hv : VerOk m) (h : MachAt w p L m nv wv) (i : Int) :
    Calls Tryz.prog 17 #[.pointer (some ⟨L.bm, 0, none⟩), .int .i64 i] w fun r w' => (r = .returned (.bool true) ∨ r = .returned (.bool false)) ∧ Stepped w w' p L (m.stepI p i) := by
  by_cases hm : moreI p m.ths i
  · obtain ⟨k, t, txs, rfl, hi, ht, hn⟩ := hm
    have hil := (List.getElem?_eq_some_iff.1 ht).1
    have hs : m.stepI p (k : Int) = m.step p k := by simp [Mc.stepI]
    rw [hs]
    obtain ⟨x, hx⟩ : ∃ x, m.nx[k]? = some x := ⟨m.nx[k]'(by rw [hI.nl]; exact hil), by simp [hI.nl, hil]⟩
    obtain ⟨q, hq⟩ : ∃ q, m.ws[k]? = some q := ⟨m.ws[k]'(by rw [hI.wl]; exact hil), by simp [hI.wl, hil]⟩
    obtain ⟨acts, hac⟩ : ∃ acts, txs[t.tx]? = some acts := ⟨txs[t.tx], by simp [hn]⟩
    obtain ⟨r, w0⟩ := q
    have T := hI.th k t x r w0 hi hx hq
    have fin : ∀ m', m.step p k = m' → (Calls Tryz.prog 17 #[.pointer (some ⟨L.bm, 0, none⟩), .int .i64 k] w fun r w' => r = .returned (.bool true) ∧ Stepped w w' p L m') → Calls Tryz.prog 17 #[.pointer (some ⟨L.bm, 0, none⟩), .int .i64 k] w fun r w' => (r = .returned (.bool true) ∨ r = .returned (.bool false)) ∧ Stepped w w' p L (m.step p k) := by
      intro m' hm' hc
      rw [hm']
      exact hc.mono fun r w' ⟨h1, h2⟩ => ⟨.inl h1, h2⟩
    cases x with
    | nil =>
      cases hb : t.begun with
      | false => exact fin _ (by simp only [Mc.step, ht, hi, hx, hq, hac, hb]; rfl) (step_begin hp hI h hi ht hn hq hx hb)
      | true => exact fin _ (by simp only [Mc.step, ht, hi, hx, hq, hac, hb]; rfl) (step_more hp hI h hi ht hac hq hx hb)
    | abort => exact fin _ (by simp only [Mc.step, ht, hi, hx, hq, hac]) (step_abort hp hI h hi ht hn hq h.sz hx (by have := T.nx.1; omega))
    | commit => exact fin _ (by simp only [Mc.step, ht, hi, hx, hq, hac]) (step_commit hp hI h hi ht hn hq h.sz hx T.nx.1)
    | look => exact fin _ (by simp only [Mc.step, ht, hi, hx, hq, hac]) (step_look hp hI h hi ht hn hq hx (hv.small hI hp))
    | ans e =>
      obtain ⟨_, _, txs1, acts1, a, b1, b2, b3, h4, hea⟩ := T.nx
      rw [ht] at b1; cases b1
      rw [hac] at b2; cases b2
      obtain ⟨q1, q2, q3⟩ := actOk_cases (hp.a k t.tx t.act txs acts a ht hac b3) h4
      have hobj : e.obj = a.c := by rw [hea]; exact (askE_parts k t a).2.2.1
      have hcl := hI.cl
      obtain ⟨c, hc⟩ : ∃ c, m.cells[e.obj.toNat]? = some c := ⟨m.cells[e.obj.toNat]'(by omega), List.getElem?_eq_getElem _⟩
      exact fin _ (by simp only [Mc.step, ht, hi, hx, hq, hac, b3, hc]) (step_ans hp hI h hi ht hac b3 hq hc hx)
  · have hs : m.stepI p i = m := by
      unfold Mc.stepI
      split
      · rename_i h0
        refine (hI.step hp i.toNat).2.2 fun hmm => hm ?_
        have := (moreB_iff p m.ths i.toNat).1 (more_iff.1 hmm)
        rwa [Int.toNat_of_nonneg h0] at this
      · rfl
    rw [hs]
    refine lateStep h.m0 ?_
    refine (step_no h.t2 (done_yes h.wk hI.sim.le hm)).mono ?_
    rintro r w' ⟨rfl, n, rfl⟩
    exact ⟨⟨false, rfl⟩, .inr rfl, Stepped.same h ((Kp.refl _ _).drewN _)⟩

set_option maxRecDepth 100000 in
theorem mdone {w : World} {p : Pg} {L : Lay} {m : Mc} {nv : List Value} {wv : List (Value × Value)} {l : List St} (hp : PgOk p) (hI : Inv p m l) (h : MachAt w p L m nv wv) :
    Calls Tryz.prog 213 #[.pointer (some ⟨L.bm, 0, none⟩)] w fun r w' => r = .returned (.bool (doneB p m.ths)) ∧ Kp [] w w' := by
  have hc := h.m0
  have hbl := World.block_lt_of_cell? w _ hc
  dsimp only at hbl
  obtain ⟨_, us, hus, ⟨a, c, hv, _⟩, _⟩ := h.pg
  have h1 := h.t1
  rw [hv] at h1
  have H := Lib.hid (th_done h1 h.t2 h.wk hI.sim.le hp.t4)
  clear hv h1 hus h hI
  go_enter Tryz.func213, Tryz.ntmps213
  go_wp2_with (go_at_call 60; refine H.out.mono ?_; rintro r w1 ⟨rfl, hr⟩; have HR := Lib.hid hr; clear hr)
  go_ret
  exact ⟨rfl, HR.out⟩
set_option maxRecDepth 100000 in
theorem mhist {w : World} {p : Pg} {L : Lay} {m : Mc} {nv : List Value} {wv : List (Value × Value)} {l : List St} (hp : PgOk p) (hI : Inv p m l) (h : MachAt w p L m nv wv) :
    Calls Tryz.prog 22 #[.pointer (some ⟨L.bm, 0, none⟩)] w fun r w' => (∃ vo vev, r = .returned (.agg #[vo, vev]) ∧ RdP w' (fun x => w.heap.size ≤ x) vo p.cells.length (flatO (objsOf p)) ∧ RdP w' (fun x => w.heap.size ≤ x) vev m.evs.length (flatE m.evs)) ∧ Kp [] w w' := by
  have hc := h.m0
  have hbl := World.block_lt_of_cell? w _ hc
  dsimp only at hbl
  have hfew := hI.sim.few hp
  have hH : ∀ W, Kp [] w W → _ := fun W hW => history_any (hW.cellAt h.t0 (by simp)).1 (h.pg.1.kp hW (by simp)) (hW.cellAt h.t2 (by simp)).1 (h.wk.kp0 hW) (by omega) hp.c1 hp.c4
  have HH := Lib.hid hH
  clear h hI hH
  go_enter Tryz.func22, Tryz.ntmps22
  go_wp2_with (go_at_call 53; refine (HH.out _ ((Kp.refl _ _).alloc _)).mono ?_; rintro r w1 ⟨⟨vo, vev, rfl, h1, h2⟩, hr⟩; obtain ⟨av, cv, rfl, hx1⟩ := h1; obtain ⟨ae, ce, rfl, hx2⟩ := h2; obtain ⟨lb, cb, fb⟩ := hr.blk w.heap.size (by simp) (by simp); have H1 := Lib.hid hx1; have H2 := Lib.hid hx2; have HR := Lib.hid hr; clear hr hx1 hx2)
  have r1 : RdP w1 (fun x => w.heap.size < x) (.slice av p.cells.length cv) p.cells.length (flatO (objsOf p)) := RdP.mono ⟨av, cv, rfl, H1.out⟩ (fun x _ h => by simp at h; omega)
  have r2 : RdP w1 (fun x => w.heap.size < x) (.slice ae m.evs.length ce) m.evs.length (flatE m.evs) := RdP.mono ⟨ae, ce, rfl, H2.out⟩ (fun x _ h => by simp at h; omega)
  have hk : Kp [w.heap.size] w1 ((w1.setCell ⟨w.heap.size, 0, none⟩ (.slice av p.cells.length cv)).setCell ⟨w.heap.size, 1, none⟩ (.slice ae m.evs.length ce)) := ((Kp.refl _ _).setCell _ _ (fun _ => by simp)).setCell _ _ (fun _ => by simp)
  refine bodyPost_ret (v := .agg #[.slice av p.cells.length cv, .slice ae m.evs.length ce]) ?_ rfl ⟨⟨_, _, rfl, (r1.kp hk (fun x hx h => by simp at hx; omega)).mono (fun x _ h => Nat.le_of_lt h), (r2.kp hk (fun x hx h => by simp at hx; omega)).mono (fun x _ h => Nat.le_of_lt h)⟩, ?_⟩
  · have q0 : w1.cell? ⟨w.heap.size, 0, none⟩ = some (.slice none 0 0) := by rw [cb]; simp
    have q1 : w1.cell? ⟨w.heap.size, 1, none⟩ = some (.slice none 0 0) := by rw [cb]; simp
    simp [results, Tryz.results22, go_sem, q0, q1]
  · exact (((Kp.refl [] w).alloc _).trans HR.out (by simp)).trans hk (fun x hx hl => by simp at hx; omega)
end Go.Proofs.YtbogjkggfdhckaaGreatDoor
