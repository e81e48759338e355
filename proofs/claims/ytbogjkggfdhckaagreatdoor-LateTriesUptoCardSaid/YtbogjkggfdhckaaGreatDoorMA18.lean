/-
  Lemmas on the way to Rr1: Pc, Lw1, Pst, Lw2, Dr1.
-/
import Derived.Test.YtbogjkggfdhckaaGreatDoorMA17
import Derived.OwnWalk
import Derived.Deep.DeepCutAuto
import Derived.Deep.CutBlock
import Derived.Test.YtbogjkggfdhckaaGreatDoorMA4
import Derived.Test.YtbogjkggfdhckaaGreatDoorMA11
import Derived.Test.YtbogjkggfdhckaaGreatDoorMA2
import Derived.Test.YtbogjkggfdhckaaGreatDoorMA15
/-
  prog: Clone.
-/
namespace Go.Proofs.YtbogjkggfdhckaaGreatDoor
open Go.RowKit Go.Um

abbrev tActs : Nat := 67
abbrev tTxs : Nat := 68
theorem info_int : (Tryz.prog.info? 3).map (fun i => (i.zero, i.size, i.bytes)) = some (some (.int .i64 0), 1, 8) := by kernel_rfl
theorem info_act : (Tryz.prog.info? 70).map (fun i => (i.zero, i.size, i.bytes)) = some (some (.agg #[.int .i64 0, .int .i64 0, .int .i64 0]), 3, 24) := by kernel_rfl
theorem info_acts : (Tryz.prog.info? tActs).map (fun i => (i.zero, i.size, i.bytes)) = some (some (.slice none 0 0), 1, 24) := by kernel_rfl
theorem info_txs : (Tryz.prog.info? tTxs).map (fun i => (i.zero, i.size, i.bytes)) = some (some (.slice none 0 0), 1, 24) := by kernel_rfl
theorem own_rdP {w : World} {P : Nat → Prop} {B e sz n : Nat} {v : Value} {xs : List Value} (h : w.ownsRow B e sz v n xs) (hP : ∀ g, v.ownBlock = some g → P g) : RdP w P v n xs := by
  rcases h.2 with ⟨rfl, rfl⟩ | ⟨g, cap, cur, rfl, _, hg, _⟩
  · exact ⟨none, 0, rfl, fun h => by omega⟩
  · have hl := (Array.getElem?_eq_some_iff.1 hg).1
    refine ⟨_, _, rfl, fun _ => ⟨g, 0, rfl, hP g rfl, hl, fun j u hj => ?_⟩⟩
    have := h.cells (g := g) rfl j u hj
    have hadd : (⟨g, 0, none⟩ : Addr).add j = ⟨g, 0 + j, none⟩ := by unfold Addr.add; split <;> simp_all
    rwa [hadd] at this
theorem RdP.mono {w : World} {P Q : Nat → Prop} {v : Value} {n : Nat} {xs : List Value} (h : RdP w P v n xs) (hPQ : ∀ x, x < w.heap.size → P x → Q x) : RdP w Q v n xs := by
  obtain ⟨a, c, rfl, h⟩ := h
  refine ⟨a, c, rfl, fun hn => ?_⟩
  obtain ⟨b, o, h1, h2, h3, h4⟩ := h hn
  exact ⟨b, o, h1, hPQ b h3 h2, h3, h4⟩
theorem TxsAt.mono {w : World} {P Q : Nat → Prop} {v : Value} {txs : List (List Ac)} (h : TxsAt w P v txs) (hPQ : ∀ x, x < w.heap.size → P x → Q x) : TxsAt w Q v txs := by
  obtain ⟨us, h1, h2, h3⟩ := h
  exact ⟨us, h1, h2.mono hPQ, fun k u acts hu ha => (h3 k u acts hu ha).mono hPQ⟩
theorem add_at (b o j : Nat) : ((⟨b, o, none⟩ : Addr).add j) = ⟨b, o + j, none⟩ := by unfold Addr.add; split <;> simp_all

set_option maxRecDepth 100000 in
set_option maxHeartbeats 2000000 in
theorem clone_any (P : Nat → Prop) (p : Pg) (vc vt : Value) (w : World) (h : PgAt w P vc vt p) (hp : PgOk p) :
    Calls Tryz.prog 69 #[.agg #[vc, vt]] w fun r w' => (∃ vc' vt', r = .returned (.agg #[vc', vt']) ∧ PgAt w' (fun x => w.heap.size ≤ x ∧ x < w'.heap.size) vc' vt' p) ∧ Kp [] w w' := by
  have HP := Lib.hid h
  have HPo := Lib.hid hp
  obtain ⟨⟨ac, cc, rfl, hc⟩, us, hus, ⟨at_, ct, rfl, ht⟩, hu⟩ := h
  obtain ⟨bc, oc, rfl, _, hbl, hcc⟩ := hc (by have := hp.c1; omega)
  have HC := Lib.hid hcc
  have hn1 := hp.c1
  have hn4 := hp.c4
  have ht4 := hp.t4
  have hfl : (flatI p.cells).length = p.cells.length * 1 := by simp [flatI]
  have hone : ∀ u ∈ flatI p.cells, u.oneCell' = true := by
    intro u hu
    simp [flatI] at hu
    obtain ⟨x, _, rfl⟩ := hu
    rfl
  obtain ⟨i0, hi', hz0, hz1, hz2⟩ := info_parts info_int
  have hmk : ∀ W : World, (Instr.makeSlice 22 (.int .i64 0) (.int .i64 p.cells.length)).run Tryz.prog W = .ok (.slice (some ⟨W.heap.size, 0, none⟩) 0 p.cells.length) (W.alloc (.cells (madeCells (Value.int .i64 0).cells (p.cells.length * 1)) 3)) := fun W => by
    have := run_makeSlice (P := Tryz.prog) (w := W) 22 3 i0 _ Tryz.underlying22 hi' hz0 .i64 .i64 0 p.cells.length (by decide) (by omega) (by rw [hz1]; simp; omega) (by rw [hz2]; omega) (by omega)
    rw [this, hz1]
    simp only [Int.toNat_zero, Int.toNat_natCast]
  clear hp hc hcc hus ht hu
  go_enter Tryz.func69, Tryz.ntmps69
  go_upto_region 1 with fail
  refine wp_gen fun W hW => ?_
  have hkW : Kp [] w W := by rw [hW]; exact ((Kp.refl _ _).alloc _).alloc _
  obtain ⟨be, hbe⟩ : ∃ x, x = w.heap.size := ⟨_, rfl⟩
  obtain ⟨br, hbr⟩ : ∃ x, x = w.heap.size + 1 := ⟨_, rfl⟩
  have e0 : W.cell? ⟨be, 0, none⟩ = some (.slice (some ⟨bc, oc, none⟩) p.cells.length cc) := by rw [hW, hbe]; simp [go_sem]
  have e1 : W.cell? ⟨be, 1, none⟩ = some (.slice at_ p.ths.length ct) := by rw [hW, hbe]; simp [go_sem]
  have r0 : W.cell? ⟨br, 0, none⟩ = some (.slice none 0 0) := by rw [hW, hbr]; simp [go_sem]
  have r1 : W.cell? ⟨br, 1, none⟩ = some (.slice none 0 0) := by rw [hW, hbr]; simp [go_sem]
  have rf : ∀ j, W.frozen? ⟨br, j, none⟩ = false := by intro j; rw [hW, hbr]; simp [go_sem]
  have hs : br + 1 = W.heap.size := by rw [hW, hbr]; simp
  have heb : be < W.heap.size := by rw [hW, hbe]; simp; omega
  rw [← hbr, ← hbe]
  have hcw : ∀ j u, (flatI p.cells)[j]? = some u → W.cell? ⟨bc, oc + j, none⟩ = some u := fun j u hj => (hkW.cellAt (HC.out j u hj) (by simp)).1
  have hbcW := (hkW.blk bc hbl (by simp)).1
  have HCW := Lib.hid hcw
  have HKW := Lib.hid hkW
  have HBE := Lib.hid hbe
  have HBR := Lib.hid hbr
  have hbeW : be = w.heap.size := hbe
  have hx1 : w.heap.size + 2 ≤ W.heap.size := by omega
  clear hW hkW hbe hbr hcw hbeW
  have hmx : 0 + p.cells.length ≤ maxLen := by simp only [maxLen]; omega
  have hby : (0 + p.cells.length) * 8 ≤ 140737488355328 := by omega
  have hml : p.cells.length ≤ maxLen := by simp only [maxLen]; omega
  go_cut [3] (fun s3 wx => ∃ b3 vc', s3 = .pointer (some ⟨b3, 0, none⟩) ∧ Kp [] W wx ∧ W.heap.size ≤ b3 ∧ b3 < wx.heap.size ∧ wx.cell? ⟨b3, 0, none⟩ = some vc' ∧ wx.cell? ⟨b3, 1, none⟩ = some (.slice none 0 0) ∧ (∀ j, wx.frozen? ⟨b3, j, none⟩ = false) ∧ RdP wx (fun x => W.heap.size ≤ x ∧ x ≠ b3) vc' p.cells.length (flatI p.cells))
  case first =>
    go_region_held_law (fun w' => w'.cell? ⟨be, 0, none⟩ = some (.slice (some ⟨bc, oc, none⟩) p.cells.length cc)) (first | (with_reducible exact e0) | exact (((Kp.refl [] W).drew).cellAt e0 (by simp)).1 | exact ((((Kp.refl [] W).alloc _).drew).cellAt e0 (by simp)).1 | exact (((((Kp.refl [] W).alloc _).alloc _).drew).cellAt e0 (by simp)).1 | (with_reducible exact s1) | exact (((Kp.refl [] w1).alloc _).cellAt s1 (by simp)).1 | (refine (Kp.cellAt (S := [W.heap.size + 1]) (a := w1) ?_ s1 ?_).1; (· repeat (first | (with_reducible exact Kp.refl _ _) | refine Kp.setCell ?_ _ _ (fun _ => List.mem_singleton.2 rfl))); (· simp; omega)) | (refine (Kp.cellAt (S := [W.heap.size]) (a := w1) ?_ s1 ?_).1; (· repeat (first | (with_reducible exact Kp.refl _ _) | refine Kp.setCell ?_ _ _ (fun _ => List.mem_singleton.2 rfl))); (· simp; omega)) | (trace_state; fail)) (first | (refine step_append_lies (w := (W.alloc (.cells (madeCells #[.int .i64 0] p.cells.length) 3)).drew) (hgd := by rfl) (s := .tmp 12) (x := .tmp 14) (t := 22) (ho := by rfl) (base := W.heap.size) (e := 3) (i := i0) (z := .int .i64 0) (size := 1) (bytes := 8) (ht := Tryz.underlying22) (hi := hi') (hz := hz0) (hsize := hz1) (hby := hz2) (hzs := by rfl) (hsz := by decide) (v := .slice (some ⟨W.heap.size, 0, none⟩) 0 p.cells.length) (n := 0) (xs := []) (hs := by rfl) (hown := by exact (World.ownsRow_made W _ p.cells.length (Nat.le_refl _) hml (by simpa using size_madeCells #[Value.int .i64 0] p.cells.length)).drew) (ad := ⟨bc, oc, none⟩) (m := p.cells.length) (c := cc) (news := flatI p.cells) (hx := by rfl) (hl := hfl) (hnews := by exact fun j u h => by rw [add_at]; exact ((((Kp.refl [] W).alloc _).drew).cellAt (HCW.out j u h) (by simp)).1) (h1 := hone) (hm := hn1) (h63 := hmx) (hbytes := hby) (hbase := by simp <;> omega) (H := _) (hH := by rfl) ?_; intro g cap w1 hown hgrow hat hlt; have hkp := Kp.of_grown hgrow; have hkw1 : Kp [] W w1 := (((Kp.refl [] W).alloc _).drew).trans hkp (fun x hx hl => by simp [Value.ownBlock] at hx; omega); have s1 := (hkw1.cellAt e0 (by simp)).1; have hd1 : True := trivial) | (refine step_append_lies (w := ((W.alloc (.cells #[.slice none 0 0, .slice none 0 0] 25)).alloc (.cells (madeCells #[.int .i64 0] p.cells.length) 3)).drew) (hgd := by rfl) (s := .tmp 12) (x := .tmp 14) (t := 22) (ho := by rfl) (base := W.heap.size) (e := 3) (i := i0) (z := .int .i64 0) (size := 1) (bytes := 8) (ht := Tryz.underlying22) (hi := hi') (hz := hz0) (hsize := hz1) (hby := hz2) (hzs := by rfl) (hsz := by decide) (v := .slice (some ⟨W.heap.size + 1, 0, none⟩) 0 p.cells.length) (n := 0) (xs := []) (hs := by rfl) (hown := by have h0 := (World.ownsRow_made (base := W.heap.size) (e := 3) (size := 1) (W.alloc (.cells #[.slice none 0 0, .slice none 0 0] 25)) (madeCells #[Value.int .i64 0] p.cells.length) p.cells.length (by simp) hml (by simpa using size_madeCells #[Value.int .i64 0] p.cells.length)).drew; rw [World.size_alloc] at h0; exact h0) (ad := ⟨bc, oc, none⟩) (m := p.cells.length) (c := cc) (news := flatI p.cells) (hx := by rfl) (hl := hfl) (hnews := by exact fun j u h => by rw [add_at]; exact (((((Kp.refl [] W).alloc _).alloc _).drew).cellAt (HCW.out j u h) (by simp)).1) (h1 := hone) (hm := hn1) (h63 := hmx) (hbytes := hby) (hbase := by simp <;> omega) (H := _) (hH := by rfl) ?_; intro g cap w1 hown hgrow hat hlt; have hkp := Kp.of_grown hgrow; have hkw1 : Kp [] W w1 := ((((Kp.refl [] W).alloc _).alloc _).drew).trans hkp (fun x hx hl => by simp [Value.ownBlock] at hx; omega); have s1 := (hkw1.cellAt e0 (by simp)).1; have hd0 : w1.cell? ⟨W.heap.size, 0, none⟩ = some (.slice none 0 0) := (hkp.cell (k := W.heap.size) (o := 0) (by simp <;> omega) (by simp [Value.ownBlock])).trans (by simp [go_sem]); have hd1 : w1.cell? ⟨W.heap.size, 1, none⟩ = some (.slice none 0 0) := (hkp.cell (k := W.heap.size) (o := 1) (by simp <;> omega) (by simp [Value.ownBlock])).trans (by simp [go_sem]); have hdf : ∀ j, w1.frozen? ⟨W.heap.size, j, none⟩ = false := fun j => (hkp.frozen (k := W.heap.size) (o := j) (by simp <;> omega) (by simp [Value.ownBlock])).trans (by simp [go_sem])) | (refine step_append_lies (w := ((W.alloc (.cells (madeCells #[.int .i64 0] p.cells.length) 3)).alloc (.cells #[.slice none 0 0, .slice none 0 0] 25)).drew) (hgd := by rfl) (s := .tmp 12) (x := .tmp 14) (t := 22) (ho := by rfl) (base := W.heap.size) (e := 3) (i := i0) (z := .int .i64 0) (size := 1) (bytes := 8) (ht := Tryz.underlying22) (hi := hi') (hz := hz0) (hsize := hz1) (hby := hz2) (hzs := by rfl) (hsz := by decide) (v := .slice (some ⟨W.heap.size, 0, none⟩) 0 p.cells.length) (n := 0) (xs := []) (hs := by rfl) (hown := by exact own_kp (World.ownsRow_made W _ p.cells.length (Nat.le_refl _) hml (by simpa using size_madeCells #[Value.int .i64 0] p.cells.length)) (((Kp.refl [] _).alloc _).drew) (by simp)) (ad := ⟨bc, oc, none⟩) (m := p.cells.length) (c := cc) (news := flatI p.cells) (hx := by rfl) (hl := hfl) (hnews := by exact fun j u h => by rw [add_at]; exact (((((Kp.refl [] W).alloc _).alloc _).drew).cellAt (HCW.out j u h) (by simp)).1) (h1 := hone) (hm := hn1) (h63 := hmx) (hbytes := hby) (hbase := by simp <;> omega) (H := _) (hH := by rfl) ?_; intro g cap w1 hown hgrow hat hlt; have hkp := Kp.of_grown hgrow; have hkw1 : Kp [] W w1 := ((((Kp.refl [] W).alloc _).alloc _).drew).trans hkp (fun x hx hl => by simp [Value.ownBlock] at hx; omega); have s1 := (hkw1.cellAt e0 (by simp)).1; have hd0 : w1.cell? ⟨W.heap.size + 1, 0, none⟩ = some (.slice none 0 0) := (hkp.cell (k := W.heap.size + 1) (o := 0) (by simp) (by simp [Value.ownBlock])).trans (by simp [go_sem]); have hd1 : w1.cell? ⟨W.heap.size + 1, 1, none⟩ = some (.slice none 0 0) := (hkp.cell (k := W.heap.size + 1) (o := 1) (by simp) (by simp [Value.ownBlock])).trans (by simp [go_sem]); have hdf : ∀ j, w1.frozen? ⟨W.heap.size + 1, j, none⟩ = false := fun j => (hkp.frozen (k := W.heap.size + 1) (o := j) (by simp) (by simp [Value.ownBlock])).trans (by simp [go_sem])))
    all_goals go_wp2_with fail
    all_goals go_meet
    all_goals
      have hown1 : w1.ownsRow W.heap.size 3 1 (.slice (some ⟨g, 0, none⟩) p.cells.length cap) p.cells.length (flatI p.cells) := by simpa using hown
      have hgW : W.heap.size ≤ g := (hown1.lt g rfl).1
      have hat1 := hat
      simp [Value.ownBlock] at hat1
      have hrd : ∀ b3, g ≠ b3 → RdP w1 (fun x => W.heap.size ≤ x ∧ x ≠ b3) (.slice (some ⟨g, 0, none⟩) p.cells.length cap) p.cells.length (flatI p.cells) := fun b3 hb => own_rdP hown1 (fun x hx => by simp [Value.ownBlock] at hx; subst hx; exact ⟨hgW, hb⟩)
      first
        | exact ⟨w1.heap.size, _, rfl, hkw1.alloc _, hkw1.size, by simp, by simp [go_sem], by simp [go_sem], fun j => by simp [go_sem], (hrd w1.heap.size (by omega)).kp (S := []) ((Kp.refl _ _).alloc _) (by simp)⟩
        | exact ⟨W.heap.size + 1, _, rfl, (hkw1.setCell _ _ (fun h => absurd h (by simp))).setCell _ _ (fun h => absurd h (by simp)), by omega, by have := hkw1.size; have := World.block_lt_of_cell? w1 _ hd0; simpa [go_sem] using this, by simp [go_sem, hd0], by simp [go_sem, hd1], fun j => by simp [go_sem, hdf], (hrd (W.heap.size + 1) (by omega)).kp (S := [W.heap.size + 1]) (by repeat (first | (with_reducible exact Kp.refl _ _) | refine Kp.setCell ?_ _ _ (fun _ => by simp))) (by simp)⟩
        | exact ⟨W.heap.size, _, rfl, (hkw1.setCell _ _ (fun h => absurd h (by simp))).setCell _ _ (fun h => absurd h (by simp)), by omega, by have := hkw1.size; have := World.block_lt_of_cell? w1 _ hd0; simpa [go_sem] using this, by simp [go_sem, hd0], by simp [go_sem, hd1], fun j => by simp [go_sem, hdf], (hrd W.heap.size (by omega)).kp (S := [W.heap.size]) (by repeat (first | (with_reducible exact Kp.refl _ _) | refine Kp.setCell ?_ _ _ (fun _ => by simp))) (by simp)⟩
        | fail
  case rest =>
  obtain ⟨b3, vc', rfl, hkc, hb3, hb3l, d0, d1, df, hrd⟩ := hcut
  have HRD := Lib.hid hrd
  have HKC := Lib.hid hkc
  have HE0 := Lib.hid e0
  have HE1 := Lib.hid e1
  have HR0 := Lib.hid (show W.cell? ⟨br, 0, none⟩ = some (.slice none 0 0) ∧ W.cell? ⟨br, 1, none⟩ = some (.slice none 0 0) ∧ ∀ j, W.frozen? ⟨br, j, none⟩ = false from ⟨r0, r1, rf⟩)
  have f1 := (hkc.cellAt e1 (by simp)).1
  obtain ⟨i1, hj1, hy0, hy1, hy2⟩ := info_parts info_acts
  obtain ⟨i2, hj2, hu0, hu1, hu2⟩ := info_parts info_txs
  obtain ⟨i3, hj3, hv0, hv1, hv2⟩ := info_parts info_act
  have D0 := Lib.hid d0
  have D1 := Lib.hid d1
  have DF := Lib.hid df
  clear hrd hkc e0 e1 r0 r1 rf hmk hmx hby hfl hone d0 d1 df
  go_upto_block 0 with fail
  go_wp2
  go_loopw [20] (fun i wr => ∃ (k : Nat) (us : List Value) (vk : Value), k ≤ p.ths.length ∧ i = .int .i64 k ∧ Kp [] W wr ∧ b3 < wr.heap.size ∧ wr.cell? ⟨b3, 0, none⟩ = some vc' ∧ wr.cell? ⟨b3, 1, none⟩ = some vk ∧ (∀ j, wr.frozen? ⟨b3, j, none⟩ = false) ∧
      RdP wr (fun x => W.heap.size ≤ x ∧ x ≠ b3 ∧ vk.ownBlock ≠ some x) vc' p.cells.length (flatI p.cells) ∧ wr.ownsRow W.heap.size tTxs 1 vk k us ∧ vk.ownBlock ≠ some b3 ∧
      ∀ (j : Nat) u txs, us[j]? = some u → p.ths[j]? = some txs → TxsAt wr (fun x => W.heap.size ≤ x ∧ x ≠ b3 ∧ vk.ownBlock ≠ some x) u txs) (fun i _ => p.ths.length + 1 - (intOf i).toNat)
  case atStart => exact ⟨0, [], .slice none 0 0, by omega, rfl, HKC.out, hb3l, D0.out, D1.out, DF.out, HRD.out.mono (fun x _ h => ⟨h.1, h.2, by simp [Value.ownBlock]⟩), World.ownsRow_nil _ _ _ _, by simp [Value.ownBlock], by simp⟩
  case round =>
    rename World => wq
    obtain ⟨k, us, vk, hk, rfl, hkr, hb3r, g0, g1, gf, hrc, hown, hvb, hall⟩ := hrel
    by_cases hlt : k < p.ths.length
    · obtain ⟨txs, hx⟩ : ∃ x, p.ths[k]? = some x := ⟨p.ths[k], by simp [hlt]⟩
      have hkw := HKW.out.trans hkr (by simp)
      obtain ⟨b2, o2, cc2, v2, hv2', hc2w, hT⟩ := HP.out.row hx
      obtain ⟨rfl, rfl⟩ : at_ = some ⟨b2, o2, none⟩ ∧ ct = cc2 := by simpa using hv2'
      obtain ⟨a3, c3, rfl⟩ := hT.len
      have hc2 := (hkw.cellAt hc2w (by simp)).1
      have htx3 := HPo.out.tx k txs hx
      have HX := Lib.hid hx
      have HT := Lib.hid hT
      have HALL := Lib.hid hall
      have HOWN := Lib.hid hown
      have HRC := Lib.hid hrc
      have HKR := Lib.hid hkr
      have HKW2 := Lib.hid hkw
      have G0 := Lib.hid g0
      have G1 := Lib.hid g1
      have GF := Lib.hid gf
      clear hx hkw hT hall hown hrc hkr hv2' hc2w g0 g1 gf
      go_upto_block 2 with (at_make; refine wpList_make_own _ rfl _ _ 68 rfl wq.heap.size tActs i1 _ 1 Tryz.underlying68 hj1 hy0 hy1 .i64 .i64 _ txs.length rfl rfl rfl (by rw [hy2]; omega) (by simp only [maxLen]; omega) (Nat.le_refl _) ?_; intro w1 hown1 hgr1; have hk1 := Kp.of_grown hgr1)
      have HOWN1 := Lib.hid hown1
      have HK1 := Lib.hid hk1
      have c5 := (hk1.cellAt hc2 (by simp)).1
      clear hown1 hgr1 hk1 c5 hc2
      go_cut [6] (fun s6 wx => Kp [] wq wx ∧ TxsAt wx (fun x => wq.heap.size ≤ x) s6 txs)
      case first =>
        go_wp2_with fail
        go_loopw [6, 29] (fun s6 i wi => ∃ (j : Nat) (ux : List Value), j ≤ txs.length ∧ i = .int .i64 j ∧ s6 = .slice (some ⟨wq.heap.size, 0, none⟩) j txs.length ∧ Kp [] wq wi ∧ wi.ownsRow wq.heap.size tActs 1 (.slice (some ⟨wq.heap.size, 0, none⟩) j txs.length) j ux ∧
          ∀ (q : Nat) u acts, ux[q]? = some u → txs[q]? = some acts → RdP wi (fun x => wq.heap.size < x) u acts.length (flatA acts)) (fun _ i _ => txs.length + 1 - (intOf i).toNat)
        case atStart => exact ⟨0, [], by omega, rfl, rfl, HK1.out, HOWN1.out, by simp⟩
        case round =>
          rename World => wi
          obtain ⟨j, ux, hj, rfl, rfl, hki, howni, halli⟩ := hrel
          by_cases hltj : j < txs.length
          · obtain ⟨acts, ha⟩ : ∃ x, txs[j]? = some x := ⟨txs[j], by simp [hltj]⟩
            have hkwi := HKW2.out.trans hki (by simp)
            obtain ⟨b4, o4, cc4, v4, hv4, hc4w, hR⟩ := HT.out.row ha
            obtain ⟨rfl, rfl⟩ : a3 = some ⟨b4, o4, none⟩ ∧ c3 = cc4 := by simpa using hv4
            obtain ⟨a5, c5, rfl, hcc5⟩ := id hR
            have hac := HPo.out.ac k j txs acts HX.out ha
            obtain ⟨b5, o5, rfl, _, hb5, hcell5⟩ := hcc5 (by omega)
            have hc4 := (hkwi.cellAt hc4w (by simp)).1
            have hcell6 : ∀ q u, (flatA acts)[q]? = some u → wi.cell? ⟨b5, o5 + q, none⟩ = some u := fun q u hq => (hkwi.cellAt (hcell5 q u hq) (by simp)).1
            have hb6 := (hkwi.blk b5 hb5 (by simp)).1
            have hfla : (flatA acts).length = acts.length * 3 := flat_len Ac.cells 3 (fun _ => rfl) acts
            have hone3 : ∀ u ∈ flatA acts, u.oneCell' = true := by
              intro u hu
              simp [flatA, Ac.cells] at hu
              obtain ⟨x, _, hx⟩ := hu
              rcases hx with rfl | rfl | rfl <;> rfl
            have hwi : wq.heap.size < wi.heap.size := (howni.lt wq.heap.size rfl).2
            have HA := Lib.hid ha
            have HCE := Lib.hid hcell6
            have HOWNI := Lib.hid howni
            have HALLI := Lib.hid halli
            have HKI := Lib.hid hki
            clear ha hkwi hv4 hc4w hR hcc5 hcell5 hcell6 howni halli hki
            go_wp2_with (first
              | (at_make; refine wpList_make_own _ rfl _ _ 67 rfl wi.heap.size 70 i3 _ 3 Tryz.underlying67 hj3 hv0 hv1 .i64 .i64 _ acts.length rfl rfl rfl (by rw [hv2]; omega) (by simp only [maxLen]; omega) (Nat.le_refl _) ?_; intro w2 hown2 hgr2; have hk2 := Kp.of_grown hgr2)
              | (at_builtin; refine wpList_append_fits w2 rfl (.tmp 36) (.tmp 37) 67 rfl wi.heap.size 70 i3 3 Tryz.underlying67 hj3 hv1 wi.heap.size 0 acts.length [] rfl hown2 ⟨b5, o5, none⟩ acts.length c5 (flatA acts) rfl hfla (fun q u hq => by rw [add_at]; exact (hk2.cellAt (HCE.out q u hq) (by simp)).1) hone3 (by omega) ?_; intro w3 hown3 hgr3; have hk3 := Kp.of_grown hgr3)
              | (at_builtin; (refine wpList_append_fits _ rfl (.tmp 33) (.tmp 39) 68 rfl wq.heap.size tActs i1 1 Tryz.underlying68 hj1 hy1 wq.heap.size j txs.length ux rfl (own_kp HOWNI.out ((hk2.trans hk3 (fun x hx hl => by simp at hx; omega)).alloc _) (by simp)) ⟨w3.heap.size, 0, none⟩ 1 1 [.slice (some ⟨wi.heap.size, 0, none⟩) acts.length acts.length] rfl rfl (news_of (heap_alloc_new w3 _)) (by intro u hu; simp at hu; subst hu; rfl) (by omega) ?_; intro w4 hown4 hgr4; have hk4 := Kp.of_grown hgr4)))
            have hk23 : Kp [] wi w3 := hk2.trans hk3 (fun x hx hl => by simp at hx; omega)
            have hk34 : Kp [wq.heap.size] wi w4 := ((hk23.alloc _).mono (T := [wq.heap.size]) (fun x hx _ => by simp at hx)).trans hk4 (fun x hx _ => hx)
            have hown3' : w3.ownsRow wi.heap.size 70 3 (.slice (some ⟨wi.heap.size, 0, none⟩) acts.length acts.length) acts.length (flatA acts) := by simpa using hown3
            have hrd3 : RdP w4 (fun x => wq.heap.size < x) (.slice (some ⟨wi.heap.size, 0, none⟩) acts.length acts.length) acts.length (flatA acts) := ((own_rdP (P := fun x => wq.heap.size < x) hown3' (fun x hx => by simp [Value.ownBlock] at hx; omega)).kp (S := []) ((Kp.refl _ _).alloc _) (by simp)).kp hk4 (fun x hx hl => by simp at hx; omega)
            go_roundw
            case rel => exact ⟨j + 1, ux ++ [.slice (some ⟨wi.heap.size, 0, none⟩) acts.length acts.length], by omega, by go_num, rfl, (HKI.out.trans (hk34) (fun x hx hl => by simp at hx; omega)), hown4, fun q u acts' hq hq2 => by
              have hlx : ux.length = j := by simpa using HOWNI.out.1
              by_cases hqj : q < ux.length
              · rw [List.getElem?_append_left hqj] at hq
                exact (HALLI.out q u acts' hq hq2).kp hk34 (fun x hx hl => by simp at hx; omega)
              · have : q = ux.length := by have := (List.getElem?_eq_some_iff.1 hq).1; simp at this; omega
                subst this
                simp at hq
                subst hq
                rw [hlx, HA.out] at hq2
                cases hq2
                exact hrd3⟩
            case measure => simp [intOf]; omega
          · obtain rfl : j = txs.length := by omega
            have HKI := Lib.hid hki
            have HOWNI := Lib.hid howni
            have HALLI := Lib.hid halli
            clear hki howni halli
            go_wp2_with fail
            go_meet
            have hlx : ux.length = txs.length := by simpa using HOWNI.out.1
            refine ⟨HKI.out, ux, hlx, ?_, fun q u acts hu ha => (HALLI.out q u acts hu ha).mono (fun x _ h => Nat.le_of_lt h)⟩
            exact own_rdP (P := fun x => wq.heap.size ≤ x) HOWNI.out (fun x hx => by simp [Value.ownBlock] at hx; omega)
      case rest =>
      obtain ⟨hkx, hTx⟩ := hcut
      obtain ⟨a6, c6, rfl⟩ := hTx.len
      have g1 := (hkx.cellAt G1.out (by simp)).1
      have hb3c := (hkx.blk b3 hb3r (by simp)).1
      have gf : ∀ j, wc.frozen? ⟨b3, j, none⟩ = false := fun j => (hkx.frozen hb3r (by simp)).trans (GF.out j)
      have hvb' : b3 ∉ vk.ownBlock.toList := fun h => hvb (by simpa using h)
      have hownc := own_kp HOWN.out hkx (by simp)
      have HOWNC := Lib.hid hownc
      have HKX := Lib.hid hkx
      have HTX := Lib.hid hTx
      have hWwc : W.heap.size ≤ wc.heap.size := Nat.le_trans HKR.out.size hkx.size
      have hmx2 : k + 1 ≤ maxLen := by simp only [maxLen]; omega
      have hby2 : (k + 1) * 24 ≤ 140737488355328 := by omega
      clear hownc hkx hTx
      go_wp2_with (at_builtin; refine wpList_append_lies (w := _) (hgd := by rfl) (s := .tmp 43) (x := .tmp 45) (t := 23) (ho := by rfl) (base := W.heap.size) (e := tTxs) (i := i2) (z := .slice none 0 0) (size := 1) (bytes := 24) (ht := Tryz.underlying23) (hi := hj2) (hz := hu0) (hsize := hu1) (hby := hu2) (hzs := by rfl) (hsz := by decide) (v := vk) (n := k) (xs := us) (hs := by rfl) (hown := by exact own_kp HOWNC.out ((Kp.refl [] _).alloc _) (by simp)) (ad := ⟨wc.heap.size, 0, none⟩) (m := 1) (c := 1) (news := [.slice a6 txs.length c6]) (hx := by rfl) (hl := by rfl) (hnews := by exact news_of (heap_alloc_new wc _)) (h1 := by intro u hu; simp at hu; subst hu; rfl) (hm := by decide) (h63 := hmx2) (hbytes := hby2) (hbase := by simp; omega) (H := _) (hH := by rfl) ?_; intro g cap w5 hown5 hgr5 hat5 hlt5; have hk5 := Kp.of_grown hgr5; obtain ⟨lb5, cb5, fb5⟩ := hk5.blk b3 (by simp; omega) hvb')
      have HK5 := Lib.hid hk5
      have HOWN5 := Lib.hid hown5
      have hg5 : (vk.ownBlock = some g ∨ g = wc.heap.size + 1) := by
        rcases hat5 with h | h
        · exact .inl h
        · right; rw [h]; simp
      have c50 : w5.cell? ⟨b3, 0, none⟩ = some vc' := (cb5 0).trans ((((Kp.refl [] wc).alloc _).cellAt (HKX.out.cellAt G0.out (by simp)).1 (by simp)).1)
      have c51 : w5.cell? ⟨b3, 1, none⟩ = some vk := (cb5 1).trans ((((Kp.refl [] wc).alloc _).cellAt g1 (by simp)).1)
      have f5 : ∀ j, w5.frozen? ⟨b3, j, none⟩ = false := fun j => (fb5 j).trans ((((Kp.refl [] wc).alloc _).frozen hb3c (by simp)).trans (gf j))
      go_roundw
      case rel =>
        have hks : Kp [b3] w5 (w5.setCell ⟨b3, 1, none⟩ (.slice (some ⟨g, 0, none⟩) (k + 1) cap)) := (Kp.refl _ _).setCell _ _ (fun _ => by simp)
        have hka : Kp [] wq (wc.alloc (.cells #[.slice a6 txs.length c6] tTxs)) := HKX.out.alloc _
        have hgb3 : g ≠ b3 := by
          rcases hg5 with h | h
          · intro e0; subst e0; exact hvb h
          · omega
        have hkW5 : Kp [] W w5 := ((HKR.out.trans HKX.out (by simp)).alloc _).trans HK5.out (fun x hx hl => by have := (HOWNC.out.lt x (by simpa using hx)).1; omega)
        have hstr : ∀ x, x < (wc.alloc (.cells #[.slice a6 txs.length c6] tTxs)).heap.size → W.heap.size ≤ x → x ≠ b3 → vk.ownBlock ≠ some x → g ≠ x := by
          intro x hx _ _ h2 e0
          subst e0
          rcases hg5 with h | h
          · exact h2 h
          · simp at hx; omega
        have hS5 : ∀ x ∈ vk.ownBlock.toList, ¬ (W.heap.size ≤ x ∧ x ≠ b3 ∧ vk.ownBlock ≠ some x ∧ g ≠ x) := fun x hx h => h.2.2.1 (by simpa using hx)
        have hSb : ∀ x ∈ [b3], ¬ (W.heap.size ≤ x ∧ x ≠ b3 ∧ vk.ownBlock ≠ some x ∧ g ≠ x) := fun x hx h => h.2.1 (by simpa using hx)
        refine ⟨k + 1, us ++ [.slice a6 txs.length c6], .slice (some ⟨g, 0, none⟩) (k + 1) cap, by omega, by go_num, hkW5.setCell _ _ (fun h => absurd h (by simp; omega)), by rw [World.size_setCell]; exact lb5, ?_, ?_, ?_, ?_, ?_, ?_, ?_⟩
        · simp [go_sem, c50]
        · rw [World.cell?_setCell_same' _ _ _ (by rw [c51]; rfl)]
        · intro j; rw [World.frozen?_setCell]; exact f5 j
        · exact (((((HRC.out.kp hka (by simp)).mono (Q := fun x => W.heap.size ≤ x ∧ x ≠ b3 ∧ vk.ownBlock ≠ some x ∧ g ≠ x) (fun x hx h => ⟨h.1, h.2.1, h.2.2, hstr x hx h.1 h.2.1 h.2.2⟩)).kp HK5.out hS5).kp hks hSb)).mono (fun x _ h => ⟨h.1, h.2.1, by simp [Value.ownBlock]; exact h.2.2.2⟩)
        · exact own_kp HOWN5.out hks (fun x hx => by simp [Value.ownBlock] at hx; subst hx; simpa using hgb3)
        · simp [Value.ownBlock]; exact hgb3
        · intro j u txs' hu ht'
          have hlx : us.length = k := by simpa using HOWN.out.1
          by_cases hjl : j < us.length
          · rw [List.getElem?_append_left hjl] at hu
            exact (((((HALL.out j u txs' hu ht').kp hka (by simp)).mono (Q := fun x => W.heap.size ≤ x ∧ x ≠ b3 ∧ vk.ownBlock ≠ some x ∧ g ≠ x) (fun x hx h => ⟨h.1, h.2.1, h.2.2, hstr x hx h.1 h.2.1 h.2.2⟩)).kp HK5.out hS5).kp hks hSb).mono (fun x _ h => ⟨h.1, h.2.1, by simp [Value.ownBlock]; exact h.2.2.2⟩)
          · have : j = us.length := by have := (List.getElem?_eq_some_iff.1 hu).1; simp at this; omega
            subst this
            simp at hu
            subst hu
            rw [hlx, HX.out] at ht'
            cases ht'
            have hWq := HKR.out.size
            have hvlt : ∀ x, vk.ownBlock = some x → x < wq.heap.size := fun x hx => (HOWN.out.lt x hx).2
            refine (((((HTX.out.kp (S := []) ((Kp.refl _ _).alloc _) (by simp)).mono (Q := fun x => W.heap.size ≤ x ∧ x ≠ b3 ∧ vk.ownBlock ≠ some x ∧ g ≠ x) (fun x hx h => ?_)).kp HK5.out hS5).kp hks hSb)).mono (fun x _ h => ⟨h.1, h.2.1, by simp [Value.ownBlock]; exact h.2.2.2⟩)
            have h2 : vk.ownBlock ≠ some x := fun e0 => by have := hvlt x e0; omega
            have h3 : x ≠ b3 := by omega
            exact ⟨by omega, h3, h2, hstr x hx (by omega) h3 h2⟩
      case measure => simp [intOf]; omega
    · obtain rfl : k = p.ths.length := by omega
      have HALL := Lib.hid hall
      have HOWN := Lib.hid hown
      have HRC := Lib.hid hrc
      have HKR := Lib.hid hkr
      clear hall hown hrc hkr
      obtain ⟨a7, c7, rfl⟩ := own_len0 HOWN.out
      obtain ⟨a8, c8, hv8, _⟩ := id HRC.out
      subst hv8
      have r0 := (HKR.out.cellAt HR0.out.1 (by simp)).1
      have r1 := (HKR.out.cellAt HR0.out.2.1 (by simp)).1
      have rf : ∀ j, wq.frozen? ⟨br, j, none⟩ = false := fun j => (HKR.out.frozen (by omega) (by simp)).trans (HR0.out.2.2 j)
      have hkw := HKW.out.trans HKR.out (by simp)
      go_wp2
      have hbrw := HBR.out
      have hfin : ∀ w', Kp [br] wq w' → PgAt w' (fun x => w.heap.size ≤ x ∧ x < w'.heap.size) (.slice a8 p.cells.length c8) (.slice a7 p.ths.length c7) p ∧ Kp [] w w' := by
        intro w' hk'
        have hlx : us.length = p.ths.length := by simpa using HOWN.out.1
        have hS : ∀ x ∈ [br], ¬ (W.heap.size ≤ x) := fun x hx => by simp at hx; omega
        refine ⟨⟨?_, us, hlx, ?_, fun i u txs hu ht => ?_⟩, hkw.trans hk' (fun x hx hl => by simp at hx; omega)⟩
        · exact ((HRC.out.mono (Q := fun x => W.heap.size ≤ x) (fun x _ h => h.1)).kp hk' hS).mono (fun x hx h => ⟨by omega, hx⟩)
        · exact ((own_rdP (P := fun x => W.heap.size ≤ x) HOWN.out (fun x hx => (HOWN.out.lt x hx).1)).kp hk' hS).mono (fun x hx h => ⟨by omega, hx⟩)
        · exact (((HALL.out i u txs hu ht).mono (Q := fun x => W.heap.size ≤ x) (fun x _ h => h.1)).kp hk' hS).mono (fun x hx h => ⟨by omega, hx⟩)
      refine bodyPost_ret (v := .agg #[.slice a8 p.cells.length c8, .slice a7 p.ths.length c7]) ?_ rfl ?_
      · simp [results, Tryz.results69, go_sem, r0, r1]
      · have h1 := hfin ((wq.setCell ⟨br, 0, none⟩ (.slice a8 p.cells.length c8)).setCell ⟨br, 1, none⟩ (.slice a7 p.ths.length c7)) (by repeat (first | (with_reducible exact Kp.refl _ _) | refine Kp.setCell ?_ _ _ (fun _ => by simp)))
        exact ⟨⟨_, _, rfl, h1.1⟩, h1.2⟩
end Go.Proofs.YtbogjkggfdhckaaGreatDoor

/-
  the laws of chapter 21: small.
-/
namespace Go.Proofs.YtbogjkggfdhckaaGreatDoor
open Go.RowKit Go.Um

set_option maxRecDepth 100000 in
set_option maxHeartbeats 2000000 in
theorem small_any (P : Nat → Prop) (p : Pg) (vc vt : Value) (w : World) (h : PgAt w P vc vt p) :
    Calls Tryz.prog 11 #[.agg #[vc, vt]] w fun r w' => ((r = .returned (.bool true) ∧ p.ths.length ≤ 20) ∨ r = .returned (.bool false)) ∧ Kp [] w w' := by
  have H := Lib.hid h
  obtain ⟨⟨ac, cc, rfl, _⟩, us, hus, ⟨at_, ct, rfl, hrow⟩, _⟩ := h
  clear hus hrow
  go_enter Tryz.func11, Tryz.ntmps11
  go_upto_region 1 with fail
  refine wp_gen fun W hW => ?_
  have hkW : Kp [] w W := by rw [hW]; exact (Kp.refl _ _).alloc _
  obtain ⟨be, hbe⟩ : ∃ x, x = w.heap.size := ⟨_, rfl⟩
  have e0 : W.cell? ⟨be, 0, none⟩ = some (.slice ac p.cells.length cc) := by rw [hW, hbe]; simp [go_sem]
  have e1 : W.cell? ⟨be, 1, none⟩ = some (.slice at_ p.ths.length ct) := by rw [hW, hbe]; simp [go_sem]
  have hl := World.block_lt_of_cell? W _ e0
  dsimp only at hl
  rw [← hbe]
  have HKW := Lib.hid hkW
  clear hW hbe hkW
  go_wp2
  go_loopw [3, 4] (fun s3 s4 wr => ∃ (x : Int) (i : Nat), s3 = .int .i64 x ∧ s4 = .int .i64 i ∧ i ≤ 21 ∧ Kp [] W wr) (fun _ s4 _ => 22 - (intOf s4).toNat)
  case atStart => exact ⟨0, 0, rfl, rfl, by omega, Kp.refl _ _⟩
  case round =>
    obtain ⟨x, i, rfl, rfl, hi, hkr⟩ := hrel
    replace e0 := (hkr.cellAt e0 (by simp)).1
    replace e1 := (hkr.cellAt e1 (by simp)).1
    replace hl := (hkr.blk be hl (by simp)).1
    have HI := Lib.hid hi
    have HKR := Lib.hid (HKW.out.trans hkr (by simp))
    have HKR' := Lib.hid hkr
    clear hi hkr
    by_cases hg : i < p.ths.length ∧ i ≤ 20
    · obtain ⟨g1, g2⟩ := hg
      obtain ⟨txs, htx⟩ : ∃ txs, p.ths[i]? = some txs := ⟨p.ths[i], by simp [g1]⟩
      obtain ⟨b, o, c, u, hv, hcell, hT⟩ := (H.out.kp HKR.out (by simp)).row htx
      obtain ⟨rfl, rfl⟩ : at_ = some ⟨b, o, none⟩ ∧ ct = c := by simpa using hv
      have HT := Lib.hid hT
      obtain ⟨us', hus', ⟨au, cu, rfl, _⟩, _⟩ := hT
      have bl := World.block_lt_of_cell? _ _ hcell
      dsimp only at bl
      clear hv htx hus'
      rename World => wq
      go_wp2
      all_goals
        go_loopw [3, 5] (fun s3 s5 wr => ∃ (x : Int) (k : Nat), s3 = .int .i64 x ∧ s5 = .int .i64 k ∧ k ≤ 21 ∧ Kp [] wq wr) (fun _ s5 _ => 22 - (intOf s5).toNat)
        case atStart => exact ⟨_, 0, rfl, rfl, by omega, Kp.refl _ _⟩
        case round =>
          obtain ⟨x, k, rfl, rfl, hk, hkr⟩ := hrel
          replace e0 := (hkr.cellAt e0 (by simp)).1
          replace e1 := (hkr.cellAt e1 (by simp)).1
          replace hl := (hkr.blk be hl (by simp)).1
          replace hcell := (hkr.cellAt hcell (by simp)).1
          replace bl := (hkr.blk b bl (by simp)).1
          have HK := Lib.hid hk
          have HKQ := Lib.hid hkr
          clear hk hkr
          by_cases hg : k < txs.length ∧ k ≤ 20
          · obtain ⟨g3, g4⟩ := hg
            obtain ⟨acts, hac⟩ : ∃ acts, txs[k]? = some acts := ⟨txs[k], by simp [g3]⟩
            obtain ⟨b', o', c', u', hv, hcell', ⟨av, cv, rfl, _⟩⟩ := (HT.out.kp HKQ.out (by simp)).row hac
            obtain ⟨rfl, rfl⟩ : au = some ⟨b', o', none⟩ ∧ cu = c' := by simpa using hv
            have bl' := World.block_lt_of_cell? _ _ hcell'
            dsimp only at bl'
            clear hv hac
            go_wp2
            all_goals
              go_roundw
              case rel => exact ⟨_, k + 1, rfl, by go_num, by omega, HKQ.out⟩
              case measure => simp [intOf]; omega
          · rcases (show ¬ k < txs.length ∨ (k < txs.length ∧ ¬ k ≤ 20) from by omega) with hg | ⟨hg1, hg2⟩
            · go_wp2
              go_roundw
              case rel => exact ⟨_, i + 1, rfl, by go_num, by omega, HKR'.out.trans HKQ.out (by simp)⟩
              case measure => simp [intOf]; omega
            · go_wp2
              go_roundw
              case rel => exact ⟨_, i + 1, rfl, by go_num, by omega, HKR'.out.trans HKQ.out (by simp)⟩
              case measure => simp [intOf]; omega
    · have hfin : ∀ (x : Int), (x ≤ 300 ∨ ¬ x ≤ 300) := fun x => by omega
      rcases (show ¬ i < p.ths.length ∨ (i < p.ths.length ∧ ¬ i ≤ 20) from by omega) with hg | ⟨hg1, hg2⟩
      all_goals
        by_cases q1 : p.ths.length ≤ 20
        · first
            | (exfalso; omega)
            | (by_cases q2 : p.cells.length ≤ 100
               · by_cases q3 : x ≤ 300
                 all_goals go_wp2
                 all_goals go_ret
                 all_goals first | exact ⟨.inl rfl, HKR.out⟩ | exact ⟨.inr rfl, HKR.out⟩ | exact ⟨rfl, HKR.out⟩
               · go_wp2
                 go_ret
                 first | exact ⟨.inl rfl, HKR.out⟩ | exact ⟨.inr rfl, HKR.out⟩ | exact ⟨rfl, HKR.out⟩)
        · go_wp2
          go_ret
          first | exact ⟨.inl rfl, HKR.out⟩ | exact ⟨.inr rfl, HKR.out⟩ | exact ⟨rfl, HKR.out⟩
end Go.Proofs.YtbogjkggfdhckaaGreatDoor

/-
  prog: Start.
-/
namespace Go.Proofs.YtbogjkggfdhckaaGreatDoor
open Go.RowKit Go.Um

def t0Th : Th := ⟨0, 0, false, false, 0, 0⟩
def ths0 (p : Pg) : List Th := p.ths.map (fun _ => t0Th)
theorem info_thr : (Tryz.prog.info? tThr).map (fun i => (i.zero, i.size, i.bytes)) = some (some (.agg #[.int .i64 0, .int .i64 0, .bool false, .bool false, .int .i64 0, .int .i64 0]), 6, 40) := by kernel_rfl
theorem made1 : (madeCells #[.int .i64 0, .int .i64 0, .bool false, .bool false, .int .i64 0, .int .i64 0] 6).toList = flatT [t0Th] := by kernel_rfl
theorem made2 : (madeCells #[.int .i64 0, .int .i64 0, .bool false, .bool false, .int .i64 0, .int .i64 0] 12).toList = flatT [t0Th, t0Th] := by kernel_rfl
theorem made3 : (madeCells #[.int .i64 0, .int .i64 0, .bool false, .bool false, .int .i64 0, .int .i64 0] 18).toList = flatT [t0Th, t0Th, t0Th] := by kernel_rfl
theorem made4 : (madeCells #[.int .i64 0, .int .i64 0, .bool false, .bool false, .int .i64 0, .int .i64 0] 24).toList = flatT [t0Th, t0Th, t0Th, t0Th] := by kernel_rfl
theorem made_ths (p : Pg) (h1 : 1 ≤ p.ths.length) (h4 : p.ths.length ≤ 4) : (madeCells #[.int .i64 0, .int .i64 0, .bool false, .bool false, .int .i64 0, .int .i64 0] (p.ths.length * 6)).toList = flatT (ths0 p) := by
  unfold ths0
  match p.ths, h1, h4 with
  | [_], _, _ => exact made1
  | [_, _], _, _ => exact made2
  | [_, _, _], _, _ => exact made3
  | [_, _, _, _], _, _ => exact made4
set_option maxRecDepth 100000 in
set_option maxHeartbeats 2000000 in
theorem start_bad (E : Nat → Addr) (P : Nat → Prop) (p : Pg) (vc vt : Value) (w : World) (hG : Gl E w) (h : PgAt w P vc vt p) (hp : p.ok = false) :
    Calls Tryz.prog 68 #[.agg #[vc, vt]] w fun r w' => r = .returned (.tuple #[.pointer none, errV E 10]) ∧ Kp [] w w' := by
  have hV : ∀ W, Kp [] w W → _ := fun W hW => valid_prog E P p vc vt W (hG.kp0 hW) (h.kp hW (by simp))
  rw [hp] at hV
  simp only [Bool.false_eq_true, if_false] at hV
  obtain ⟨⟨ac, cc, rfl, _⟩, us, _, ⟨at_, ct, rfl, _⟩, _⟩ := h
  unfold errV at hV ⊢
  have HV := Lib.hid hV
  clear hG hV hp
  go_enter Tryz.func68, Tryz.ntmps68
  go_wp2_with (go_at_call 104; refine (HV.out _ ((Kp.refl _ _).alloc _)).mono ?_; rintro e w1 ⟨rfl, hk1⟩; have HK1 := Lib.hid hk1; clear hk1)
  refine bodyPost_ret (v := .tuple #[.pointer none, .iface 238 (.pointer (some (E 10)))]) ?_ rfl ⟨rfl, ((Kp.refl _ _).alloc _).trans HK1.out (by simp)⟩
  simp [results, Tryz.results68, go_sem]

/-- A walk that begins. -/
theorem walk_new {w w' : World} {bw gt : Nat} {P : Nat → Prop} {p : Pg} {vc vt : Value} {cs : Array Value} (hp : PgOk p) (hl : bw < w'.heap.size) (hf : ∀ j, w'.frozen? ⟨bw, j, none⟩ = false) (h0 : w'.cell? ⟨bw, 0, none⟩ = some vc) (h1 : w'.cell? ⟨bw, 1, none⟩ = some vt) (h2 : w'.cell? ⟨bw, 2, none⟩ = some (.slice (some ⟨gt, 0, none⟩) p.ths.length p.ths.length)) (h3 : w'.cell? ⟨bw, 3, none⟩ = some (.slice none 0 0))
    (hpg : PgAt w' P vc vt p) (hb : w'.heap[gt]? = some (.cells cs tThr (0, 0))) (hcs : cs = madeCells #[.int .i64 0, .int .i64 0, .bool false, .bool false, .int .i64 0, .int .i64 0] (p.ths.length * 6)) (hgw : w.heap.size ≤ gt) (hd : gt ≠ bw) (hp0 : ∀ x, P x → x < w'.heap.size) (hp1 : ¬ P bw) (hp2 : ¬ P gt) :
    WalkAt w' bw w.heap.size P p vc vt (ths0 p) gt p.ths.length [] (.slice none 0 0) := by
  have hlen : (ths0 p).length = p.ths.length := by simp [ths0]
  have h4 := hp.t4
  have ho := own_of_block (n := p.ths.length) (sz := 6) hb (by rw [hcs, size_madeCells]) (by simp only [maxLen]; omega) hgw
  rw [hcs, made_ths p hp.t1 hp.t4] at ho
  exact { lt := hl, fz := hf, c0 := h0, c1 := h1, c2 := by rw [hlen]; exact h2, c3 := h3, ne := hlen, pg := hpg, ow := by rw [hlen]; exact ho, oe := World.ownsRow_nil _ _ _ _, d1 := hd, d2 := by simp [Value.ownBlock], d3 := by simp [Value.ownBlock], p0 := hp0, p1 := hp1, p2 := hp2, p3 := by simp [Value.ownBlock] }

set_option maxRecDepth 100000 in
set_option maxHeartbeats 2000000 in
theorem start_ok (E : Nat → Addr) (P : Nat → Prop) (p : Pg) (vc vt : Value) (w : World) (hG : Gl E w) (h : PgAt w P vc vt p) (hp : p.ok = true) :
    Calls Tryz.prog 68 #[.agg #[vc, vt]] w fun r w' => (∃ bw P' vc' vt' gt ct, r = .returned (.tuple #[.pointer (some ⟨bw, 0, none⟩), .nilIface]) ∧ (∀ x, P' x → w.heap.size ≤ x) ∧ w.heap.size ≤ bw ∧ w.heap.size ≤ gt ∧ WalkAt w' bw w.heap.size P' p vc' vt' (ths0 p) gt ct [] (.slice none 0 0)) ∧ Kp [] w w' := by
  have hpo := Pg.ok.all hp
  have hV : ∀ W, Kp [] w W → Calls Tryz.prog 104 #[.agg #[vc, vt]] W fun r w' => r = .returned .nilIface ∧ Kp [] W w' := fun W hW => (valid_prog E P p vc vt W (hG.kp0 hW) (h.kp hW (by simp))).mono fun r w' h => by rw [hp] at h; exact h
  have hC : ∀ W, Kp [] w W → _ := fun W hW => clone_any P p vc vt W (h.kp hW (by simp)) hpo
  have ht1 := hpo.t1
  have ht4 := hpo.t4
  obtain ⟨⟨ac, cc, rfl, _⟩, us, _, ⟨at_, ct, rfl, _⟩, _⟩ := h
  obtain ⟨i0, hi', hz0, hz1, hz2⟩ := info_parts info_thr
  have hmk : ∀ W : World, (Instr.makeSlice 165 (.int .i64 p.ths.length) (.int .i64 p.ths.length)).run Tryz.prog W = .ok (.slice (some ⟨W.heap.size, 0, none⟩) p.ths.length p.ths.length) (W.alloc (.cells (madeCells (Value.agg #[.int .i64 0, .int .i64 0, .bool false, .bool false, .int .i64 0, .int .i64 0]).cells (p.ths.length * 6)) tThr)) := fun W => by
    have := run_makeSlice (P := Tryz.prog) (w := W) 165 tThr i0 _ Tryz.underlying165 hi' hz0 .i64 .i64 p.ths.length p.ths.length (by omega) (by omega) (by rw [hz1]; simp; omega) (by rw [hz2]; omega) (by omega)
    rw [this, hz1]
    simp only [Int.toNat_natCast]
  have HV := Lib.hid hV
  have HC := Lib.hid hC
  have HPO := Lib.hid hpo
  clear hG hV hp hC hpo
  go_enter Tryz.func68, Tryz.ntmps68
  go_upto_region 4 with (go_at_call 104; go_loud (refine (HV.out _ ((Kp.refl _ _).alloc _)).mono ?_; rintro e w1 ⟨rfl, hk1⟩; obtain ⟨lb, cb, fb⟩ := hk1.blk w.heap.size (by simp) (by simp); have HK1 := Lib.hid (((Kp.refl [] w).alloc _).trans hk1 (by simp)); clear hk1))
  have e0 : w1.cell? ⟨w.heap.size, 0, none⟩ = some (.slice ac p.cells.length cc) := by rw [cb]; simp
  have e1 : w1.cell? ⟨w.heap.size, 1, none⟩ = some (.slice at_ p.ths.length ct) := by rw [cb]; simp
  clear cb fb
  obtain ⟨be, hbe⟩ : ∃ x, x = w.heap.size := ⟨_, rfl⟩
  rw [← hbe] at e0 e1 lb ⊢
  have HBE := Lib.hid hbe
  clear hbe
  have d0 : w1.drew.cell? ⟨be, 0, none⟩ = some (.slice ac p.cells.length cc) := e0
  have d1 : w1.drew.cell? ⟨be, 1, none⟩ = some (.slice at_ p.ths.length ct) := e1
  go_region_held_law (fun w' => w'.cell? ⟨be, 0, none⟩ = some (.slice ac p.cells.length cc) ∧ w'.cell? ⟨be, 1, none⟩ = some (.slice at_ p.ths.length ct)) (first | (with_reducible exact ⟨d0, d1⟩) | (with_reducible exact ⟨s0, s1⟩) | exact ⟨((((Kp.refl [] w1).alloc _).drew).cellAt e0 (by simp)).1, ((((Kp.refl [] w1).alloc _).drew).cellAt e1 (by simp)).1⟩ | exact ⟨(((Kp.refl [] w2).alloc _).cellAt s0 (by simp)).1, (((Kp.refl [] w2).alloc _).cellAt s1 (by simp)).1⟩ | exact ⟨((((Kp.refl [] w2).alloc _).alloc _).cellAt s0 (by simp)).1, ((((Kp.refl [] w2).alloc _).alloc _).cellAt s1 (by simp)).1⟩ | (trace_state; fail)) (first | (go_at_call 69; refine (HC.out _ (by first | exact HK1.out.drew | exact (HK1.out.alloc _).drew)).mono ?_; rintro r w2 ⟨⟨vc', vt', rfl, hpg⟩, hk2⟩; have hkA := (hk2.cellAt (k := be) (o := 0) (v := .slice ac p.cells.length cc) (by first | exact d0 | exact ((((Kp.refl [] w1).alloc _).drew).cellAt e0 (by simp)).1) (by simp)); have s0 := hkA.1; have s1 := (hk2.cellAt (k := be) (o := 1) (v := .slice at_ p.ths.length ct) (by first | exact d1 | exact ((((Kp.refl [] w1).alloc _).drew).cellAt e1 (by simp)).1) (by simp)).1; have HPG := Lib.hid hpg; have HK2 := Lib.hid hk2; clear hpg hk2 hkA))
  all_goals go_wp2
  · have hs1 : w1.heap.size ≤ w2.heap.size := HK2.out.size
    have hw1 : w.heap.size ≤ w1.heap.size := HK1.out.size
    refine bodyPost_ret (v := .tuple #[.pointer (some ⟨w2.heap.size + 1, 0, none⟩), .nilIface]) (by simp [results, Tryz.results68, go_sem]) rfl ⟨⟨w2.heap.size + 1, _, vc', vt', w2.heap.size, p.ths.length, rfl, fun x hx => ?_, by omega, by omega, walk_new HPO.out (by simp) (fun j => by simp [go_sem]) (by simp [go_sem]) (by simp [go_sem]) (by simp [go_sem]) (by simp [go_sem]) (HPG.out.kp (S := []) (((Kp.refl _ _).alloc _).alloc _) (by simp)) (by rw [Below.heap_alloc _ _ _ (by simp)]; exact heap_alloc_new w2 _) rfl (by omega) (by omega) (fun x hx => by have := hx.2; simp; omega) (fun h => by have := h.2; omega) (fun h => by have := h.2; omega)⟩, (((HK1.out.drew).trans HK2.out (by simp)).alloc _).alloc _⟩
    have : w1.heap.size ≤ x := hx.1
    omega
  · have hs1 : w1.heap.size + 1 ≤ w2.heap.size := by have := HK2.out.size; simpa using this
    have hw1 : w.heap.size ≤ w1.heap.size := HK1.out.size
    refine bodyPost_ret (v := .tuple #[.pointer (some ⟨w2.heap.size, 0, none⟩), .nilIface]) (by simp [results, Tryz.results68, go_sem]) rfl ⟨⟨w2.heap.size, _, vc', vt', w1.heap.size, p.ths.length, rfl, fun x hx => ?_, by omega, by omega, walk_new HPO.out (by simp) (fun j => by simp [go_sem]) (by simp [go_sem]) (by simp [go_sem]) (by simp [go_sem]) (by simp [go_sem]) (HPG.out.kp (S := []) ((Kp.refl _ _).alloc _) (by simp)) (by rw [Below.heap_alloc _ _ _ (by omega), HK2.out.block w1.heap.size (by simp) (by simp)]; exact heap_alloc_new w1 _) rfl (by omega) (by omega) (fun x hx => by have := hx.2; simp; omega) (fun h => by have := h.2; omega) (fun h => by have := h.1; simp at this; omega)⟩, ((((HK1.out.alloc _).drew).trans HK2.out (by simp)).alloc _)⟩
    have h1 := hx.1
    simp at h1
    omega
end Go.Proofs.YtbogjkggfdhckaaGreatDoor

/-
  the laws of chapter 21: example.
-/
namespace Go.Proofs.YtbogjkggfdhckaaGreatDoor
open Go.RowKit Go.Um

def exP : Pg := ⟨[0, 0], [[[⟨2, 0, 1⟩, ⟨2, 1, 1⟩]], [[⟨1, 0, 0⟩, ⟨1, 1, 0⟩]]]⟩
theorem cf_ex1 (args : Array Value) (w : World) : (callFunc 62 args).run Tryz.prog w = .ok (.enter 62 args) w := cf_of Tryz.func62 (by kernel_rfl) rfl args w
theorem cf_ex2 (args : Array Value) (w : World) : (callFunc 63 args).run Tryz.prog w = .ok (.enter 63 args) w := cf_of Tryz.func63 (by kernel_rfl) rfl args w
theorem ex1_any (c : Int) (w : World) : Calls Tryz.prog 62 #[.int .i64 c] w fun r w' => r = .returned (.agg #[.int .i64 2, .int .i64 c, .int .i64 1]) ∧ Kp [] w w' := by
  go_enter Tryz.func62, Tryz.ntmps62
  go_wp2
  refine bodyPost_ret (v := .agg #[.int .i64 2, .int .i64 c, .int .i64 1]) ?_ rfl ⟨rfl, by repeat (first | (with_reducible exact Kp.refl _ _) | refine Kp.setCell ?_ _ _ (fun h => absurd h (by simp)) | refine Kp.alloc ?_ _)⟩
  simp [results, Tryz.results62, go_sem]
theorem ex2_any (c : Int) (w : World) : Calls Tryz.prog 63 #[.int .i64 c] w fun r w' => r = .returned (.agg #[.int .i64 1, .int .i64 c, .int .i64 0]) ∧ Kp [] w w' := by
  go_enter Tryz.func63, Tryz.ntmps63
  go_wp2
  refine bodyPost_ret (v := .agg #[.int .i64 1, .int .i64 c, .int .i64 0]) ?_ rfl ⟨rfl, by repeat (first | (with_reducible exact Kp.refl _ _) | refine Kp.setCell ?_ _ _ (fun h => absurd h (by simp)) | refine Kp.alloc ?_ _)⟩
  simp [results, Tryz.results63, go_sem]
/-- A slice that has just been built. -/
theorem rdP_new {P : Nat → Prop} {w : World} {cs : Array Value} {e : TypeId} {n c : Nat} {xs : List Value} (hP : P w.heap.size) (hx : cs.toList = xs) : RdP (w.alloc (.cells cs e)) P (.slice (some ⟨w.heap.size, 0, none⟩) n c) n xs := by
  refine ⟨_, c, rfl, fun _ => ⟨_, 0, rfl, hP, by simp, fun k x hk => ?_⟩⟩
  subst hx
  rw [World.cell?_alloc_new]
  simpa using hk
theorem txsAt_new {P : Nat → Prop} {w : World} {u : Value} {e : TypeId} {c : Nat} {acts : List Ac} (hP : P w.heap.size) (h : RdP w P u acts.length (flatA acts)) : TxsAt (w.alloc (.cells #[u] e)) P (.slice (some ⟨w.heap.size, 0, none⟩) 1 c) [acts] := by
  refine ⟨[u], rfl, rdP_new hP rfl, fun k u' acts' h1 h2 => ?_⟩
  match k, h1, h2 with
  | 0, h1, h2 =>
    simp at h1 h2
    subst h1 h2
    exact h.kp ((Kp.refl [] w).alloc _) (by simp)
  | k + 1, h1, _ => simp at h1
def ExRows (w : World) (P : Nat → Prop) (v : Value) : Prop := ∃ us, us.length = 2 ∧ RdP w P v 2 us ∧ ∀ (i : Nat) u txs, us[i]? = some u → exP.ths[i]? = some txs → TxsAt w P u txs
theorem ExRows.kp {w w' : World} {P : Nat → Prop} {v : Value} (h : ExRows w P v) (hk : Kp [] w w') : ExRows w' P v := by
  obtain ⟨us, h1, h2, h3⟩ := h
  exact ⟨us, h1, h2.kp hk (by simp), fun i u txs a b => (h3 i u txs a b).kp hk (by simp)⟩
theorem exRows_new {P : Nat → Prop} {w : World} {u1 u2 : Value} {e : TypeId} {c : Nat} (hP : P w.heap.size) (h1 : TxsAt w P u1 [[⟨2, 0, 1⟩, ⟨2, 1, 1⟩]]) (h2 : TxsAt w P u2 [[⟨1, 0, 0⟩, ⟨1, 1, 0⟩]]) : ExRows (w.alloc (.cells #[u1, u2] e)) P (.slice (some ⟨w.heap.size, 0, none⟩) 2 c) := by
  refine ⟨[u1, u2], rfl, rdP_new hP rfl, fun k u' txs a b => ?_⟩
  match k, a, b with
  | 0, a, b =>
    simp [exP] at a b
    subst a b
    exact h1.kp ((Kp.refl [] w).alloc _) (by simp)
  | 1, a, b =>
    simp [exP] at a b
    subst a b
    exact h2.kp ((Kp.refl [] w).alloc _) (by simp)
  | k + 2, a, _ => simp at a

set_option maxRecDepth 100000 in
set_option maxHeartbeats 4000000 in
theorem example_any (w : World) : Calls Tryz.prog 43 #[] w fun r w' => (∃ vc vt, r = .returned (.agg #[vc, vt]) ∧ PgAt w' (fun x => w.heap.size < x) vc vt exP) ∧ Kp [] w w' := by
  have hcf1 := cf_ex1
  have hcf2 := cf_ex2
  go_enter Tryz.func43, Tryz.ntmps43
  go_upto_region 3 with fail
  refine wp_gen fun W hW => ?_
  have hkW : Kp [] w W := by rw [hW]; exact (Kp.refl _ _).alloc _
  obtain ⟨be, hbe⟩ : ∃ x, x = w.heap.size := ⟨_, rfl⟩
  have e0 : W.cell? ⟨be, 0, none⟩ = some (.slice none 0 0) := by rw [hW, hbe]; simp [go_sem]
  have e1 : W.cell? ⟨be, 1, none⟩ = some (.slice none 0 0) := by rw [hW, hbe]; simp [go_sem]
  have ef : ∀ j, W.frozen? ⟨be, j, none⟩ = false := by intro j; rw [hW, hbe]; simp [go_sem]
  have hlt : w.heap.size < W.heap.size := by rw [hW]; simp
  rw [← hbe]
  have HKW := Lib.hid hkW
  have HBE := Lib.hid hbe
  clear hW hbe hkW
  have hbl := World.block_lt_of_cell? W _ e0
  dsimp only at hbl
  have hbl1 : be < W.heap.size + 1 := by omega
  go_wp2_with (first | ((with_reducible refine (ex1_any _ _).mono ?_); rintro e w2 ⟨rfl, hk2⟩; obtain ⟨lb, cb, fb⟩ := hk2.blk be (by (try simp only [World.size_alloc]); omega) (by simp); have lb1 : be < w2.heap.size + 1 := (by omega); have lb2 : be < w2.heap.size + 1 + 1 := (by omega); have lb3 : be < w2.heap.size + 1 + 1 + 1 := (by omega); have HK2 := Lib.hid hk2; clear hk2) | ((with_reducible refine (ex2_any _ _).mono ?_); rintro e w2 ⟨rfl, hk2⟩; obtain ⟨lb, cb, fb⟩ := hk2.blk be (by (try simp only [World.size_alloc]); omega) (by simp); have lb1 : be < w2.heap.size + 1 := (by omega); have lb2 : be < w2.heap.size + 1 + 1 := (by omega); have lb3 : be < w2.heap.size + 1 + 1 + 1 := (by omega); have HK2 := Lib.hid hk2; clear hk2))
  rename_i wA lA cA fA lA1 lA2 lA3 HA wB lB cB fB lB1 lB2 lB3 HB wC lC cC fC lC1 lC2 lC3 HC
  have hbe := HBE.out
  have hA := HA.out
  have hB := HB.out
  have hC := HC.out
  have hD := HK2.out
  have sA := hA.size
  have sB := hB.size
  have sC := hC.size
  have sD := hD.size
  simp only [World.size_alloc] at sA sB sC sD
  clear HA HB HC HK2 cA cB cC cb fA fB fC fb
  obtain ⟨wD, hwD⟩ : ∃ x, x = (w2.setCell ⟨be, 0, none⟩ (.slice (some ⟨W.heap.size, 0, none⟩) 2 2)).setCell ⟨be, 1, none⟩ (.slice (some ⟨w2.heap.size + 1 + 1, 0, none⟩) 2 2) := ⟨_, rfl⟩
  have hE : Kp [be] w2 wD := by rw [hwD]; exact ((Kp.refl _ _).setCell _ _ (fun _ => by simp)).setCell _ _ (fun _ => by simp)
  have sE : wD.heap.size = w2.heap.size := by rw [hwD]; simp [World.size_setCell]
  have dE0 : wD.cell? ⟨be, 0, none⟩ = some (.slice (some ⟨W.heap.size, 0, none⟩) 2 2) := by
    rw [hwD, World.cell?_setCell_other _ _ _ _ (by simp), World.cell?_setCell_same' _ _ _ (by rw [(((hA.trans hB (by simp)).alloc _).alloc _ |>.trans hC (by simp) |>.trans hD (by simp) |>.cellAt (k := be) (o := 0) (v := .slice none 0 0) (by rw [World.cell?_alloc_past _ _ _ hbl]; exact e0) (by simp)).1]; rfl)]
  have dE1 : wD.cell? ⟨be, 1, none⟩ = some (.slice (some ⟨w2.heap.size + 1 + 1, 0, none⟩) 2 2) := by
    rw [hwD, World.cell?_setCell_same' _ _ _ (by rw [World.cell?_setCell_other _ _ _ _ (by simp), (((hA.trans hB (by simp)).alloc _).alloc _ |>.trans hC (by simp) |>.trans hD (by simp) |>.cellAt (k := be) (o := 1) (v := .slice none 0 0) (by rw [World.cell?_alloc_past _ _ _ hbl]; exact e1) (by simp)).1]; rfl)]
  rw [← hwD]
  have r0 : RdP wD (fun x => w.heap.size < x) (.slice (some ⟨W.heap.size, 0, none⟩) 2 2) 2 (flatI [0, 0]) :=
    ((rdP_new (w := W) (P := fun x => w.heap.size < x) (cs := #[.int .i64 0, .int .i64 0]) (e := 3) hlt rfl).kp (((hA.trans hB (by simp)).alloc _).alloc _ |>.trans hC (by simp) |>.trans hD (by simp)) (by simp)).kp hE (fun x hx => by simp at hx; subst hx; omega)
  have r1 : TxsAt wD (fun x => w.heap.size < x) (.slice (some ⟨wB.heap.size + 1, 0, none⟩) 1 1) [[⟨2, 0, 1⟩, ⟨2, 1, 1⟩]] := by
    have h1 := rdP_new (w := wB) (P := fun x => w.heap.size < x) (cs := #[.int .i64 2, .int .i64 0, .int .i64 1, .int .i64 2, .int .i64 1, .int .i64 1]) (e := 70) (n := 2) (c := 2) (xs := flatA [⟨2, 0, 1⟩, ⟨2, 1, 1⟩]) (show w.heap.size < wB.heap.size by omega) rfl
    have h2 := txsAt_new (e := 67) (c := 1) (acts := [⟨2, 0, 1⟩, ⟨2, 1, 1⟩]) (P := fun x => w.heap.size < x) (show w.heap.size < (wB.alloc _).heap.size by rw [World.size_alloc]; omega) h1
    rw [World.size_alloc] at h2
    exact (h2.kp (hC.trans hD (by simp)) (by simp)).kp hE (fun x hx => by simp at hx; subst hx; omega)
  have r2 : TxsAt ((wD.alloc (.cells #[.int .i64 1, .int .i64 0, .int .i64 0, .int .i64 1, .int .i64 1, .int .i64 0] 70)).alloc (.cells #[.slice (some ⟨w2.heap.size, 0, none⟩) 2 2] 67)) (fun x => w.heap.size < x) (.slice (some ⟨w2.heap.size + 1, 0, none⟩) 1 1) [[⟨1, 0, 0⟩, ⟨1, 1, 0⟩]] := by
    have h1 := rdP_new (w := wD) (P := fun x => w.heap.size < x) (cs := #[.int .i64 1, .int .i64 0, .int .i64 0, .int .i64 1, .int .i64 1, .int .i64 0]) (e := 70) (n := 2) (c := 2) (xs := flatA [⟨1, 0, 0⟩, ⟨1, 1, 0⟩]) (show w.heap.size < wD.heap.size by omega) rfl
    have h2 := txsAt_new (e := 67) (c := 1) (acts := [⟨1, 0, 0⟩, ⟨1, 1, 0⟩]) (P := fun x => w.heap.size < x) (show w.heap.size < (wD.alloc _).heap.size by rw [World.size_alloc]; omega) h1
    rw [World.size_alloc, sE] at h2
    exact h2
  have r3 := exRows_new (e := 68) (c := 2) (P := fun x => w.heap.size < x) (show w.heap.size < ((wD.alloc (.cells #[.int .i64 1, .int .i64 0, .int .i64 0, .int .i64 1, .int .i64 1, .int .i64 0] 70)).alloc (.cells #[.slice (some ⟨w2.heap.size, 0, none⟩) 2 2] 67)).heap.size by simp only [World.size_alloc]; omega) (r1.kp (((Kp.refl [] wD).alloc _).alloc _) (by simp)) r2
  simp only [World.size_alloc, sE] at r3
  refine bodyPost_ret (v := .agg #[.slice (some ⟨W.heap.size, 0, none⟩) 2 2, .slice (some ⟨w2.heap.size + 1 + 1, 0, none⟩) 2 2]) ?_ rfl ⟨⟨_, _, rfl, r0.kp ((((Kp.refl [] wD).alloc _).alloc _).alloc _) (by simp), r3⟩, ?_⟩
  · have l0 : be < wD.heap.size := by omega
    have l1 : be < wD.heap.size + 1 := by omega
    have l2 : be < wD.heap.size + 1 + 1 := by omega
    simp [results, Tryz.results43, go_sem, dE0, dE1, l0, l1, l2]
  · have hk : Kp [] w w2 := ((HKW.out.alloc _).trans ((hA.trans hB (by simp)).alloc _ |>.alloc _ |>.trans hC (by simp) |>.trans hD (by simp)) (by simp))
    exact (((hk.trans hE (fun x hx hl => by simp at hx; omega)).alloc _).alloc _).alloc _
end Go.Proofs.YtbogjkggfdhckaaGreatDoor

/-
  drive: Answer, goOn, Step: what is called is a letter.
-/
namespace Go.Proofs.YtbogjkggfdhckaaGreatDoor
open Go.RowKit Go.Um

theorem heap_drew' (w : World) : w.drew.heap = w.heap := rfl
theorem _root_.Go.Um.Kp.at8' {S : List Nat} {w w' : World} (h : Kp S w w') (b : Nat) (hb : b ∉ S) : if b < w.heap.size then b < w'.heap.size ∧ (∀ o, w'.cell? ⟨b, o, none⟩ = w.cell? ⟨b, o, none⟩) ∧ (∀ o, w'.frozen? ⟨b, o, none⟩ = w.frozen? ⟨b, o, none⟩) else True := by
  split
  · rename_i hl; exact h.blk b hl hb
  · trivial
theorem thAnswer {w : World} {bt bw : Nat} {i val : Int} {ab : Bool} {R : World → Prop} (hc : w.cell? ⟨bt, 2, none⟩ = some (.pointer (some ⟨bw, 0, none⟩))) (h : Calls Tryz.prog 133 #[.pointer (some ⟨bw, 0, none⟩), .int .i64 i, .int .i64 val, .bool ab] w fun r w' => (∃ v, r = .returned v) ∧ R w') :
    Calls Tryz.prog 105 #[.pointer (some ⟨bt, 0, none⟩), .int .i64 i, .int .i64 val, .bool ab] w fun r w' => r = .returned (.tuple #[]) ∧ R w' := by
  have hbl := World.block_lt_of_cell? w _ hc
  dsimp only at hbl
  have H := Lib.hid h
  clear h
  go_enter Tryz.func105, Tryz.ntmps105
  go_wp2_with (go_at_call 133; refine H.out.mono ?_; rintro r w1 ⟨⟨v, rfl⟩, hr⟩; have HR := Lib.hid hr; clear hr)
  go_end0
  exact ⟨rfl, HR.out⟩
theorem endsLate {w : World} {bm bt : Nat} {i : Int} {ab : Bool} {R : World → Prop} (hc : w.cell? ⟨bm, 0, none⟩ = some (.pointer (some ⟨bt, 0, none⟩))) (h : Calls Tryz.prog 105 #[.pointer (some ⟨bt, 0, none⟩), .int .i64 i, .int .i64 0, .bool ab] w fun r w' => r = .returned (.tuple #[]) ∧ R w') :
    Calls Tryz.prog 71 #[.pointer (some ⟨bm, 0, none⟩), .int .i64 i, .bool ab] w fun r w' => r = .returned .nilFunc ∧ R w' := by
  have hbl := World.block_lt_of_cell? w _ hc
  dsimp only at hbl
  have H := Lib.hid h
  clear h
  go_enter Tryz.func71, Tryz.ntmps71
  go_wp2_with (go_at_call 105; refine H.out.mono ?_; rintro r w1 ⟨rfl, hr⟩; have HR := Lib.hid hr; clear hr)
  go_ret
  exact ⟨rfl, HR.out⟩
theorem abortLate {w : World} {bm b1 b2 : Nat} {i : Int} {R : World → Prop} (h1 : w.cell? ⟨b1, 0, none⟩ = some (.pointer (some ⟨bm, 0, none⟩))) (h2 : w.cell? ⟨b2, 0, none⟩ = some (.int .i64 i)) (h : Calls Tryz.prog 71 #[.pointer (some ⟨bm, 0, none⟩), .int .i64 i, .bool true] w fun r w' => r = .returned .nilFunc ∧ R w') :
    Calls Tryz.prog 70 #[.pointer (some ⟨b1, 0, none⟩), .pointer (some ⟨b2, 0, none⟩)] w fun r w' => r = .returned .nilFunc ∧ R w' := by
  have l1 := World.block_lt_of_cell? w _ h1
  have l2 := World.block_lt_of_cell? w _ h2
  dsimp only at l1 l2
  have H := Lib.hid h
  clear h
  go_enter Tryz.func70, Tryz.ntmps70
  go_wp2_with (go_at_call 71; refine H.out.mono ?_; rintro r w1 ⟨rfl, hr⟩; have HR := Lib.hid hr; clear hr)
  go_ret
  exact ⟨rfl, HR.out⟩
theorem commitLate {w : World} {bm b1 b2 : Nat} {i : Int} {R : World → Prop} (h1 : w.cell? ⟨b1, 0, none⟩ = some (.pointer (some ⟨bm, 0, none⟩))) (h2 : w.cell? ⟨b2, 0, none⟩ = some (.int .i64 i)) (h : Calls Tryz.prog 71 #[.pointer (some ⟨bm, 0, none⟩), .int .i64 i, .bool false] w fun r w' => r = .returned .nilFunc ∧ R w') :
    Calls Tryz.prog 106 #[.pointer (some ⟨b1, 0, none⟩), .pointer (some ⟨b2, 0, none⟩)] w fun r w' => r = .returned .nilFunc ∧ R w' := by
  have l1 := World.block_lt_of_cell? w _ h1
  have l2 := World.block_lt_of_cell? w _ h2
  dsimp only at l1 l2
  have H := Lib.hid h
  clear h
  go_enter Tryz.func106, Tryz.ntmps106
  go_wp2_with (go_at_call 71; refine H.out.mono ?_; rintro r w1 ⟨rfl, hr⟩; have HR := Lib.hid hr; clear hr)
  go_ret
  exact ⟨rfl, HR.out⟩
theorem lookLate {w : World} {bm b1 b2 : Nat} {i : Int} {R : Value → World → Prop} (h1 : w.cell? ⟨b1, 0, none⟩ = some (.pointer (some ⟨bm, 0, none⟩))) (h2 : w.cell? ⟨b2, 0, none⟩ = some (.int .i64 i)) (h : Calls Tryz.prog 73 #[.pointer (some ⟨bm, 0, none⟩), .int .i64 i] w fun r w' => ∃ v, r = .returned v ∧ R v w') :
    Calls Tryz.prog 72 #[.pointer (some ⟨b1, 0, none⟩), .pointer (some ⟨b2, 0, none⟩)] w fun r w' => ∃ v, r = .returned v ∧ R v w' := by
  have l1 := World.block_lt_of_cell? w _ h1
  have l2 := World.block_lt_of_cell? w _ h2
  dsimp only at l1 l2
  have H := Lib.hid h
  clear h
  go_enter Tryz.func72, Tryz.ntmps72
  go_wp2_with (go_at_call 73; refine H.out.mono ?_; rintro r w1 ⟨v, rfl, hr⟩; have HR := Lib.hid hr; clear hr)
  go_ret
  exact ⟨v, rfl, HR.out⟩
theorem ansLate {w : World} {bm b1 b2 b3 : Nat} {i : Int} {e : Ev} {R : World → Prop} (h1 : w.cell? ⟨b1, 0, none⟩ = some (.pointer (some ⟨bm, 0, none⟩))) (h2 : w.cell? ⟨b2, 0, none⟩ = some (.int .i64 i)) (h3 : ∀ j, j < 8 → w.cell? ⟨b3, j, none⟩ = (Ev.cells e)[j]?) (h : Calls Tryz.prog 75 #[.pointer (some ⟨bm, 0, none⟩), .int .i64 i, evV e.f] w fun r w' => r = .returned .nilFunc ∧ R w') :
    Calls Tryz.prog 74 #[.pointer (some ⟨b1, 0, none⟩), .pointer (some ⟨b2, 0, none⟩), .pointer (some ⟨b3, 0, none⟩)] w fun r w' => r = .returned .nilFunc ∧ R w' := by
  have l1 := World.block_lt_of_cell? w _ h1
  have l2 := World.block_lt_of_cell? w _ h2
  have e0 : w.cell? ⟨b3, 0, none⟩ = some (.int .i64 e.kind) := h3 0 (by decide)
  have e1 : w.cell? ⟨b3, 1, none⟩ = some (.int .i64 e.tx) := h3 1 (by decide)
  have e2 : w.cell? ⟨b3, 2, none⟩ = some (.int .i64 e.thread) := h3 2 (by decide)
  have e3 : w.cell? ⟨b3, 3, none⟩ = some (.int .i64 e.obj) := h3 3 (by decide)
  have e4 : w.cell? ⟨b3, 4, none⟩ = some (.int .i64 e.op) := h3 4 (by decide)
  have e5 : w.cell? ⟨b3, 5, none⟩ = some (.int .i64 e.key) := h3 5 (by decide)
  have e6 : w.cell? ⟨b3, 6, none⟩ = some (.int .i64 e.val) := h3 6 (by decide)
  have e7 : w.cell? ⟨b3, 7, none⟩ = some (.int .i64 e.ret) := h3 7 (by decide)
  have l3 := World.block_lt_of_cell? w _ e0
  dsimp only at l1 l2 l3
  unfold evV at h
  simp only [Ev.f] at h
  have H := Lib.hid h
  clear h h3
  go_enter Tryz.func74, Tryz.ntmps74
  go_wp2_with (go_at_call 75; refine H.out.mono ?_; rintro r w1 ⟨rfl, hr⟩; have HR := Lib.hid hr; clear hr)
  go_ret
  exact ⟨rfl, HR.out⟩
theorem goOn_any (bt : Nat) (i : Int) (w : World) : Calls Tryz.prog 77 #[.pointer (some ⟨bt, 0, none⟩), .int .i64 i] w fun r w' => (∃ b1 b2, r = .returned (.func (.func 108) #[] #[.pointer (some ⟨b1, 0, none⟩), .pointer (some ⟨b2, 0, none⟩)]) ∧ w'.cell? ⟨b1, 0, none⟩ = some (.pointer (some ⟨bt, 0, none⟩)) ∧ w'.cell? ⟨b2, 0, none⟩ = some (.int .i64 i) ∧ w.heap.size ≤ b1 ∧ w.heap.size ≤ b2) ∧ Kp [] w w' := by
  go_enter Tryz.func77, Tryz.ntmps77
  go_wp2
  go_ret
  exact ⟨⟨_, _, rfl, by simp [go_sem], by simp [go_sem], by simp, by simp⟩, ((Kp.refl _ _).alloc _).alloc _⟩

set_option maxRecDepth 100000 in
set_option maxHeartbeats 2000000 in
theorem goOnStep {w : World} {bt bw bm b1 b2 rn : Nat} {i : Int} {e : Ev} {R : World → World → Prop} {Q : Value → World → Prop} {S : List Nat} (hS : ∀ x ∈ S, x < w.heap.size) (h1 : w.cell? ⟨b1, 0, none⟩ = some (.pointer (some ⟨bt, 0, none⟩))) (h2 : w.cell? ⟨b2, 0, none⟩ = some (.int .i64 i)) (hw : w.cell? ⟨bt, 2, none⟩ = some (.pointer (some ⟨bw, 0, none⟩)))
    (hcf : ∀ (args : Array Value) (W : World), (callFunc rn args).run Tryz.prog W = .ok (.enter rn args) W)
    (hN : ∀ W, Kp [] w W → Calls Tryz.prog 109 #[.pointer (some ⟨bw, 0, none⟩), .int .i64 i] W fun r w' => r = .returned (.tuple #[evV e.f, .bool true]) ∧ R W w' ∧ w'.cell? ⟨b1, 0, none⟩ = some (.pointer (some ⟨bt, 0, none⟩)) ∧ w'.cell? ⟨b2, 0, none⟩ = some (.int .i64 i) ∧ w'.cell? ⟨bt, 4, none⟩ = some (.func (.func rn) #[.pointer (some ⟨bm, 0, none⟩)] #[]) ∧ Kp S W w')
    (hR : ∀ W0 W W' b, Kp [] w W0 → R W0 W → w.heap.size ≤ b → (b < W0.heap.size ∨ W.heap.size ≤ b) → Kp [b] W W' → Calls Tryz.prog rn #[.pointer (some ⟨bm, 0, none⟩), .int .i64 i, evV e.f] W' fun r w' => ∃ v, r = .returned v ∧ Q v w') :
    Calls Tryz.prog 108 #[.pointer (some ⟨b1, 0, none⟩), .pointer (some ⟨b2, 0, none⟩)] w fun r w' => ∃ v, r = .returned v ∧ Q v w' := by
  have l1 := World.block_lt_of_cell? w _ h1
  have l2 := World.block_lt_of_cell? w _ h2
  have l3 := World.block_lt_of_cell? w _ hw
  dsimp only at l1 l2 l3
  unfold evV at hN hR
  simp only [Ev.f] at hN hR
  have HN := Lib.hid hN
  have HR := Lib.hid hR
  clear hN hR
  go_enter Tryz.func108, Tryz.ntmps108
  go_upto_region 1 with fail
  go_cut [3, 4] (fun s3 s4 wx => ∃ b3 W0 W1, s4 = .bool true ∧ s3 = .pointer (some ⟨b3, 0, none⟩) ∧ Kp [] w W0 ∧ R W0 W1 ∧ w.heap.size ≤ b3 ∧ (b3 < W0.heap.size ∨ W1.heap.size ≤ b3) ∧ Kp [b3] W1 wx ∧ (∀ j, j < 8 → wx.cell? ⟨b3, j, none⟩ = (Ev.cells e)[j]?) ∧ W1.cell? ⟨b1, 0, none⟩ = some (.pointer (some ⟨bt, 0, none⟩)) ∧ W1.cell? ⟨b2, 0, none⟩ = some (.int .i64 i) ∧ W1.cell? ⟨bt, 4, none⟩ = some (.func (.func rn) #[.pointer (some ⟨bm, 0, none⟩)] #[]))
  case first =>
    have hne : w.heap.size ∉ S := fun h => by have := hS _ h; omega
    go_region_with (first | (go_at_call 109; (refine (HN.out _ (by first | exact (Kp.refl _ _).drew | exact ((Kp.refl _ _).alloc _).drew)).mono ?_; rintro r w1 ⟨rfl, hq, c1, c2, c3, hk1⟩; have HQ := Lib.hid hq; have HSZ := Lib.hid hk1.size; have h8 := hk1.at8' w.heap.size hne; (simp only [World.size_alloc, heap_drew', Nat.lt_irrefl, if_false, Nat.lt_succ_self, if_true] at h8); (try (obtain ⟨l8, c8, f8⟩ := h8; have q0 : w1.cell? ⟨w.heap.size, 0, none⟩ = some (.int .i64 0) := (c8 0).trans (by simp [go_sem]); have q1 : w1.cell? ⟨w.heap.size, 1, none⟩ = some (.int .i64 0) := (c8 1).trans (by simp [go_sem]); have q2 : w1.cell? ⟨w.heap.size, 2, none⟩ = some (.int .i64 0) := (c8 2).trans (by simp [go_sem]); have q3 : w1.cell? ⟨w.heap.size, 3, none⟩ = some (.int .i64 0) := (c8 3).trans (by simp [go_sem]); have q4 : w1.cell? ⟨w.heap.size, 4, none⟩ = some (.int .i64 0) := (c8 4).trans (by simp [go_sem]); have q5 : w1.cell? ⟨w.heap.size, 5, none⟩ = some (.int .i64 0) := (c8 5).trans (by simp [go_sem]); have q6 : w1.cell? ⟨w.heap.size, 6, none⟩ = some (.int .i64 0) := (c8 6).trans (by simp [go_sem]); have q7 : w1.cell? ⟨w.heap.size, 7, none⟩ = some (.int .i64 0) := (c8 7).trans (by simp [go_sem]); clear c8)); clear hq hk1)))
    all_goals go_wp2_with fail
    all_goals go_meet
    all_goals first
      | exact ⟨w1.heap.size, _, w1, rfl, rfl, by first | with_reducible exact (Kp.refl [] w).drew | with_reducible exact ((Kp.refl [] w).alloc _).drew, HQ.out, HSZ.out, .inr (Nat.le_refl _), ((Kp.refl [] w1).alloc _).mono (fun x hx _ => by simp at hx), fun j hj => by
          rw [World.cell?_alloc_new]
          match j, hj with
          | 0, _ => rfl
          | 1, _ => rfl
          | 2, _ => rfl
          | 3, _ => rfl
          | 4, _ => rfl
          | 5, _ => rfl
          | 6, _ => rfl
          | 7, _ => rfl, c1, c2, c3⟩
      | exact ⟨w.heap.size, _, w1, rfl, rfl, ((Kp.refl [] w).alloc _).drew, HQ.out, Nat.le_refl _, .inl (by simp), by repeat (first | (with_reducible exact Kp.refl _ _) | refine Kp.setCell ?_ _ _ (fun _ => by simp)), set8_cell w1 w.heap.size (eightP ⟨_, q0⟩ ⟨_, q1⟩ ⟨_, q2⟩ ⟨_, q3⟩ ⟨_, q4⟩ ⟨_, q5⟩ ⟨_, q6⟩ ⟨_, q7⟩) _ _ _ _ _ _ _ _, c1, c2, c3⟩
  case rest =>
  obtain ⟨b3, W0, W1, rfl, rfl, hk0, hR1, hb3, hb30, hk1, he, d1, d2, d3⟩ := hcut
  have e0 : wc.cell? ⟨b3, 0, none⟩ = some (.int .i64 e.kind) := he 0 (by decide)
  have e1 : wc.cell? ⟨b3, 1, none⟩ = some (.int .i64 e.tx) := he 1 (by decide)
  have e2 : wc.cell? ⟨b3, 2, none⟩ = some (.int .i64 e.thread) := he 2 (by decide)
  have e3 : wc.cell? ⟨b3, 3, none⟩ = some (.int .i64 e.obj) := he 3 (by decide)
  have e4 : wc.cell? ⟨b3, 4, none⟩ = some (.int .i64 e.op) := he 4 (by decide)
  have e5 : wc.cell? ⟨b3, 5, none⟩ = some (.int .i64 e.key) := he 5 (by decide)
  have e6 : wc.cell? ⟨b3, 6, none⟩ = some (.int .i64 e.val) := he 6 (by decide)
  have e7 : wc.cell? ⟨b3, 7, none⟩ = some (.int .i64 e.ret) := he 7 (by decide)
  replace d1 := (hk1.cellAt d1 (by simp; omega)).1
  replace d2 := (hk1.cellAt d2 (by simp; omega)).1
  replace d3 := (hk1.cellAt d3 (by simp; omega)).1
  have hcall := HR.out W0 W1 wc.drew b3 hk0 hR1 hb3 hb30 hk1.drew
  have HCL := Lib.hid hcall
  have m1 := World.block_lt_of_cell? wc _ d1
  have m2 := World.block_lt_of_cell? wc _ d2
  have m3 := World.block_lt_of_cell? wc _ d3
  have m4 := World.block_lt_of_cell? wc _ e0
  dsimp only at m1 m2 m3 m4
  clear he hcall hR1 hk1 hk0 hb30
  go_wp2_with fail
  go_region_with (first | ((with_reducible refine (HCL.out).mono ?_); rintro r w4 ⟨v, rfl, hq⟩; have HQ := Lib.hid hq; clear hq))
  all_goals go_wp2
  all_goals go_ret
  all_goals exact ⟨v, rfl, HQ.out⟩
end Go.Proofs.YtbogjkggfdhckaaGreatDoor
