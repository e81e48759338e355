/-
  Lemmas on the way to Rr1: Lm, Ln.
-/
import Derived.Test.YtbogjkggfdhckaaGreatDoorMA8
/-
  late, purely: its machine, and what holds of it.
-/
namespace Go.Proofs.YtbogjkggfdhckaaGreatDoor
open Go.RowKit Go.Um

abbrev As := List (Int × Int)
def alk (k : Int) : As → Option Int
  | [] => none
  | x :: l => if k = x.1 then some x.2 else alk k l
def aupd (k v : Int) : As → As
  | [] => [(k, v)]
  | x :: l => if k = x.1 then (x.1, v) :: l else x :: aupd k v l
theorem alk_aupd (k a v : Int) : ∀ (l : As), alk k (aupd a v l) = if k = a then some v else alk k l
  | [] => by simp [aupd, alk]
  | x :: l => by
    have ih := alk_aupd k a v l
    by_cases ha : a = x.1
    · by_cases hk : k = a
      · simp [aupd, ha, alk, hk]
      · have : ¬ k = x.1 := fun e => hk (by rw [e, ha])
        simp [aupd, ha, alk, this]
    · simp only [aupd, if_neg ha, alk, ih]
      by_cases hk : k = x.1
      · have : ¬ k = a := fun e => ha (by rw [← e, hk])
        simp only [hk, if_true]
        rw [if_neg (fun e => ha e.symm)]
      · simp [hk]
theorem aupd_mem {a v : Int} : ∀ {l : As} {x : Int × Int}, x ∈ aupd a v l → x ∈ l ∨ x = (a, v)
  | [], x, h => by simp [aupd] at h; exact .inr h
  | y :: l, x, h => by
    by_cases ha : a = y.1
    · simp only [aupd, if_pos ha, List.mem_cons] at h
      rcases h with h | h
      · right; rw [h, ha]
      · left; simp [h]
    · simp only [aupd, if_neg ha, List.mem_cons] at h
      rcases h with h | h
      · left; simp [h]
      · rcases aupd_mem h with h | h
        · left; simp [h]
        · exact .inr h
theorem aupd_nodup {a v : Int} : ∀ {l : As}, (l.map Prod.fst).Nodup → ((aupd a v l).map Prod.fst).Nodup
  | [], _ => by simp [aupd]
  | y :: l, h => by
    simp only [List.map_cons, List.nodup_cons] at h
    by_cases ha : a = y.1
    · simp only [aupd, if_pos ha, List.map_cons, List.nodup_cons]; exact h
    · simp only [aupd, if_neg ha, List.map_cons, List.nodup_cons]
      refine ⟨fun hm => ?_, aupd_nodup h.2⟩
      obtain ⟨x, hx, hk⟩ := List.mem_map.1 hm
      rcases aupd_mem hx with hx | rfl
      · exact h.1 (List.mem_map.2 ⟨x, hx, hk⟩)
      · exact ha hk
theorem alk_mem {k v : Int} : ∀ {l : As}, alk k l = some v → (k, v) ∈ l
  | [], h => by simp [alk] at h
  | x :: l, h => by
    by_cases hk : k = x.1
    · simp only [alk, if_pos hk, Option.some.injEq] at h
      subst h; simp [hk]
    · simp only [alk, if_neg hk] at h
      exact List.mem_cons_of_mem _ (alk_mem h)

inductive Stp
  | nil
  | abort
  | commit
  | look
  | ans (e : Ev)
structure Mc where
  ths : List Th
  evs : List Ev
  nx : List Stp
  cells : List (Int × Int)
  ws : List (As × As)
def ansVal (w : As) (c : Int × Int) (e : Ev) : Int := if e.op = 2 then 0 else (alk e.obj w).getD c.1
def ansW (r w : As) (c : Int × Int) (e : Ev) : As × As :=
  if e.op = 2 then (r, aupd e.obj e.val w) else if (alk e.obj w).isSome then (r, w) else if (alk e.obj r).isSome then (r, w) else (aupd e.obj c.2 r, w)
def Mc.put (m : Mc) (i : Nat) (t : Th) (e : Ev) (x : Stp) (q : As × As) : Mc := ⟨m.ths.set i t, m.evs ++ [e], m.nx.set i x, m.cells, m.ws.set i q⟩
def react (e : Ev) : Stp := if e.kind = 4 then .look else if e.kind = 7 then .abort else .ans e
def fresh (r : As) (cells : List (Int × Int)) : Bool := r.all (fun x => match cells[x.1.toNat]? with | some c => c.2 == x.2 | none => true)
def wrote (w : As) (cells : List (Int × Int)) : List (Int × Int) := cells.mapIdx (fun k c => match alk k w with | some v => (v, c.2 + 1) | none => c)
def Mc.step (p : Pg) (m : Mc) (i : Nat) : Mc :=
  match p.ths[i]?, m.ths[i]?, m.nx[i]?, m.ws[i]? with
  | some txs, some t, some x, some (r, w) =>
    match txs[t.tx]? with
    | none => m
    | some acts =>
      match x with
      | .nil => if t.begun then m.put i { t with waits := (nextE i t acts).kind } (nextE i t acts) (react (nextE i t acts)) (r, w) else m.put i { t with begun := true } (beginE i t) .nil ([], [])
      | .abort => m.put i (newT t) (endE i t 6) .nil (r, w)
      | .commit => m.put i (newT t) (endE i t 5) .nil (r, w)
      | .look => if fresh r m.cells then { m with cells := wrote w m.cells, nx := m.nx.set i .commit } else m.put i (newT t) (endE i t 6) .nil (r, w)
      | .ans e => match acts[t.act]?, m.cells[e.obj.toNat]? with
        | some a, some c => m.put i (retT t a (ansVal w c e)) (retE i t a (ansVal w c e)) .nil (ansW r w c e)
        | _, _ => m
  | _, _, _, _ => m

/-- The last write of a cell. -/
def lw (c : Int) (ds : List Dd) : Option Int := ds.foldl (fun a d => if d.op = 2 ∧ d.obj = c then some d.val else a) none
theorem lw_snoc (c : Int) (ds : List Dd) (d : Dd) : lw c (ds ++ [d]) = if d.op = 2 ∧ d.obj = c then some d.val else lw c ds := by simp [lw]
def RdOk (P : Int → Int → Prop) (ds : List Dd) : Prop := ∀ (k : Nat) d, ds[k]? = some d → d.op = 1 → match lw d.obj (ds.take k) with
  | some v => d.got = v
  | none => P d.obj d.got
theorem RdOk.mono {P Q : Int → Int → Prop} {ds : List Dd} (h : RdOk P ds) (hPQ : ∀ c g, P c g → Q c g) : RdOk Q ds := by
  intro k d hk hd
  have := h k d hk hd
  split
  · rename_i v hv; rw [hv] at this; exact this
  · rename_i hv; rw [hv] at this; exact hPQ _ _ this
theorem RdOk.nil (P : Int → Int → Prop) : RdOk P [] := by intro k d h; simp at h
theorem RdOk.snoc {P : Int → Int → Prop} {ds : List Dd} (h : RdOk P ds) {d : Dd} (hd : d.op = 1 → match lw d.obj ds with | some v => d.got = v | none => P d.obj d.got) : RdOk P (ds ++ [d]) := by
  intro k x hk hx
  by_cases hkl : k < ds.length
  · rw [List.getElem?_append_left hkl] at hk
    rw [List.take_append_of_le_length (by omega)]
    exact h k x hk hx
  · have : k = ds.length := by have := (List.getElem?_eq_some_iff.1 hk).1; simp at this; omega
    subst this
    simp at hk; subst hk
    simpa using hd hx
def RunOk (cells : List (Int × Int)) (r w : As) (ds : List Dd) : Prop :=
  RdOk (fun c g => ∃ ver, alk c r = some ver ∧ ∀ q, cells[c.toNat]? = some q → q.2 = ver → q.1 = g) ds ∧ (∀ c, alk c w = lw c ds) ∧ (∀ c ver, alk c r = some ver → ∀ q, cells[c.toNat]? = some q → ver ≤ q.2)
theorem RunOk.cells {cells cells' : List (Int × Int)} {r w : As} {ds : List Dd} (h : RunOk cells r w ds) (hc : ∀ (k : Nat) q', cells'[k]? = some q' → ∃ q, cells[k]? = some q ∧ (q' = q ∨ q.2 < q'.2)) : RunOk cells' r w ds := by
  obtain ⟨h1, h2, h3⟩ := h
  refine ⟨?_, h2, ?_⟩
  · intro k d hk hd
    have := h1 k d hk hd
    split
    · rename_i v hv; rw [hv] at this; exact this
    · rename_i hv; rw [hv] at this
      obtain ⟨ver, hr, hq⟩ := this
      refine ⟨ver, hr, fun q' hq' hv' => ?_⟩
      obtain ⟨q, e1, e2⟩ := hc _ q' hq'
      rcases e2 with rfl | e2
      · exact hq _ e1 hv'
      · have := h3 _ ver hr q e1; omega
  · intro c ver hr q' hq'
    obtain ⟨q, e1, e2⟩ := hc _ q' hq'
    have := h3 c ver hr q e1
    rcases e2 with rfl | e2 <;> omega
def small (n : Nat) (v : Int) : Prop := -(1000000 + 1000 * (n : Int)) ≤ v ∧ v ≤ 1000000 + 1000 * (n : Int)
theorem small.up {n n' : Nat} {v : Int} (h : small n v) (hn : n ≤ n') : small n' v := by unfold small at *; omega
def NxOk (p : Pg) (i : Nat) (t : Th) : Stp → Prop
  | .nil => t.waits = 0
  | .abort => t.waits = 7 ∧ t.begun = true
  | .commit => t.waits = 4 ∧ t.begun = true
  | .look => t.waits = 4 ∧ t.begun = true
  | .ans e => t.waits = 2 ∧ t.begun = true ∧ ∃ txs acts a, p.ths[i]? = some txs ∧ txs[t.tx]? = some acts ∧ acts[t.act]? = some a ∧ a.k ≠ 4 ∧ e = askE i t a
def KeysIn (n : Nat) (w : As) : Prop := (w.map Prod.fst).Nodup ∧ ∀ x ∈ w, 0 ≤ x.1 ∧ x.1 < n
structure TS (cells : List (Int × Int)) (evs : List Ev) (i : Nat) (t : Th) (x : Stp) (r w : As) (s : St) : Prop where
  ab : x = .abort → ∃ (k : Nat) (e : Ev), evs[k]? = some e ∧ e.kind = 7 ∧ e.tx = idOf i t.tx
  tr : x = .look ∨ x = .commit → 0 ≤ s.t.try_
  cm : x = .commit → ∃ f : Int → Int, RdOk (fun c g => g = f c) s.t.deeds
  rn : x = .nil ∨ x = .look → RunOk cells r w s.t.deeds
  an : ∀ e, x = .ans e → ∃ ds d, s.t.deeds = ds ++ [d] ∧ RunOk cells r w ds ∧ d.val = e.val
structure TI (p : Pg) (cells : List (Int × Int)) (evs : List Ev) (l : List St) (i : Nat) (t : Th) (x : Stp) (r w : As) : Prop where
  nx : NxOk p i t x
  sw : ∀ e ∈ w, small evs.length e.2
  kr : KeysIn p.cells.length r
  kw : KeysIn p.cells.length w
  rd : small evs.length t.read
  ev : ∀ e, x = .ans e → small evs.length e.val
  ts : t.begun = true → ∀ (j : Nat) s, l.findIdx? (St.has (idOf i t.tx)) = some j → l[j]? = some s → TS cells evs i t x r w s
/-- A transaction's state is new, or another one. -/
inductive Grow (i : Nat) (id : Int) (l : List St) (s' : St) : List St → Prop
  | set {j : Nat} {s : St} : l.findIdx? (St.has id) = some j → l[j]? = some s → s'.t.id = s.t.id → (0 ≤ s.t.try_ → 0 ≤ s'.t.try_) → Grow i id l s' (l.set j s')
  | snoc : l.findIdx? (St.has id) = none → s'.t.id = id → Grow i id l s' (l ++ [s'])
theorem Grow.new {i : Nat} {id : Int} {l l' : List St} {s' : St} (h : Grow i id l s' l') : ∀ (j : Nat) s, l'.findIdx? (St.has id) = some j → l'[j]? = some s → s = s' := by
  intro k u hk hu
  cases h with
  | @set j s h1 h2 h3 h4 =>
    rw [findIdx?_set_same h2 (by simp [St.has, h3]), h1] at hk
    cases hk
    rcases get_set hu with ⟨_, h⟩ | ⟨h, _⟩
    · exact h
    · exact absurd rfl h
  | snoc h1 h2 =>
    rw [List.findIdx?_append, h1] at hk
    simp [St.has, h2] at hk
    subst hk
    simpa using hu.symm
theorem Grow.old {i : Nat} {id : Int} {l l' : List St} {s' : St} (h : Grow i id l s' l') {id' : Int} (hne : id' ≠ id) : ∀ (j : Nat) s, l'.findIdx? (St.has id') = some j → l'[j]? = some s → l.findIdx? (St.has id') = some j ∧ l[j]? = some s := by
  intro k u hk hu
  cases h with
  | @set j s h1 h2 h3 h4 =>
    rw [findIdx?_set_same h2 (by simp [St.has, h3])] at hk
    refine ⟨hk, ?_⟩
    rcases get_set hu with ⟨rfl, rfl⟩ | ⟨_, h⟩
    · exfalso
      have e1 := (List.findIdx?_eq_some_iff_getElem.1 hk)
      have e2 := (List.findIdx?_eq_some_iff_getElem.1 h1)
      obtain ⟨_, a, _⟩ := e1
      obtain ⟨_, b, _⟩ := e2
      simp [St.has] at a b
      exact hne (a.symm.trans b)
    · exact h
  | snoc h1 h2 =>
    rw [List.findIdx?_append] at hk
    cases hf : l.findIdx? (St.has id') with
    | none =>
      rw [hf] at hk
      have : ¬ id = id' := fun e => hne e.symm
      simp [St.has, h2, this] at hk
    | some j =>
      rw [hf] at hk
      simp at hk
      subst hk
      have := (List.findIdx?_eq_some_iff_getElem.1 hf).1
      rw [List.getElem?_append_left this] at hu
      exact ⟨rfl, hu⟩
theorem Grow.keep {i : Nat} {id : Int} {l l' : List St} {s' : St} (h : Grow i id l s' l') {id' : Int} : ∀ (j : Nat) s, l.findIdx? (St.has id') = some j → l[j]? = some s → 0 ≤ s.t.try_ → ∃ j s, l'.findIdx? (St.has id') = some j ∧ l'[j]? = some s ∧ 0 ≤ s.t.try_ := by
  intro k u hk hu h0
  cases h with
  | @set j s h1 h2 h3 h4 =>
    rw [findIdx?_set_same h2 (by simp [St.has, h3])]
    by_cases hjk : j = k
    · subst hjk
      rw [h2] at hu; cases hu
      exact ⟨j, s', hk, by simp [(List.getElem?_eq_some_iff.1 h2).1], h4 h0⟩
    · exact ⟨k, u, hk, by rw [List.getElem?_set_ne hjk]; exact hu, h0⟩
  | snoc h1 h2 =>
    refine ⟨k, u, ?_, ?_, h0⟩
    · rw [List.findIdx?_append, hk]; rfl
    · rw [List.getElem?_append_left (List.getElem?_eq_some_iff.1 hu).1]; exact hu
theorem Grow.mem {i : Nat} {id : Int} {l l' : List St} {s' : St} (h : Grow i id l s' l') : ∀ s ∈ l', s = s' ∨ s ∈ l := by
  intro u hu
  cases h with
  | @set j s h1 h2 h3 h4 =>
    obtain ⟨k, hk⟩ := List.mem_iff_getElem?.1 hu
    rcases get_set hk with ⟨_, h⟩ | ⟨_, h⟩
    · exact .inl h
    · exact .inr (List.mem_of_getElem? h)
  | snoc h1 h2 =>
    rcases List.mem_append.1 hu with h | h
    · exact .inr h
    · simp at h; exact .inl h
def AbOk (evs : List Ev) (l : List St) : Prop := ∀ (k : Nat) e, evs[k]? = some e → e.kind = 6 → (∃ (k' : Nat) (e' : Ev), k' < k ∧ evs[k']? = some e' ∧ e'.kind = 7 ∧ e'.tx = e.tx) ∨ (∃ (j : Nat) (s : St), l.findIdx? (St.has e.tx) = some j ∧ l[j]? = some s ∧ 0 ≤ s.t.try_)
structure Inv (p : Pg) (m : Mc) (l : List St) : Prop where
  sim : Sim p m.ths m.evs l
  nl : m.nx.length = p.ths.length
  wl : m.ws.length = p.ths.length
  cl : m.cells.length = p.cells.length
  cv : ∀ c ∈ m.cells, small m.evs.length c.1
  th : ∀ (i : Nat) t x r w, m.ths[i]? = some t → m.nx[i]? = some x → m.ws[i]? = some (r, w) → TI p m.cells m.evs l i t x r w
  com : ∀ s ∈ l, s.stand = 5 → s.t.status = 3 → ∃ f : Int → Int, RdOk (fun c g => g = f c) s.t.deeds
  ops : ∀ s ∈ l, ∀ d ∈ s.t.deeds, d.op = 1 ∨ d.op = 2
  fin : ∀ s ∈ l, s.stand = 5 → Answered s.t.deeds
  ab : AbOk m.evs l
theorem idOf_ne {i k i' k' : Nat} (hk : k < 3) (hk' : k' < 3) (h : i ≠ i') : idOf i k ≠ idOf i' k' := fun e => h (idOf_inj e hk hk').1
/-- One thread goes on with an event. -/
theorem Inv.put {p : Pg} {m : Mc} {l l' : List St} (hp : PgOk p) (h : Inv p m l) {i : Nat} {t t' : Th} {e : Ev} {x' : Stp} {r' w' : As} {s' : St} (hi : m.ths[i]? = some t) (htx : t.tx < 3) (hg : Grow i (idOf i t.tx) l s' l')
    (hsim : Sim p (m.ths.set i t') (m.evs ++ [e]) l') (hTI : TI p m.cells (m.evs ++ [e]) l' i t' x' r' w')
    (hcom : s'.stand = 5 → s'.t.status = 3 → ∃ f : Int → Int, RdOk (fun c g => g = f c) s'.t.deeds) (hops : ∀ d ∈ s'.t.deeds, d.op = 1 ∨ d.op = 2) (hfin : s'.stand = 5 → Answered s'.t.deeds)
    (hab : e.kind = 6 → (∃ (k' : Nat) (e' : Ev), m.evs[k']? = some e' ∧ e'.kind = 7 ∧ e'.tx = e.tx) ∨ (∃ (j : Nat) (s : St), l'.findIdx? (St.has e.tx) = some j ∧ l'[j]? = some s ∧ 0 ≤ s.t.try_)) : Inv p (m.put i t' e x' (r', w')) l' := by
  refine ⟨hsim, by simp [Mc.put, h.nl], by simp [Mc.put, h.wl], h.cl, fun c hc => (h.cv c hc).up (by simp [Mc.put]), ?_, ?_, ?_, ?_, ?_⟩
  · intro k u x r w hu hx hw
    simp only [Mc.put] at hu hx hw ⊢
    rcases get_set hu with ⟨rfl, rfl⟩ | ⟨hki, hu⟩
    · have hx' : x = x' := by
        rcases get_set hx with ⟨_, h⟩ | ⟨h, _⟩
        · exact h
        · exact absurd rfl h
      have hw' : (r, w) = (r', w') := by
        rcases get_set hw with ⟨_, h⟩ | ⟨h, _⟩
        · exact h
        · exact absurd rfl h
      cases hw'
      subst hx'
      exact hTI
    · have hx : m.nx[k]? = some x := by
        rcases get_set hx with ⟨h, _⟩ | ⟨_, h⟩
        · exact absurd h hki
        · exact h
      have hw : m.ws[k]? = some (r, w) := by
        rcases get_set hw with ⟨h, _⟩ | ⟨_, h⟩
        · exact absurd h hki
        · exact h
      have T := h.th k u x r w hu hx hw
      refine ⟨T.nx, fun e he => (T.sw e he).up (by simp), T.kr, T.kw, T.rd.up (by simp), fun e he => (T.ev e he).up (by simp), fun hb j s hj hs => ?_⟩
      have hk3 := (h.sim.cur k u hu).tx3 hp hb
      obtain ⟨hj', hs'⟩ := hg.old (idOf_ne hk3 htx hki) j s hj hs
      have S := T.ts hb j s hj' hs'
      exact ⟨fun hx => by
        obtain ⟨a, b, h1, h2⟩ := S.ab hx
        exact ⟨a, b, by rw [List.getElem?_append_left (List.getElem?_eq_some_iff.1 h1).1]; exact h1, h2⟩, S.tr, S.cm, S.rn, S.an⟩
  · intro s hs
    rcases hg.mem s hs with rfl | hs
    · exact hcom
    · exact h.com s hs
  · intro s hs
    rcases hg.mem s hs with rfl | hs
    · exact hops
    · exact h.ops s hs
  · intro s hs
    rcases hg.mem s hs with rfl | hs
    · exact hfin
    · exact h.fin s hs
  · intro k a ha hk
    simp only [Mc.put] at ha ⊢
    by_cases hkl : k < m.evs.length
    · rw [List.getElem?_append_left hkl] at ha
      rcases h.ab k a ha hk with ⟨k', e', c1, c2, c3⟩ | ⟨j, s, c1, c2, c3⟩
      · left
        exact ⟨k', e', c1, by rw [List.getElem?_append_left (by omega)]; exact c2, c3⟩
      · right
        exact hg.keep j s c1 c2 c3
    · have : k = m.evs.length := by have := (List.getElem?_eq_some_iff.1 ha).1; simp at this; omega
      subst this
      simp at ha; subst ha
      rcases hab hk with ⟨k', e', c2, c3⟩ | c
      · left
        have := (List.getElem?_eq_some_iff.1 c2).1
        exact ⟨k', e', this, by rw [List.getElem?_append_left this]; exact c2, c3⟩
      · exact .inr c
end Go.Proofs.YtbogjkggfdhckaaGreatDoor

/-
  late, purely: a step keeps what holds, and goes on.
-/
namespace Go.Proofs.YtbogjkggfdhckaaGreatDoor
open Go.RowKit Go.Um

def isC : Stp → Nat
  | .commit => 1
  | _ => 0
def mu (m : Mc) : Nat := 2 * m.evs.length + (m.nx.map isC).sum
theorem sum_set' {α : Type} (f : α → Nat) : ∀ {l : List α} {i : Nat} {t t' : α}, l[i]? = some t → ((l.set i t').map f).sum + f t = (l.map f).sum + f t'
  | [], _, _, _, h => by simp at h
  | x :: l, 0, t, t', h => by
    simp at h; subst h
    simp; omega
  | x :: l, i + 1, t, t', h => by
    have := sum_set' f (l := l) (i := i) (t := t) (t' := t') (by simpa using h)
    simp only [List.set_cons_succ, List.map_cons, List.sum_cons]; omega
theorem mu_put {m : Mc} {i : Nat} {t : Th} {e : Ev} {x x' : Stp} {q : As × As} (hx : m.nx[i]? = some x) : mu m + 1 ≤ mu (m.put i t e x' q) := by
  have := sum_set' isC (t' := x') hx
  have : isC x ≤ 1 := by cases x <;> simp [isC]
  simp only [mu, Mc.put, List.length_append, List.length_cons, List.length_nil]; omega
theorem actOk_cases {n : Nat} {b : Bool} {a : Ac} (h : actOk n b a = true) (h4 : a.k ≠ 4) : (0 ≤ a.c ∧ a.c < n) ∧ (a.k = 1 ∨ a.k = 2 ∨ a.k = 3) ∧ -1000 ≤ a.v ∧ a.v ≤ 1000 := by
  unfold actOk at h
  split at h
  · rename_i h1
    simp at h
    exact ⟨⟨h.1.2, h.2⟩, .inl h1, by rw [h.1.1]; omega⟩
  · split at h
    · rename_i h1
      simp at h
      exact ⟨⟨h.1.1.1, h.1.1.2⟩, .inr h1, h.1.2, h.2⟩
    · simp at h
      exact absurd h.1.1.1 h4
theorem askE_parts (i : Nat) (t : Th) (a : Ac) : (askE i t a).kind = 2 ∧ (askE i t a).tx = idOf i t.tx ∧ (askE i t a).obj = a.c ∧ (askE i t a).op = (if isRead t a then 1 else 2) ∧ (askE i t a).key = 0 := by
  unfold askE
  split <;> exact ⟨rfl, rfl, rfl, rfl, rfl⟩
theorem Grow.ofCur {p : Pg} {i : Nat} {t : Th} {l : List St} {txs : List (List Ac)} {acts : List Ac} {j : Nat} {s s' : St} (h : Cur p i t l txs acts j s) (h1 : s'.t.id = s.t.id) (h2 : 0 ≤ s.t.try_ → 0 ≤ s'.t.try_) : Grow i (idOf i t.tx) l s' (l.set j s') := .set h.fd h.at_ h1 h2
theorem Inv.begins {p : Pg} {m : Mc} {l : List St} (hp : PgOk p) (h : Inv p m l) {i : Nat} {t : Th} {txs : List (List Ac)} {r w : As} (hi : m.ths[i]? = some t) (hx : m.nx[i]? = some .nil) (hw : m.ws[i]? = some (r, w)) (hb : t.begun = false) (htx : p.ths[i]? = some txs) (hlt : t.tx < txs.length) :
    ∃ l', Inv p (m.put i { t with begun := true } (beginE i t) .nil ([], [])) l' := by
  obtain ⟨h1, h2, h3, h4⟩ := h.sim.start hp hi hb htx hlt
  have T := h.th i t .nil r w hi hx hw
  have hk : t.tx < 3 := by have := hp.tx i txs htx; omega
  have hg : Grow i (idOf i t.tx) l (newS i t m.evs.length) (l ++ [newS i t m.evs.length]) := .snoc h1 rfl
  refine ⟨_, h.put hp hi hk hg h4 ⟨T.nx, by simp, by simp [KeysIn], by simp [KeysIn], T.rd.up (by simp), by simp, ?_⟩ (by simp [newS]) (by simp [newS]) (by simp [newS]) (by simp [beginE])⟩
  intro _ j s hj hs
  rw [hg.new j s hj hs]
  exact ⟨by simp, by simp, by simp, fun _ => ⟨RdOk.nil _, fun c => rfl, by simp [alk]⟩, by simp⟩
theorem nextE_cases (i : Nat) (t : Th) (acts : List Ac) : nextE i t acts = ⟨4, idOf i t.tx, 0, 0, 0, 0, 0, 0⟩ ∨ nextE i t acts = ⟨7, idOf i t.tx, 0, 0, 0, 0, 0, 0⟩ ∨ ∃ a, acts[t.act]? = some a ∧ a.k ≠ 4 ∧ nextE i t acts = askE i t a := by
  cases ha : acts[t.act]? with
  | none => left; simp [nextE, ha]
  | some a =>
    by_cases h4 : a.k = 4
    · right; left; simp [nextE, ha, h4]
    · right; right; exact ⟨a, rfl, h4, by simp [nextE, ha, h4]⟩
theorem nextS_parts (s : St) (e : Ev) (n : Nat) : (nextS s e n).t.id = s.t.id ∧ (nextS s e n).stand ≠ 5 ∧ (0 ≤ s.t.try_ → 0 ≤ (nextS s e n).t.try_) := by
  unfold nextS
  split
  · exact ⟨rfl, by simp, fun h => h⟩
  · split
    · exact ⟨rfl, by simp, fun _ => by simp⟩
    · exact ⟨rfl, by simp, fun h => h⟩
theorem Inv.nexts {p : Pg} {m : Mc} {l : List St} (hp : PgOk p) (h : Inv p m l) {i : Nat} {t : Th} {txs : List (List Ac)} {acts : List Ac} {r w : As} (hi : m.ths[i]? = some t) (hx : m.nx[i]? = some .nil) (hw : m.ws[i]? = some (r, w)) (hb : t.begun = true) (htx : p.ths[i]? = some txs) (hac : txs[t.tx]? = some acts) :
    ∃ l', Inv p (m.put i { t with waits := (nextE i t acts).kind } (nextE i t acts) (react (nextE i t acts)) (r, w)) l' := by
  obtain ⟨txs', acts', j, s, hc⟩ := h.sim.get hi hb
  have e1 := hc.ptx
  rw [htx] at e1; cases e1
  have e2 := hc.pac
  rw [hac] at e2; cases e2
  have T := h.th i t .nil r w hi hx hw
  have S := T.ts hb j s hc.fd hc.at_
  have hk : t.tx < 3 := (h.sim.cur i t hi).tx3 hp hb
  obtain ⟨hf, hS⟩ := h.sim.next hp hi hb T.nx hc
  have hrn := S.rn (.inl rfl)
  have hmem := List.mem_of_getElem? hc.at_
  obtain ⟨n1, n2, n3⟩ := nextS_parts s (nextE i t acts) m.evs.length
  have hgr : Grow i (idOf i t.tx) l (nextS s (nextE i t acts) m.evs.length) (l.set j (nextS s (nextE i t acts) m.evs.length)) := .ofCur hc n1 n3
  refine ⟨_, h.put hp hi hk hgr hS ?_ (fun h5 => absurd h5 n2) ?_ (fun h5 => absurd h5 n2) ?_⟩
  · rcases nextE_cases i t acts with he | he | ⟨a, ha, h4, he⟩
    · rw [he] at hgr ⊢
      refine ⟨⟨rfl, hb⟩, fun e he => (T.sw e he).up (by simp), T.kr, T.kw, T.rd.up (by simp), by simp [react], fun _ j' s' hj hs => ?_⟩
      rw [hgr.new j' s' hj hs]
      exact ⟨by simp [react], fun _ => by simp [nextS], by simp [react], fun _ => by simpa [nextS] using hrn, by simp [react]⟩
    · rw [he] at hgr ⊢
      refine ⟨⟨rfl, hb⟩, fun e he => (T.sw e he).up (by simp), T.kr, T.kw, T.rd.up (by simp), by simp [react], fun _ j' s' hj hs => ?_⟩
      rw [hgr.new j' s' hj hs]
      exact ⟨fun _ => ⟨m.evs.length, ⟨7, idOf i t.tx, 0, 0, 0, 0, 0, 0⟩, by simp, rfl, rfl⟩, by simp [react], by simp [react], by simp [react], by simp [react]⟩
    · obtain ⟨a1, a2, a3, a4, a5⟩ := askE_parts i t a
      have hre : react (askE i t a) = .ans (askE i t a) := by simp [react, a1]
      obtain ⟨q1, q2, q3⟩ := actOk_cases (hp.a i t.tx t.act txs acts a htx hac ha) h4
      rw [he] at hgr ⊢
      rw [hre]
      refine ⟨⟨a1, hb, txs, acts, a, htx, hac, ha, h4, rfl⟩, fun e he => (T.sw e he).up (by simp), T.kr, T.kw, T.rd.up (by simp), ?_, fun _ j' s' hj hs => ?_⟩
      · intro e he
        cases he
        have hr := T.rd
        unfold small at hr ⊢
        unfold askE
        simp only [List.length_append, List.length_cons, List.length_nil]
        split
        · simp; omega
        · simp only
          split <;> (push_cast; omega)
      · rw [hgr.new j' s' hj hs]
        exact ⟨by simp, by simp, by simp, by simp, fun e he => by
          cases he
          refine ⟨s.t.deeds, ⟨(askE i t a).obj, (askE i t a).op, 0, (askE i t a).val, 0, 0, m.evs.length, -1⟩, ?_, hrn, rfl⟩
          simp [nextS, a1]⟩
  · rcases nextE_cases i t acts with he | he | ⟨a, ha, h4, he⟩
    · rw [he]; simpa [nextS] using h.ops s hmem
    · rw [he]; simpa [nextS] using h.ops s hmem
    · obtain ⟨a1, a2, a3, a4, a5⟩ := askE_parts i t a
      rw [he]
      intro d hd
      simp only [nextS, a1, if_true, List.mem_append, List.mem_singleton] at hd
      rcases hd with hd | rfl
      · exact h.ops s hmem d hd
      · simp only [a4]; split <;> simp
  · intro h6
    rcases nextE_cases i t acts with he | he | ⟨a, ha, h4, he⟩
    · rw [he] at h6; simp at h6
    · rw [he] at h6; simp at h6
    · rw [he, (askE_parts i t a).1] at h6; simp at h6
theorem Inv.ends {p : Pg} {m : Mc} {l : List St} (hp : PgOk p) (h : Inv p m l) {i : Nat} {t : Th} {x : Stp} {r w : As} {kind : Int} (hi : m.ths[i]? = some t) (hx : m.nx[i]? = some x) (hw : m.ws[i]? = some (r, w)) (hb : t.begun = true)
    (hk : kind = 6 ∧ (x = .abort ∨ x = .look) ∨ kind = 5 ∧ x = .commit) : ∃ l', Inv p (m.put i (newT t) (endE i t kind) .nil (r, w)) l' := by
  obtain ⟨txs, acts, j, s, hc⟩ := h.sim.get hi hb
  have T := h.th i t x r w hi hx hw
  have S := T.ts hb j s hc.fd hc.at_
  have hk3 : t.tx < 3 := (h.sim.cur i t hi).tx3 hp hb
  have hmem := List.mem_of_getElem? hc.at_
  have hkw : kind = 6 ∨ kind = 5 ∧ t.waits = 4 := by
    rcases hk with ⟨rfl, _⟩ | ⟨rfl, rfl⟩
    · exact .inl rfl
    · exact .inr ⟨rfl, T.nx.1⟩
  have hA : Answered s.t.deeds := by
    have hw2 : t.waits ≠ 2 := by
      have hN := T.nx
      rcases hk with ⟨_, rfl | rfl⟩ | ⟨_, rfl⟩ <;> (simp only [NxOk] at hN; rw [hN.1]; simp)
    rcases hc.st with ⟨_, _, h⟩ | ⟨_, _, h⟩ | ⟨_, _, h⟩ | ⟨h0, _⟩
    · exact h
    · exact h
    · exact h
    · exact absurd h0 hw2
  obtain ⟨_, _, hS⟩ := h.sim.end_ hp hi hb hc hkw
  have hgr : Grow i (idOf i t.tx) l (endS s kind m.evs.length) (l.set j (endS s kind m.evs.length)) := .ofCur hc rfl (fun h => h)
  refine ⟨_, h.put hp hi hk3 hgr hS ⟨rfl, fun e he => (T.sw e he).up (by simp), T.kr, T.kw, by simp [newT, small]; omega, by simp, fun hb' => by simp [newT] at hb'⟩ ?_ (h.ops s hmem) (fun _ => hA) ?_⟩
  · intro _ h3
    rcases hk with ⟨rfl, _⟩ | ⟨rfl, rfl⟩
    · simp [endS] at h3
    · exact S.cm rfl
  · intro h6
    rcases hk with ⟨rfl, rfl | rfl⟩ | ⟨rfl, _⟩
    · left; exact S.ab rfl
    · right
      refine ⟨j, endS s 6 m.evs.length, ?_, by simp [(List.getElem?_eq_some_iff.1 hc.at_).1], S.tr (.inl rfl)⟩
      show (l.set j _).findIdx? (St.has (idOf i t.tx)) = some j
      rw [findIdx?_set_same hc.at_ (by simp [St.has, endS])]; exact hc.fd
    · simp [endE] at h6
theorem fresh_at {r : As} {cells : List (Int × Int)} (h : fresh r cells = true) {c ver : Int} (hr : alk c r = some ver) {q : Int × Int} (hq : cells[c.toNat]? = some q) : q.2 = ver := by
  have := List.all_eq_true.1 h _ (alk_mem hr)
  simpa [hq] using this
theorem wrote_at {w : As} {cells : List (Int × Int)} {k : Nat} {q' : Int × Int} (h : (wrote w cells)[k]? = some q') : ∃ q, cells[k]? = some q ∧ (q' = q ∨ q.2 < q'.2) ∧ (q'.1 = q.1 ∨ ∃ v, alk k w = some v ∧ q'.1 = v) := by
  simp only [wrote, List.getElem?_mapIdx, Option.map_eq_some_iff] at h
  obtain ⟨q, hq, he⟩ := h
  refine ⟨q, hq, ?_⟩
  split at he
  · rename_i v hv
    subst he
    exact ⟨.inr (by simp; omega), .inr ⟨v, hv, rfl⟩⟩
  · subst he
    exact ⟨.inl rfl, .inl rfl⟩
theorem Inv.look {p : Pg} {m : Mc} {l : List St} (h : Inv p m l) {i : Nat} {t : Th} {r w : As} (hi : m.ths[i]? = some t) (hx : m.nx[i]? = some .look) (hw : m.ws[i]? = some (r, w)) (hf : fresh r m.cells = true) :
    Inv p { m with cells := wrote w m.cells, nx := m.nx.set i .commit } l := by
  have T := h.th i t .look r w hi hx hw
  have hcl : (wrote w m.cells).length = p.cells.length := by simp [wrote, h.cl]
  have hmono : ∀ (k : Nat) q', (wrote w m.cells)[k]? = some q' → ∃ q, m.cells[k]? = some q ∧ (q' = q ∨ q.2 < q'.2) := fun k q' hq => by
    obtain ⟨q, a, b, _⟩ := wrote_at hq
    exact ⟨q, a, b⟩
  refine ⟨h.sim, by simp [h.nl], h.wl, hcl, ?_, ?_, h.com, h.ops, h.fin, h.ab⟩
  · intro c hc
    obtain ⟨k, hk⟩ := List.mem_iff_getElem?.1 hc
    obtain ⟨q, a, _, b⟩ := wrote_at hk
    rcases b with b | ⟨v, b1, b2⟩
    · rw [b]; exact h.cv q (List.mem_of_getElem? a)
    · rw [b2]; exact T.sw _ (alk_mem b1)
  · intro k u x r' w' hu hx' hw'
    rcases get_set hx' with ⟨rfl, rfl⟩ | ⟨hki, hx'⟩
    · rw [hi] at hu; cases hu
      have hw' : m.ws[k]? = some (r', w') := hw'
      rw [hw] at hw'; cases hw'
      refine ⟨T.nx, T.sw, T.kr, T.kw, T.rd, by simp, fun hb j s hj hs => ?_⟩
      have S := T.ts hb j s hj hs
      have hrn := S.rn (.inr rfl)
      refine ⟨by simp, fun _ => S.tr (.inl rfl), fun _ => ⟨fun c => ((m.cells[c.toNat]?).map Prod.fst).getD 0, ?_⟩, by simp, by simp⟩
      refine hrn.1.mono ?_
      rintro c g ⟨ver, h1, h2⟩
      have hin := T.kr.2 _ (alk_mem h1)
      have hlt : c.toNat < m.cells.length := by rw [h.cl]; omega
      have hq : m.cells[c.toNat]? = some m.cells[c.toNat] := by simp [hlt]
      have := h2 _ hq (fresh_at hf h1 hq)
      show g = ((m.cells[c.toNat]?).map Prod.fst).getD 0
      rw [hq]
      simpa using this.symm
    · have T' := h.th k u x r' w' hu hx' hw'
      refine ⟨T'.nx, T'.sw, T'.kr, T'.kw, T'.rd, T'.ev, fun hb j s hj hs => ?_⟩
      have S := T'.ts hb j s hj hs
      exact ⟨S.ab, S.tr, S.cm, fun hx => (S.rn hx).cells hmono, fun e he => by
        obtain ⟨ds, d, h1, h2, h3⟩ := S.an e he
        exact ⟨ds, d, h1, h2.cells hmono, h3⟩⟩
theorem Inv.answers {p : Pg} {m : Mc} {l : List St} (hp : PgOk p) (h : Inv p m l) {i : Nat} {t : Th} {e : Ev} {txs : List (List Ac)} {acts : List Ac} {a : Ac} {c : Int × Int} {r w : As} (hi : m.ths[i]? = some t) (hx : m.nx[i]? = some (.ans e)) (hw : m.ws[i]? = some (r, w))
    (htx : p.ths[i]? = some txs) (hac : txs[t.tx]? = some acts) (ha : acts[t.act]? = some a) (hcell : m.cells[e.obj.toNat]? = some c) : ∃ l', Inv p (m.put i (retT t a (ansVal w c e)) (retE i t a (ansVal w c e)) .nil (ansW r w c e)) l' := by
  have T := h.th i t (.ans e) r w hi hx hw
  obtain ⟨hwt, hb, txs1, acts1, a1, b1, b2, b3, h4, hea⟩ := T.nx
  rw [htx] at b1; cases b1
  rw [hac] at b2; cases b2
  rw [ha] at b3; cases b3
  obtain ⟨txs', acts', j, s, hc⟩ := h.sim.get hi hb
  have e1 := hc.ptx
  rw [htx] at e1; cases e1
  have e2 := hc.pac
  rw [hac] at e2; cases e2
  have S := T.ts hb j s hc.fd hc.at_
  have hk3 : t.tx < 3 := (h.sim.cur i t hi).tx3 hp hb
  have hmem := List.mem_of_getElem? hc.at_
  have hfew := h.sim.few hp
  obtain ⟨p1, p2, p3, p4, p5⟩ := askE_parts i t a
  rw [← hea] at p1 p2 p3 p4 p5
  obtain ⟨q1, q2, q3⟩ := actOk_cases (hp.a i t.tx t.act txs acts a htx hac ha) h4
  have hval : small m.evs.length (ansVal w c e) := by
    unfold ansVal
    split
    · unfold small; omega
    · cases hl : alk e.obj w with
      | none => simpa using h.cv c (List.mem_of_getElem? hcell)
      | some v => simpa using T.sw _ (alk_mem hl)
  have hvb : -1000000000 ≤ ansVal w c e ∧ ansVal w c e ≤ 1000000000 := by unfold small at hval; omega
  obtain ⟨ds, d, hst, hds, hA, hob, hop, hfit, hf, hS⟩ := h.sim.ret hp hi hb hwt hc ha (val := ansVal w c e) (fun hr => ⟨hvb, fun _ => by unfold small at hval; omega⟩)
  obtain ⟨ds', d', c1, c2, c3⟩ := S.an e rfl
  have hdd : ds' = ds ∧ d' = d := by
    rw [hds] at c1
    have := List.append_inj' c1 rfl
    exact ⟨this.1.symm, by simpa using this.2.symm⟩
  obtain ⟨rfl, rfl⟩ := hdd
  have hgr : Grow i (idOf i t.tx) l (retS s ds' d' (retE i t a (ansVal w c e)) m.evs.length) (l.set j (retS s ds' d' (retE i t a (ansVal w c e)) m.evs.length)) := .ofCur hc rfl (fun h => h)
  have hkey : 0 ≤ e.obj ∧ e.obj < p.cells.length := by rw [p3]; exact q1
  refine ⟨_, h.put (r' := (ansW r w c e).1) (w' := (ansW r w c e).2) hp hi hk3 hgr hS ⟨?nx, ?sw, ?kr, ?kw, ?rd, by simp, ?ts⟩ (by simp [retS]) ?ops (by simp [retS]) ?ab⟩
  case nx =>
    show (retT t a (ansVal w c e)).waits = 0
    unfold retT
    split
    · split <;> rfl
    · rfl
  case sw =>
    intro x hx
    have hev := T.ev e rfl
    unfold ansW at hx
    split at hx
    · rcases aupd_mem hx with hx | rfl
      · exact (T.sw x hx).up (by simp)
      · exact hev.up (by simp)
    · split at hx
      · exact (T.sw x hx).up (by simp)
      · split at hx <;> exact (T.sw x hx).up (by simp)
  case kr =>
    unfold ansW
    split
    · exact T.kr
    · split
      · exact T.kr
      · split
        · exact T.kr
        · exact ⟨aupd_nodup T.kr.1, fun x hx => by
            rcases aupd_mem hx with hx | rfl
            · exact T.kr.2 x hx
            · exact hkey⟩
  case kw =>
    unfold ansW
    split
    · exact ⟨aupd_nodup T.kw.1, fun x hx => by
        rcases aupd_mem hx with hx | rfl
        · exact T.kw.2 x hx
        · exact hkey⟩
    · split
      · exact T.kw
      · split <;> exact T.kw
  case rd =>
    unfold retT
    split
    · split
      · exact hval.up (by simp)
      · exact T.rd.up (by simp)
    · exact T.rd.up (by simp)
  case ops =>
    intro x hx
    simp only [retS, List.mem_append, List.mem_singleton] at hx
    rcases hx with hx | rfl
    · exact h.ops s hmem x (by rw [hds]; simp [hx])
    · exact h.ops s hmem d' (by rw [hds]; simp)
  case ab =>
    intro h6
    exfalso
    unfold retE at h6
    split at h6 <;> simp at h6
  case ts =>
    intro _ j' s' hj hs
    have htx' : (retT t a (ansVal w c e)).tx = t.tx := by
      unfold retT
      split
      · split <;> rfl
      · rfl
    rw [htx'] at hj
    rw [hgr.new j' s' hj hs]
    refine ⟨by simp, by simp, by simp, fun _ => ?_, by simp⟩
    show RunOk m.cells (ansW r w c e).1 (ansW r w c e).2 (ds' ++ [_])
    obtain ⟨r1, r2, r3⟩ := c2
    by_cases hr : isRead t a = true
    · have ho : e.op = 1 := by rw [p4, hr]; rfl
      have hgot : (retE i t a (ansVal w c e)).val = ansVal w c e := by simp [retE, hr]
      have ho2 : ¬ e.op = 2 := by omega
      have hdo : d'.op = 1 := by rw [hop, hr]; rfl
      rw [hgot]
      have hoe : d'.obj = e.obj := by rw [hob, p3]
      simp only [ansVal, ansW, if_neg ho2]
      cases hl : alk e.obj w with
      | some v =>
        simp only [Option.isSome_some, if_true, Option.getD_some]
        refine ⟨r1.snoc (fun _ => ?_), fun k => ?_, r3⟩
        · show match lw d'.obj ds' with | some v' => v = v' | none => _
          rw [hoe, ← r2, hl]
        · rw [lw_snoc]
          simp [hdo, r2]
      | none =>
        simp only [Option.isSome_none, Option.getD_none]
        cases hl2 : alk e.obj r with
        | some ver =>
          simp only [Option.isSome_some, if_true]
          refine ⟨r1.snoc (fun _ => ?_), fun k => ?_, r3⟩
          · show match lw d'.obj ds' with | some v' => c.1 = v' | none => ∃ ver, alk d'.obj r = some ver ∧ ∀ q, m.cells[d'.obj.toNat]? = some q → q.2 = ver → q.1 = c.1
            rw [hoe, ← r2, hl]
            refine ⟨ver, hl2, fun q hq _ => ?_⟩
            rw [hcell] at hq; cases hq; rfl
          · simp only [Bool.false_eq_true, if_false]
            rw [lw_snoc]
            simp [hdo, r2]
        | none =>
          simp only [Option.isSome_none, Bool.false_eq_true, if_false]
          refine ⟨RdOk.snoc (r1.mono ?_) (fun _ => ?_), fun k => ?_, ?_⟩
          · rintro k g ⟨ver, h1, h2⟩
            refine ⟨ver, ?_, h2⟩
            rw [alk_aupd]
            have : ¬ k = e.obj := by intro he; rw [he, hl2] at h1; cases h1
            rw [if_neg this]; exact h1
          · show match lw d'.obj ds' with | some v' => c.1 = v' | none => ∃ ver, alk d'.obj (aupd e.obj c.2 r) = some ver ∧ ∀ q, m.cells[d'.obj.toNat]? = some q → q.2 = ver → q.1 = c.1
            rw [hoe, ← r2, hl]
            refine ⟨c.2, by rw [alk_aupd, if_pos rfl], fun q hq _ => ?_⟩
            rw [hcell] at hq; cases hq; rfl
          · rw [lw_snoc]
            simp [hdo, r2]
          · intro k ver hk q hq
            rw [alk_aupd] at hk
            split at hk
            · rename_i he
              cases hk
              rw [he, hcell] at hq; cases hq; exact Int.le_refl _
            · exact r3 k ver hk q hq
    · have hrf : isRead t a = false := by simpa using hr
      have ho : e.op = 2 := by rw [p4, hrf]; rfl
      have hdo : d'.op = 2 := by rw [hop, hrf]; rfl
      simp only [ansW, ho, if_true]
      refine ⟨r1.snoc (fun h1 => ?_), fun k => ?_, r3⟩
      · exfalso
        have h1 : d'.op = 1 := h1
        omega
      · rw [lw_snoc, alk_aupd, r2]
        have hoe : d'.obj = e.obj := by rw [hob, p3]
        simp only [hdo, hoe, true_and, c3]
        by_cases hke : k = e.obj
        · simp [hke]
        · have : ¬ e.obj = k := fun h => hke h.symm
          simp [hke, this]
/-- A thread that has something to do. -/
def more (p : Pg) (m : Mc) (i : Nat) : Prop := ∃ txs t acts, p.ths[i]? = some txs ∧ m.ths[i]? = some t ∧ txs[t.tx]? = some acts
theorem Inv.step {p : Pg} {m : Mc} {l : List St} (hp : PgOk p) (h : Inv p m l) (i : Nat) : (∃ l', Inv p (m.step p i) l') ∧ (more p m i → mu m + 1 ≤ mu (m.step p i)) ∧ (¬ more p m i → m.step p i = m) := by
  by_cases hm : more p m i
  · obtain ⟨txs, t, acts, htx, hi, hac⟩ := hm
    have hil := (List.getElem?_eq_some_iff.1 htx).1
    obtain ⟨x, hx⟩ : ∃ x, m.nx[i]? = some x := ⟨m.nx[i]'(by rw [h.nl]; exact hil), by simp [h.nl, hil]⟩
    obtain ⟨⟨r, w⟩, hw⟩ : ∃ q, m.ws[i]? = some q := ⟨m.ws[i]'(by rw [h.wl]; exact hil), by simp [h.wl, hil]⟩
    have T := h.th i t x r w hi hx hw
    have hstep : ∀ m', m.step p i = m' → (∃ l', Inv p m' l') → mu m + 1 ≤ mu m' → (∃ l', Inv p (m.step p i) l') ∧ (more p m i → mu m + 1 ≤ mu (m.step p i)) ∧ (¬ more p m i → m.step p i = m) := by
      intro m' hm' h1 h2
      rw [hm']
      exact ⟨h1, fun _ => h2, fun hn => absurd ⟨txs, t, acts, htx, hi, hac⟩ hn⟩
    cases x with
    | nil =>
      cases hb : t.begun with
      | false => exact hstep _ (by simp only [Mc.step, htx, hi, hx, hw, hac, hb]; rfl) (h.begins hp hi hx hw hb htx (List.getElem?_eq_some_iff.1 hac).1) (mu_put hx)
      | true => exact hstep _ (by simp only [Mc.step, htx, hi, hx, hw, hac, hb]; rfl) (h.nexts hp hi hx hw hb htx hac) (mu_put hx)
    | abort => exact hstep _ (by simp only [Mc.step, htx, hi, hx, hw, hac]) (h.ends hp hi hx hw T.nx.2 (.inl ⟨rfl, .inl rfl⟩)) (mu_put hx)
    | commit => exact hstep _ (by simp only [Mc.step, htx, hi, hx, hw, hac]) (h.ends hp hi hx hw T.nx.2 (.inr ⟨rfl, rfl⟩)) (mu_put hx)
    | look =>
      cases hf : fresh r m.cells with
      | true =>
        refine hstep _ (by simp only [Mc.step, htx, hi, hx, hw, hac, hf, if_true]) ⟨l, h.look hi hx hw hf⟩ ?_
        have := sum_set' isC (t' := Stp.commit) hx
        simp only [isC, Nat.add_zero] at this
        simp only [mu]; omega
      | false => exact hstep _ (by simp only [Mc.step, htx, hi, hx, hw, hac, hf]; rfl) (h.ends hp hi hx hw T.nx.2 (.inl ⟨rfl, .inr rfl⟩)) (mu_put hx)
    | ans e =>
      obtain ⟨hwt, hb, txs1, acts1, a, b1, b2, b3, h4, hea⟩ := T.nx
      rw [htx] at b1; cases b1
      rw [hac] at b2; cases b2
      obtain ⟨q1, q2, q3⟩ := actOk_cases (hp.a i t.tx t.act txs acts a htx hac b3) h4
      have ho : e.obj = a.c := by rw [hea]; exact (askE_parts i t a).2.2.1
      have hlt : e.obj.toNat < m.cells.length := by rw [h.cl, ho]; omega
      have hcell : m.cells[e.obj.toNat]? = some m.cells[e.obj.toNat] := by simp [hlt]
      exact hstep _ (by simp only [Mc.step, htx, hi, hx, hw, hac, b3, hcell]) (h.answers hp hi hx hw htx hac b3 hcell) (mu_put hx)
  · have : m.step p i = m := by
      unfold Mc.step
      split
      · rename_i txs t x r w h1 h2 h3 h4
        split
        · rfl
        · rename_i acts h5
          exact absurd ⟨txs, t, acts, h1, h2, h5⟩ hm
      · rfl
    rw [this]
    exact ⟨⟨l, h⟩, fun h => absurd h hm, fun _ => rfl⟩
end Go.Proofs.YtbogjkggfdhckaaGreatDoor
