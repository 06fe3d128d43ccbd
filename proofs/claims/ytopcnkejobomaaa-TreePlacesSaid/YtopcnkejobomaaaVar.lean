/- Regions that draw their order, and whose effects are not in one order: one formula for each order of the effects. No program is named here. -/
import Derived.Test.YtopcnkejobomaaaDraw
namespace Go.Proofs.Ytopcnkejobomaaa

/-- The items in another order than the text's. -/
def itsOf (ops : List Oper) (ds : List DA) (order : List Nat) : List It := order.filterMap fun i => (items ops ds)[i]?
def pairOk2 (x y : DA) : Bool :=
  (y.bm.testBit x.i || (zero y.lk x.db && zero x.db y.db && zero x.lk y.db)) &&
  (match x.k, y.k with
   | .f r ext, .q (some lo) => (!(Nat.blt r lo) || y.bm.testBit x.i) && (!(Nat.ble lo r) || ext)
   | .q (some lo), .f r ext => !(Nat.blt r lo) && (!(Nat.ble lo r) || y.bm.testBit x.i || ext)
   | _, _ => true)
def pairsOk2 : List DA → Bool
  | [] => true
  | x :: l => l.all (fun y => pairOk2 x y) && pairsOk2 l
theorem pairsOk2_spec : ∀ {l : List It}, pairsOk2 (l.map (·.a)) = true → l.Pairwise (fun x y => pairOk2 x.a y.a = true)
  | [], _ => .nil
  | x :: l, h => by
    simp only [List.map_cons, pairsOk2, Bool.and_eq_true] at h
    refine .cons (fun y hy => ?_) (pairsOk2_spec h.2)
    exact List.all_eq_true.1 h.1 y.a (List.mem_map.2 ⟨y, hy, rfl⟩)
/-- A listing that may come: each ahead of which all has come that it waits for, the effects in the items' order. -/
def ValidL (ops : List Oper) (its : List It) : List Nat → Array Bool → Prop
  | [], listed => left its listed = []
  | i :: s, listed => listed.getD i true = false ∧ (∃ o, ops[i]? = some o ∧ ∀ e ∈ o.after, Region.binds .any e = true → listed.getD e.on false = true) ∧
      (∀ l1 x l2, left its listed = l1 ++ x :: l2 → x.i = i → x.k.isF = true → ∀ y ∈ l1, y.k.isF = false) ∧ ValidL ops its s (listed.setIfInBounds i true)

theorem drw_list {n : Nat} {D : List Deferred} {P : Program} {S : Rl} {ops : List Oper} {ds : List DA} {its : List It} {K : Env → World → Prop} {Q : Exit → Act → World → Prop} (hlin : linOk n ops ops ds 0 [] = true)
    (hin : ∀ x ∈ its, x ∈ items ops ds) (hall' : ∀ i, i < ops.length → ∃ x ∈ its, x.i = i) (hnd : its.Pairwise fun x y => x.i ≠ y.i) (hpw : its.Pairwise (fun x y => pairOk2 x.a y.a = true)) (hK : ∀ e a w, Rel n D a e → K e w → Q .normal a w) :
    ∀ (s : List Nat) (listed : Array Bool) (e : Env) (ws : List World) (cur w : World) (a : Act), ValidL ops its s listed → listed.size = ops.length → Closed ops listed → Rel n D a e → Drawn cur w →
      wfl (left its listed) ws.length → (∀ x ∈ left its listed, ∀ lo, x.k = .q (some lo) → lo < ws.length → S.r (ws.getD lo cur) cur) →
      drl P S ops K (left its listed) e ws cur → wpOps P ops.toArray Q s a w := by
  intro s
  induction s with
  | nil =>
    intro listed e ws cur w a hv hsz hcl hr hd hwf hext h
    have hnil : left its listed = [] := hv
    rw [hnil] at h
    exact hK e a w hr (by unfold drl at h; simp only [List.map_nil, drw] at h; exact h.out w hd)
  | cons i s ih =>
    intro listed e ws cur w a hv hsz hcl hr hd hwf hext h
    obtain ⟨hun, ⟨o, ho, hall⟩, hfo, hv'⟩ := hv
    rw [wpOps_cons]
    have hpl : (left its listed).Pairwise (fun x y => x.i ≠ y.i ∧ pairOk2 x.a y.a = true) := (hnd.and hpw).sublist List.filter_sublist
    obtain ⟨x, hxm, hxi⟩ := hall' i (List.getElem?_eq_some_iff.1 ho).1
    subst hxi
    have hx := hin x hxm
    obtain ⟨hx1, hx2, hx3⟩ := items_at hlin hx
    have hxo : o = x.o := Option.some.inj (ho.symm.trans hx1)
    subst hxo
    have hxl : x ∈ left its listed := mem_left.2 ⟨hxm, hun⟩
    obtain ⟨l1, l2, hl⟩ := List.append_of_mem hxl
    have hxlt : x.i < listed.size := by rw [hsz]; exact (List.getElem?_eq_some_iff.1 ho).1
    have hfo := fun hf => hfo l1 x l2 hl rfl hf
    rw [hl] at hpl
    have hp1 : ∀ y ∈ l1, y.i ≠ x.i ∧ pairOk2 y.a x.a = true := fun y hy => (List.pairwise_append.1 hpl).2.2 y hy x (List.mem_cons_self ..)
    have hp2 : ∀ y ∈ l2, x.i ≠ y.i ∧ pairOk2 x.a y.a = true := fun y hy => List.rel_of_pairwise_cons (List.pairwise_append.1 hpl).2.1 hy
    have hleft := left_set hxlt hl (fun y hy => (hp1 y hy).1) (fun y hy => Ne.symm (hp2 y hy).1)
    have hmx := mask_listed hlin hcl x.i x.o x.a ho hx2 hall
    have hin' : ∀ y ∈ l1, y ∈ left its listed := fun y hy => by rw [hl]; simp [hy]
    have hm1 : ∀ y ∈ l1, x.a.bm.testBit y.a.i = false := fun y hy => by
      cases hb : x.a.bm.testBit y.a.i with
      | false => rfl
      | true =>
        have h1 := hmx _ hb
        have h2 := (mem_left.1 (hin' y hy)).2
        change listed.getD y.i false = true at h1
        rw [getD_false_of_true h2] at h1
        cases h1
    have hind : ∀ y ∈ l1, Apart ops y.o x.o ∧ (y.k.isF && x.k.isF) = false := fun y hy => by
      have := (hp1 y hy).2
      simp only [pairOk2, hm1 y hy, Bool.false_or, Bool.and_eq_true] at this
      obtain ⟨⟨⟨z1, z2⟩, z3⟩, _⟩ := this
      have hyl := (items_at hlin (hin y (mem_left.1 (hin' y hy)).1)).2.2
      have contra : ∀ {b : Bool}, b = true → b = false → False := fun h1 h2 => by rw [h1] at h2; cases h2
      refine ⟨⟨fun d hd => ?_, fun d hd he => ?_, fun d hd => ?_⟩, ?_⟩
      · have hb := zero_bit z1 (hyl.db ▸ bit_dst hd)
        cases hq : (looksB ops x.o).testBit d with
        | false => rfl
        | true => exact (contra (has_bit hx3.lk hq) hb).elim
      · exact contra (hyl.db ▸ bit_dst hd) (zero_bit z2 (hx3.db ▸ bit_dst he))
      · have hb := zero_bit z3 (hx3.db ▸ bit_dst hd)
        cases hq : (looksB ops y.o).testBit d with
        | false => rfl
        | true => exact (contra (has_bit hyl.lk hq) hb).elim
      · cases hxf : x.k.isF with
        | false => simp
        | true => rw [hfo hxf y hy]; rfl
    rw [hl] at hwf h hext
    have hmay : x.k.may ws.length := by
      cases hxk : x.k with
      | f r ext => trivial
      | q lo =>
       cases lo with
       | none => trivial
       | some lo =>
        rcases Nat.lt_or_ge lo ws.length with h' | h'
        · exact h'
        · obtain ⟨y, hy, r, ext, hyk, hr1⟩ := wfl_first hxk hwf h'
          have := (hp1 y hy).2
          have hyk : y.a.k = .f r ext := hyk
          have hxk : x.a.k = .q (some lo) := hxk
          simp only [pairOk2, hm1 y hy, hyk, hxk, Bool.and_eq_true, Bool.or_false, Bool.not_eq_true'] at this
          have h3 : Nat.blt r lo = true := Nat.ble_eq_true_of_le (by omega)
          rw [h3] at this
          simp at this
    have h := drw_front x l1 l2 e ws cur hwf hmay hind h
    have hcl' : Closed ops (listed.setIfInBounds x.i true) := fun j oj hj hlj ed hed hb => by
      by_cases hji : x.i = j
      · subst hji
        have : oj = x.o := Option.some.inj (hj.symm.trans ho)
        subst this
        exact getD_set_true (hall ed hed hb)
      · rw [getD_set_ne false hji] at hlj
        exact getD_set_true (hcl j oj hj hlj ed hed hb)
    have hdl := hx3.dst
    have go : ∀ (v : Value) (ws' : List World) (cur' w' : World), Drawn cur' w' → wfl (l1 ++ l2) ws'.length → (∀ x ∈ l1 ++ l2, ∀ lo, x.k = .q (some lo) → lo < ws'.length → S.r (ws'.getD lo cur') cur') →
        drl P S ops K (l1 ++ l2) (e.set x.o.dst v) ws' cur' → wpOps P ops.toArray Q s (a.put x.o.dst v) w' := fun v ws' cur' w' hd' hw' he' h' =>
      ih (listed.setIfInBounds x.i true) _ ws' cur' w' _ hv' (by simpa using hsz) hcl' (hr.put _ (dstOk_lt hdl) v) hd' (by rw [hleft]; exact hw') (by rw [hleft]; exact he') (by rw [hleft]; exact h')
    unfold wpOp
    rw [List.getElem?_toArray, ho]
    simp only []
    have hsub : ∀ y ∈ l1 ++ l2, y ∈ l1 ++ x :: l2 := fun y hy => by
      rcases List.mem_append.1 hy with h | h
      · simp [h]
      · simp [h]
    obtain ⟨xo, xi, xk, xl, xb, xd⟩ := x
    cases xk with
    | q lo =>
      rw [drw_q] at h
      obtain ⟨v, hv, h⟩ := h
      have hwf' := wfl_drop_q (x := ⟨xo, xi, .q lo, xl, xb, xd⟩) rfl hwf
      have hE : baseOf S lo ws cur w := by
        cases lo with
        | none => trivial
        | some lo => exact S.tr (hext ⟨xo, xi, .q (some lo), xl, xb, xd⟩ (by simp) lo rfl hmay) (S.dr hd)
      have run : (∀ w', baseOf S lo ws cur w' → opq P (opE (ev e) xo) w' v) → xo.wp P a w (wpOps P ops.toArray Q s) Q := fun hq =>
        hr.oper (mop_of_opq (hq w hE)) (fun u w' ⟨hu, hdw⟩ => by rw [hu]; exact go v ws cur w' (hd.trans hdw) hwf' (fun y hy => hext y (hsub y hy)) h) (fun _ _ h => h.elim)
      unfold ValQ at hv
      cases hg : xo.guard with
      | none =>
        simp only [hg] at hv
        rw [if_pos (by simp [Region.wanted, hg])]
        exact .inl (run hv)
      | some g =>
        obtain ⟨j, want⟩ := g
        simp only [hg] at hv
        have hw := hr.wanted ops xo j want hg
        by_cases hc : guardV ops e j = .bool want
        · rw [if_pos (hw.2 hc)]
          exact .inl (run (hv.1 hc))
        · rw [if_neg (fun h => hc (hw.1 h))]
          have hvu := hv.2 hc
          subst hvu
          exact go undef ws cur w hd hwf' (fun y hy => hext y (hsub y hy)) h
    | f r ext =>
      rw [drw_f] at h
      have hq1 : ∀ y ∈ l1, y.k.isF = false := fun y hy => by simpa [It.k, DK.isF] using (hind y hy).2
      obtain ⟨hr1, hwf'⟩ := wfl_drop_f (x := ⟨xo, xi, .f r ext, xl, xb, xd⟩) rfl hq1 hwf
      have hnew : ∀ w', (ext = true → S.r cur w') → ∀ y ∈ l1 ++ l2, ∀ lo, y.k = .q (some lo) → lo < (ws ++ [w']).length → S.r ((ws ++ [w']).getD lo w') w' := fun w' hw' y hy lo hyk hlt => by
        rcases Nat.lt_or_ge lo ws.length with hlo | hlo
        · rw [getD_push ws cur w' hlo]
          have hle : Nat.ble lo r = true := Nat.ble_eq_true_of_le (by omega)
          refine S.tr (hext y (hsub y hy) lo hyk hlo) (hw' ?_)
          rcases List.mem_append.1 hy with h1 | h1
          · have := (hp1 y h1).2
            have hyk : y.a.k = .q (some lo) := hyk
            simp only [pairOk2, hm1 y h1, hyk, Bool.and_eq_true, hle, Bool.not_true, Bool.false_or] at this
            exact this.2.2
          · have := (hp2 y h1).2
            have hyk : y.a.k = .q (some lo) := hyk
            simp only [pairOk2, hyk, Bool.and_eq_true, hle, Bool.not_true, Bool.false_or] at this
            exact this.2.2
        · have : lo = ws.length := by simp at hlt; omega
          subst this
          simp [List.getD, S.rf]
      have run : dfS P S cur (opE (ev e) xo) ext (fun v w' => drl P S ops K (l1 ++ l2) (e.set xo.dst v) (ws ++ [w']) w') → xo.wp P a w (wpOps P ops.toArray Q s) Q := fun hf =>
        hr.oper (hf.out w hd) (fun v w' ⟨h1, h2⟩ => go v (ws ++ [w']) w' w' (Drawn.refl w') (by simpa using hwf') (hnew w' h1) h2) (fun _ _ h => h.elim)
      unfold EffF at h
      cases hg : xo.guard with
      | none =>
        simp only [hg] at h
        rw [if_pos (by simp [Region.wanted, hg])]
        exact .inl (run h)
      | some g =>
        obtain ⟨j, want⟩ := g
        simp only [hg] at h
        have hw := hr.wanted ops xo j want hg
        by_cases hc : guardV ops e j = .bool want
        · rw [if_pos (hw.2 hc)]
          exact .inl (run (h.yes hc))
        · rw [if_neg (fun h => hc (hw.1 h))]
          exact go undef (ws ++ [cur]) cur w hd (by simpa using hwf') (hnew cur (fun _ => S.rf cur)) (h.no hc)

/-! ### Each order of the effects is one of those given -/
structure Vr where
  order : List Nat
  ds : List DA
def Vr.its (ops : List Oper) (v : Vr) : List It := itsOf ops v.ds v.order
/-- The effects that are left, in the variant's order. -/
def remE (its : List It) (listed : Array Bool) : List Nat := ((left its listed).filter fun x => x.k.isF).map (·.i)
/-- Of the pairs (a variant, its effects that are left) there is one for each order that may come. -/
def cov (bm : Nat → Nat) : Nat → List Nat → List (Vr × List Nat) → Prop
  | 0, _, vs => vs ≠ []
  | f + 1, pend, vs => vs ≠ [] ∧ ∀ x ∈ pend, (∀ y ∈ pend, (bm x).testBit y = false) → cov bm f (pend.filter (· != x)) ((vs.filter fun p => p.2.head? == some x).map fun p => (p.1, p.2.tail))
/-- A listing of all, each behind what it waits for. -/
def ValidO (ops : List Oper) : List Nat → Array Bool → Prop
  | [], listed => ∀ i, i < ops.length → listed.getD i true = true
  | i :: s, listed => listed.getD i true = false ∧ (∃ o, ops[i]? = some o ∧ ∀ e ∈ o.after, Region.binds .any e = true → listed.getD e.on false = true) ∧ ValidO ops s (listed.setIfInBounds i true)

theorem left_set2 (its : List It) (listed : Array Bool) (i : Nat) (hlt : i < listed.size) : left its (listed.setIfInBounds i true) = (left its listed).filter fun y => y.i != i := by
  unfold left
  rw [List.filter_filter]
  congr 1
  funext y
  by_cases hy : y.i = i
  · rw [hy]; simp [hlt]
  · rw [getD_set_ne true (Ne.symm hy)]; simp [hy]
theorem remE_set (its : List It) (listed : Array Bool) (i : Nat) (hlt : i < listed.size) : remE its (listed.setIfInBounds i true) = (remE its listed).filter (· != i) := by
  unfold remE
  rw [left_set2 its listed i hlt, List.filter_filter, List.filter_map, List.filter_filter]
  congr 1
  refine List.filter_congr fun x _ => ?_
  simp only [Function.comp]
  exact Bool.and_comm _ _
theorem remE_nodup {its : List It} (h : its.Pairwise fun x y => x.i ≠ y.i) (listed : Array Bool) : (remE its listed).Nodup := by
  unfold remE left
  exact List.pairwise_map.2 ((h.sublist List.filter_sublist).sublist List.filter_sublist)
theorem closed_set {ops : List Oper} {listed : Array Bool} {i : Nat} {o : Oper} (hcl : Closed ops listed) (ho : ops[i]? = some o) (hall : ∀ e ∈ o.after, Region.binds .any e = true → listed.getD e.on false = true) : Closed ops (listed.setIfInBounds i true) := fun j oj hj hlj ed hed hb => by
  by_cases hji : i = j
  · subst hji
    have : oj = o := Option.some.inj (hj.symm.trans ho)
    subst this
    exact getD_set_true (hall ed hed hb)
  · rw [getD_set_ne false hji] at hlj
    exact getD_set_true (hcl j oj hj hlj ed hed hb)
theorem exists_valid {n : Nat} {ops : List Oper} {ds0 : List DA} (hlin0 : linOk n ops ops ds0 0 [] = true) (effs : List Nat) :
    ∀ (s : List Nat) (listed : Array Bool) (f : Nat) (vs : List (Vr × List Nat)), listed.size = ops.length → Closed ops listed → ValidO ops s listed →
      (∀ p ∈ vs, (∀ x ∈ p.1.its ops, x.i < ops.length) ∧ (p.1.its ops).Pairwise (fun x y => x.i ≠ y.i) ∧ (∀ x ∈ p.1.its ops, x.k.isF = true ↔ x.i ∈ effs) ∧ remE (p.1.its ops) listed = p.2) →
      (effs.filter fun i => !listed.getD i true).length ≤ f →
      cov (fun i => (ds0.getD i ⟨0, .q none, 0, 0, 0⟩).bm) f (effs.filter fun i => !listed.getD i true) vs → ∃ p ∈ vs, ValidL ops (p.1.its ops) s listed := by
  intro s
  induction s with
  | nil =>
    intro listed f vs hsz hcl hv hvs hf hc
    have hne : vs ≠ [] := by
      cases f with
      | zero => exact hc
      | succ f => exact hc.1
    obtain ⟨p, hp⟩ := List.exists_mem_of_ne_nil vs hne
    refine ⟨p, hp, ?_⟩
    show left (p.1.its ops) listed = []
    refine List.eq_nil_iff_forall_not_mem.2 fun x hx => ?_
    obtain ⟨hx1, hx2⟩ := mem_left.1 hx
    have hm := (hvs p hp).1 x hx1
    have := hv x.i hm
    rw [this] at hx2
    cases hx2
  | cons i s ih =>
    intro listed f vs hsz hcl hv hvs hf hc
    obtain ⟨hun, ⟨o, ho, hall⟩, hv'⟩ := hv
    have hilt : i < listed.size := by rw [hsz]; exact (List.getElem?_eq_some_iff.1 ho).1
    have hcl' := closed_set hcl ho hall
    have hpend : effs.filter (fun j => !(listed.setIfInBounds i true).getD j true) = (effs.filter fun j => !listed.getD j true).filter (· != i) := by
      rw [List.filter_filter]
      refine List.filter_congr fun j _ => ?_
      by_cases hj : j = i
      · subst hj; simp [hilt]
      · rw [getD_set_ne true (Ne.symm hj)]; simp [hj]
    by_cases hie : i ∈ effs
    · have hip : i ∈ effs.filter fun j => !listed.getD j true := List.mem_filter.2 ⟨hie, by simp only [hun]; rfl⟩
      cases f with
      | zero =>
        have := List.length_pos_of_mem hip
        omega
      | succ f =>
        obtain ⟨hlen, hsp⟩ := linOk_spec hlin0
        obtain ⟨d, hd, _⟩ := hsp i o ho
        have hmk := mask_listed hlin0 hcl i o d ho hd hall
        have hc2 := hc.2 i hip (fun y hy => by
          have hyu : listed.getD y true = false := by simpa using (List.mem_filter.1 hy).2
          have e : (ds0.getD i ⟨0, .q none, 0, 0, 0⟩) = d := by simp [List.getD, hd]
          simp only [e]
          cases hb : d.bm.testBit y with
          | false => rfl
          | true =>
            have h1 := hmk y hb
            rw [getD_false_of_true hyu] at h1
            cases h1)
        rw [← hpend] at hc2
        obtain ⟨p', hp', hval⟩ := ih _ f _ (by simpa using hsz) hcl' hv' (fun p hp => by
          obtain ⟨q, hq, rfl⟩ := List.mem_map.1 hp
          obtain ⟨hq1, hq2⟩ := List.mem_filter.1 hq
          obtain ⟨a1, a2, a3, a4⟩ := hvs q hq1
          refine ⟨a1, a2, a3, ?_⟩
          have hhd : q.2.head? = some i := by simpa using hq2
          have hno := remE_nodup a2 listed
          show remE (q.1.its ops) (listed.setIfInBounds i true) = q.2.tail
          rw [remE_set _ _ _ hilt, a4]
          rw [a4] at hno
          cases hq2c : q.2 with
          | nil => rw [hq2c] at hhd; cases hhd
          | cons z t =>
            rw [hq2c] at hhd hno
            simp only [List.head?_cons, Option.some.injEq] at hhd
            subst hhd
            rw [List.filter_cons]
            simp only [bne_self_eq_false, Bool.false_eq_true, if_false, List.tail_cons]
            refine List.filter_eq_self.2 fun y hy => ?_
            have := (List.nodup_cons.1 hno).1
            simp
            rintro rfl
            exact this hy) (by
          rw [hpend]
          have := List.length_filter_lt_length_iff_exists (p := (· != i)) (l := effs.filter fun j => !listed.getD j true) |>.2 ⟨i, hip, by simp⟩
          omega) hc2
        obtain ⟨q, hq, rfl⟩ := List.mem_map.1 hp'
        obtain ⟨hq1, hq2⟩ := List.mem_filter.1 hq
        refine ⟨q, hq1, hun, ⟨o, ho, hall⟩, ?_, hval⟩
        intro l1 x l2 hl hxi hxf y hy
        cases hyf : y.k.isF with
        | false => rfl
        | true =>
          exfalso
          obtain ⟨a1, a2, a3, a4⟩ := hvs q hq1
          have hhd : q.2.head? = some i := by simpa using hq2
          rw [← a4] at hhd
          unfold remE at hhd
          rw [hl, List.filter_append, List.map_append] at hhd
          have hyl : y ∈ l1.filter (fun x => x.k.isF) := List.mem_filter.2 ⟨hy, hyf⟩
          cases hl1 : l1.filter (fun x => x.k.isF) with
          | nil => rw [hl1] at hyl; cases hyl
          | cons z t =>
            rw [hl1] at hhd
            simp only [List.map_cons, List.cons_append, List.head?_cons, Option.some.injEq] at hhd
            have hz : z ∈ l1 := (List.mem_filter.1 (by rw [hl1]; exact List.mem_cons_self .. : z ∈ l1.filter (fun x => x.k.isF))).1
            have hpl : (left (q.1.its ops) listed).Pairwise (fun x y => x.i ≠ y.i) := a2.sublist List.filter_sublist
            rw [hl] at hpl
            exact (List.pairwise_append.1 hpl).2.2 z hz x (List.mem_cons_self ..) (by rw [hhd, hxi])
    · obtain ⟨p, hp, hval⟩ := ih _ f vs (by simpa using hsz) hcl' hv' (fun p hp => by
        obtain ⟨a1, a2, a3, a4⟩ := hvs p hp
        refine ⟨a1, a2, a3, ?_⟩
        rw [remE_set _ _ _ hilt, a4]
        refine List.filter_eq_self.2 fun y hy => ?_
        rw [← a4] at hy
        obtain ⟨z, hz, rfl⟩ := List.mem_map.1 hy
        obtain ⟨hz1, hz2⟩ := List.mem_filter.1 hz
        have := (a3 z (mem_left.1 hz1).1).1 hz2
        simp
        rintro rfl
        exact hie this) (by rw [hpend]; exact Nat.le_trans (List.length_filter_le _ _) hf) (by
          have : (effs.filter fun j => !listed.getD j true).filter (· != i) = effs.filter fun j => !listed.getD j true := List.filter_eq_self.2 fun j hj => by
            have := (List.mem_filter.1 hj).1
            simp
            rintro rfl
            exact hie this
          rw [hpend, this]
          exact hc)
      refine ⟨p, hp, hun, ⟨o, ho, hall⟩, ?_, hval⟩
      intro l1 x l2 hl hxi hxf y hy
      have hx : x ∈ p.1.its ops := (mem_left.1 (by rw [hl]; simp : x ∈ left (p.1.its ops) listed)).1
      exact absurd (((hvs p hp).2.2.1 x hx).1 hxf) (by rw [hxi]; exact hie)

theorem all_listed {n : Nat} {ops : List Oper} {ds : List DA} (hlin : linOk n ops ops ds 0 [] = true) {listed : Array Bool} (hsz : listed.size = ops.length) (hnil : Region.ready .any ops.toArray listed = []) : ∀ i, i < ops.length → listed.getD i true = true := by
  obtain ⟨hlen, hsp⟩ := linOk_spec hlin
  intro i
  induction i using Nat.strongRecOn with
  | _ i ih =>
    intro hi
    cases hu : listed.getD i true with
    | true => rfl
    | false =>
      exfalso
      obtain ⟨d, hd, hl⟩ := hsp i ops[i] (List.getElem?_eq_getElem hi)
      have : i ∈ Region.ready .any ops.toArray listed := by
        refine mem_ready.2 ⟨hu, ops[i], by rw [List.getElem?_toArray]; exact List.getElem?_eq_getElem hi, fun e he hb => ?_⟩
        have hlt := hl.ed e he hb
        have := ih e.on (by omega) (by omega)
        have hon : e.on < listed.size := by omega
        simp [hon] at this ⊢
        exact this
      rw [hnil] at this
      cases this
theorem linearise_valid {n : Nat} {ops : List Oper} {ds : List DA} (hlin : linOk n ops ops ds 0 [] = true) : ∀ (fuel t : Nat) (listed : Array Bool), listed.size = ops.length → ((List.range ops.length).filter fun i => !listed.getD i true).length ≤ fuel →
    ValidO ops (Region.linearise.go .any ops.toArray fuel t listed []) listed := by
  intro fuel
  induction fuel with
  | zero =>
    intro t listed hsz hc
    simp only [Region.linearise.go, List.reverse_nil]
    intro i hi
    have h0 := List.eq_nil_of_length_eq_zero (Nat.le_zero.1 hc)
    cases hu : listed.getD i true with
    | true => rfl
    | false =>
      have : i ∈ (List.range ops.length).filter fun i => !listed.getD i true := List.mem_filter.2 ⟨List.mem_range.2 hi, by simp only [hu]; rfl⟩
      rw [h0] at this
      cases this
  | succ fuel ih =>
    intro t listed hsz hc
    simp only [Region.linearise.go]
    change ValidO ops (match (Region.ready .any ops.toArray listed)[t % (Region.ready .any ops.toArray listed).length]? with
      | some i => Region.linearise.go .any ops.toArray fuel (t / (Region.ready .any ops.toArray listed).length) (listed.setIfInBounds i true) [i]
      | none => [].reverse) listed
    cases hi : (Region.ready .any ops.toArray listed)[t % (Region.ready .any ops.toArray listed).length]? with
    | none =>
      have hnil : Region.ready .any ops.toArray listed = [] := by
        cases hr : Region.ready .any ops.toArray listed with
        | nil => rfl
        | cons x xs =>
          rw [hr] at hi
          have hlt : t % (x :: xs).length < (x :: xs).length := Nat.mod_lt _ (by simp)
          simp at hi
          simp at hlt
          omega
      exact all_listed hlin hsz hnil
    | some i =>
      simp only []
      rw [linearise_go_acc, List.reverse_singleton, List.singleton_append]
      obtain ⟨hun, o, ho, hall⟩ := mem_ready.1 (List.mem_of_getElem? hi)
      rw [List.getElem?_toArray] at ho
      have hilt : i < ops.length := (List.getElem?_eq_some_iff.1 ho).1
      refine ⟨hun, ⟨o, ho, hall⟩, ih _ _ (by simpa using hsz) ?_⟩
      have e : ((List.range ops.length).filter fun j => !(listed.setIfInBounds i true).getD j true) = ((List.range ops.length).filter fun j => !listed.getD j true).filter (· != i) := by
        rw [List.filter_filter]
        refine List.filter_congr fun j _ => ?_
        by_cases hj : j = i
        · subst hj; simp [hsz, hilt]
        · rw [getD_set_ne true (Ne.symm hj)]; simp [hj]
      have := List.length_filter_lt_length_iff_exists (p := (· != i)) (l := (List.range ops.length).filter fun j => !listed.getD j true) |>.2 ⟨i, List.mem_filter.2 ⟨List.mem_range.2 hilt, by simp only [hun]; rfl⟩, by simp⟩
      rw [e]
      omega

def covB (bm : Nat → Nat) : Nat → List Nat → List (Vr × List Nat) → Bool
  | 0, _, vs => !vs.isEmpty
  | f + 1, pend, vs => !vs.isEmpty && pend.all fun x => !(pend.all fun y => !(bm x).testBit y) || covB bm f (pend.filter (· != x)) ((vs.filter fun p => p.2.head? == some x).map fun p => (p.1, p.2.tail))
theorem covB_spec (bm : Nat → Nat) : ∀ (f : Nat) (pend : List Nat) (vs : List (Vr × List Nat)), covB bm f pend vs = true → cov bm f pend vs
  | 0, _, vs, h => by
    intro hn
    subst hn
    simp [covB] at h
  | f + 1, pend, vs, h => by
    simp only [covB, Bool.and_eq_true] at h
    refine ⟨fun hn => by subst hn; simp at h, fun x hx hy => covB_spec bm f _ _ ?_⟩
    have := List.all_eq_true.1 h.2 x hx
    simp only [Bool.or_eq_true, Bool.not_eq_true'] at this
    rcases this with h1 | h1
    · exfalso
      rw [List.all_eq_false] at h1
      obtain ⟨y, hy1, hy2⟩ := h1
      simp [hy y hy1] at hy2
    · exact h1
def noDup : List Nat → Bool
  | [] => true
  | x :: l => l.all (fun y => !Nat.beq x y) && noDup l
theorem noDup_spec : ∀ {l : List Nat}, noDup l = true → l.Nodup
  | [], _ => .nil
  | x :: l, h => by
    simp only [noDup, Bool.and_eq_true] at h
    refine List.nodup_cons.2 ⟨fun hx => ?_, noDup_spec h.2⟩
    have := List.all_eq_true.1 h.1 x hx
    simp at this
def dflt : DA := ⟨0, .q none, 0, 0, 0⟩
def effsOf (n : Nat) (ds : List DA) : List Nat := (List.range n).filter fun i => (ds.getD i dflt).k.isF
def vrOk (n : Nat) (ops : List Oper) (effs : List Nat) (v : Vr) : Bool :=
  linOk n ops ops v.ds 0 [] && noDup v.order && v.order.all (fun i => Nat.blt i ops.length) && (List.range ops.length).all (fun i => v.order.contains i) && pairsOk2 ((v.its ops).map (·.a)) && wflB ((v.its ops).map (·.a)) 1 &&
  (List.range ops.length).all (fun i => (v.ds.getD i dflt).k.isF == effs.contains i)
def vsOk (n : Nat) (ops : List Oper) (vs : List Vr) : Bool :=
  match vs with
  | [] => false
  | v0 :: _ =>
    let effs := effsOf ops.length v0.ds
    vs.all (vrOk n ops effs) && covB (fun i => (v0.ds.getD i dflt).bm) ops.length effs (vs.map fun v => (v, ((v.its ops).filter fun x => x.k.isF).map (·.i)))
/-- One formula for each variant. -/
def vrAll (f : Vr → Prop) : List Vr → Prop
  | [] => True
  | [v] => f v
  | v :: vs => f v ∧ vrAll f vs
theorem vrAll_all {f : Vr → Prop} : ∀ {vs : List Vr}, vrAll f vs → ∀ v ∈ vs, f v
  | [], _, v, hv => by cases hv
  | [v], h, u, hu => by
    rcases List.mem_cons.1 hu with rfl | hu
    · exact h
    · cases hu
  | v :: _ :: _, h, u, hu => by
    rcases List.mem_cons.1 hu with rfl | hu
    · exact h.1
    · exact vrAll_all h.2 u hu
theorem its_mem {n : Nat} {ops : List Oper} {v : Vr} (hlin : linOk n ops ops v.ds 0 [] = true) {x : It} (hx : x ∈ v.its ops) : x ∈ items ops v.ds ∧ x.i ∈ v.order := by
  unfold Vr.its itsOf at hx
  obtain ⟨i, hi, hxi⟩ := List.mem_filterMap.1 hx
  have hm := List.mem_of_getElem? hxi
  refine ⟨hm, ?_⟩
  obtain ⟨hlen, hsp⟩ := linOk_spec hlin
  have hil : i < (items ops v.ds).length := (List.getElem?_eq_some_iff.1 hxi).1
  have hil2 : i < ops.length := by simp [items] at hil; omega
  obtain ⟨d, hd, hl⟩ := hsp i ops[i] (List.getElem?_eq_getElem hil2)
  have hx2 : x = ⟨ops[i], d⟩ := by
    have : (items ops v.ds)[i]? = some ⟨ops[i], d⟩ := by
      unfold items
      rw [List.getElem?_zipWith, List.getElem?_eq_getElem hil2, hd]
    exact Option.some.inj (hxi.symm.trans this)
  have : x.i = i := by rw [hx2]; simpa [It.i] using hl.idx
  rw [this]
  exact hi

theorem its_nodup {n : Nat} {ops : List Oper} {v : Vr} (hlin : linOk n ops ops v.ds 0 [] = true) (hnd : v.order.Nodup) : (v.its ops).Pairwise (fun (x y : It) => x.i ≠ y.i) := by
  obtain ⟨hlen, hsp⟩ := linOk_spec hlin
  have key : ∀ (i : Nat) (x : It), (items ops v.ds)[i]? = some x → x.i = i := fun i x hxi => by
    have hil : i < (items ops v.ds).length := (List.getElem?_eq_some_iff.1 hxi).1
    have hil2 : i < ops.length := by simp [items] at hil; omega
    obtain ⟨d, hd, hl⟩ := hsp i ops[i] (List.getElem?_eq_getElem hil2)
    have : (items ops v.ds)[i]? = some ⟨ops[i], d⟩ := by
      unfold items
      rw [List.getElem?_zipWith, List.getElem?_eq_getElem hil2, hd]
    rw [Option.some.inj (hxi.symm.trans this)]
    simpa [It.i] using hl.idx
  unfold Vr.its itsOf
  refine List.Pairwise.filterMap _ ?_ hnd
  intro a a' ha b hb b' hb'
  rw [key a b hb, key a' b' hb']
  exact ha
theorem var_sound {n : Nat} {D : List Deferred} {P : Program} {S : Rl} {id : Nat} {ops : List Oper} {vs : List Vr} {K : Env → World → Prop} {Q : Exit → Act → World → Prop} (hm : P.follows .mixedOrders = true) (hok : vsOk n ops vs = true) (hK : ∀ e a w, Rel n D a e → K e w → Q .normal a w)
    {e : Env} {a : Act} {w : World} (hr : Rel n D a e) (h : vrAll (fun v => drw P S ops K ((v.its ops).map (·.o)) ((v.its ops).map (·.a)) e [w] w) vs) : (Code.region id ops.toArray true).wp P Q a w := by
  have h := vrAll_all h
  cases vs with
  | nil => simp [vsOk] at hok
  | cons v0 vs =>
    simp only [vsOk, Bool.and_eq_true] at hok
    obtain ⟨hall, hcov⟩ := hok
    have hvr := List.all_eq_true.1 hall
    have hcov := covB_spec _ _ _ _ hcov
    have sp : ∀ v ∈ v0 :: vs, linOk n ops ops v.ds 0 [] = true ∧ v.order.Nodup ∧ (∀ i, i < ops.length → i ∈ v.order) ∧ pairsOk2 ((v.its ops).map (·.a)) = true ∧ wflB ((v.its ops).map (·.a)) 1 = true ∧ (∀ i, i < ops.length → ((v.ds.getD i dflt).k.isF = true ↔ i ∈ effsOf ops.length v0.ds)) := fun v hv => by
      have := hvr v hv
      simp only [vrOk, Bool.and_eq_true] at this
      obtain ⟨⟨⟨⟨⟨⟨a1, a2⟩, _⟩, a4⟩, a5⟩, a6⟩, a7⟩ := this
      refine ⟨a1, noDup_spec a2, fun i hi => by simpa using List.all_eq_true.1 a4 i (List.mem_range.2 hi), a5, a6, fun i hi => ?_⟩
      have := List.all_eq_true.1 a7 i (List.mem_range.2 hi)
      rw [beq_iff_eq] at this
      rw [this]
      simp
    have hlin0 := (sp v0 (List.mem_cons_self ..)).1
    have hleft : ∀ its : List It, (∀ x ∈ its, x.i < ops.length) → left its (Array.replicate ops.length false) = its := fun its hi => by
      unfold left
      refine List.filter_eq_self.2 fun x hx => ?_
      have := hi x hx
      simp [this]
    have hlt : ∀ v ∈ v0 :: vs, ∀ x ∈ v.its ops, x.i < ops.length := fun v hv x hx => (List.getElem?_eq_some_iff.1 (items_at (sp v hv).1 (its_mem (sp v hv).1 hx).1).1).1
    have hcl : Closed ops (Array.replicate ops.length false) := fun j o _ hj => by
      rcases Nat.lt_or_ge j ops.length with h | h
      · simp [h] at hj
      · simp [h] at hj
    have heff : ((effsOf ops.length v0.ds).filter fun i => !(Array.replicate ops.length false).getD i true) = effsOf ops.length v0.ds := List.filter_eq_self.2 fun i hi => by
      have := List.mem_range.1 (List.mem_filter.1 hi).1
      simp [this]
    refine wp_region_draw fun t => ?_
    simp only [Region.schedule, hm, Bool.true_or, if_true]
    have hvalid := linearise_valid hlin0 ops.length t (Array.replicate ops.length false) (by simp) (by
      refine Nat.le_trans (List.length_filter_le _ _) ?_
      simp)
    obtain ⟨p, hp, hval⟩ := exists_valid hlin0 (effsOf ops.length v0.ds) _ _ ops.length ((v0 :: vs).map fun v => (v, ((v.its ops).filter fun x => x.k.isF).map (·.i))) (by simp) hcl hvalid (fun p hp => by
      obtain ⟨v, hv, rfl⟩ := List.mem_map.1 hp
      obtain ⟨a1, a2, a3, a5, a6, a7⟩ := sp v hv
      show (∀ x ∈ v.its ops, x.i < ops.length) ∧ (v.its ops).Pairwise (fun (x y : It) => x.i ≠ y.i) ∧ (∀ x ∈ v.its ops, x.k.isF = true ↔ x.i ∈ effsOf ops.length v0.ds) ∧ remE (v.its ops) (Array.replicate ops.length false) = ((v.its ops).filter fun x => x.k.isF).map (·.i)
      refine ⟨hlt v hv, its_nodup a1 a2, fun x hx => ?_, ?_⟩
      · obtain ⟨hx1, hx2, _⟩ := items_at a1 (its_mem a1 hx).1
        have := a7 x.i (hlt v hv x hx)
        rw [show v.ds.getD x.i dflt = x.a by simp [List.getD, hx2]] at this
        exact this
      · unfold remE
        rw [hleft _ (hlt v hv)]) (by
      rw [heff]
      unfold effsOf
      refine Nat.le_trans (List.length_filter_le _ _) ?_
      simp) (by rw [heff]; exact hcov)
    obtain ⟨v, hv, rfl⟩ := List.mem_map.1 hp
    obtain ⟨a1, a2, a3, a5, a6, a7⟩ := sp v hv
    have hl := hleft _ (hlt v hv)
    have hd := h v hv
    have := drw_list (P := P) (K := K) (Q := Q) a1 (fun x hx => (its_mem a1 hx).1) (fun i hi => by
      have hio := a3 i hi
      obtain ⟨hlen, hsp⟩ := linOk_spec a1
      obtain ⟨d, hdd, hll⟩ := hsp i ops[i] (List.getElem?_eq_getElem hi)
      refine ⟨⟨ops[i], d⟩, ?_, by simpa [It.i] using hll.idx⟩
      unfold Vr.its itsOf
      refine List.mem_filterMap.2 ⟨i, hio, ?_⟩
      unfold items
      rw [List.getElem?_zipWith, List.getElem?_eq_getElem hi, hdd]) (its_nodup a1 a2) (pairsOk2_spec a5) hK _ _ e [w] w { w with drawn := w.drawn + 1 } a hval (by simp) hcl hr ⟨1, rfl⟩ (by rw [hl]; exact wflB_spec a6) (fun x _ lo _ hlo => by
        have : lo = 0 := by simpa using hlo
        subst this
        exact S.rf w) (by rw [hl]; exact hd)
    simpa [Region.linearise] using this

theorem vrAll_mono {f g : Vr → Prop} : ∀ {vs : List Vr}, vrAll f vs → (∀ v ∈ vs, f v → g v) → vrAll g vs
  | [], _, _ => trivial
  | [v], h, k => k v (List.mem_cons_self ..) h
  | v :: _ :: _, h, k => ⟨k v (List.mem_cons_self ..) h.1, vrAll_mono h.2 fun u hu => k u (List.mem_cons_of_mem _ hu)⟩
theorem vsOk_lin {n : Nat} {ops : List Oper} {vs : List Vr} (h : vsOk n ops vs = true) : ∀ v ∈ vs, linOk n ops ops v.ds 0 [] = true := fun v hv => by
  cases vs with
  | nil => cases hv
  | cons v0 vs =>
    simp only [vsOk, Bool.and_eq_true] at h
    have := List.all_eq_true.1 h.1 v hv
    simp only [vrOk, Bool.and_eq_true] at this
    exact this.1.1.1.1.1.1
end Go.Proofs.Ytopcnkejobomaaa
