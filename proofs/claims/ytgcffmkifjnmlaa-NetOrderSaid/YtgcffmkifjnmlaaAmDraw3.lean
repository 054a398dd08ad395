/- Regions that draw their order: one operation more. -/
import Derived.Test.YtgcffmkifjnmlaaAmDraw2
namespace Go.Am
section
variable {g : Cfg} {base : Base} {hd : Handler} {c : Ctx} {ops : Array Oper} {T : Trace} {m : Nat} {rs : List Nat} {φ0 φ φ' : Nat → Pl} {ω0 ω ω' : Nat → Option Tag} {lam0 lam lam' : Nat → Nat} {a0 a : Act} {w0 w w' : World} {S : Nat → Prop}

open Classical in
theorem Inv.next (E : Env g base hd c ops T m rs φ0 ω0 lam0 a0 w0) (I : Inv base c ops T m rs φ0 ω0 lam0 w0 S φ ω lam a w) {i : Nat} (hi : i < m) (hni : ¬ S i) (hb : ∀ k, Wt ops k i → S k) {v' : Value} {sA sB : St}
    (hst : step g hd (T.ctx c ops i) ((T.fr i).only ops (T.o i) (T.acc ops i)) sA ops (T.o i) = some (.normal, T.fr1 i, sB)) (hA : sA.next = T.N i) (hB : sB.next = T.N (i + 1))
    (hAB : (silent ops i = false ∧ sA = T.s i ∧ sB = T.s (i + 1)) ∨ (silent ops i = true ∧ sA.heap = .nil ∧ T.s (i + 1) = T.s i))
    (hp : FPost g base (T.ctx c ops i) φ φ' (cutTag (T.N i) ω) ω' lam lam' ((T.fr i).only ops (T.o i) (T.acc ops i)) (T.fr1 i) sA sB rs rs (a.put (T.o i).dst v') w w')
    (hold : ∀ d cs, ((T.fr i).only ops (T.o i) (T.acc ops i)).loc.get d = some cs → lam' d = lam d ∧ ∃ cs', (T.fr1 i).loc.get d = some cs') :
    ∃ φ'' ω'' lam'', Inv base c ops T m rs φ0 ω0 lam0 w0 (fun k => S k ∨ k = i) φ'' ω'' lam'' (a.put (T.o i).dst v') w' := by
  obtain ⟨hsv0, hfv⟩ := I.view E hi hni hb
  have hsv := hsv0 sA hA (by rcases hAB with ⟨h1, h2, _⟩ | ⟨_, h2, _⟩; exact .inl ⟨h1, h2⟩; exact .inr h2)
  have hAo : ∀ id o, sA.heap.get id = some o → (T.s i).heap.get id = some o := fun id o h => by
    rcases hAB with ⟨_, h2, _⟩ | ⟨_, h2, _⟩
    · rw [← h2]; exact h
    · rw [h2, Tr.get_nil] at h; cases h
  have hBo : ∀ id, WrO c ops T id i → (T.s (i + 1)).heap.get id = sB.heap.get id := fun id hw => by
    rcases hAB with ⟨_, _, h2⟩ | ⟨h2, _⟩
    · rw [h2]
    · have := hw.1; rw [h2] at this; cases this
  have hAown : ∀ b, Own (cutTag (T.N i) ω) (T.ctx c ops i) sA b → ∃ id, ω b = some (.obj id) ∧ id < T.N i ∧ (T.ctx c ops i).wr id = true ∧ (T.ctx c ops i).vis id = true ∧ silent ops i = false ∧ ∃ o, (T.s i).heap.get id = some o := by
    rintro b ⟨id, o, h1, h2, h3, h4⟩
    refine ⟨id, (cutTag_some h1).1, (cutTag_some h1).2 id rfl, h2, h3, ?_, o, hAo id o h4⟩
    rcases hAB with ⟨h, _⟩ | ⟨_, h, _⟩
    · exact h
    · rw [h, Tr.get_nil] at h4; cases h4
  have his : i < ops.size := Nat.lt_of_lt_of_le hi E.hT.hm
  have hNi : T.N 0 ≤ T.N i := N0_le E (by omega)
  have hN1 : T.N i ≤ T.N (i + 1) := by have := hp.next; rwa [hA, hB] at this
  have hNm : T.N (i + 1) ≤ T.N m := N_le E.HG E.hT hi (Nat.le_refl _)
  have honly : ∀ d, ((T.fr i).only ops (T.o i) (T.acc ops i)).loc.get d = if d ∈ T.acc ops i then (T.fr i).loc.get d else none := fun d => by simp only [Fr.only, pick_nil]
  have htm0 : ∀ t v, ((T.fr i).only ops (T.o i) (T.acc ops i)).tm.get t = some v → local? v = false := fun t v h => (hfv.tm t v h).glob
  -- the frame's own variables, but for those that are turned
  have hwrl : ∀ d, d ∉ T.wrl ops i → (T.fr1 i).loc.get d = ((T.fr i).only ops (T.o i) (T.acc ops i)).loc.get d := fun d hd => by
    refine step_loc htm0 hst ?_
    intro h
    refine hd ?_
    unfold Trace.wrl footOf
    unfold wrlOf at h ⊢
    split at h
    · rename_i t y z ho
      have hmem : y ∈ seenTmps ops (T.o i) := List.mem_append_left _ (by simp [opTmps, ho, Op.operands])
      simp only [ptd, Fr.only, pick_nil, if_pos hmem] at h
      exact h
    · exact h
    · exact h
    · cases h
  have hval1 : ∀ d, d ∈ T.acc ops i → (T.fr (i + 1)).loc.get d = (T.fr1 i).loc.get d := fun d hd => by
    by_cases hw : WrL ops T d i
    · exact loc_hit E.hT hi hw
    · rw [loc_keep E.hT i hi hw, hwrl d hw, honly, if_pos hd]
  -- the new places
  let φ'' : Nat → Pl := fun id => if T.N i ≤ id ∧ id < T.N (i + 1) then φ' id else φ id
  let ω'' : Nat → Option Tag := fun b => if b < w.heap.size ∧ ¬ Own (cutTag (T.N i) ω) (T.ctx c ops i) sA b ∧ ¬ LocB lam ((T.fr i).only ops (T.o i) (T.acc ops i)).loc b then ω b else ω' b
  let lam'' : Nat → Nat := fun d => if d ∈ T.acc ops i then lam' d else lam d
  have hφ1 : ∀ id, id < T.N (i + 1) → φ'' id = φ' id := fun id h => by
    by_cases h1 : T.N i ≤ id
    · exact if_pos ⟨h1, h⟩
    · have e : φ'' id = φ id := if_neg (fun h2 => h1 h2.1)
      rw [e, hp.agree id (by rw [hA]; omega)]
  have hφ0 : ∀ id, ¬ (T.N i ≤ id ∧ id < T.N (i + 1)) → φ'' id = φ id := fun id h => if_neg h
  have hω0 : ∀ b, b < w.heap.size → ¬ Own (cutTag (T.N i) ω) (T.ctx c ops i) sA b → ¬ LocB lam ((T.fr i).only ops (T.o i) (T.acc ops i)).loc b → w'.heap[b]? = w.heap[b]? ∧ ω'' b = ω b := fun b h1 h2 h3 =>
    ⟨(hp.keep.same b h1 h2 h3).1, if_pos ⟨h1, h2, h3⟩⟩
  have hω1 : ∀ b t, ω' b = some t → ω'' b = some t := fun b t h => by
    by_cases hc : b < w.heap.size ∧ ¬ Own (cutTag (T.N i) ω) (T.ctx c ops i) sA b ∧ ¬ LocB lam ((T.fr i).only ops (T.o i) (T.acc ops i)).loc b
    · have e : ω'' b = ω b := if_pos hc
      rw [e]
      have := (hp.keep.same b hc.1 hc.2.1 hc.2.2).2
      rw [h] at this
      exact (cutTag_some this.symm).1
    · exact (if_neg hc).trans h
  have hlocT : ∀ b, LocB lam ((T.fr i).only ops (T.o i) (T.acc ops i)).loc b → ∃ d, d ∈ T.acc ops i ∧ ω b = some (.loc d) ∧ lam d = b := by
    rintro b ⟨d, cs, h, rfl⟩
    have := (cutTag_some (hfv.own d cs h).1).1
    rw [honly] at h
    split at h
    · rename_i hd; exact ⟨d, hd, this, rfl⟩
    · cases h
  have hordL : ∀ d, d ∈ T.acc ops i → ∀ k, k < m → k ≠ i → WrL ops T d k → Ord ops i k := fun d hd k hk hne hw => loc_ord E.hT hi hk hne hd hw
  have hcutL : ∀ d, d ∈ T.acc ops i → Cut m (WrL ops T d) S i := fun d hd => cut_here I.closed hni hb (hordL d hd)
  have hcutL1 : ∀ d, d ∈ T.acc ops i → Cut m (WrL ops T d) (fun k => S k ∨ k = i) (i + 1) := fun d hd => cut_next I.closed hni hb (hordL d hd)
  have hclosed : Closed ops (fun k => S k ∨ k = i) := by
    rintro j (h | rfl) k hk
    · exact .inl (I.closed j h k hk)
    · exact .inl (hb k hk)
  -- what the operation knows when it has been carried out
  have conv1 : ∀ x, In (T.ctx c ops i) sB.next x → In (ctxD c T m (fun k => k = i ∨ Wt ops k i)) (T.N m) x ∧ φ'' x = φ' x := fun x hx0 => by
    have hx : In (T.ctx c ops i) (T.N (i + 1)) x := by rw [← hB]; exact hx0
    exact ⟨in_ctxD.2 ((in_post E.D E.HG E.hT hi).1 hx), hφ1 x hx.1⟩
  -- what others know has not turned
  have conv0 : ∀ {W : Nat → Prop} {j : Nat}, j ≤ m → Cut m W S j → ∀ x, In (ctxD c T m (lastD ops W j)) (T.N m) x → In (ctxD c T m (lastD ops W j)) (T.N m) x ∧ φ'' x = φ x := fun hj hc x hx => by
    refine ⟨hx, hφ0 x fun hr => ?_⟩
    exact (in_ctxD.1 hx).2.2 i hi (fun hl => hni (lastD_in hj I.closed hc i hl)) hr
  have hobjW : ∀ id j, j ≤ m → Cut m (WrO c ops T id) (fun k => S k ∨ k = i) j → WrO c ops T id i → (T.s j).heap.get id = (T.s (i + 1)).heap.get id ∧ lastD ops (WrO c ops T id) j = fun k => k = i ∨ Wt ops k i := fun id j hj hc hw => by
    have hcut := cut_next (m := m) (W := WrO c ops T id) I.closed hni hb (fun k hk hne hwk => wr_ord E.D E.HG E.hT hi hk hne hw hwk)
    exact ⟨cut_val hc hcut hj hi (fun j => (T.s j).heap.get id) (obj_val E), by rw [cut_last hc hcut hj hi, lastD_hit hw]⟩
  have hlocW : ∀ d j, j ≤ m → Cut m (WrL ops T d) (fun k => S k ∨ k = i) j → d ∈ T.acc ops i → (T.fr j).loc.get d = (T.fr1 i).loc.get d := fun d j hj hc hd => by
    rw [cut_val hc (hcutL1 d hd) hj hi (fun j => (T.fr j).loc.get d) (loc_keep E.hT), hval1 d hd]
  have hlam1 : ∀ d, d ∈ T.acc ops i → lam'' d = lam' d := fun d hd => if_pos hd
  have hlam0 : ∀ d, d ∉ T.acc ops i → lam'' d = lam d := fun d hd => if_neg hd
  refine ⟨φ'', ω'', lam'', hclosed, ?_, fun id h => ?_, Nat.le_trans I.bw hp.keep.size, fun b t h => ?_, fun id j o hj hc hv ho => ?_, fun d j cs hj hc ho => ?_, fun t j v hj hc ho => ?_, fun t j p hj hc ho => ?_, fun d j cs hj hc ho => ?_, ?_, ?_, fun r hr => ?_, ?_⟩
  · rintro k (h | rfl)
    · exact I.below k h
    · exact hi
  · rw [hφ0 id (fun h2 => by omega)]; exact I.agree id h
  · -- tags
    by_cases hcnd : b < w.heap.size ∧ ¬ Own (cutTag (T.N i) ω) (T.ctx c ops i) sA b ∧ ¬ LocB lam ((T.fr i).only ops (T.o i) (T.acc ops i)).loc b
    · have e : ω'' b = ω b := if_pos hcnd
      rw [e] at h
      obtain ⟨x, y, z⟩ := I.tags b t h
      exact ⟨x, Nat.lt_of_lt_of_le y hp.keep.size, z⟩
    · have e : ω'' b = ω' b := if_neg hcnd
      rw [e] at h
      obtain ⟨x, y, z⟩ := hp.srel.tags b t h
      exact ⟨x, y, fun id hid => Nat.lt_of_lt_of_le (z id hid) (by rw [hB]; exact hNm)⟩
  · -- objects
    by_cases hw : WrO c ops T id i
    · obtain ⟨e1, e2⟩ := hobjW id j hj hc hw
      rw [e1, hBo id hw] at ho
      rw [e2]
      have hid : id < T.N (i + 1) := by rcases hw.2 with h | h; exact h.2.2; exact h.2
      have hvis : (T.ctx c ops i).vis id = true := by
        rcases hw.2 with h | h
        · exact h.2.1
        · exact hsv.vnew id (by rw [hA]; exact h.1)
      refine ⟨(hp.srel.obj id o ho hvis).conv conv1 (hφ1 id hid) (fun _ => rfl), fun hbi hso => ?_⟩
      rw [hφ1 id hid]
      exact hω1 _ _ (hp.srel.tag id o ho hvis hbi hso)
    · have hcS := cut_other hw hc
      obtain ⟨x, y⟩ := I.obj id j o hj hcS hv ho
      have hphi : φ'' id = φ id := by
        cases hsil : silent ops i with
        | true =>
          refine hφ0 id fun h => ?_
          have := silent_N E.hT hi hsil
          unfold Trace.N at h
          rw [this] at h; omega
        | false => exact hφ0 id fun h => hw ⟨hsil, .inr h⟩
      have hsame : Solid o → w'.heap[(φ id).blk]? = w.heap[(φ id).blk]? ∧ (base.id ≤ id → ω'' (φ id).blk = ω (φ id).blk) := fun hso => by
        by_cases hbi : base.id ≤ id
        · have ht := y hbi hso
          have := hω0 (φ id).blk (I.tags _ _ ht).2.1 (by
            intro ho
            obtain ⟨id2, h1, hlt, h2, h3, hsil, o2, h4⟩ := hAown _ ho
            rw [ht] at h1; cases h1
            exact hw ⟨hsil, .inl ⟨h2, h3, Nat.lt_of_lt_of_le hlt hN1⟩⟩) (fun h => by
            obtain ⟨d, _, h1, _⟩ := hlocT _ h
            rw [ht] at h1; cases h1)
          exact ⟨this.1, fun _ => this.2⟩
        · have hlt : (φ id).blk < base.blk := by
            rw [I.agree id (by have := E.hs.bn; unfold Trace.N; omega)]; exact E.hs.low id (by omega)
          have := hω0 (φ id).blk (Nat.lt_of_lt_of_le hlt I.bw) (by
            rintro ⟨id2, o2, h1, _⟩
            have := (I.tags _ _ (cutTag_some h1).1).1; omega) (fun h => by
            obtain ⟨d, _, h1, _⟩ := hlocT _ h
            have := (I.tags _ _ h1).1; omega)
          exact ⟨this.1, fun h => (hbi h).elim⟩
      refine ⟨x.conv (conv0 hj hcS) hphi (fun hso => (hsame hso).1), fun hbi hso => ?_⟩
      rw [hphi, (hsame hso).2 hbi]
      exact y hbi hso
  · -- own variables
    by_cases hw : WrL ops T d i
    · have hd := wrl_acc hw
      rw [hlocW d j hj hc hd] at ho
      rw [cut_last hc (hcutL1 d hd) hj hi, lastD_hit hw, hlam1 d hd]
      obtain ⟨x, cs', el, y, z⟩ := hp.frel.own d cs ho
      exact ⟨hω1 _ _ x, cs', el, y, z.conv conv1⟩
    · have hcS := cut_other hw hc
      obtain ⟨x, cs', el, y, z⟩ := I.loc d j cs hj hcS ho
      by_cases hd : d ∈ T.acc ops i
      · have ho' := ho
        rw [hlocW d j hj hc hd] at ho'
        obtain ⟨x2, cs2, el2, y2, z2⟩ := hp.frel.own d cs ho'
        rw [hlam1 d hd]
        have hdet : cs2 = cs' := by
          refine z.det (fun id h1 h2 => ?_) z2
          rw [← hφ1 id (by rw [← hB]; exact h2.1)]
          exact (conv0 hj hcS id h1).2
        subst hdet
        exact ⟨hω1 _ _ x2, cs2, el2, y2, z.conv (conv0 hj hcS)⟩
      · rw [hlam0 d hd]
        have := hω0 (lam d) (I.tags _ _ x).2.1 (by
          rintro ⟨id2, o2, h1, _⟩
          have := (cutTag_some h1).1
          rw [x] at this; cases this) (fun h => by
          obtain ⟨d2, hd2, h1, _⟩ := hlocT _ h
          rw [x] at h1; cases h1; exact hd hd2)
        exact ⟨by rw [this.2]; exact x, cs', el, by rw [this.1]; exact y, z.conv (conv0 hj hcS)⟩
  · -- slots
    by_cases hw : WrT T t i
    · have hcut := cut_next (m := m) (W := WrT T t) I.closed hni hb (fun k hk hne hwk => (hne (tmp_one E.D E.hT hi hk hw hwk)).elim)
      rw [cut_val hc hcut hj hi (fun j => (T.fr j).tm.get t) (tm_keep E.hT), tm_hit E.hT hi hw] at ho
      rw [cut_last hc hcut hj hi, lastD_hit hw]
      exact (hp.frel.tm t v ho).conv conv1
    · have hcS := cut_other hw hc
      have := (I.tm t j v hj hcS ho).conv (conv0 hj hcS)
      rw [put_other (fun e => hw e)]
      exact this
  · -- slots that hold places of own variables
    by_cases hw : WrT T t i
    · have hcut := cut_next (m := m) (W := WrT T t) I.closed hni hb (fun k hk hne hwk => (hne (tmp_one E.D E.hT hi hk hw hwk)).elim)
      rw [cut_val hc hcut hj hi (fun j => (T.fr j).pt.get t) (pt_keep E.hT), pt_hit E.hT hi hw] at ho
      obtain ⟨⟨cs, h1⟩, h2⟩ := hp.frel.pt t p ho
      have hacc : p.1 ∈ T.acc ops i := by
        by_cases hwl : WrL ops T p.1 i
        · exact wrl_acc hwl
        · rw [hwrl _ hwl, honly] at h1
          split at h1
          · assumption
          · cases h1
      rw [hlam1 _ hacc]
      exact ⟨⟨i + 1, cs, hi, hcutL1 _ hacc, by rw [hval1 _ hacc]; exact h1⟩, h2⟩
    · have hcS := cut_other hw hc
      obtain ⟨⟨j', cs, hj', hc', hl⟩, h2⟩ := I.pt t j p hj hcS ho
      rw [put_other (fun e => hw e), h2]
      by_cases hd : p.1 ∈ T.acc ops i
      · have hl' : ((T.fr i).only ops (T.o i) (T.acc ops i)).loc.get p.1 = some cs := by
          rw [honly, if_pos hd, ← cut_val hc' (hcutL _ hd) hj' (by omega) (fun j => (T.fr j).loc.get p.1) (loc_keep E.hT)]; exact hl
        obtain ⟨e1, cs', e2⟩ := hold _ _ hl'
        rw [hlam1 _ hd, e1]
        exact ⟨⟨i + 1, cs', hi, hcutL1 _ hd, by rw [hval1 _ hd]; exact e2⟩, rfl⟩
      · rw [hlam0 _ hd]
        exact ⟨⟨j', cs, hj', cut_other' (fun h => hd (wrl_acc h)) hc', hl⟩, rfl⟩
  · -- where own variables lie
    by_cases hd : d ∈ T.acc ops i
    · rw [hlocW d j hj hc hd] at ho
      rw [hlam1 d hd]
      rcases hp.lamW d cs ho with ⟨e, cs0, h0⟩ | h
      · rw [honly, if_pos hd] at h0
        rw [e]
        exact I.lamW d i cs0 (by omega) (hcutL d hd) h0
      · exact .inr (Nat.le_trans I.keep.size h)
    · rw [hlam0 d hd]
      exact I.lamW d j cs hj (cut_other (fun h => hd (wrl_acc h)) hc) ho
  · rw [← I.size]
    cases h : (T.o i).dst with
    | none => rfl
    | some d => simp [Act.put]
  · rw [← I.defers]
    cases h : (T.o i).dst <;> rfl
  · obtain ⟨x, y⟩ := I.marks r hr
    have := hω0 r (I.tags _ _ y).2.1 (by
      rintro ⟨id2, o2, h1, _⟩
      have := (cutTag_some h1).1
      rw [y] at this; cases this) (fun h => by
      obtain ⟨d2, _, h1, _⟩ := hlocT _ h
      rw [y] at h1; cases h1)
    exact ⟨by rw [this.1]; exact x, by rw [this.2]; exact y⟩
  · -- what lies elsewhere
    refine ⟨hp.keep.os.trans I.keep.os, hp.keep.tape.trans I.keep.tape, hp.keep.output.trans I.keep.output, Nat.le_trans I.keep.size hp.keep.size, fun b hb0 ho hx => ?_⟩
    obtain ⟨x, y⟩ := I.keep.same b hb0 ho hx
    have := hω0 b (Nat.lt_of_lt_of_le hb0 I.keep.size) (by
      intro hown
      obtain ⟨id, ht, _, h2, h3, _, o, h4⟩ := hAown _ hown
      rw [y] at ht
      have hid := (E.hs.tags b _ ht).2.2 id rfl
      refine ho ⟨id, ?_⟩
      have hwr : c.wr id = true := by
        cases hc : c.wr id with
        | true => rfl
        | false =>
          have := drawCtx_wr (c := c) (ops := ops) (b := closure ops ops.size) (n := ops.size) (j := i) (next := T.N i) (n0 := T.N 0) (seen := T.feet ops i) (fun x hx => by
            simp only [Trace.feet, List.mem_map, List.mem_range] at hx
            obtain ⟨k, hk, rfl⟩ := hx
            exact N0_le E (by omega)) hNi hid hc
          unfold Trace.ctx at h2
          rw [this] at h2; cases h2
      have hgone : ∀ j, j ≤ i → (T.s 0).heap.get id = none → (T.s j).heap.get id = none := by
        intro j
        induction j with
        | zero => intro _ h; exact h
        | succ j ih =>
          intro hj h
          exact (step_grow_at E.HG E.hT (j := j) (by omega)).gone id (Nat.lt_of_lt_of_le hid (N0_le E (by omega))) (ih (by omega) h)
      cases h0 : (T.s 0).heap.get id with
      | none => rw [hgone i (Nat.le_refl _) h0] at h4; cases h4
      | some o0 => exact ⟨o0, ht, hwr, ((vis_ctx E.D E.hT hi).1 h3).1, rfl⟩) (fun h => by
      obtain ⟨d, cs, hl, e⟩ := h
      rw [honly] at hl
      split at hl
      · rename_i hd
        rcases I.lamW d i cs (by omega) (hcutL d hd) hl with ⟨e1, cs0, h0⟩ | h0
        · exact hx ⟨d, cs0, h0, by rw [← e1]; exact e⟩
        · omega
      · cases hl)
    exact ⟨by rw [this.1]; exact x, by rw [this.2]; exact y⟩

end
end Go.Am
