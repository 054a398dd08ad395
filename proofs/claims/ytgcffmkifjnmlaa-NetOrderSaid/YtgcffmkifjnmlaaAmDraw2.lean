/- Regions that draw their order: what is held when some operations have been carried out. -/
import Derived.Test.YtgcffmkifjnmlaaAmDraw1
namespace Go.Am

theorem cut_val {m : Nat} {W S : Nat → Prop} {j j' : Nat} (h : Cut m W S j) (h' : Cut m W S j') (hj : j ≤ m) (hj' : j' ≤ m) {α : Type} (val : Nat → α) (hv : ∀ k, k < m → ¬ W k → val (k + 1) = val k) : val j = val j' :=
  (cut_same (ops := #[]) h h' hj hj').2 val hv
theorem cut_last {ops : Array Oper} {m : Nat} {W S : Nat → Prop} {j j' : Nat} (h : Cut m W S j) (h' : Cut m W S j') (hj : j ≤ m) (hj' : j' ≤ m) : lastD ops W j = lastD ops W j' := (cut_same h h' hj hj').1

theorem put_other {a : Act} {dst : Option Tmp} {v : Value} {t : Tmp} (h : dst ≠ some t) : (a.put dst v).tmps.getD t undef = a.tmps.getD t undef := by
  cases dst with
  | none => rfl
  | some d =>
    have hne : d ≠ t := fun e => h (by rw [e])
    simp only [Act.put, Array.getD_eq_getD_getElem?, Array.getElem?_setIfInBounds, if_neg hne]

def WrL (ops : Array Oper) (T : Trace) (d j : Nat) : Prop := d ∈ T.wrl ops j
def WrT (T : Trace) (t j : Nat) : Prop := (T.o j).dst = some t

structure Env (g : Cfg) (base : Base) (hd : Handler) (c : Ctx) (ops : Array Oper) (T : Trace) (m : Nat) (rs : List Nat) (φ0 : Nat → Pl) (ω0 : Nat → Option Tag) (lam0 : Nat → Nat) (a0 : Act) (w0 : World) : Prop where
  D : DrawFacts ops
  HG : HGrow hd
  hT : T.Ok g hd c ops m
  hs : SRel g base φ0 ω0 c (T.s 0) w0
  hf : FRel φ0 c (T.N 0) lam0 ω0 (T.fr 0) rs a0 w0

structure Inv (base : Base) (c : Ctx) (ops : Array Oper) (T : Trace) (m : Nat) (rs : List Nat) (φ0 : Nat → Pl) (ω0 : Nat → Option Tag) (lam0 : Nat → Nat) (w0 : World) (S : Nat → Prop) (φ : Nat → Pl) (ω : Nat → Option Tag) (lam : Nat → Nat) (a : Act) (w : World) : Prop where
  closed : Closed ops S
  below : ∀ k, S k → k < m
  agree : ∀ id, id < T.N 0 → φ id = φ0 id
  bw : base.blk ≤ w.heap.size
  tags : ∀ b t, ω b = some t → base.blk ≤ b ∧ b < w.heap.size ∧ ∀ id, t = .obj id → id < T.N m
  obj : ∀ id j o, j ≤ m → Cut m (WrO c ops T id) S j → c.vis id = true → (T.s j).heap.get id = some o →
    ORel φ (ctxD c T m (lastD ops (WrO c ops T id) j)) (T.N m) base id ω w o ∧ (base.id ≤ id → Solid o → ω (φ id).blk = some (.obj id))
  loc : ∀ d j cs, j ≤ m → Cut m (WrL ops T d) S j → (T.fr j).loc.get d = some cs →
    ω (lam d) = some (.loc d) ∧ ∃ cs' el, w.heap[lam d]? = some (.cells cs' el (0, 0)) ∧ Arel φ (ctxD c T m (lastD ops (WrL ops T d) j)) (T.N m) cs cs'
  tm : ∀ t j v, j ≤ m → Cut m (WrT T t) S j → (T.fr j).tm.get t = some v → Vrel φ (ctxD c T m (lastD ops (WrT T t) j)) (T.N m) v (a.tmps.getD t undef)
  pt : ∀ t j p, j ≤ m → Cut m (WrT T t) S j → (T.fr j).pt.get t = some p →
    (∃ j' cs, j' ≤ m ∧ Cut m (WrL ops T p.1) S j' ∧ (T.fr j').loc.get p.1 = some cs) ∧ a.tmps.getD t undef = .pointer (some ⟨lam p.1, p.2, none⟩)
  lamW : ∀ d j cs, j ≤ m → Cut m (WrL ops T d) S j → (T.fr j).loc.get d = some cs → (lam d = lam0 d ∧ ∃ cs0, (T.fr 0).loc.get d = some cs0) ∨ w0.heap.size ≤ lam d
  size : a.tmps.size = (T.fr 0).nt
  defers : a.defers = rs.map markOf
  marks : ∀ r, r ∈ rs → w.heap[r]? = some (.deferred (some [])) ∧ ω r = some .mark
  keep : Keep ω0 ω c (T.s 0) (LocB lam0 (T.fr 0).loc) w0 w

section
variable {g : Cfg} {base : Base} {hd : Handler} {c : Ctx} {ops : Array Oper} {T : Trace} {m : Nat} {rs : List Nat} {φ0 φ φ' : Nat → Pl} {ω0 ω ω' : Nat → Option Tag} {lam0 lam lam' : Nat → Nat} {a0 a : Act} {w0 w w' : World} {S : Nat → Prop}

theorem wrl_acc {d j : Nat} (h : d ∈ T.wrl ops j) : d ∈ T.acc ops j := by
  unfold Trace.acc footOf; exact List.mem_append_right _ h
theorem ptd_acc {t j : Nat} {p : Nat × Nat} (ht : t ∈ seenTmps ops (T.o j)) (hp : (T.fr j).pt.get t = some p) : p.1 ∈ T.acc ops j := by
  unfold Trace.acc footOf
  refine List.mem_append_left _ (List.mem_flatMap.2 ⟨t, ht, ?_⟩)
  simp [ptd, hp]

theorem fr_same (hT : T.Ok g hd c ops m) : ∀ j, j ≤ m → (T.fr j).nt = (T.fr 0).nt ∧ (T.fr j).round = (T.fr 0).round := by
  intro j
  induction j with
  | zero => intro _; exact ⟨rfl, rfl⟩
  | succ j ih => intro h; rw [hT.next j h]; exact ih (by omega)

theorem loc_keep (hT : T.Ok g hd c ops m) {d : Nat} : ∀ k, k < m → ¬ WrL ops T d k → (T.fr (k + 1)).loc.get d = (T.fr k).loc.get d := by
  intro k hk hw
  rw [hT.next k hk]
  simp only [Fr.with', copy_get]
  exact if_neg hw
theorem loc_hit (hT : T.Ok g hd c ops m) {d k : Nat} (hk : k < m) (hw : WrL ops T d k) : (T.fr (k + 1)).loc.get d = (T.fr1 k).loc.get d := by
  rw [hT.next k hk]
  simp only [Fr.with', copy_get]
  exact if_pos hw
theorem tm_keep (hT : T.Ok g hd c ops m) {t : Nat} : ∀ k, k < m → ¬ WrT T t k → (T.fr (k + 1)).tm.get t = (T.fr k).tm.get t := by
  intro k hk hw
  rw [hT.next k hk]
  simp only [Fr.with', copy_get]
  exact if_neg (by simpa [WrT] using hw)
theorem tm_hit (hT : T.Ok g hd c ops m) {t k : Nat} (hk : k < m) (hw : WrT T t k) : (T.fr (k + 1)).tm.get t = (T.fr1 k).tm.get t := by
  rw [hT.next k hk]
  simp only [Fr.with', copy_get]
  exact if_pos (by simpa [WrT] using hw)
theorem pt_keep (hT : T.Ok g hd c ops m) {t : Nat} : ∀ k, k < m → ¬ WrT T t k → (T.fr (k + 1)).pt.get t = (T.fr k).pt.get t := by
  intro k hk hw
  rw [hT.next k hk]
  simp only [Fr.with', copy_get]
  exact if_neg (by simpa [WrT] using hw)
theorem pt_hit (hT : T.Ok g hd c ops m) {t k : Nat} (hk : k < m) (hw : WrT T t k) : (T.fr (k + 1)).pt.get t = (T.fr1 k).pt.get t := by
  rw [hT.next k hk]
  simp only [Fr.with', copy_get]
  exact if_pos (by simpa [WrT] using hw)

theorem loc_ord (hT : T.Ok g hd c ops m) {d j k : Nat} (hj : j < m) (hk : k < m) (hne : k ≠ j) (ha : d ∈ T.acc ops j) (hw : WrL ops T d k) : Ord ops j k := by
  rcases Nat.lt_or_ge k j with h | h
  · rcases hT.feet j hj k h with h1 | h1
    · exact .inr ⟨h, h1⟩
    · exact (h1.2 d hw ha).elim
  · rcases hT.feet k hk j (by omega) with h1 | h1
    · exact .inl ⟨by omega, h1⟩
    · exact (h1.1 d ha hw).elim

theorem dst_of (hT : T.Ok g hd c ops m) {k t : Nat} (hk : k < m) (hw : WrT T t k) : dstOf ops k = some t := by
  unfold dstOf; rw [hT.op k hk]; exact hw

theorem tmp_one (D : DrawFacts ops) (hT : T.Ok g hd c ops m) {t j k : Nat} (hj : j < m) (hk : k < m) (h1 : WrT T t j) (h2 : WrT T t k) : k = j := by
  have := hT.hm
  exact Classical.byContradiction fun hne => D.one j k t (by omega) (by omega) (fun e => hne e.symm) (dst_of hT hj h1) (dst_of hT hk h2)

theorem tmp_ord (D : DrawFacts ops) (hT : T.Ok g hd c ops m) {t j k : Nat} (hj : j < m) (hk : k < m) (hne : k ≠ j) (ha : t ∈ seenTmps ops (T.o j)) (hw : WrT T t k) : Ord ops j k := by
  have hm := hT.hm
  have hd := dst_of hT hk hw
  rcases List.mem_append.1 ha with h | h
  · exact (D.reads k j t (T.o j) (by omega) hne hd (hT.op j hj) h).symm
  · unfold guardTmps at h
    split at h
    · cases h
    · rename_i i b hg
      have hwt := D.guard j _ (hT.op j hj) i b hg
      have hi : i < j := wt_lt D.back j (by omega) i hwt
      have : dstOf ops i = some t := by simpa using h
      have e : i = k := Classical.byContradiction fun hn => D.one i k t (by omega) (by omega) hn this hd
      subst e
      exact .inr ⟨hi, hwt⟩

theorem dom_all (E : Env g base hd c ops T m rs φ0 ω0 lam0 a0 w0) : ∀ j, j ≤ m → ∀ id o, (T.s j).heap.get id = some o → id < T.N j := by
  intro j
  induction j with
  | zero => intro _; exact E.hs.dom
  | succ j ih => intro h; exact (step_grow_at E.HG E.hT h).dom (ih (by omega))

theorem N0_le (E : Env g base hd c ops T m rs φ0 ω0 lam0 a0 w0) {j : Nat} (hj : j ≤ m) : T.N 0 ≤ T.N j := N_le E.HG E.hT (Nat.zero_le _) hj

theorem obj_val (E : Env g base hd c ops T m rs φ0 ω0 lam0 a0 w0) {id : Nat} : ∀ k, k < m → ¬ WrO c ops T id k → (T.s (k + 1)).heap.get id = (T.s k).heap.get id :=
  fun k hk hw => obj_keep E.HG E.hT (dom_all E) hk hw

theorem cut_zero {W : Nat → Prop} : Cut m W (fun _ => False) 0 := fun k _ _ => ⟨fun h => h.elim, fun h => by omega⟩
theorem cut_all {W : Nat → Prop} : Cut m W (fun k => k < m) m := fun k _ _ => Iff.rfl

theorem inD_zero (E : Env g base hd c ops T m rs φ0 ω0 lam0 a0 w0) {id : Nat} (h : In c (T.N 0) id) {p : Nat → Prop} : In (ctxD c T m p) (T.N m) id := by
  rw [in_ctxD]
  refine ⟨Nat.lt_of_lt_of_le h.1 (N0_le E (Nat.le_refl _)), h.2, fun k hk _ hr => ?_⟩
  have := N0_le E (j := k) (by omega)
  have := h.1
  omega

theorem Inv.start (E : Env g base hd c ops T m rs φ0 ω0 lam0 a0 w0) {w1 : World} (h1 : w1.heap = w0.heap) (h2 : w1.os = w0.os) (h3 : w1.tape = w0.tape) (h4 : w1.output = w0.output) :
    Inv base c ops T m rs φ0 ω0 lam0 w0 (fun _ => False) φ0 ω0 lam0 a0 w1 := by
  refine ⟨fun j h => h.elim, fun k h => h.elim, fun _ _ => rfl, by rw [h1]; exact E.hs.bw, fun b t h => ?_, fun id j o hj hc hv ho => ?_, fun d j cs hj hc ho => ?_, fun t j v hj hc ho => ?_, fun t j p hj hc ho => ?_, fun d j cs hj hc ho => ?_, E.hf.size, E.hf.defers, by rw [h1]; exact E.hf.marks, ⟨h2, h3, h4, by rw [h1]; exact Nat.le_refl _, fun b _ _ _ => ⟨by rw [h1], rfl⟩⟩⟩
  · rw [h1]
    obtain ⟨x, y, z⟩ := E.hs.tags b t h
    exact ⟨x, y, fun id e => Nat.lt_of_lt_of_le (z id e) (N0_le E (Nat.le_refl _))⟩
  · rw [cut_val hc cut_zero hj (Nat.zero_le _) (fun j => (T.s j).heap.get id) (obj_val E)] at ho
    exact ⟨(E.hs.obj id o ho hv).conv (fun i hi => ⟨inD_zero E hi, rfl⟩) rfl (fun _ => by rw [h1]), fun hb hso => E.hs.tag id o ho hv hb hso⟩
  · rw [cut_val hc cut_zero hj (Nat.zero_le _) (fun j => (T.fr j).loc.get d) (loc_keep E.hT)] at ho
    obtain ⟨x, cs', el, y, z⟩ := E.hf.own d cs ho
    exact ⟨x, cs', el, by rw [h1]; exact y, z.conv (fun i hi => ⟨inD_zero E hi, rfl⟩)⟩
  · rw [cut_val hc cut_zero hj (Nat.zero_le _) (fun j => (T.fr j).tm.get t) (tm_keep E.hT)] at ho
    exact (E.hf.tm t v ho).conv (fun i hi => ⟨inD_zero E hi, rfl⟩)
  · rw [cut_val hc cut_zero hj (Nat.zero_le _) (fun j => (T.fr j).pt.get t) (pt_keep E.hT)] at ho
    obtain ⟨⟨cs, x⟩, y⟩ := E.hf.pt t p ho
    exact ⟨⟨0, cs, Nat.zero_le _, cut_zero, x⟩, y⟩
  · rw [cut_val hc cut_zero hj (Nat.zero_le _) (fun j => (T.fr j).loc.get d) (loc_keep E.hT)] at ho
    exact .inl ⟨rfl, cs, ho⟩

theorem inD_out {p : Nat → Prop} {id : Nat} (h : In (ctxD c T m p) (T.N m) id) : In c (T.N m) id := ⟨h.1, (in_ctxD.1 h).2.1⟩

/-- All has been carried out. -/
theorem Inv.done (E : Env g base hd c ops T m rs φ0 ω0 lam0 a0 w0) (I : Inv base c ops T m rs φ0 ω0 lam0 w0 (fun k => k < m) φ ω lam a w) :
    FPost g base c φ0 φ ω0 ω lam0 lam (T.fr 0) (T.fr m) (T.s 0) (T.s m) rs rs a w0 w := by
  have hN := N0_le E (Nat.le_refl m)
  have hsr : SRel g base φ ω c (T.s m) w :=
    { dom := dom_all E m (Nat.le_refl _)
      bn := Nat.le_trans E.hs.bn hN
      bf := E.hs.bf
      vlow := E.hs.vlow
      vnew := fun id hi => E.hs.vnew id (Nat.le_trans hN hi)
      bw := I.bw
      obj := fun id o ho hv => (I.obj id m o (Nat.le_refl _) cut_all hv ho).1.conv (fun i hi => ⟨inD_out hi, rfl⟩) rfl (fun _ => rfl)
      low := fun id hi => by rw [I.agree id (Nat.lt_of_lt_of_le hi E.hs.bn)]; exact E.hs.low id hi
      tag := fun id o ho hv => (I.obj id m o (Nat.le_refl _) cut_all hv ho).2
      tags := I.tags
      glob := fun i hi => ⟨(E.hs.glob i hi).1, by rw [I.agree i (Nat.lt_of_lt_of_le (E.hs.glob i hi).1 E.hs.bn)]; exact (E.hs.glob i hi).2⟩ }
  refine ⟨I.agree, hN, hsr, ⟨by rw [I.size, (fr_same E.hT m (Nat.le_refl _)).1], fun t v h => (I.tm t m v (Nat.le_refl _) cut_all h).conv (fun i hi => ⟨inD_out hi, rfl⟩), fun t p h => ?_, fun d cs h => ?_, I.defers, E.hf.nodup, I.marks⟩, fun d cs h => I.lamW d m cs (Nat.le_refl _) cut_all h, I.keep, ⟨[], rfl, fun _ h => by cases h⟩, (fr_same E.hT m (Nat.le_refl _)).2⟩
  · obtain ⟨⟨j', cs, hj', hc, hl⟩, e⟩ := I.pt t m p (Nat.le_refl _) cut_all h
    refine ⟨⟨cs, ?_⟩, e⟩
    rw [← cut_val hc cut_all hj' (Nat.le_refl _) (fun j => (T.fr j).loc.get p.1) (loc_keep E.hT)]; exact hl
  · obtain ⟨x, cs', el, y, z⟩ := I.loc d m cs (Nat.le_refl _) cut_all h
    exact ⟨x, cs', el, y, z.conv (fun i hi => ⟨inD_out hi, rfl⟩)⟩

def cutTag (n : Nat) (ω : Nat → Option Tag) (b : Nat) : Option Tag :=
  match ω b with
  | some (.obj id) => if id < n then some (.obj id) else none
  | t => t

theorem cutTag_some {n b : Nat} {t : Tag} (h : cutTag n ω b = some t) : ω b = some t ∧ ∀ id, t = .obj id → id < n := by
  unfold cutTag at h
  split at h
  · rename_i id e
    split at h
    · rename_i hlt; cases h; exact ⟨e, fun i hi => by cases hi; exact hlt⟩
    · cases h
  · rename_i hne
    refine ⟨h, fun id e => ?_⟩
    subst e
    exact (hne id h).elim
theorem cutTag_of {n b : Nat} {t : Tag} (h : ω b = some t) (hn : ∀ id, t = .obj id → id < n) : cutTag n ω b = some t := by
  unfold cutTag
  rw [h]
  cases t with
  | obj id => simp only; rw [if_pos (hn id rfl)]
  | loc d => rfl
  | mark => rfl

/-- What is held, as an operation that may be carried out sees it. -/
theorem Inv.view (E : Env g base hd c ops T m rs φ0 ω0 lam0 a0 w0) (I : Inv base c ops T m rs φ0 ω0 lam0 w0 S φ ω lam a w) {i : Nat} (hi : i < m) (hni : ¬ S i) (hb : ∀ k, Wt ops k i → S k) :
    (∀ sA : St, sA.next = T.N i → ((silent ops i = false ∧ sA = T.s i) ∨ sA.heap = .nil) → SRel g base φ (cutTag (T.N i) ω) (T.ctx c ops i) sA w) ∧ FRel φ (T.ctx c ops i) (T.N i) lam (cutTag (T.N i) ω) ((T.fr i).only ops (T.o i) (T.acc ops i)) rs a w := by
  have his : i < ops.size := Nat.lt_of_lt_of_le hi E.hT.hm
  have hN := N0_le E (j := i) (by omega)
  have conv : ∀ {W : Nat → Prop}, (∀ k, k < m → k ≠ i → W k → Ord ops i k) → ∀ x, In (ctxD c T m (lastD ops W i)) (T.N m) x → In (T.ctx c ops i) (T.N i) x ∧ φ x = φ x := fun ho x hx =>
    ⟨(in_pre E.D E.HG E.hT hi).2 ((in_ctxD.1 hx).sub fun k hk => lastD_waits E.D.back his (by omega) ho k hk), rfl⟩
  constructor
  · intro sA hn hA
    have hA' : ∀ id o, sA.heap.get id = some o → silent ops i = false ∧ (T.s i).heap.get id = some o := fun id o h => by
      rcases hA with ⟨h1, rfl⟩ | h1
      · exact ⟨h1, h⟩
      · rw [h1, Tr.get_nil] at h; cases h
    exact
    { dom := fun id o h => by rw [hn]; exact dom_all E i (by omega) id o (hA' id o h).2
      bn := by rw [hn]; exact Nat.le_trans E.hs.bn hN
      bf := fun id h => by
        by_cases hlt : id < T.N 0
        · refine E.hs.bf id ?_
          cases hc : c.wr id with
          | true => rfl
          | false =>
            have := drawCtx_wr (c := c) (ops := ops) (b := closure ops ops.size) (n := ops.size) (j := i) (next := T.N i) (n0 := T.N 0) (seen := T.feet ops i) (fun x hx => by
              simp only [Trace.feet, List.mem_map, List.mem_range] at hx
              obtain ⟨k, hk, rfl⟩ := hx
              exact N0_le E (by omega)) hN hlt hc
            unfold Trace.ctx at h
            rw [this] at h; cases h
        · have := E.hs.bn; unfold Trace.N at hlt; omega
      vlow := fun id hlt => (vis_ctx E.D E.hT hi).2 ⟨E.hs.vlow id hlt, fun k hk _ hr => by
        have := N0_le E (j := k) (by omega)
        have := E.hs.bn
        unfold Trace.N at *
        omega⟩
      vnew := fun id hge => (vis_ctx E.D E.hT hi).2 ⟨E.hs.vnew id (Nat.le_trans hN (by rw [← hn]; exact hge)), fun k hk _ hr => by
        rw [hn] at hge
        have := N_le E.HG E.hT (i := k + 1) (j := i) hk (by omega)
        unfold Trace.N at *
        omega⟩
      bw := I.bw
      obj := fun id o ho0 hv => by
        obtain ⟨hsil, ho⟩ := hA' id o ho0
        rw [hn]
        have hcv := ((vis_ctx E.D E.hT hi).1 hv).1
        have hlt := dom_all E i (by omega) id o ho
        have hord : ∀ k, k < m → k ≠ i → WrO c ops T id k → Ord ops i k := fun k hk hne hw => acc_ord E.D E.HG E.hT hi hsil hk hne hlt hv hw
        exact (I.obj id i o (by omega) (cut_here I.closed hni hb hord) hcv ho).1.conv (conv hord) rfl (fun _ => rfl)
      low := fun id h => by rw [I.agree id (Nat.lt_of_lt_of_le h E.hs.bn)]; exact E.hs.low id h
      tag := fun id o ho0 hv hbi hso => by
        obtain ⟨hsil, ho⟩ := hA' id o ho0
        have hcv := ((vis_ctx E.D E.hT hi).1 hv).1
        have hlt := dom_all E i (by omega) id o ho
        have hord : ∀ k, k < m → k ≠ i → WrO c ops T id k → Ord ops i k := fun k hk hne hw => acc_ord E.D E.HG E.hT hi hsil hk hne hlt hv hw
        exact cutTag_of ((I.obj id i o (by omega) (cut_here I.closed hni hb hord) hcv ho).2 hbi hso) (fun x hx => by cases hx; exact hlt)
      tags := fun b t h => by
        obtain ⟨h1, h2⟩ := cutTag_some h
        obtain ⟨x, y, _⟩ := I.tags b t h1
        exact ⟨x, y, by rw [hn]; exact h2⟩
      glob := fun j hj => ⟨(E.hs.glob j hj).1, by rw [I.agree j (Nat.lt_of_lt_of_le (E.hs.glob j hj).1 E.hs.bn)]; exact (E.hs.glob j hj).2⟩ }
  · refine ⟨by rw [I.size]; exact (fr_same E.hT i (by omega)).1.symm, fun t v h => ?_, fun t p h => ?_, fun d cs h => ?_, I.defers, E.hf.nodup, fun r hr => ?_⟩
    · simp only [Fr.only, pick_nil] at h
      split at h
      · rename_i ht
        have hord : ∀ k, k < m → k ≠ i → WrT T t k → Ord ops i k := fun k hk hne hw => tmp_ord E.D E.hT hi hk hne ht hw
        exact (I.tm t i v (by omega) (cut_here I.closed hni hb hord) h).conv (conv hord)
      · cases h
    · simp only [Fr.only, pick_nil] at h
      split at h
      · rename_i ht
        have hord : ∀ k, k < m → k ≠ i → WrT T t k → Ord ops i k := fun k hk hne hw => tmp_ord E.D E.hT hi hk hne ht hw
        obtain ⟨⟨j', cs, hj', hc, hl⟩, e⟩ := I.pt t i p (by omega) (cut_here I.closed hni hb hord) h
        have hacc := ptd_acc ht h
        have hcut := cut_here I.closed hni hb (fun k hk hne hw => loc_ord E.hT hi hk hne hacc hw)
        refine ⟨⟨cs, ?_⟩, e⟩
        simp only [Fr.only, pick_nil]
        rw [if_pos hacc, ← cut_val hc hcut hj' (by omega) (fun j => (T.fr j).loc.get p.1) (loc_keep E.hT)]
        exact hl
      · cases h
    · simp only [Fr.only, pick_nil] at h
      split at h
      · rename_i hacc
        have hord : ∀ k, k < m → k ≠ i → WrL ops T d k → Ord ops i k := fun k hk hne hw => loc_ord E.hT hi hk hne hacc hw
        obtain ⟨x, cs', el, y, z⟩ := I.loc d i cs (by omega) (cut_here I.closed hni hb hord) h
        exact ⟨cutTag_of x (fun _ e => by cases e), cs', el, y, z.conv (conv hord)⟩
      · cases h
    · obtain ⟨x, y⟩ := I.marks r hr
      exact ⟨x, cutTag_of y (fun _ e => by cases e)⟩

end
end Go.Am
