/- From the abstract machine to a row's statement. -/
import Derived.Test.YtmpokdnpkjcnbaaDoorAmDraw
import Derived.Carry
import Derived.ChangeSame
import Derived.OpenShut
import Derived.Test.YtmpokdnpkjcnbaaDoorAmGrow
namespace Go.Am
open Go.RowKit Go.ChangeShapes Go.WideShapes
variable {Z : Zone}

def ctx0 (n : Nat) : Ctx := { floor := n, own := [], hide := [] }

variable [Z]
/-- The rows that are never written lie where they are said to lie. -/
structure ZoneOk (W : World) : Prop where
  zone : ∀ X b o, Zone.row X b o → b < W.heap.size ∧ ∃ X' el fz, W.heap[b]? = some (.cells X' el fz) ∧ (∀ (i : Nat) (x : Value), X[i]? = some x → ∃ x', X'[o + i]? = some x' ∧ Vrel (fun _ => ⟨0, 0, 0⟩) ⟨0, [], []⟩ 0 x x') ∧ (Zone.whole X b o → Zone.says b X')
  nosame : ¬ Zone.same
  isreal : Zone.real
variable {Z}

theorem zone_of {g : Cfg} {base : Base} {φ : Nat → Pl} {ω : Nat → Option Tag} {c : Ctx} {s : St} {w : World} (hs : SRel g base φ ω c s w) : ZoneOk w :=
  ⟨fun X b o hz => by
    obtain ⟨h1, h2⟩ := hs.zone X b o hz
    refine ⟨?_, h2⟩
    rcases h1 with h1 | h1
    · exact Nat.lt_of_lt_of_le h1 hs.bw
    · exact (hs.tags b _ h1).2.1, hs.nosame, hs.isreal⟩

variable [Z]
/-- The state at a call from outside: what is known of the heap. -/
structure Laid (g : Cfg) (n : Nat) (φ : Nat → Pl) (h : Tr AObj) (W : World) : Prop where
  dom : ∀ id o, h.get id = some o → id < n
  obj : ∀ id o, h.get id = some o → ORel φ (ctx0 n) n ⟨n, W.heap.size⟩ id (fun _ => none) W o
  low : ∀ id, id < n → (φ id).blk < W.heap.size
  glob : ∀ i, i < g.ng → i < n ∧ φ i = ⟨i, 0, 0⟩
  zone : ZoneOk W
variable {Z}

theorem Laid.srel {g : Cfg} {n : Nat} {φ : Nat → Pl} {h : Tr AObj} {W : World} (L : Laid g n φ h W) : SRel g ⟨n, W.heap.size⟩ φ (fun _ => none) (ctx0 n) ⟨h, n⟩ W where
  dom := L.dom
  bn := Nat.le_refl _
  bf id hw := by
    simp only [ctx0, Ctx.wr, List.any_nil, Bool.or_false] at hw
    exact of_decide_eq_true hw
  vlow _ _ := rfl
  vnew _ _ := rfl
  bw := Nat.le_refl _
  obj id o ho _ := L.obj id o ho
  low := L.low
  tag id o ho _ hb _ := by have := L.dom id o ho; simp only at hb; omega
  tags b t ht := by cases ht
  glob := L.glob
  zone X b o hz := by obtain ⟨h1, h2⟩ := L.zone.zone X b o hz; exact ⟨.inl h1, h2⟩
  nosame := L.zone.nosame
  isreal := L.zone.isreal

/-- Nothing known of the heap. -/
theorem Laid.nil {g : Cfg} (hg : g.ng = 0) (W : World) (hz : ZoneOk W) : Laid g 0 (fun _ => ⟨0, 0, 0⟩) .nil W :=
  ⟨fun id o h => by simp [Tr.get_nil] at h, fun id o h => by simp [Tr.get_nil] at h, fun id h => by omega, fun i h => by omega, hz⟩

/-- What the abstract machine answers, the machine answers, and nothing that was there has turned. -/
theorem calls_of {g : Cfg} {n k : Nat} {φ : Nat → Pl} {h : Tr AObj} {W : World} (hg : Good g ⟨n, W.heap.size⟩) (L : Laid g n φ h W) {f : FuncId} {i : FnI} (hh : g.hand f = none) (hi : g.fns f = some i) {args args' : Array Value} (ha : Arel φ (ctx0 n) n args args')
    {b : Bool} {s' : St} (hcall : call g k (.func (.func f) #[] #[]) args (ctx0 n) ⟨h, n⟩ = some (.ret (.bool b), s')) :
    Calls g.P f args' W fun e W' => e = .returned (.bool b) ∧ Below W.heap.size W W' := by
  obtain ⟨nx, hnx, hact⟩ := call_ok hg k _ _ _ _ _ _ hcall φ (fun _ => none) W (.func (.func f) #[] #[]) args' L.srel (.func f #[] #[] #[] #[] rfl rfl (fun i x x' h => by simp at h) (fun i x x' h => by simp at h)) ha
  obtain ⟨F, hF, hb, _, _, hname⟩ := hg.fns f i hi
  simp only [Deferred.ofValue, Sem.run_bind, Sem.run_pure, Result.andThen_ok, invoke, run_callFunc hF hb hname, Array.empty_append, Array.append_empty] at hnx
  cases hnx
  refine callsIn_wide.1 ((callsIn_FF (r' := none) hact).mono ?_)
  rintro e W' ⟨φ', ω', _, _, _, hk, he⟩
  cases he with
  | ret v v' hv =>
    cases hv
    exact ⟨rfl, hk.os, hk.tape, hk.output, hk.size, fun b hb => (hk.same b hb (by rintro ⟨id, o, h, _⟩; cases h) (fun h => h)).1⟩

/-! ### Arguments, opened -/
theorem cell_int {P : Program} {w : World} {r : Reach} {b : Nat} {t : TypeId} {k : IntKind} {v : Value} (ht : P.underlying t = some (.int k)) (h : Cell.okWide P w r b t v) : ∃ n, v = .int k n ∧ k.has n := by
  unfold Cell.okWide at h
  rw [ht] at h
  simp only [Cell.ok, ht] at h
  cases v <;> simp at h
  obtain ⟨rfl, h⟩ := h
  exact ⟨_, rfl, h⟩

theorem cell_slice {P : Program} {w : World} {r : Reach} {b : Nat} {t e : TypeId} {v : Value} (ht : P.underlying t = some (.slice e)) (h : Cell.okWide P w r b t v) :
    v = .slice none 0 0 ∨ ∃ blk off len cap, v = .slice (some ⟨blk, off, none⟩) len cap ∧ blk < w.heap.size ∧ len ≤ cap := by
  unfold Cell.okWide at h
  rw [ht] at h
  simp only [Cell.ok, ht] at h
  split at h
  · rename_i e1; cases e1
  · rename_i e1; cases e1
  · rename_i e1; cases e1
  · rename_i e1; cases e1
  · rename_i e1; cases e1
  · rename_i e1; cases e1
  · exact .inl rfl
  · rename_i e1; cases e1
  · rename_i e1
    cases e1
    obtain ⟨h1, _, h2⟩ := h
    rename_i _ a len cap _
    obtain ⟨_, hs, row, cells, hsh, _⟩ := h2
    refine .inr ⟨a.block, a.off, len, cap, ?_, ?_, h1⟩
    · obtain ⟨b', o', s'⟩ := a; simp only at hs; subst hs; rfl
    · unfold World.shape? at hsh
      cases hh : w.heap[a.block]? with
      | none => rw [hh] at hsh; cases hsh
      | some o => exact (Array.getElem?_eq_some_iff.1 hh).1
  · cases h

section
variable {H : Type} {enc : TypeId × Value → H} {P : Program}

def typesRead (P : Program) (ts : List TypeId) : Bool := ts.all fun t => P.readableRec t && decide (t < P.types.size)

theorem trodAll_below (hl : laidOutB P = true) {W W' : World} (hb : Below W.heap.size W W') : ∀ {ts : List TypeId} {vs : List Value} {ds : List (DataW H)} {p : List MemPlace}, typesRead P ts = true → (∀ x ∈ p, x.block < W.heap.size) →
    DataW.TrodAll enc P W 0 (fun _ => true) true ts vs ds p → DataW.TrodAll enc P W' 0 (fun b => decide (b < W.heap.size)) true ts vs ds p
  | [], _, _, _, _, _, h => by
    obtain ⟨rfl, rfl, rfl⟩ := trodAll_nil h
    exact trodAll_mk0
  | t :: ts, _, _, _, ht, hlt, h => by
    obtain ⟨v, vs1, d, ds1, a, b, rfl, rfl, rfl, h1, h2⟩ := trodAll_cons h
    simp only [typesRead, List.all_cons, Bool.and_eq_true, decide_eq_true_eq] at ht
    exact trodAll_cons_mk (Below.trod hl ht.1.1 ht.1.2 h1 hb (fun x hx => hlt x (List.mem_append_left _ hx))) (trodAll_below hl hb (by simpa [typesRead] using ht.2) (fun x hx => hlt x (List.mem_append_right _ hx)) h2)

/-- A law's result: true, and the arguments read as they did. -/
theorem post_of_below {f : Func} {s : ChangeSpec} {W W' : World} {args : Array Value} {ds gs : List (DataW H)} {before : List MemPlace} {t : TypeId} (hl : laidOutB P = true) (ht : typesRead P f.params.toList = true) (hr : f.resultTypes = #[t]) (hbt : P.underlying t = some .bool)
    (hvars : s.vars = []) (hfn : s.fn H (ds ++ gs) = { results := [.lit (.bool true)], args := ds }) (hW : DataW.Whole enc P f.params.toList s.vars false W args.toList ds gs before) (hb : Below W.heap.size W W') :
    s.post enc P f false true false false W args (.bool true) W' := by
  have hlt := hW.lt
  have hW' := hW
  obtain ⟨p, q, hA, hV, rfl, hfz, hnd⟩ := hW
  rw [hvars] at hV
  obtain ⟨rfl, rfl⟩ := trodVars_none hV
  refine ⟨ds, _, _, [], p, [], hW', ?_, ?_, ?_, hb.frame _, fun h => by cases h⟩
  · rw [hfn, hr]
    exact trodAll_cons_mk (shut_bool hbt _) trodAll_mk0
  · rw [hfn]
    exact trodAll_below hl hb ht (fun x hx => hlt x (by simpa using hx)) hA
  · rw [hfn, hvars]
    rfl
end
end Go.Am

/- Checks of a region that draws its order, made quicker. -/
namespace Go.Am
noncomputable section

def memN (d : Nat) : List Nat → Bool
  | [] => false
  | x :: r => cond (Nat.beq x d) true (memN d r)
theorem memN_eq (d : Nat) : ∀ l : List Nat, memN d l = l.contains d := by
  intro l
  induction l with
  | nil => rfl
  | cons x r ih =>
    simp only [memN, cond_beq, ih, List.contains_cons]
    by_cases h : x = d
    · subst h; simp
    · have : ¬ d = x := fun e => h e.symm
      simp [h, this]
def isDst (d : Nat) : Option Tmp → Bool
  | none => false
  | some x => Nat.beq x d

def row (b : List (List Nat)) (j : Nat) : List Nat := b.getD j []
def orderedF (b : List (List Nat)) (i j : Nat) : Bool := cond (Nat.blt i j) (memN i (row b j)) (memN j (row b i))
theorem orderedF_eq (b : List (List Nat)) (i j : Nat) : orderedF b i j = ordered b i j := by
  unfold orderedF ordered row
  rw [memN_eq, memN_eq]
  by_cases h : i < j
  · rw [if_pos h, show Nat.blt i j = true from by simp [Nat.blt]; omega]; rfl
  · rw [if_neg h, show Nat.blt i j = false from by
      cases hb : Nat.blt i j with
      | false => rfl
      | true => simp [Nat.blt] at hb; omega]; rfl

/-- Which operation writes which slot; none: one is written twice. -/
def dstTr : List (Oper × Nat) → Tr Nat → Option (Tr Nat)
  | [], t => some t
  | x :: r, t => match x.1.dst with
    | none => dstTr r t
    | some d => match t.get d with
      | some _ => none
      | none => dstTr r (t.put d x.2)

theorem dstTr_some : ∀ {l : List (Oper × Nat)} {t0 tr : Tr Nat}, dstTr l t0 = some tr → (∀ d i, t0.get d = some i → tr.get d = some i) ∧ ∀ o i d, (o, i) ∈ l → o.dst = some d → tr.get d = some i := by
  intro l
  induction l with
  | nil => intro t0 tr h; cases h; exact ⟨fun _ _ h => h, fun o i d h => by cases h⟩
  | cons x r ih =>
    intro t0 tr h
    simp only [dstTr] at h
    split at h
    · rename_i hd
      obtain ⟨a, b⟩ := ih h
      refine ⟨a, fun o i d hm ho => ?_⟩
      rcases List.mem_cons.1 hm with e | hm
      · subst e; simp only at hd; rw [hd] at ho; cases ho
      · exact b o i d hm ho
    · rename_i d hd
      split at h
      · cases h
      · rename_i hn
        obtain ⟨a, b⟩ := ih h
        refine ⟨fun d' i hg => a d' i ?_, fun o i d' hm ho => ?_⟩
        · rw [Tr.get_put, if_neg]
          · exact hg
          · rintro rfl; rw [hn] at hg; cases hg
        · rcases List.mem_cons.1 hm with e | hm
          · subst e
            simp only at hd
            rw [hd] at ho; cases ho
            exact a _ _ (by rw [Tr.get_put, if_pos rfl])
          · exact b o i d' hm ho

/-- Do all edges that bind lead back? -/
def backF (ops : Array Oper) : Bool := ops.toList.zipIdx.all fun x => x.1.after.toList.all fun e => !Region.binds .gc e || decide (e.on < x.2)

def drawOkF (ops : Array Oper) (b : List (List Nat)) : Bool :=
  ((ops.toList.zipIdx).all fun x =>
      x.1.after.toList.all (fun e => decide (e.on < x.2) || (match e.ground with | .gcOnly _ => true | _ => false)) &&
      (match x.1.guard with | none => true | some (i, _) => memN i (row b x.2))) &&
  (backF ops || (ops.toList.zipIdx).all fun x => memN x.2 (Region.linearise .gc ops 0)) &&
  (match dstTr ops.toList.zipIdx .nil with
    | none => false
    | some tr => (ops.toList.zipIdx).all fun x => (opTmps x.1).all fun t => match tr.get t with
      | none => true
      | some i => Nat.beq i x.2 || orderedF b i x.2)

theorem go_acc (m : Region.Mode) (ops : Array Oper) : ∀ (fuel t : Nat) (listed : Array Bool) (acc : List Nat), Region.linearise.go m ops fuel t listed acc = acc.reverse ++ Region.linearise.go m ops fuel t listed [] := by
  intro fuel
  induction fuel with
  | zero => intro t listed acc; simp [Region.linearise.go]
  | succ n ih =>
    intro t listed acc
    simp only [Region.linearise.go]
    split
    · rename_i i _
      rw [ih _ _ (i :: acc), ih _ _ [i]]
      simp
    · simp

def open_ (listed : Array Bool) (n : Nat) : Nat := (List.range n).countP fun i => !listed.getD i true

theorem countP_lt {p q : Nat → Bool} {l : List Nat} (hpq : ∀ x ∈ l, q x = true → p x = true) {i : Nat} (hi : i ∈ l) (hp : p i = true) (hq : q i = false) : l.countP q < l.countP p := by
  induction l with
  | nil => cases hi
  | cons a r ih =>
    simp only [List.countP_cons]
    have hle : r.countP q ≤ r.countP p := List.countP_mono_left fun x hx => hpq x (List.mem_cons_of_mem _ hx)
    rcases List.mem_cons.1 hi with rfl | hi
    · rw [hp, hq]; simp; omega
    · have := ih (fun x hx => hpq x (List.mem_cons_of_mem _ hx)) hi
      by_cases ha : q a = true
      · rw [ha, hpq a (List.mem_cons_self) ha]; simp; omega
      · have : q a = false := by simpa using ha
        rw [this]; simp; split <;> omega

theorem go_all {ops : Array Oper} (hb : ∀ j o, ops[j]? = some o → ∀ e ∈ o.after, Region.binds .gc e = true → e.on < j) : ∀ (fuel t : Nat) (listed : Array Bool), listed.size = ops.size → open_ listed ops.size ≤ fuel → ∀ j, j < ops.size → listed.getD j true = false → j ∈ Region.linearise.go .gc ops fuel t listed [] := by
  intro fuel
  induction fuel with
  | zero =>
    intro t listed hsz hle j hj hl
    have : 0 < open_ listed ops.size := List.countP_pos_iff.2 ⟨j, by simpa using hj, by simp [hl]⟩
    omega
  | succ fuel ih =>
    intro t listed hsz hle j hj hl
    -- the least one that is open is ready
    have hready : ∃ i, i ∈ (List.range ops.size).filter fun i => !listed.getD i true && ((ops[i]?).map (·.after.all fun e => !Region.binds .gc e || listed.getD e.on false)).getD false := by
      have : ∀ n j, j < n → j < ops.size → listed.getD j true = false → ∃ i, i < ops.size ∧ listed.getD i true = false ∧ ∀ k, k < i → listed.getD k true = true := by
        intro n
        induction n with
        | zero => intro j h; omega
        | succ n ihn =>
          intro j hjn hj hl
          by_cases h : ∃ k, k < j ∧ listed.getD k true = false
          · obtain ⟨k, hk, hkl⟩ := h
            exact ihn k (by omega) (by omega) hkl
          · refine ⟨j, hj, hl, fun k hk => ?_⟩
            cases hc : listed.getD k true with
            | true => rfl
            | false => exact (h ⟨k, hk, hc⟩).elim
      obtain ⟨i, hi, hil, hmin⟩ := this (j + 1) j (Nat.lt_succ_self _) hj hl
      refine ⟨i, List.mem_filter.2 ⟨by simpa using hi, ?_⟩⟩
      rw [hil, Array.getElem?_eq_getElem hi]
      simp only [Bool.not_false, Bool.true_and, Option.map_some, Option.getD_some, Array.all_eq_true']
      intro e he
      cases hbe : Region.binds .gc e with
      | false => rfl
      | true =>
        have hlt := hb i _ (Array.getElem?_eq_getElem hi) e he hbe
        have hk := hmin _ hlt
        have hks : e.on < listed.size := by omega
        simp only [Bool.not_true, Bool.false_or]
        simp only [Array.getD, hks, dif_pos] at hk ⊢
        exact hk
    simp only [Region.linearise.go]
    generalize hrs : ((List.range ops.size).filter fun i => !listed.getD i true && ((ops[i]?).map (·.after.all fun e => !Region.binds .gc e || listed.getD e.on false)).getD false) = rs at hready ⊢
    obtain ⟨i0, hi0⟩ := hready
    have hpos : 0 < rs.length := List.length_pos_of_mem hi0
    have hlt : t % rs.length < rs.length := Nat.mod_lt _ hpos
    rw [List.getElem?_eq_getElem hlt]
    simp only
    generalize hi : rs[t % rs.length] = i
    have hmem : i ∈ rs := by rw [← hi]; exact List.getElem_mem _
    rw [← hrs] at hmem
    obtain ⟨hir, hic⟩ := List.mem_filter.1 hmem
    have hin : i < ops.size := by simpa using hir
    have hil : listed.getD i true = false := by
      simp only [Bool.and_eq_true, Bool.not_eq_true'] at hic
      exact hic.1
    rw [go_acc, List.reverse_singleton, List.singleton_append, List.mem_cons]
    by_cases e : j = i
    · exact .inl e
    · right
      have hget : ∀ k, (listed.setIfInBounds i true).getD k true = if k = i then true else listed.getD k true := by
        intro k
        by_cases hk : k < listed.size
        · by_cases hki : k = i
          · subst hki; simp [Array.getD, hk]
          · have : ¬ i = k := fun e => hki e.symm
            simp [Array.getD, hk, hki, this, Array.getElem_setIfInBounds]
        · simp [Array.getD, hk]
      refine ih _ _ (by simpa using hsz) ?_ j hj (by rw [hget, if_neg e]; exact hl)
      have : open_ (listed.setIfInBounds i true) ops.size < open_ listed ops.size := by
        refine countP_lt (fun x _ hx => ?_) hir (by simp [hil]) (by rw [hget, if_pos rfl]; rfl)
        rw [hget] at hx
        split at hx
        · cases hx
        · exact hx
      omega

theorem drawOkF_ok {ops : Array Oper} {b : List (List Nat)} (h : drawOkF ops b = true) : drawOk ops b = true := by
  unfold drawOkF at h
  simp only [Bool.and_eq_true] at h
  obtain ⟨⟨h1, hg⟩, h2⟩ := h
  rw [List.all_eq_true] at h1
  have hmem : ∀ j (hj : j < ops.size), (ops[j], j) ∈ ops.toList.zipIdx := fun j hj => by
    rw [List.mem_zipIdx_iff_getElem?]
    simp [hj]
  have hgc : ∀ j, j < ops.size → (Region.linearise .gc ops 0).contains j = true := by
    intro j hj
    rcases (by simpa using hg : backF ops = true ∨ ((ops.toList.zipIdx).all fun x => memN x.2 (Region.linearise .gc ops 0)) = true) with hb | ha
    · have hback : ∀ j o, ops[j]? = some o → ∀ e ∈ o.after, Region.binds .gc e = true → e.on < j := by
        intro j o ho e he hbe
        obtain ⟨hlt, rfl⟩ := Array.getElem?_eq_some_iff.1 ho
        have := List.all_eq_true.1 hb _ (hmem j hlt)
        have := List.all_eq_true.1 this e (by simpa using he)
        simpa [hbe] using this
      have := go_all hback ops.size 0 (Array.replicate ops.size false) (by simp) (by
        unfold open_
        exact Nat.le_trans List.countP_le_length (by simp)) j hj (by simp [Array.getD, hj])
      simpa [Region.linearise] using this
    · have := List.all_eq_true.1 ha _ (hmem j hj)
      rw [memN_eq] at this
      exact this
  unfold drawOk
  simp only [Bool.and_eq_true, List.all_eq_true, List.mem_range]
  refine ⟨fun j hj => ?_, fun i hi => ?_⟩
  · have a := h1 _ (hmem j hj)
    simp only [Bool.and_eq_true, List.all_eq_true] at a
    obtain ⟨a1, a2⟩ := a
    rw [Array.getElem?_eq_getElem hj]
    simp only [Bool.and_eq_true, List.all_eq_true]
    refine ⟨⟨a1, ?_⟩, hgc j hj⟩
    cases hgd : ops[j].guard with
    | none => rfl
    | some p => rw [hgd] at a2; simp only at a2 ⊢; rw [memN_eq] at a2; exact a2
  · split at h2
    · cases h2
    · rename_i tr htr
      obtain ⟨_, hb⟩ := dstTr_some htr
      have hat : ∀ k (hk : k < ops.size) d, ops[k].dst = some d → tr.get d = some k := fun k hk d hd => hb _ _ _ (hmem k hk) hd
      cases hd : dstOf ops i with
      | none => rfl
      | some d =>
        simp only [List.all_eq_true, List.mem_range]
        intro j hj
        have hdi : ops[i].dst = some d := by
          unfold dstOf at hd
          rw [Array.getElem?_eq_getElem hi] at hd
          exact hd
        have hti := hat i hi d hdi
        by_cases e : i = j
        · simp [e]
        · have hdj : dstOf ops j = ops[j].dst := by unfold dstOf; rw [Array.getElem?_eq_getElem hj]; rfl
          rw [hdj, Array.getElem?_eq_getElem hj]
          have e0 : (i == j) = false := by simp [e]
          have e1 : (ops[j].dst != some d) = true := by
            simp only [bne_iff_ne, ne_eq]
            intro hc
            have := hat j hj d hc
            rw [hti] at this
            exact e (Option.some.inj this)
          simp only [e0, e1, Bool.false_or, Bool.true_and]
          cases hc : (opTmps ops[j]).contains d with
          | false => rfl
          | true =>
            have := List.all_eq_true.1 (List.all_eq_true.1 h2 _ (hmem j hj)) d (by simpa using hc)
            simp only [hti] at this
            rw [orderedF_eq, show Nat.beq i j = false from by
              cases hb : Nat.beq i j with
              | false => rfl
              | true => exact (e (Nat.eq_of_beq_eq_true hb)).elim] at this
            simpa using this
end
end Go.Am
