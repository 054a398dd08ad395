/- A row that will not be written any more is frozen: from there on its slices are values. -/
import Derived.Test.YtmpokdnpkjcnbaaDoorAmData
namespace Go.Am
noncomputable section

/-- One more row that is never written. -/
abbrev Zone.plus (Z : Zone) (E : Array Value) (b o : Nat) : Zone where
  row X b' o' := Z.row X b' o' ∨ (X = E ∧ b' = b ∧ o' = o)
  real := Z.real
  same := Z.same
  whole := Z.whole
  sub X b' o' h := .inl (Z.sub X b' o' h)
  says := Z.says

variable {Z : Zone}
theorem Vrel.plus {φ : Nat → Pl} {c : Ctx} {n : Nat} {v v' : Value} (E : Array Value) (b o : Nat) (h : Vrel φ c n v v') : @Vrel (Z.plus E b o) φ c n v v' := by
  induction h with
  | bool x => exact Vrel.bool (Z := Z.plus E b o) x
  | int k i => exact Vrel.int (Z := Z.plus E b o) k i
  | float k i => exact Vrel.float (Z := Z.plus E b o) k i
  | string s => exact Vrel.string (Z := Z.plus E b o) s
  | nilPointer => exact Vrel.nilPointer (Z := Z.plus E b o)
  | pointer id o' h => exact Vrel.pointer (Z := Z.plus E b o) id o' h
  | nilSlice l cp => exact Vrel.nilSlice (Z := Z.plus E b o) l cp
  | slice id o' l cp h => exact Vrel.slice (Z := Z.plus E b o) id o' l cp h
  | nilMap => exact Vrel.nilMap (Z := Z.plus E b o)
  | map id h => exact Vrel.map (Z := Z.plus E b o) id h
  | func f x y x' y' hx hy _ _ iX iY => exact Vrel.func (Z := Z.plus E b o) f x y x' y' hx hy iX iY
  | yield id h => exact Vrel.yield (Z := Z.plus E b o) id h
  | nilFunc => exact Vrel.nilFunc (Z := Z.plus E b o)
  | iface t v v' _ ih => exact Vrel.iface (Z := Z.plus E b o) t v v' ih
  | nilIface => exact Vrel.nilIface (Z := Z.plus E b o)
  | agg x x' hx _ iX => exact Vrel.agg (Z := Z.plus E b o) x x' hx iX
  | tuple x x' hx _ iX => exact Vrel.tuple (Z := Z.plus E b o) x x' hx iX
  | vslice nm X o' l cp b' o2 h hl => exact Vrel.vslice (Z := Z.plus E b o) nm X o' l cp b' o2 (.inl h) hl
  | vnil nm X o' cp p h => exact Vrel.vnil (Z := Z.plus E b o) nm X o' cp p h
  | vptr t nm X o' l b' o2 h => exact Vrel.vptr (Z := Z.plus E b o) t nm X o' l b' o2 (.inl h)
  | vsame nm X o' l h => exact Vrel.vsame (Z := Z.plus E b o) nm X o' l h
  | psame t nm X o' l h => exact Vrel.psame (Z := Z.plus E b o) t nm X o' l h
theorem Arel.plus {φ : Nat → Pl} {c : Ctx} {n : Nat} {v v' : Array Value} (E : Array Value) (b o : Nat) (h : Arel φ c n v v') : @Arel (Z.plus E b o) φ c n v v' :=
  ⟨h.1, fun i x x' hx hx' => (h.2 i x x' hx hx').plus E b o⟩
theorem ORel.plus {φ : Nat → Pl} {c : Ctx} {n id : Nat} {base : Base} {ω ω' : Nat → Option Tag} {w : World} {ob : AObj} (E : Array Value) (b o : Nat) (h : ORel φ c n base id ω w ob) : @ORel (Z.plus E b o) φ c n base id ω' w ob := by
  cases ob with
  | cells cs sz sp =>
    refine ⟨h.1, fun hs => ?_⟩
    obtain ⟨cs', el, fz, h1, h2, h3, h4⟩ := h.2 hs
    exact ⟨cs', el, fz, h1, h2, h3, fun i x hx => let ⟨x', p, q⟩ := h4 i x hx; ⟨x', p, q.plus E b o⟩⟩
  | map es =>
    obtain ⟨es', cl, h1, h2, h3⟩ := h
    exact ⟨es', cl, h1, h2, fun i x hx => let ⟨e', p1, p2, p3, p4⟩ := h3 i x hx; ⟨e', p1, p2, p3, p4.plus E b o⟩⟩
  | loop r =>
    obtain ⟨L, h1, h2, h3, h5, h6, h7, h8, h9⟩ := h
    exact ⟨L, h1, h2, h3, h5, h6, h7, h8, fun t v a => (h9 t v a).plus E b o⟩


theorem AWp.freeze {g : Cfg} {base : Base} {c : Ctx} {k : Code} {fr fr2 : Fr} {s s2 : St} {id sz : Nat} {sp : Bool} {E : Array Value} (hget : s.heap.get id = some (.cells E sz sp)) (hv : c.vis id = true) (hb : base.id ≤ id) (hE : E.all (freeN 9) = true)
    (hfr : fr2.nt = fr.nt ∧ fr2.round = fr.round ∧ fr2.pt = fr.pt ∧ fr2.loc = fr.loc)
    (htm : ∀ t u, fr2.tm.get t = some u → fr.tm.get t = some u ∨ (∃ o l cp, fr.tm.get t = some (.slice (some ⟨id, o, none⟩) l cp) ∧ u = VS E o l ∧ l ≤ E.size ∧ l ≤ cp) ∨ ∃ o, fr.tm.get t = some (.pointer (some ⟨id, o, none⟩)) ∧ u = VP E o ∧ E.size ≠ 0)
    (hn2 : s2.next = s.next) (hs2 : ∀ i o, s2.heap.get i = some o → i ≠ id ∧ s.heap.get i = some o) {L : List (Tmp × Value)} (hpl : plainL L)
    (h : ∀ Z' : Zone, @AWp Z' g base c k fr2 s2 (RetL L)) : AWp g base c k fr s (RetL L) := by
  intro φ ω lam rs a w ro Q hs hf hro hQ
  have hobj := hs.obj id _ hget hv
  classical
  -- back to what was known, by what nobody has written
  have back : ∀ (z : { x : Zone // True }) (ω2 : Nat → Option Tag) (B : Nat → Prop), (∀ b, ¬ B b → ω2 b = ω b) → (∀ b, B b → ω b = some (.obj id) ∧ ω2 b = some .mark ∧ ∃ X el fz, w.heap[b]? = some (.cells X el fz)) →
      ∀ ex fr' s', RetL L ex fr' s' → @CodeQ z.1 g base c φ ω2 lam fr2 s2 rs w ex fr' s' Q := by
    intro z ω2 B hB1 hB2 ex fr' s' hret φ' ω' lam' rs' a' w' e hp he
    obtain ⟨hex, hslot⟩ := hret
    obtain ⟨pagree, pnext, psrel, pfrel, plamW, pkeep, pmarks, pround⟩ := hp
    obtain ⟨sdom, sbn, sbf, svlow, svnew, sbw, sobj, slow, stag, stags, sglob, szone, snosame, sisreal⟩ := psrel
    obtain ⟨fsize, ftm, fpt, fown, fdefers, fnodup, fmarks⟩ := pfrel
    have hm2 : ∀ b, B b → ω' b = some .mark ∧ w'.heap[b]? = w.heap[b]? := fun b hb => by
      obtain ⟨h1, h2, _⟩ := hB2 b hb
      have := pkeep.same b (hs.tags b _ h1).2.1 (by rintro ⟨i, o, h3, _⟩; rw [h2] at h3; cases h3) (by
        rintro ⟨d, cs, h3, h4⟩
        rw [hfr.2.2.2] at h3
        have := (hf.own d cs h3).1
        rw [h4, h1] at this; cases this)
      exact ⟨this.2.trans h2, this.1⟩
    have hkeep : Keep ω (fun b => if B b then ω b else ω' b) c s (LocB lam fr.loc) w w' := by
      refine ⟨pkeep.os, pkeep.tape, pkeep.output, pkeep.size, fun b hb ho hx => ?_⟩
      by_cases hBb : B b
      · exact ⟨(hm2 b hBb).2, if_pos hBb⟩
      · have := pkeep.same b hb (by
          rintro ⟨i, o, h1, h2, h3, h4⟩
          exact ho ⟨i, o, by rw [← hB1 b hBb]; exact h1, h2, h3, (hs2 i o h4).2⟩) (by rw [hfr.2.2.2]; exact hx)
        exact ⟨this.1, by rw [if_neg hBb, this.2, hB1 b hBb]⟩
    have hnx : s.next ≤ s'.next := by rw [← hn2]; exact pnext
    refine hQ ex { fr' with tm := pick (L.map (·.1)) fr'.tm .nil, pt := .nil, loc := .nil } ⟨.nil, s'.next⟩ ⟨hex, (retL_pick hslot).1⟩ φ' (fun b => if B b then ω b else ω' b) lam' rs' a' w' e
      ⟨fun i hi => pagree i (by rw [hn2]; exact hi), hnx, ?_, ?_, fun d cs hd => ?_, hkeep, pmarks, by rw [← hfr.2.1]; exact pround⟩ ?_
    · refine ⟨fun i o ho => ?_, Nat.le_trans hs.bn hnx, hs.bf, hs.vlow, fun i hi => hs.vnew i (Nat.le_trans hnx hi), Nat.le_trans hs.bw pkeep.size, fun i o ho => ?_, slow,
        fun i o ho => ?_, fun b u hu => ?_, sglob, fun X b o hz => ?_, hs.nosame, hs.isreal⟩
      · simp only at ho; rw [Tr.get_nil] at ho; cases ho
      · simp only at ho; rw [Tr.get_nil] at ho; cases ho
      · simp only at ho; rw [Tr.get_nil] at ho; cases ho
      · have hu : (if B b then ω b else ω' b) = some u := hu
        by_cases hBb : B b
        · rw [if_pos hBb] at hu
          obtain ⟨x, y, z⟩ := hs.tags b u hu
          exact ⟨x, Nat.lt_of_lt_of_le y pkeep.size, fun i hi => Nat.lt_of_lt_of_le (z i hi) hnx⟩
        · rw [if_neg hBb] at hu
          exact stags b u hu
      · refine (hs.zone X b o hz).keep fun hb' => ?_
        have hlt : b < w.heap.size := by
          rcases hb' with hb' | hb'
          · exact Nat.lt_of_lt_of_le hb' hs.bw
          · exact (hs.tags b _ hb').2.1
        have := hkeep.same b hlt (by
          rintro ⟨i, o, h1, _⟩
          rcases hb' with hb' | hb'
          · have := (hs.tags _ _ h1).1; omega
          · rw [h1] at hb'; cases hb') (by
          rintro ⟨d, cs, h3, h4⟩
          have h5 := (hf.own d cs h3).1
          rw [h4] at h5
          rcases hb' with hb' | hb'
          · have := (hs.tags _ _ h5).1; omega
          · rw [h5] at hb'; cases hb')
        exact ⟨this.1, fun em => by rw [this.2]; exact em⟩
    · refine ⟨fsize, fun t' u hu => ?_, fun t' p hpp => ?_, fun d cs hd => ?_, fdefers, fnodup, fun r hr => ?_⟩
      · obtain ⟨h1, p, hpm, rfl, rfl⟩ := (retL_pick hslot).2 t' u hu
        have := ftm _ _ h1
        rw [plain_eq (Z := z.1) 9 _ _ (hpl p hpm) this]
        exact plain_rel _ _ _ 9 _ (hpl p hpm)
      · simp only at hpp; rw [Tr.get_nil] at hpp; cases hpp
      · simp only at hd; rw [Tr.get_nil] at hd; cases hd
      · obtain ⟨h1, h2⟩ := fmarks r hr
        refine ⟨h1, ?_⟩
        by_cases hBr : B r
        · obtain ⟨_, _, X, el, fz, h3⟩ := hB2 r hBr
          rw [(hm2 r hBr).2, h3] at h1; cases h1
        · exact (if_neg hBr).trans h2
    · simp only at hd; rw [Tr.get_nil] at hd; cases hd
    · cases he with
      | normal => exact .normal
      | ret => exact .ret
      | exit i => rcases hex with e1 | e1 <;> cases e1
      | pan v v' hv => rcases hex with e1 | e1 <;> cases e1
  by_cases h0 : E.size ≠ 0 ∨ sp = true
  · obtain ⟨cs', el, fz, h1, _, _, h4⟩ := hobj.2 h0
    have htag := hs.tag id _ hget hv hb h0
    refine h (Z.plus E (φ id).blk (φ id).off) φ (fun b => if b = (φ id).blk then some .mark else ω b) lam rs a w ro Q ?_ ?_ ?_
      (back ⟨Z.plus E (φ id).blk (φ id).off, trivial⟩ (fun b => if b = (φ id).blk then some .mark else ω b) (fun b => b = (φ id).blk) (fun b hb => if_neg hb) (fun b hb => by subst hb; exact ⟨htag, if_pos rfl, _, _, _, h1⟩))
    · have hother : ∀ i o, s2.heap.get i = some o → c.vis i = true → base.id ≤ i → Solid o → (φ i).blk ≠ (φ id).blk := fun i o hi hvi hbi hso e => by
        obtain ⟨hne, hi'⟩ := hs2 i o hi
        have := hs.tag i o hi' hvi hbi hso
        rw [e, htag] at this
        cases this; exact hne rfl
      refine @SRel.mk (Z.plus E (φ id).blk (φ id).off) g base φ _ c s2 w (fun i o ho => by rw [hn2]; exact hs.dom i o (hs2 i o ho).2) (by rw [hn2]; exact hs.bn) hs.bf hs.vlow (fun i hi => hs.vnew i (by rw [← hn2]; exact hi)) hs.bw
        (fun i o ho hvi => by rw [hn2]; exact (hs.obj i o (hs2 i o ho).2 hvi).plus _ _ _) hs.low (fun i o ho hvi hbi hso => ?_) (fun b u hu => ?_) hs.glob (fun X b o hz => ?_) hs.nosame hs.isreal
      · show (if (φ i).blk = (φ id).blk then some Tag.mark else ω (φ i).blk) = _
        rw [if_neg (hother i o ho hvi hbi hso)]
        exact hs.tag i o (hs2 i o ho).2 hvi hbi hso
      · have hu : (if b = (φ id).blk then some Tag.mark else ω b) = some u := hu
        rw [hn2]
        split at hu
        · rename_i e1
          cases hu; subst e1
          obtain ⟨x, y, _⟩ := hs.tags _ _ htag
          exact ⟨x, y, fun i hi => by cases hi⟩
        · exact hs.tags b u hu
      · rcases hz with hz | ⟨rfl, rfl, rfl⟩
        · obtain ⟨h5, X', el', fz', h6, h7⟩ := hs.zone X b o hz
          refine ⟨?_, X', el', fz', h6, fun i x hx => let ⟨x', p, q⟩ := h7.1 i x hx; ⟨x', p, q.plus _ _ _⟩, h7.2⟩
          rcases h5 with h5 | h5
          · exact .inl h5
          · right
            simp only
            split
            · rfl
            · exact h5
        · refine ⟨.inr (if_pos rfl), cs', el, fz, h1, fun i x hx => ?_, fun hw => ?_⟩
          · obtain ⟨x', p, q⟩ := h4 i x hx
            exact ⟨x', p, (free_move 9 _ _ (all_get hE hx) q).plus _ _ _⟩
          · obtain ⟨_, X', el', fz', h6, h7⟩ := hs.zone _ _ _ (Z.sub _ _ _ hw)
            rw [h1] at h6
            cases h6
            exact h7.2 hw
    · refine @FRel.mk (Z.plus E (φ id).blk (φ id).off) φ c s2.next lam _ fr2 rs a w (by rw [hfr.1]; exact hf.size) (fun t' u hu => ?_) (fun t' p hp => ?_) (fun d cs hd => ?_) hf.defers hf.nodup (fun r hr => ?_)
      · rw [hn2]
        rcases htm t' u hu with h5 | ⟨o, l, cp, h5, rfl, hl, hcp⟩ | ⟨o, h5, rfl, _⟩
        · exact (hf.tm t' u h5).plus _ _ _
        · have := hf.tm t' _ h5
          generalize a.tmps.getD t' undef = z at this
          cases this with
          | slice _ _ _ _ hin => exact Vrel.vslice (Z := Z.plus E (φ id).blk (φ id).off) "" E o l _ _ _ (.inr ⟨rfl, rfl, rfl⟩) (by omega)
        · have := hf.tm t' _ h5
          generalize a.tmps.getD t' undef = z at this
          cases this with
          | pointer _ _ hin => exact Vrel.vptr (Z := Z.plus E (φ id).blk (φ id).off) 0 "" E o 0 _ _ (.inr ⟨rfl, rfl, rfl⟩)
      · rw [hfr.2.2.1] at hp
        obtain ⟨h5, h6⟩ := hf.pt t' p hp
        rw [hfr.2.2.2]; exact ⟨h5, h6⟩
      · rw [hfr.2.2.2] at hd
        obtain ⟨h5, cs2, el2, h6, h7⟩ := hf.own d cs hd
        refine ⟨?_, cs2, el2, h6, by rw [hn2]; exact h7.plus _ _ _⟩
        show (if lam d = (φ id).blk then some Tag.mark else ω (lam d)) = _
        rw [if_neg]
        · exact h5
        · intro e1; rw [e1, htag] at h5; cases h5
      · obtain ⟨h5, h6⟩ := hf.marks r hr
        refine ⟨h5, ?_⟩
        show (if r = (φ id).blk then some Tag.mark else ω r) = _
        rw [if_neg]
        · exact h6
        · intro e1; rw [e1, htag] at h6; cases h6
    · rw [hn2]
      unfold RoundOk at *
      rw [hfr.2.1]; exact hro
  · have hE0 : E.size = 0 := by
      by_cases e : E.size = 0
      · exact e
      · exact (h0 (.inl e)).elim
    refine h Z φ ω lam rs a w ro Q ?_ ?_ ?_ (back ⟨Z, trivial⟩ ω (fun _ => False) (fun _ _ => rfl) (fun _ h => h.elim))
    · exact ⟨fun i o ho => by rw [hn2]; exact hs.dom i o (hs2 i o ho).2, by rw [hn2]; exact hs.bn, hs.bf, hs.vlow, fun i hi => hs.vnew i (by rw [← hn2]; exact hi), hs.bw, fun i o ho hvi => by rw [hn2]; exact hs.obj i o (hs2 i o ho).2 hvi, hs.low,
        fun i o ho hvi hbi hso => hs.tag i o (hs2 i o ho).2 hvi hbi hso, fun b u hu => by rw [hn2]; exact hs.tags b u hu, hs.glob, hs.zone, hs.nosame, hs.isreal⟩
    · refine ⟨by rw [hfr.1]; exact hf.size, fun t' u hu => ?_, fun t' p hp => by rw [hfr.2.2.1] at hp; rw [hfr.2.2.2]; exact hf.pt t' p hp, fun d cs hd => by rw [hfr.2.2.2] at hd; rw [hn2]; exact hf.own d cs hd, hf.defers, hf.nodup, hf.marks⟩
      rw [hn2]
      rcases htm t' u hu with h5 | ⟨o, l, cp, h5, rfl, hl, hcp⟩ | ⟨o, h5, rfl, hne⟩
      · exact hf.tm t' u h5
      · have hl0 : l = 0 := by omega
        subst hl0
        have := hf.tm t' _ h5
        generalize a.tmps.getD t' undef = z at this
        cases this with
        | slice _ _ _ _ hin => exact .vnil _ _ _ _ _ hs.isreal
      · exact (hne hE0).elim
    · rw [hn2]
      unfold RoundOk at *
      rw [hfr.2.1]; exact hro
end
end Go.Am

/- Code, step by step, from a state that is known whole to plain results. -/
namespace Go.Am
noncomputable section
variable {Z : Zone}

abbrev cz : Ctx := { floor := 0, own := [], hide := [] }

/-! ### The first one of some numbers -/
def findN (p : Nat → Bool) (n : Nat) : Option Nat := (List.range n).find? p
theorem findN_some {p : Nat → Bool} {n i : Nat} (hi : i < n) (hp : p i = true) (hno : ∀ j, j < i → p j = false) : findN p n = some i := by
  unfold findN
  rw [List.find?_eq_some_iff_getElem]
  exact ⟨hp, i, by simpa using hi, by simp, fun j hj => by simp [hno j hj]⟩
theorem findN_none {p : Nat → Bool} {n : Nat} (hno : ∀ j, j < n → p j = false) : findN p n = none := by
  unfold findN
  rw [List.find?_eq_none]
  intro x hx
  simp [hno x (by simpa using hx)]
theorem findN_get {p : Nat → Bool} {n i : Nat} (h : findN p n = some i) : i < n ∧ p i = true ∧ ∀ j, j < i → p j = false := by
  unfold findN at h
  rw [List.find?_eq_some_iff_getElem] at h
  obtain ⟨h1, k, hk, h2, h3⟩ := h
  simp at h2 hk
  subst h2
  exact ⟨hk, h1, fun j hj => by simpa using h3 j hj⟩
theorem findN_no {p : Nat → Bool} {n : Nat} (h : findN p n = none) : ∀ j, j < n → p j = false := by
  unfold findN at h
  rw [List.find?_eq_none] at h
  intro j hj
  simpa using h j (by simpa using hj)
def idxI (p : Nat → Bool) (n : Nat) : Int := match findN p n with | some i => i | none => -1
theorem wrap_nat {i : Nat} (h : (i : Int) + 1 ≤ 9223372036854775807) : IntKind.wrap .i64 ((i : Int) + 1) = ((i + 1 : Nat) : Int) := by
  simp [IntKind.wrap, IntKind.bits, IntKind.signed]
  split <;> omega

theorem of_tree {g : Cfg} {o : FuncId → Option HandT} (ho : ∀ f k hd, o f = some k → g.hand f = some hd → ∀ a c s, (k a c s).eval = hd a c s) {n lim : Nat} {sel : Ex → List Tmp × List Kept} {k : Code} {fr : Fr} {s : St} {y : Option (Ex × Fr × St)}
    (h : (codeT g (callT g o n) lim cz k fr s).evalW (gcObs 0 0 sel) = y) : gcObs 0 0 sel (code g (call g n) lim cz k fr s) = y := (gcObs_tree ho).symm.trans h

theorem tree_call {g : Cfg} {o : FuncId → Option HandT} (ho : ∀ f k hd, o f = some k → g.hand f = some hd → ∀ a c s, (k a c s).eval = hd a c s) {n : Nat} {f : FuncId} {args : Array Value} {x : Value × St}
    (h : (callT g o n (.func (.func f) #[] #[]) args cz st0).evalM seenOf = some x) : ∃ n v s', call g n (.func (.func f) #[] #[]) args (ctx0 0) st0 = some (.ret v, s') ∧ shed st0 s' v = some x := by
  have := DT.evalM_some _ _ h
  rw [callT_eval g o ho n] at this
  obtain ⟨v, s', h1, h2⟩ := of_seenOf this
  exact ⟨n, v, s', h1, h2⟩

theorem of_treeM {g : Cfg} {o : FuncId → Option HandT} (ho : ∀ f k hd, o f = some k → g.hand f = some hd → ∀ a c s, (k a c s).eval = hd a c s) {n lim : Nat} {sel : Ex → List Tmp × List Kept} {k : Code} {fr : Fr} {s : St} {y : Ex × Fr × St}
    (h : (codeT g (callT g o n) lim cz k fr s).evalM (gcObs 0 0 sel) = some y) : gcObs 0 0 sel (code g (call g n) lim cz k fr s) = some y := by
  have := DT.evalM_some _ _ h
  rw [codeT_eval g _ _ (callT_eval g o ho n)] at this
  exact this

section
variable {g : Cfg} {b n lim : Nat} {fr frj : Fr} {s sj : St} {sel : Ex → List Tmp × List Kept} {L : List (Tmp × Value)}

theorem Sn.plains {base : Base} {k0 fl : Nat} {c : Ctx} {fri : Fr} {si : St} (hS : Sn base k0 fl c fri si fr s) (hpl : plainL L) (hL : ∀ p ∈ L, fri.tm.get p.1 = some p.2) : ∀ p ∈ L, fr.tm.get p.1 = some p.2 :=
  fun p hp => hS.slot (hL p hp) (hpl p hp)

/-- Code that comes to its end. -/
theorem AWp.done (hg : ∀ B, Good g B) (hpl : plainL L) {k : Code} {ex : Ex} (hex : ex = .normal ∨ ex = .ret) (h : gcObs 0 0 sel (code g (call g n) lim cz k fr s) = some (ex, frj, sj)) (hp : plainJ sj (sel ex).2 0) (hL : ∀ p ∈ L, frj.tm.get p.1 = some p.2) : AWp g ⟨0, b⟩ cz k fr s (RetL L) :=
  AWp.first hg h hp (Nat.zero_le _) fun fr' s' hS _ => ⟨hex, hS.plains hpl hL⟩

theorem AWp.step (hg : ∀ B, Good g B) (hng : g.ng = 0) (hpl : plainL L) {k1 k2 : Code} (h : gcObs 0 0 sel (code g (call g n) lim cz k1 fr s) = some (.normal, frj, sj)) (hp : plainJ sj (sel .normal).2 0) (h2 : AWp g ⟨0, b⟩ cz k2 frj sj (RetL L)) : AWp g ⟨0, b⟩ cz (.seq k1 k2) fr s (RetL L) :=
  AWp.seq (AWp.first hg h hp (Nat.zero_le _) fun _ _ hS hG => ⟨hG, AWp.retSn hng hS hpl h2⟩)

theorem AWp.early (hg : ∀ B, Good g B) (hpl : plainL L) {k1 k2 : Code} (h : gcObs 0 0 sel (code g (call g n) lim cz k1 fr s) = some (.ret, frj, sj)) (hp : plainJ sj (sel .ret).2 0) (hL : ∀ p ∈ L, frj.tm.get p.1 = some p.2) : AWp g ⟨0, b⟩ cz (.seq k1 k2) fr s (RetL L) :=
  AWp.seq (AWp.first hg h hp (Nat.zero_le _) fun _ _ hS hG => ⟨hG, .inr rfl, hS.plains hpl hL⟩)

/-- Code in a row, ahead of the rest. -/
theorem AWp.nestRet (hg : ∀ B, Good g B) (hng : g.ng = 0) (hpl : plainL L) {ps : List Code} {rest : Code} (h : gcObs 0 0 sel (code g (call g n) lim cz (seqOf ps) fr s) = some (.normal, frj, sj)) (hp : plainJ sj (sel .normal).2 0) (h2 : AWp g ⟨0, b⟩ cz rest frj sj (RetL L)) : AWp g ⟨0, b⟩ cz (Go.Am.nest ps rest) fr s (RetL L) :=
  AWp.nestFirst hg h hp (Nat.zero_le _) fun _ _ hS => AWp.retSn hng hS hpl h2
theorem AWp.nestEarly (hg : ∀ B, Good g B) (hpl : plainL L) {ps : List Code} {rest : Code} (h : gcObs 0 0 sel (code g (call g n) lim cz (seqOf ps) fr s) = some (.ret, frj, sj)) (hp : plainJ sj (sel .ret).2 0) (hL : ∀ p ∈ L, frj.tm.get p.1 = some p.2) : AWp g ⟨0, b⟩ cz (Go.Am.nest ps rest) fr s (RetL L) :=
  AWp.nestFirst hg h hp (Nat.zero_le _) fun _ _ hS => ⟨.inr rfl, hS.plains hpl hL⟩

/-- What stands where a loop stops. -/
def stopOk (g : Cfg) (b : Nat) (bi : Nat) (rest : Code) (L : List (Tmp × Value)) : Ex × Fr × St → Prop
  | (.exit j, frj, sj) => j = bi ∧ ∀ Z' : Zone, @AWp Z' g ⟨0, b⟩ cz rest frj sj (RetL L)
  | (.ret, frj, _) => ∀ p ∈ L, frj.tm.get p.1 = some p.2
  | _ => False

/-- A loop that counts, laid, run, and what is behind it. -/
theorem AWp.forStmt (hg : ∀ B, Good g B) (hng : g.ng = 0) (hpl : plainL L) {init k rest : Code} {bi n2 lim2 : Nat} {sel2 : Ex → List Tmp × List Kept} {head : Nat → Fr} {sh : Nat → St} {N : Nat} {stop : Nat → Option (Ex × Fr × St)}
    (h0 : gcObs 0 0 sel (code g (call g n) lim cz init fr s) = some (.normal, head 0, sh 0)) (hp0 : plainJ (sh 0) (sel .normal).2 0)
    (hround : ∀ i, i ≤ N → (∀ j, j < i → stop j = none) → gcObs 0 0 sel2 (code g (call g n2) lim2 cz k (head i) (sh i)) = some (match stop i with | some r => r | none => (.normal, head (i + 1), sh (i + 1))))
    (hp : ∀ i, i ≤ N → plainJ (match stop i with | some r => r.2.2 | none => sh (i + 1)) (sel2 (match stop i with | some r => r.1 | none => .normal)).2 0)
    (hlast : ∃ i, i ≤ N ∧ stop i ≠ none) (hstop : ∀ i r, i ≤ N → (∀ j, j < i → stop j = none) → stop i = some r → stopOk g b bi rest L r) :
    AWp g ⟨0, b⟩ cz (.seq (.seq init (.block bi (.loop k))) rest) fr s (RetL L) := by
  have hne : ∀ i r, stop i = some r → i ≤ N → (∀ j, j < i → stop j = none) → r.1 ≠ .normal := fun i r h1 h2 h3 e => by
    have := hstop i r h2 h3 h1
    obtain ⟨ex, x⟩ := r
    simp only at e
    subst e
    exact this.elim
  refine AWp.seq (AWp.seq (AWp.first hg h0 hp0 (Nat.zero_le _) fun fr1 s1 hS1 hG1 => ⟨hG1, ?_⟩))
  refine AWp.block ?_
  obtain ⟨m, hm, hsm⟩ := hlast
  refine AWp.loop (I := fun (p : Nat) fr' s' => (p ≤ m ∧ ∀ j, j < p → stop j = none) ∧ Sn ⟨0, b⟩ 0 0 cz (head p) (sh p) fr' s' ∧ Grow cz s s') (fun p => m - p) (fun p fr' s' hI => ?_) 0 fr1 s1 ⟨⟨Nat.zero_le _, fun j hj => by omega⟩, hS1, hG1⟩
  obtain ⟨⟨hpm, hno⟩, hS, hG⟩ := hI
  have hr := hround p (by omega) hno
  have hpj := hp p (by omega)
  cases hst : stop p with
  | none =>
    rw [hst] at hr hpj
    simp only at hr hpj
    refine AWp.seen hg hng hS (Nat.zero_le _) hr hpj fun fr2 s2 hS2 hG2 => ⟨hG2, p + 1, ?_, ⟨?_, fun j hj => ?_⟩, hS2, hG.trans hG2⟩
    · have : p ≠ m := fun e => hsm (by rw [← e]; exact hst)
      omega
    · have : p ≠ m := fun e => hsm (by rw [← e]; exact hst)
      omega
    · by_cases e : j = p
      · subst e; exact hst
      · exact hno j (by omega)
  | some r =>
    rw [hst] at hr hpj
    simp only at hr hpj
    refine AWp.seen hg hng hS (Nat.zero_le _) hr hpj fun fr2 s2 hS2 hG2 => ⟨hG2, ?_⟩
    have hfin := hstop p r (by omega) hno hst
    obtain ⟨ex, frj, sj⟩ := r
    cases ex with
    | normal => exact hfin.elim
    | exit j =>
      obtain ⟨rfl, hrest⟩ := hfin
      simp only [if_true]
      exact ⟨hG.trans hG2, AWp.retSn hng hS2 hpl (hrest Z)⟩
    | ret => exact ⟨hG.trans hG2, .inr rfl, hS2.plains hpl hfin⟩
    | pan v => exact hfin.elim

/-- A loop that looks for the first one of some. -/
theorem AWp.search (hg : ∀ B, Good g B) (hng : g.ng = 0) {N : Nat} {p : Nat → Bool} {res : Option Nat → List (Tmp × Value)} (hpl : ∀ x, plainL (res x)) {init k rest : Code} {bi n2 lim2 : Nat} {sel2 : Ex → List Tmp × List Kept} {head : Nat → Fr} {sh : Nat → St} {found : Nat → Fr × St} {fe : Fr} {se : St}
    (h0 : gcObs 0 0 sel (code g (call g n) lim cz init fr s) = some (.normal, head 0, sh 0))
    (hr : ∀ i, i < N → gcObs 0 0 sel2 (code g (call g n2) lim2 cz k (head i) (sh i)) = bif p i then some (.ret, (found i).1, (found i).2) else some (.normal, head (i + 1), sh (i + 1)))
    (he : gcObs 0 0 sel2 (code g (call g n2) lim2 cz k (head N) (sh N)) = some (.exit bi, fe, se))
    (hp0 : plainJ (sh 0) (sel .normal).2 0) (hpn : ∀ i, plainJ (sh i) (sel2 .normal).2 0) (hpr : ∀ i, plainJ (found i).2 (sel2 .ret).2 0) (hpe : plainJ se (sel2 (.exit bi)).2 0)
    (hf : ∀ i, i < N → ∀ q ∈ res (some i), (found i).1.tm.get q.1 = some q.2) (hrest : ∀ Z' : Zone, @AWp Z' g ⟨0, b⟩ cz rest fe se (RetL (res none))) :
    AWp g ⟨0, b⟩ cz (.seq (.seq init (.block bi (.loop k))) rest) fr s (RetL (res (findN p N))) := by
  refine AWp.forStmt (N := N) (n2 := n2) (lim2 := lim2) (head := head) (sh := sh) (sel2 := sel2) (stop := fun i => if i < N then (if p i then some (.ret, (found i).1, (found i).2) else none) else some (.exit bi, fe, se)) hg hng (hpl _) h0 hp0 (fun i hi _ => ?_) (fun i hi => ?_) ⟨N, Nat.le_refl _, by simp⟩ (fun i r hi hno hr' => ?_)
  · by_cases hlt : i < N
    · rw [hr i hlt]
      cases p i <;> simp [hlt]
    · have e : i = N := by omega
      subst e
      rw [he]; simp
  · split
    · rename_i r hr'
      split at hr'
      · split at hr'
        · cases hr'; exact hpr i
        · cases hr'
      · cases hr'; exact hpe
    · exact hpn _
  · have hno' : ∀ j, j < i → j < N → p j = false := fun j hj hjn => by
      have := hno j hj
      simp only [hjn, if_true] at this
      cases hq : p j with
      | false => rfl
      | true => rw [hq] at this; simp at this
    split at hr'
    · rename_i hlt
      split at hr'
      · rename_i hq
        cases hr'
        intro q hq'
        rw [findN_some hlt hq fun j hj => hno' j hj (by omega)] at hq'
        exact hf i hlt q hq'
      · cases hr'
    · rename_i hge
      cases hr'
      refine ⟨rfl, fun Z' => ?_⟩
      rw [findN_none fun j hj => hno' j (by omega) hj]
      exact hrest Z'

theorem resultsV_one {c : Ctx} {fr : Fr} {s : St} {t : Tmp} {v : Value} (h : fr.tm.get t = some v) (hp : plainN 9 v = true) : resultsV g c fr s [.tmp t] = some v := by
  have hl : local? v = false := (plain_rel (Z := idZone) (fun _ => ⟨0, 0, 0⟩) cz 0 9 v hp).glob
  simp only [resultsV, resultsL, resultOf, h, Option.bind_eq_bind, Option.bind_some, hl]
  rfl
theorem resultsV_two {c : Ctx} {fr : Fr} {s : St} {t u : Tmp} {v w : Value} (h : fr.tm.get t = some v) (hp : plainN 9 v = true) (h' : fr.tm.get u = some w) (hp' : plainN 9 w = true) : resultsV g c fr s [.tmp t, .tmp u] = some (.tuple #[v, w]) := by
  have hl : local? v = false := (plain_rel (Z := idZone) (fun _ => ⟨0, 0, 0⟩) cz 0 9 v hp).glob
  have hl' : local? w = false := (plain_rel (Z := idZone) (fun _ => ⟨0, 0, 0⟩) cz 0 9 w hp').glob
  simp only [resultsV, resultsL, resultOf, h, h', Option.bind_eq_bind, Option.bind_some, hl, hl']
  rfl

theorem shed_plain {s0 s' : St} {v : Value} (h : plainN 9 v = true) : shed s0 s' v = some (v, s0) := by
  unfold shed
  split
  · simp [plainN] at h
  · have : freeN 9 v = true := by
      have key : ∀ (d : Nat) (v : Value), plainN d v = true → freeN d v = true := by
        intro d
        induction d with
        | zero => intro v h; simp [plainN] at h
        | succ d ih =>
          intro v h
          have aux : ∀ cs : Array Value, cs.all (plainN d) = true → cs.all (freeN d) = true := fun cs hc => by
            rw [Array.all_eq_true] at *
            exact fun i hi => ih _ (hc i hi)
          unfold plainN at h
          unfold freeN
          split at h
          any_goals rfl
          · exact ih _ h
          · exact aux _ h
          · exact aux _ h
          · rename_i fn a b
            simp only [Bool.and_eq_true] at h
            obtain ⟨⟨h1, h2⟩, h3⟩ := h
            cases fn with
            | func f => simp only [Bool.and_eq_true]; exact ⟨aux _ h2, aux _ h3⟩
            | _ => simp [plainFn] at h1
          · cases h
      exact key 9 v h
    rw [if_pos this]

/-- A told function of one plain result. -/
theorem tells_one (hg : ∀ B, Good g B) (hng : g.ng = 0) {f : FuncId} {i : FnI} (hi : g.fns f = some i) {t : Tmp} (hr : i.results = [.tmp t]) {F : Array Value → Option (Value × St)}
    (h : ∀ args x, F args = some x → args.all (freeN 9) = true ∧ args.size ≤ i.nt ∧ ∃ v, x = (v, st0) ∧ plainN 9 v = true ∧ ∀ b, AWp g ⟨0, b⟩ cz i.body (frame0 f i.nt args) st0 (RetL [(t, v)])) : Tells g f F := by
  refine tells_of hg hng hi fun args x hF => ?_
  obtain ⟨h1, h2, v, rfl, h3, h4⟩ := h args x hF
  refine ⟨h1, h2, fun b => (h4 b).mono fun ex fr' s' ⟨hex, hL⟩ => ⟨hex, v, ?_, shed_plain h3⟩⟩
  rw [hr]
  exact resultsV_one (hL (t, v) (by simp)) h3
theorem tells_two (hg : ∀ B, Good g B) (hng : g.ng = 0) {f : FuncId} {i : FnI} (hi : g.fns f = some i) {t u : Tmp} (hr : i.results = [.tmp t, .tmp u]) {F : Array Value → Option (Value × St)}
    (h : ∀ args x, F args = some x → args.all (freeN 9) = true ∧ args.size ≤ i.nt ∧ ∃ v w, x = (.tuple #[v, w], st0) ∧ plainN 8 v = true ∧ plainN 8 w = true ∧ plainN 9 v = true ∧ plainN 9 w = true ∧ ∀ b, AWp g ⟨0, b⟩ cz i.body (frame0 f i.nt args) st0 (RetL [(t, v), (u, w)])) : Tells g f F := by
  refine tells_of hg hng hi fun args x hF => ?_
  obtain ⟨h1, h2, v, w, rfl, h3, h3', h5, h5', h4⟩ := h args x hF
  refine ⟨h1, h2, fun b => (h4 b).mono fun ex fr' s' ⟨hex, hL⟩ => ⟨hex, .tuple #[v, w], ?_, shed_plain (by unfold plainN; simp only [Array.all_eq_true]; intro i hi; match i, hi with | 0, _ => exact h3 | 1, _ => exact h3')⟩⟩
  rw [hr]
  exact resultsV_two (hL (t, v) (by simp)) h5 (hL (u, w) (by simp)) h5'
end
end
end Go.Am

/- States that are seen with some objects where they are; loops over functions, seen. -/
namespace Go.Am
noncomputable section
variable {Z : Zone}

section
variable {g : Cfg} {base : Base} {c : Ctx} {fr : Fr} {s : St}

/-- The first m objects are seen under their own numbers. -/
def SnP (m : Nat) (base : Base) (k0 fl : Nat) (c : Ctx) (fri : Fr) (si : St) (fr : Fr) (s : St) : Prop := ∃ e, (∀ i, i < m → e i = i) ∧ View base k0 c s { floor := fl, own := [], hide := [] } si e ∧ FView e si.next fr fri
theorem SnP.sn {m k0 fl : Nat} {fri : Fr} {si : St} (h : SnP m base k0 fl c fri si fr s) : Sn base k0 fl c fri si fr s := by
  obtain ⟨e, _, V, F⟩ := h
  exact ⟨e, V, F⟩

/-- Are the first m objects kept in their places? -/
def pinned (m : Nat) (ks : List Kept) : Prop := m ≤ ks.length ∧ ∀ j, j < m → (ks.map Kept.id)[j]? = some j

theorem gc_view' {k0 fl : Nat} {ts : List Tmp} {ks : List Kept} {fr' : Fr} {s' : St} {frj : Fr} {sj : St} (h : gc k0 fl ts ks fr' s' = some (frj, sj)) (hp : plainJ sj ks 0) (hfl : fl ≤ s'.next) {b : Nat} :
    View ⟨k0, b⟩ k0 { floor := fl, own := [], hide := [] } s' { floor := fl, own := [], hide := [] } sj (fun j => (ks.map Kept.id).getD j 0) ∧ FView (fun j => (ks.map Kept.id).getD j 0) sj.next fr' frj := by
  have hap : allPlain s' ks := by
    have h' := h
    unfold gc at h'
    split at h'
    · rename_i tm hh pl h1 h2 h3 h4 h5 h6
      cases h'
      refine plainJ_all (L := ks.map Kept.id) (acc := .nil) (fun i k hk => ?_) hp
      obtain ⟨o, a, b⟩ := (gcH_get h4).2 i k hk
      exact ⟨o, a, b⟩
    · cases h'
  exact gc_ok h hap hfl

theorem AWp.seenP (hg : ∀ B, Good g B) (hng : g.ng = 0) {m k0 fl n lim : Nat} {fri : Fr} {si : St} (hS : SnP m base k0 fl c fri si fr s) (hm : m ≤ si.next) (hfi : fl ≤ si.next) {k : Code} {sel : Ex → List Tmp × List Kept} {ex : Ex} {frj : Fr} {sj : St}
    (h : gcObs k0 fl sel (code g (call g n) lim { floor := fl, own := [], hide := [] } k fri si) = some (ex, frj, sj)) (hp : plainJ sj (sel ex).2 0) (hpin : pinned m (sel ex).2)
    {R : Ex → Fr → St → Prop} (hR : ∀ fr' s', SnP m base k0 fl c frj sj fr' s' → Grow c s s' → R ex fr' s') : AWp g base c k fr s R := by
  obtain ⟨fr1, s1, h1, h2, h3⟩ := gcObs_some h
  obtain ⟨e, hid, V, F⟩ := hS
  have hgr : Grow { floor := fl, own := [], hide := [] } si s1 := code_grow (call_grow (hg base).hgrow n) _ _ _ _ h1
  obtain ⟨V2, F2⟩ := gc_view' h3 hp (Nat.le_trans hfi hgr.next) (b := 0)
  refine AWp.view hg hng V F h1 h2 fun fr' s' e' hext V' F' hG => hR fr' s' ⟨_, fun i hi => ?_, V'.comp V2, F'.comp F2⟩ hG
  have := hpin.2 i hi
  simp only [List.getD_eq_getElem?_getD, this, Option.getD_some]
  rw [hext i (by omega), hid i hi]

/-- What is kept of a state, pinned. -/
theorem SnP.first {m k0 fl b : Nat} {ts : List Tmp} {ks : List Kept} {fr' : Fr} {s' : St} {frj : Fr} {sj : St} (h : gc k0 fl ts ks fr' s' = some (frj, sj)) (hp : plainJ sj ks 0) (hfl : fl ≤ s'.next) (hpin : pinned m ks) : SnP m ⟨k0, b⟩ k0 fl { floor := fl, own := [], hide := [] } frj sj fr' s' := by
  obtain ⟨V2, F2⟩ := gc_view' h hp hfl (b := b)
  refine ⟨_, fun i hi => ?_, V2, F2⟩
  have := hpin.2 i hi
  simp only [List.getD_eq_getElem?_getD, this, Option.getD_some]

theorem AWp.firstP (hg : ∀ B, Good g B) {m k0 fl b n lim : Nat} {k : Code} {sel : Ex → List Tmp × List Kept} {ex : Ex} {frj : Fr} {sj : St} (h : gcObs k0 fl sel (code g (call g n) lim { floor := fl, own := [], hide := [] } k fr s) = some (ex, frj, sj)) (hp : plainJ sj (sel ex).2 0)
    (hpin : pinned m (sel ex).2) (hfl : fl ≤ s.next) {R : Ex → Fr → St → Prop} (hR : ∀ fr' s', SnP m ⟨k0, b⟩ k0 fl { floor := fl, own := [], hide := [] } frj sj fr' s' → Grow { floor := fl, own := [], hide := [] } s s' → R ex fr' s') : AWp g ⟨k0, b⟩ { floor := fl, own := [], hide := [] } k fr s R := by
  obtain ⟨fr', s', h1, h2, h3⟩ := gcObs_some h
  have hgr : Grow { floor := fl, own := [], hide := [] } s s' := code_grow (call_grow (hg ⟨k0, b⟩).hgrow n) _ _ _ _ h1
  exact AWp.eval hg h1 (hR _ _ (SnP.first h3 hp (Nat.le_trans hfl hgr.next) hpin) hgr)

theorem AWp.nestP (hg : ∀ B, Good g B) {m k0 fl b n lim : Nat} {ps : List Code} {rest : Code} {sel : Ex → List Tmp × List Kept} {frj : Fr} {sj : St} (h : gcObs k0 fl sel (code g (call g n) lim { floor := fl, own := [], hide := [] } (seqOf ps) fr s) = some (.normal, frj, sj)) (hp : plainJ sj (sel .normal).2 0)
    (hpin : pinned m (sel .normal).2) (hfl : fl ≤ s.next) {R : Ex → Fr → St → Prop} (hR : ∀ fr' s', SnP m ⟨k0, b⟩ k0 fl { floor := fl, own := [], hide := [] } frj sj fr' s' → Grow { floor := fl, own := [], hide := [] } s s' → AWp g ⟨k0, b⟩ { floor := fl, own := [], hide := [] } rest fr' s' R) :
    AWp g ⟨k0, b⟩ { floor := fl, own := [], hide := [] } (Go.Am.nest ps rest) fr s R := by
  obtain ⟨fr', s', h1, h2, h3⟩ := gcObs_some h
  have hgr : Grow { floor := fl, own := [], hide := [] } s s' := code_grow (call_grow (hg ⟨k0, b⟩).hgrow n) _ _ _ _ h1
  exact AWp.nest hg ps fr s h1 fun hG => hR fr' s' (SnP.first h3 hp (Nat.le_trans hfl hgr.next) hpin) hG

/-- Values that are seen hold numbers below the state's next one. -/
theorem VRen.self {e e' : Nat → Nat} {m m' : Nat} (hm : m ≤ m') (he : ∀ i, i < m → e' i = i) {v v' : Value} (h : VRen e m v v') : VRen e' m' v v := by
  have hin : ∀ i, In cAll m i → In cAll m' i := fun i h => ⟨Nat.lt_of_lt_of_le h.1 hm, rfl⟩
  have arr : ∀ {a : Array Value}, (∀ (i : Nat) (x x' : Value), a[i]? = some x → a[i]? = some x' → x = x' → VRen e' m' x x) → ∀ (i : Nat) (x x' : Value), a[i]? = some x → a[i]? = some x' → VRen e' m' x x' := fun h i x x' hx hx' => by
    rw [hx] at hx'; cases hx'
    exact h i x x hx hx rfl
  have arr2 : ∀ {a a' : Array Value}, a.size = a'.size → (∀ (i : Nat) (x x' : Value), a[i]? = some x → a'[i]? = some x' → VRen e' m' x x) → ∀ (i : Nat) (x x' : Value), a[i]? = some x → a[i]? = some x' → VRen e' m' x x' := fun hs h => arr fun i x x' hx _ _ => by
    obtain ⟨hlt, _⟩ := Array.getElem?_eq_some_iff.1 hx
    exact h i x _ hx (Array.getElem?_eq_getElem (by omega))
  induction h with
  | bool b => exact Vrel.bool (Z := idZone) b
  | int k i => exact Vrel.int (Z := idZone) k i
  | float k i => exact Vrel.float (Z := idZone) k i
  | string s => exact Vrel.string (Z := idZone) s
  | nilPointer => exact Vrel.nilPointer (Z := idZone)
  | pointer id o h =>
    have := Vrel.pointer (Z := idZone) (φ := emb e') (c := cAll) (n := m') id o (hin _ h)
    simpa [emb, he id h.1] using this
  | nilSlice l cp => exact Vrel.nilSlice (Z := idZone) l cp
  | slice id o l cp h =>
    have := Vrel.slice (Z := idZone) (φ := emb e') (c := cAll) (n := m') id o l cp (hin _ h)
    simpa [emb, he id h.1] using this
  | nilMap => exact Vrel.nilMap (Z := idZone)
  | map id h =>
    have := Vrel.map (Z := idZone) (φ := emb e') (c := cAll) (n := m') id (hin _ h)
    simpa [emb, he id h.1] using this
  | func f a b a' b' ha hb _ _ iA iB => exact Vrel.func (Z := idZone) f a b a b rfl rfl (arr2 ha iA) (arr2 hb iB)
  | yield id h =>
    have := Vrel.yield (Z := idZone) (φ := emb e') (c := cAll) (n := m') id (hin _ h)
    simpa [emb, he id h.1] using this
  | nilFunc => exact Vrel.nilFunc (Z := idZone)
  | iface t v v' _ ih => exact Vrel.iface (Z := idZone) t v v ih
  | nilIface => exact Vrel.nilIface (Z := idZone)
  | agg a a' ha _ iA => exact Vrel.agg (Z := idZone) a a rfl (arr2 ha iA)
  | tuple a a' ha _ iA => exact Vrel.tuple (Z := idZone) a a rfl (arr2 ha iA)
  | vslice _ _ _ _ _ _ _ h => exact (show False from h).elim
  | vnil _ _ _ _ _ h => exact (show False from h).elim
  | vptr _ _ _ _ _ _ _ h => exact (show False from h).elim
  | vsame nm X o l h => exact Vrel.vsame (Z := idZone) nm X o l trivial
  | psame t nm X o l h => exact Vrel.psame (Z := idZone) t nm X o l trivial

/-- A loop over a function, in a state that is seen. -/
theorem AWp.rangeSn (hg : ∀ B, Good g B) (hng : g.ng = 0) {fri : Fr} {si : St} (hS : Sn base 0 0 c fri si fr s) (hrd : fri.round = none) {f : Operand} {ps : Array Tmp} {as body : Code} {F : FuncId} {x0 y0 : Array Value} {i : FnI} (hev : fri.gev g f = some (.func (.func F) x0 y0)) (hi : g.fns F = some i)
    (hle : (x0 ++ #[Value.func (.yield si.next) #[] #[]] ++ y0).size ≤ i.nt) {Q : Ex → St → Prop} {R : Ex → Fr → St → Prop}
    (h : AWp g ⟨0, base.blk⟩ cz i.body (frame0 F i.nt (x0 ++ #[Value.func (.yield si.next) #[] #[]] ++ y0)) (si.new (.loop { fn := fri.fn, nt := fri.nt, tm := fri.tm, params := ps, assign := as, body, state := .ready, pending := none }))
      fun ex fr1 s1 => Grow cz si s1 ∧ (ex = .normal ∨ ex = .ret) ∧ (∃ v, resultsV g cz fr1 s1 i.results = some v) ∧ ∃ frX sX lX ee, SnP (si.next + 1) ⟨0, base.blk⟩ 0 0 cz frX sX fr1 s1 ∧ sX.heap.get si.next = some (.loop lX) ∧ exitOf lX.pending = some ee ∧ (lX.state != .busy) = true ∧ Q ee { sX with heap := sX.heap.set si.next none })
    (hR : ∀ ex sY fr' s', Q ex sY → Sn base 0 0 c fri sY fr' s' → Grow c s s' → R ex fr' s') : AWp g base c (.rangeFunc f ps as body) fr s R := by
  have hS' := hS
  refine AWp.liftSn hng hS ?_
  obtain ⟨e0, V0, F0⟩ := hS'
  refine AWp.rangeFunc (hg _) hev hi (by unfold roundSeen; rw [hrd]) hle ?_
  refine h.mono fun ex fr1 s1 ⟨hG, hex, hres, frX, sX, lX, ee, ⟨e, hid, V, F⟩, hlX, hexit, hnb, hQ⟩ => ⟨hG, hex, hres, ?_⟩
  obtain ⟨hlt, o', ho', hob⟩ := V.obj _ _ hlX
  rw [hid _ (Nat.lt_succ_self _)] at ho'
  cases o' with
  | cells => exact hob.elim
  | map => exact hob.elim
  | loop l =>
    obtain ⟨_, _, _, _, b5, b6, _⟩ := hob
    refine ⟨l, ee, ho', by rw [← b6]; exact hexit, by rw [← b5]; exact hnb, ?_, ?_, fun fr' s' hS2 hG2 => ?_⟩
    · refine ⟨hG.next, fun j hj hn => ?_, fun j hj1 hj2 => ?_, fun j hj1 hj2 => ?_, fun hd j o ho => ?_⟩
      · simp only; rw [Tr.get_set]
        split
        · rfl
        · exact hG.gone j hj hn
      · simp only; rw [Tr.get_set, if_neg (by omega)]; exact hG.low j hj1 hj2
      · simp only; rw [Tr.get_set, if_neg (by omega)]; exact hG.hid j hj1 hj2
      · simp only at ho ⊢
        rw [Tr.get_set] at ho
        split at ho
        · cases ho
        · exact hG.dom hd j o ho
    · rintro v rfl
      unfold exitOf at hexit
      split at hexit <;> cases hexit
    · refine hR ee { sX with heap := sX.heap.set si.next none } fr' s' hQ ?_ hG2
      obtain ⟨e2, V2, F2⟩ := hS2
      have hsx : si.next < sX.next := hlt
      have V3 : View ⟨0, base.blk⟩ 0 cz { s1 with heap := s1.heap.set si.next none } cz { sX with heap := sX.heap.set si.next none } e := by
        refine ⟨rfl, V.floor, fun j hj => V.lt j hj, V.inj, fun j o ho => ?_, V.wr, V.old, V.k0⟩
        simp only at ho
        rw [Tr.get_set] at ho
        split at ho
        · cases ho
        · rename_i hne
          obtain ⟨hj, o2, h1, h2⟩ := V.obj j o ho
          refine ⟨hj, o2, ?_, h2⟩
          simp only
          rw [Tr.get_set, if_neg]
          · exact h1
          · intro e1
            exact hne (V.inj j si.next hj hsx (by rw [e1, hid _ (Nat.lt_succ_self _)]))
      have F3 : FView e sX.next fri fri := by
        refine ⟨rfl, rfl, fun t v hv => ?_, fun t p hp => ⟨hp, (F0.pt t p hp).2⟩, fun d cs hd => ?_, ?_⟩
        · obtain ⟨v', _, h2⟩ := F0.tm t v hv
          exact ⟨v, hv, h2.self (Nat.le_of_lt hsx) fun j hj => hid j (by omega)⟩
        · obtain ⟨cs', _, h2, h3⟩ := F0.loc d cs hd
          refine ⟨cs, hd, rfl, fun k x x' hx hx' => ?_⟩
          rw [hx] at hx'; cases hx'
          obtain ⟨hk, _⟩ := Array.getElem?_eq_some_iff.1 hx
          exact (h3 k x _ hx (Array.getElem?_eq_getElem (by omega))).self (Nat.le_of_lt hsx) fun j hj => hid j (by omega)
        · rw [hrd]
      exact ⟨_, V2.comp V3, F2.comp F3⟩

/-- A loop that counts, the first m objects where they are. -/
theorem AWp.countP (hg : ∀ B, Good g B) (hng : g.ng = 0) {m k0 fl n lim : Nat} {k : Code} {sel : Ex → List Tmp × List Kept} {head : Nat → Fr} {sh : Nat → St} {N : Nat} {stop : Nat → Option (Ex × Fr × St)} {R : Ex → Fr → St → Prop} {s0 : St}
    (hfl : ∀ i, fl ≤ (sh i).next) (hm : ∀ i, m ≤ (sh i).next)
    (hround : ∀ i, i ≤ N → (∀ j, j < i → stop j = none) → gcObs k0 fl sel (code g (call g n) lim { floor := fl, own := [], hide := [] } k (head i) (sh i)) = some (match stop i with | some r => r | none => (.normal, head (i + 1), sh (i + 1))))
    (hp : ∀ i, i ≤ N → plainJ (match stop i with | some r => r.2.2 | none => sh (i + 1)) (sel (match stop i with | some r => r.1 | none => .normal)).2 0)
    (hpin : ∀ ex, pinned m (sel ex).2)
    (hlast : ∃ i, i ≤ N ∧ stop i ≠ none) (hstop : ∀ i r, stop i = some r → r.1 ≠ .normal)
    (hR : ∀ i r, i ≤ N → (∀ j, j < i → stop j = none) → stop i = some r → ∀ fr' s', SnP m base k0 fl c r.2.1 r.2.2 fr' s' → Grow c s0 s' → R r.1 fr' s') :
    SnP m base k0 fl c (head 0) (sh 0) fr s → Grow c s0 s → AWp g base c (.loop k) fr s R := by
  intro hS hG
  obtain ⟨l, hl, hsl⟩ := hlast
  refine AWp.loop (I := fun (p : Nat) fr s => (p ≤ l ∧ ∀ j, j < p → stop j = none) ∧ SnP m base k0 fl c (head p) (sh p) fr s ∧ Grow c s0 s) (fun p => l - p) (fun p fr s hI => ?_) 0 fr s ⟨⟨Nat.zero_le _, fun j hj => by omega⟩, hS, hG⟩
  obtain ⟨⟨hpm, hno⟩, hS, hG⟩ := hI
  have hr := hround p (by omega) hno
  have hpj := hp p (by omega)
  cases hst : stop p with
  | none =>
    rw [hst] at hr hpj
    simp only at hr hpj
    have hne : p ≠ l := fun e => hsl (by rw [← e]; exact hst)
    refine AWp.seenP hg hng hS (hm p) (hfl p) hr hpj (hpin _) fun fr' s' hS' hG' => ⟨hG', p + 1, by omega, ⟨by omega, fun j hj => ?_⟩, hS', hG.trans hG'⟩
    by_cases e : j = p
    · subst e; exact hst
    · exact hno j (by omega)
  | some r =>
    rw [hst] at hr hpj
    simp only at hr hpj
    refine AWp.seenP hg hng hS (hm p) (hfl p) hr hpj (hpin _) fun fr' s' hS' hG' => ⟨hG', ?_⟩
    have hne := hstop p r hst
    have hfin := hR p r (by omega) hno hst fr' s' hS' (hG.trans hG')
    obtain ⟨ex, frj, sj⟩ := r
    cases ex with
    | normal => exact (hne rfl).elim
    | _ => exact hfin

/-! ### A call's result, seen -/
theorem AWp.callsSn {φ : Nat → Pl} {ω : Nat → Option Tag} {w : World} (hg : Good g base) (hng : g.ng = 0) {f : FuncId} {i : FnI} (hi : g.fns f = some i) {args args' : Array Value} (hle : args.size ≤ i.nt) {fl : Nat} {v : Value} (hfree : freeN 9 v = true)
    (h : AWp g base c i.body (frame0 f i.nt args) s fun ex fr' s' => (ex = .normal ∨ ex = .ret) ∧ ∃ frj sj, Sn base 0 fl c frj sj fr' s' ∧ resultsV g { floor := fl, own := [], hide := [] } frj sj i.results = some v) (hs : SRel g base φ ω c s w) (ha : Arel φ c s.next args args') :
    CallsIn (FF none) 0 g.P f args' w fun e w' => ∃ s', CallR g base c φ ω s s' w (.ret v) e w' := by
  obtain ⟨F, hF, hb, hn, hR, hname⟩ := hg.fns f i hi
  refine callsIn_of_wp_marks hF hb trivial ?_ rfl
  have hf : FRel φ c s.next (fun _ => 0) ω (frame0 f i.nt args) [] { tmps := args' ++ Array.replicate (F.ntmps - args'.size) undef, defers := [] } w := by
    unfold frame0
    refine ⟨?_, fun t v hv => ?_, fun t p hp => by simp [Tr.get_nil] at hp, fun d cs hd => by simp [Tr.get_nil] at hd, rfl, List.nodup_nil, fun r hr => by cases hr⟩
    · simp only [Array.size_append, Array.size_replicate]
      rw [hn, ← ha.1]; omega
    · rcases get_args0 _ _ _ _ _ hv with ⟨_, h2⟩ | h2
      · simp only [Nat.sub_zero, Array.getElem?_toList] at h2
        obtain ⟨x', hx', hr⟩ := ha.get h2
        obtain ⟨hlt, e⟩ := Array.getElem?_eq_some_iff.1 hx'
        rw [Array.getD_eq_getD_getElem?, Array.getElem?_append_left hlt, hx']; exact hr
      · simp [Tr.get_nil] at h2
  have hloc : ∀ d, (frame0 f i.nt args).loc.get d = none := fun d => Tr.get_nil d
  refine h φ ω _ [] _ w none _ hs hf rfl ?_
  intro ex fr1 s1 ⟨hex, frj, sj, ⟨e0, V, FV⟩, hv⟩
  intro φ' ω' lam' rs' a' w' e hp he
  have fin : LeavesInM (FF none) 0 g.P F a'.tmps (fun e w' => ∃ s', CallR g base c φ ω s s' w (.ret v) e w') a'.defers .returning w' := by
    rw [hp.frel.defers]
    refine leaves_marks (by simp) rs' w' hp.frel.nodup (fun r hr => (hp.frel.marks r hr).1) fun w'' hw => ?_
    have hs'' := hp.srel.shut (fun r hr => (hp.frel.marks r hr).2) (fun r hr => (hp.frel.marks r hr).1) hw
    have hf'' : FRel φ' c s1.next lam' ω' fr1 [] { a' with defers := [] } w'' := by
      refine ⟨hp.frel.size, hp.frel.tm, hp.frel.pt, fun d cs hd => ?_, rfl, List.nodup_nil, fun r hr => by cases hr⟩
      obtain ⟨ht, cs', el, hb, hA⟩ := hp.frel.own d cs hd
      refine ⟨ht, cs', el, ?_, hA⟩
      rw [hw.same _ fun hr => by have := (hp.frel.marks _ hr).2; rw [ht] at this; cases this]; exact hb
    rw [← hR] at hv
    obtain ⟨v', h1, h2⟩ := resultsV_run (V.open_ hng hs'') (FV.open_ V.hide hf'') hv
    exact ⟨v', h1, s1, callR_of hp hloc hw (.ret v v' (free_move 9 _ _ hfree h2))⟩
  cases he with
  | normal => exact fin
  | ret => exact fin
  | exit j => rcases hex with e | e <;> cases e
  | pan v v' hv => rcases hex with e | e <;> cases e


theorem freeN_shed {s0 s' : St} {v : Value} (h : freeN 9 v = true) : shed s0 s' v = some (v, s0) := by
  unfold shed
  split
  · simp [freeN] at h
  · rw [if_pos h]

/-- A told function whose result is seen. -/
theorem tells_seen (hg : ∀ B, Good g B) (hng : g.ng = 0) {f : FuncId} {i : FnI} (hi : g.fns f = some i) {F : Array Value → Option (Value × St)}
    (h : ∀ args x, F args = some x → args.all (freeN 9) = true ∧ args.size ≤ i.nt ∧ ∃ v, x = (v, st0) ∧ freeN 9 v = true ∧ ∀ b, AWp g ⟨0, b⟩ cz i.body (frame0 f i.nt args) st0 fun ex fr' s' => (ex = .normal ∨ ex = .ret) ∧ ∃ frj sj, Sn ⟨0, b⟩ 0 0 cz frj sj fr' s' ∧ resultsV g cz frj sj i.results = some v) : Tells g f F := by
  intro args x hF base c φ ω s w args' r hs ha hr
  obtain ⟨h1, h2, v, rfl, h3, h4⟩ := h args x hF
  have hA := AWp.callsSn (hg ⟨0, w.heap.size⟩) hng hi h2 h3 (h4 w.heap.size) (Laid.nil hng w (zone_of hs)).srel (ha.free h1)
  refine hA.mono ?_
  rintro e w' ⟨s', hR⟩
  exact landed_sim (fun _ => rfl) (freeN_shed h3) hr hs hR
end
end
end Go.Am

/- Calls that only read: rows of the heap come to them as values, for the time of the call. -/
namespace Go.Am
noncomputable section

theorem Vrel.sub {Z Z' : Zone} (hr : ∀ X b o, Z.row X b o → Z'.row X b o) (hre : Z.real → Z'.real) (hsa : Z.same → Z'.same) {φ : Nat → Pl} {c : Ctx} {n : Nat} {v v' : Value} (h : @Vrel Z φ c n v v') : @Vrel Z' φ c n v v' := by
  induction h with
  | bool x => exact Vrel.bool (Z := Z') x
  | int k i => exact Vrel.int (Z := Z') k i
  | float k i => exact Vrel.float (Z := Z') k i
  | string s => exact Vrel.string (Z := Z') s
  | nilPointer => exact Vrel.nilPointer (Z := Z')
  | pointer id o' h => exact Vrel.pointer (Z := Z') id o' h
  | nilSlice l cp => exact Vrel.nilSlice (Z := Z') l cp
  | slice id o' l cp h => exact Vrel.slice (Z := Z') id o' l cp h
  | nilMap => exact Vrel.nilMap (Z := Z')
  | map id h => exact Vrel.map (Z := Z') id h
  | func f x y x' y' hx hy _ _ iX iY => exact Vrel.func (Z := Z') f x y x' y' hx hy iX iY
  | yield id h => exact Vrel.yield (Z := Z') id h
  | nilFunc => exact Vrel.nilFunc (Z := Z')
  | iface t v v' _ ih => exact Vrel.iface (Z := Z') t v v' ih
  | nilIface => exact Vrel.nilIface (Z := Z')
  | agg x x' hx _ iX => exact Vrel.agg (Z := Z') x x' hx iX
  | tuple x x' hx _ iX => exact Vrel.tuple (Z := Z') x x' hx iX
  | vslice nm X o' l cp b' o2 h hl => exact Vrel.vslice (Z := Z') nm X o' l cp b' o2 (hr _ _ _ h) hl
  | vnil nm X o' cp p h => exact Vrel.vnil (Z := Z') nm X o' cp p (hre h)
  | vptr t nm X o' l b' o2 h => exact Vrel.vptr (Z := Z') t nm X o' l b' o2 (hr _ _ _ h)
  | vsame nm X o' l h => exact Vrel.vsame (Z := Z') nm X o' l (hsa h)
  | psame t nm X o' l h => exact Vrel.psame (Z := Z') t nm X o' l (hsa h)

/-- All rows of a heap that are plain, as rows that are never written. -/
abbrev zAll (Z : Zone) (φ : Nat → Pl) (c : Ctx) (s : St) : Zone where
  row X b o := Z.row X b o ∨ ∃ id sz sp, s.heap.get id = some (.cells X sz sp) ∧ c.vis id = true ∧ X.size ≠ 0 ∧ X.all (freeN 9) = true ∧ b = (φ id).blk ∧ o = (φ id).off
  real := Z.real
  same := Z.same
  whole := Z.whole
  sub X b o h := .inl (Z.sub X b o h)
  says := Z.says

variable {Z : Zone}
section
variable {g : Cfg} {base : Base} {c : Ctx} {φ : Nat → Pl} {ω : Nat → Option Tag} {s : St} {w : World}
theorem zAll_ok (hs : SRel g base φ ω c s w) : @ZoneOk (zAll Z φ c s) w := by
  have hz := zone_of hs
  refine @ZoneOk.mk (zAll Z φ c s) w (fun X b o h => ?_) hz.nosame hz.isreal
  rcases h with h | ⟨id, sz, sp, h1, h2, h3, h4, rfl, rfl⟩
  · obtain ⟨p1, X', el, fz, p2, p3⟩ := hz.zone X b o h
    exact ⟨p1, X', el, fz, p2, fun i x hx => let ⟨x', q1, q2⟩ := p3.1 i x hx; ⟨x', q1, q2.sub (Z := Z) (Z' := zAll Z φ c s) (fun _ _ _ h => Or.inl h) id id⟩, p3.2⟩
  · have ho := hs.obj id _ h1 h2
    obtain ⟨cs', el, fz, p1, _, _, p4⟩ := ho.2 (.inl h3)
    refine ⟨?_, cs', el, fz, p1, fun i x hx => ?_, fun hw => ?_⟩
    · rcases Nat.lt_or_ge (φ id).blk w.heap.size with h | h
      · exact h
      · rw [Array.getElem?_eq_none (by omega)] at p1; cases p1
    · obtain ⟨x', q1, q2⟩ := p4 i x hx
      exact ⟨x', q1, (free_move 9 _ _ (all_get h4 hx) q2).sub (Z := Z) (Z' := zAll Z φ c s) (fun _ _ _ h => Or.inl h) (fun h => h) (fun h => h)⟩
    · obtain ⟨_, X', el', fz', h6, h7⟩ := hs.zone _ _ _ (Z.sub _ _ _ hw)
      rw [p1] at h6
      cases h6
      exact h7.2 hw

def frz1 (c : Ctx) (s : St) : Value → DT Value
  | .slice (some ⟨id, o, none⟩) l cp => (match s.heap.get id with
    | some (.cells E _ _) => .must (c.vis id && (decide (l ≤ cp) && (decide (E.size ≠ 0) && E.all (freeN 9)))) (.leaf (VS E o l)) (.leaf (.slice (some ⟨id, o, none⟩) l cp))
    | _ => .leaf (.slice (some ⟨id, o, none⟩) l cp))
  | .slice none 0 _ => .leaf (VS #[] 0 0)
  | .pointer (some ⟨id, o, none⟩) => (match s.heap.get id with
    | some (.cells E _ _) => .must (c.vis id && (decide (E.size ≠ 0) && E.all (freeN 9))) (.leaf (VP E o)) (.leaf (.pointer (some ⟨id, o, none⟩)))
    | _ => .leaf (.pointer (some ⟨id, o, none⟩)))
  | v => .leaf v
def mapD (k : Value → DT Value) : List Value → DT (List Value)
  | [] => .leaf []
  | v :: r => (k v).bind fun x => (mapD k r).bind fun y => .leaf (x :: y)
theorem mapD_eval (k : Value → DT Value) (l : List Value) : (mapD k l).eval = l.map fun v => (k v).eval := by
  induction l with
  | nil => rfl
  | cons v r ih => simp only [mapD, DT.eval_bind, ih, DT.eval_leaf, List.map_cons]
def frzV (c : Ctx) (s : St) : Value → DT Value
  | .func (.func f) a b => (mapD (frz1 c s) b.toList).bind fun l => .leaf (.func (.func f) a ⟨l⟩)
  | v => frz1 c s v
def frzT (F : Array Value → DT (Option (Value × St))) : HandT := fun args c s =>
  (mapD (frzV c s) args.toList).bind fun l => .must (l.all (freeN 9)) ((F ⟨l⟩).bind fun o => .leaf (o.bind fun x => match landed st0 x with | some (.ret u, _) => if plainN 9 u then some (.ret u, s) else none | _ => none)) (.leaf none)
def frzH (F : Array Value → DT (Option (Value × St))) : Hand := fun args c s => (frzT F args c s).eval

theorem frz1_rel (hs : SRel g base φ ω c s w) {d : Nat} {v v' : Value} (h : Vrel φ c s.next v v') (hf : freeN d (frz1 c s v).eval = true) {φ0 : Nat → Pl} {c0 : Ctx} {n0 : Nat} : @Vrel (zAll Z φ c s) φ0 c0 n0 (frz1 c s v).eval v' := by
  have hsl : ∀ (p : Option Addr) (l cp : Nat), freeN d (.slice p l cp) = true → p = none := fun p l cp h => by
    cases d <;> cases p <;> simp [freeN] at h ⊢
  have hpt : ∀ (p : Addr), freeN d (.pointer (some p)) = true → False := fun p h => by
    cases d <;> simp [freeN] at h
  unfold frz1 at hf ⊢
  split at hf
  · rename_i id o l cp
    split at hf
    · rename_i E sz sp hget
      rw [DT.eval_must] at hf ⊢
      cases hc : (c.vis id && (decide (l ≤ cp) && (decide (E.size ≠ 0) && E.all (freeN 9)))) with
      | false => rw [hc] at hf; exact absurd (hsl _ _ _ hf) (by simp)
      | true =>
        simp only [Bool.and_eq_true, decide_eq_true_eq] at hc
        obtain ⟨h1, h2, h3, h4⟩ := hc
        cases h with
        | slice _ _ _ _ hin => exact Vrel.vslice (Z := zAll Z φ c s) "" E o l _ _ _ (.inr ⟨id, sz, sp, hget, h1, h3, h4, rfl, rfl⟩) (by omega)
    · exact absurd (hsl _ _ _ hf) (by simp)
  · cases h with
    | nilSlice => exact Vrel.vnil (Z := zAll Z φ c s) _ _ _ _ _ hs.isreal
  · rename_i id o
    split at hf
    · rename_i E sz sp hget
      rw [DT.eval_must] at hf ⊢
      cases hc : (c.vis id && (decide (E.size ≠ 0) && E.all (freeN 9))) with
      | false => rw [hc] at hf; exact (hpt _ hf).elim
      | true =>
        simp only [Bool.and_eq_true, decide_eq_true_eq] at hc
        obtain ⟨h1, h3, h4⟩ := hc
        cases h with
        | pointer _ _ hin => exact Vrel.vptr (Z := zAll Z φ c s) 0 "" E o 0 _ _ (.inr ⟨id, sz, sp, hget, h1, h3, h4, rfl, rfl⟩)
    · exact (hpt _ hf).elim
  · exact (free_move d _ _ hf h).sub (Z := Z) (Z' := zAll Z φ c s) (fun _ _ _ h => Or.inl h) (fun h => h) (fun h => h)
theorem mapD_rel {k : Value → DT Value} {Z' : Zone} {φ0 : Nat → Pl} {c0 : Ctx} {n0 d : Nat} (hk : ∀ v v', @Vrel Z φ c s.next v v' → freeN d (k v).eval = true → @Vrel Z' φ0 c0 n0 (k v).eval v') {a a' : Array Value} (hsz : a.size = a'.size) (h : ∀ (i : Nat) (x x' : Value), a[i]? = some x → a'[i]? = some x' → @Vrel Z φ c s.next x x')
    (hf : ((mapD k a.toList).eval).all (freeN d) = true) : (⟨(mapD k a.toList).eval⟩ : Array Value).size = a'.size ∧ ∀ (i : Nat) (x x' : Value), (⟨(mapD k a.toList).eval⟩ : Array Value)[i]? = some x → a'[i]? = some x' → @Vrel Z' φ0 c0 n0 x x' := by
  rw [mapD_eval] at hf ⊢
  refine ⟨by simp [hsz], fun i x x' hx hx' => ?_⟩
  simp only [List.getElem?_toArray, List.getElem?_map, Array.getElem?_toList, Option.map_eq_some_iff] at hx
  obtain ⟨v, hv, rfl⟩ := hx
  refine hk v x' (h i v x' hv hx') ?_
  simp only [List.all_map, List.all_eq_true] at hf
  refine hf v ?_
  rw [Array.mem_toList_iff]
  exact Array.mem_of_getElem? hv
theorem frzV_rel (hs : SRel g base φ ω c s w) {v v' : Value} (h : Vrel φ c s.next v v') (hf : freeN 9 (frzV c s v).eval = true) {φ0 : Nat → Pl} {c0 : Ctx} {n0 : Nat} : @Vrel (zAll Z φ c s) φ0 c0 n0 (frzV c s v).eval v' := by
  unfold frzV at hf ⊢
  split at hf
  · rename_i f a b
    rw [DT.eval_bind, DT.eval_leaf] at hf ⊢
    cases h with
    | func _ _ _ a' b' ha hb hA hB =>
    have hf' : (a.all (freeN 8) && (mapD (frz1 c s) b.toList).eval.toArray.all (freeN 8)) = true := hf
    simp only [Bool.and_eq_true] at hf'
    obtain ⟨f1, f2⟩ := hf'
    obtain ⟨p1, p2⟩ := mapD_rel (Z := Z) (k := frz1 c s) (d := 8) (Z' := zAll Z φ c s) (φ0 := φ0) (c0 := c0) (n0 := n0) (fun v v' h1 h2 => frz1_rel hs h1 h2) hb hB (by simpa using f2)
    refine Vrel.func (Z := zAll Z φ c s) f _ _ _ _ ha p1 (fun i x x' hx hx' => ?_) p2
    exact (free_move 8 _ _ (all_get f1 hx) (hA i x x' hx hx')).sub (Z := Z) (Z' := zAll Z φ c s) (fun _ _ _ h => Or.inl h) (fun h => h) (fun h => h)
  · exact frz1_rel hs h hf
end

theorem frz_reads [Z : Zone] {g : Cfg} (hng : g.ng = 0) {f : FuncId} {F : Array Value → DT (Option (Value × St))} (hT : ∀ Z' : Zone, @Tells Z' g f fun a => (F a).eval) : Reads g f (frzH F) := by
  intro base args c s r s' h
  unfold frzH frzT at h
  rw [DT.eval_bind, DT.eval_must] at h
  cases hfr : (mapD (frzV c s) args.toList).eval.all (freeN 9) with
  | false => rw [hfr, cond_false, DT.eval_leaf] at h; cases h
  | true =>
  rw [hfr, cond_true, DT.eval_bind, DT.eval_leaf] at h
  cases hF : (F ⟨(mapD (frzV c s) args.toList).eval⟩).eval with
  | none => rw [hF] at h; cases h
  | some x =>
  rw [hF, Option.bind_some] at h
  cases hl : landed st0 x with
  | none => rw [hl] at h; cases h
  | some q =>
  obtain ⟨o, s1⟩ := q
  rw [hl] at h
  cases o with
  | pan v => cases h
  | ret u =>
  simp only at h
  split at h
  · rename_i hpl
    cases h
    refine ⟨rfl, fun φ ω w args' hs ha => ?_⟩
    have hz := zAll_ok hs
    obtain ⟨a1, a2⟩ := mapD_rel (Z := Z) (k := frzV c s) (d := 9) (Z' := zAll Z φ c s) (φ0 := fun _ => ⟨0, 0, 0⟩) (c0 := ctx0 0) (n0 := 0) (fun v v' h1 h2 => frzV_rel hs h1 h2) ha.1 ha.2 hfr
    have hc := @hT (zAll Z φ c s) _ x hF ⟨0, w.heap.size⟩ (ctx0 0) (fun _ => ⟨0, 0, 0⟩) (fun _ => none) st0 w args' _ (@Laid.srel (zAll Z φ c s) g 0 _ _ w (@Laid.nil (zAll Z φ c s) g hng w hz)) ⟨a1, a2⟩ hl
    refine hc.mono ?_
    rintro e w' ⟨φ', ω', hag, hnx, hsr, hk, he⟩
    have hsame : ∀ b, b < w.heap.size → w'.heap[b]? = w.heap[b]? := fun b hb => (hk.same b hb (by rintro ⟨id, o, h, _⟩; cases h) (fun h => h)).1
    cases he with
    | ret _ v' hv' =>
      rw [plain_eq (Z := zAll Z φ c s) 9 _ _ hpl hv']
      exact ⟨φ, ω, fun _ _ => rfl, Nat.le_refl _, hs.below hk.size hsame, ⟨hk.os, hk.tape, hk.output, hk.size, fun b hb _ _ => ⟨hsame b hb, rfl⟩⟩, .ret _ _ (plain_rel _ _ _ 9 u hpl)⟩
  · cases h

/-- More that is told: readers. -/
def Cfg.frz (g : Cfg) (T : FuncId → Option (Array Value → DT (Option (Value × St)))) : Cfg := g.more fun f => (T f).map frzH
def treeF (T : FuncId → Option (Array Value → DT (Option (Value × St)))) (o : FuncId → Option HandT) : FuncId → Option HandT := fun f => match T f with | some F => some (frzT F) | none => o f
theorem treeF_ok {g : Cfg} {T : FuncId → Option (Array Value → DT (Option (Value × St)))} {o : FuncId → Option HandT} (ho : ∀ f k hd, o f = some k → g.hand f = some hd → ∀ a c s, (k a c s).eval = hd a c s) :
    ∀ f k hd, treeF T o f = some k → (g.frz T).hand f = some hd → ∀ a c s, (k a c s).eval = hd a c s := by
  intro f k hd h1 h2 a c s
  simp only [treeF] at h1
  simp only [Cfg.frz, Cfg.more] at h2
  cases hT : T f with
  | some F =>
    rw [hT] at h1 h2
    cases h1; cases h2
    rfl
  | none =>
    rw [hT] at h1 h2
    exact ho f k hd h1 h2 a c s
theorem frz_good [Z : Zone] {g : Cfg} (hg : ∀ (Z' : Zone) B, @Good Z' g B) (hng : g.ng = 0) {T : FuncId → Option (Array Value → DT (Option (Value × St)))} (hT : ∀ f F, T f = some F → (∃ i, g.fns f = some i) ∧ ∀ Z' : Zone, @Tells Z' g f fun a => (F a).eval) (B : Base) : Good (g.frz T) B :=
  more_good (hg Z) (fun f hd h => by
    simp only [Option.map_eq_some_iff] at h
    obtain ⟨F, hF, rfl⟩ := h
    exact ⟨(hT f F hF).1, frz_reads hng (hT f F hF).2⟩) B
/-- What is told holds whatever else is told. -/
theorem Tells.cfg {g g' : Cfg} (hng : g'.ng = g.ng) (hP : g'.P = g.P) {f : FuncId} {F : Array Value → Option (Value × St)} (h : Tells g f F) : Tells g' f F := fun args x hF base c φ ω s w args' r hs ha hr => by
  have := h args x hF base c φ ω s w args' r (SRel.cfg (g := g') (g' := g) hng.symm hs) ha hr
  rw [hP]
  exact this.mono fun e w' hR => CallR.cfg hng hR
/-- By reckoning alone, wholly. -/
theorem tree_callW {g : Cfg} {o : FuncId → Option HandT} (ho : ∀ f k hd, o f = some k → g.hand f = some hd → ∀ a c s, (k a c s).eval = hd a c s) {n : Nat} {f : FuncId} {args : Array Value} {x : Value × St}
    (h : (callT g o n (.func (.func f) #[] #[]) args cz st0).evalW seenOf = some x) : ∃ n v s', call g n (.func (.func f) #[] #[]) args (ctx0 0) st0 = some (.ret v, s') ∧ shed st0 s' v = some x := by
  rw [DT.evalW_eq, callT_eval g o ho n] at h
  obtain ⟨v, s', h1, h2⟩ := of_seenOf h
  exact ⟨n, v, s', h1, h2⟩
end
end Go.Am

/- Loops with any end, and functions that answer a row that they made. -/
namespace Go.Am
noncomputable section
variable {Z : Zone}
section
variable {g : Cfg} {b : Nat} {fr : Fr} {s : St} {n lim : Nat} {sel : Ex → List Tmp × List Kept}

/-- A loop that counts, from a state that is seen; whatever is behind it. -/
theorem AWp.forSn (hg : ∀ B, Good g B) (hng : g.ng = 0) {fri : Fr} {si : St} (hS0 : Sn ⟨0, b⟩ 0 0 cz fri si fr s) {init k rest : Code} {bi n2 lim2 : Nat} {sel2 : Nat → Ex → List Tmp × List Kept} {head : Nat → Fr} {sh : Nat → St} {N : Nat} {stop : Nat → Option (Ex × Fr × St)} {R : Ex → Fr → St → Prop}
    (h0 : gcObs 0 0 sel (code g (call g n) lim cz init fri si) = some (.normal, head 0, sh 0)) (hp0 : plainJ (sh 0) (sel .normal).2 0)
    (hround : ∀ i, i ≤ N → (∀ j, j < i → stop j = none) → gcObs 0 0 (sel2 i) (code g (call g n2) lim2 cz k (head i) (sh i)) = some (match stop i with | some r => r | none => (.normal, head (i + 1), sh (i + 1))))
    (hp : ∀ i, i ≤ N → plainJ (match stop i with | some r => r.2.2 | none => sh (i + 1)) (sel2 i (match stop i with | some r => r.1 | none => .normal)).2 0)
    (hlast : ∃ i, i ≤ N ∧ stop i ≠ none) (hstop : ∀ i r, i ≤ N → (∀ j, j < i → stop j = none) → stop i = some r → ∀ fr2 s2, Sn ⟨0, b⟩ 0 0 cz r.2.1 r.2.2 fr2 s2 → match r.1 with | .exit j => j = bi ∧ AWp g ⟨0, b⟩ cz rest fr2 s2 R | .ret => R .ret fr2 s2 | _ => False) :
    AWp g ⟨0, b⟩ cz (.seq (.seq init (.block bi (.loop k))) rest) fr s R := by
  refine AWp.seq (AWp.seq (AWp.seen hg hng hS0 (Nat.zero_le _) h0 hp0 fun fr1 s1 hS1 hG1 => ⟨hG1, ?_⟩))
  refine AWp.block ?_
  obtain ⟨m, hm, hsm⟩ := hlast
  refine AWp.loop (I := fun (p : Nat) fr' s' => (p ≤ m ∧ ∀ j, j < p → stop j = none) ∧ Sn ⟨0, b⟩ 0 0 cz (head p) (sh p) fr' s' ∧ Grow cz s s') (fun p => m - p) (fun p fr' s' hI => ?_) 0 fr1 s1 ⟨⟨Nat.zero_le _, fun j hj => by omega⟩, hS1, hG1⟩
  obtain ⟨⟨hpm, hno⟩, hS, hG⟩ := hI
  have hr := hround p (by omega) hno
  have hpj := hp p (by omega)
  cases hst : stop p with
  | none =>
    rw [hst] at hr hpj
    simp only at hr hpj
    refine AWp.seen hg hng hS (Nat.zero_le _) hr hpj fun fr2 s2 hS2 hG2 => ⟨hG2, p + 1, ?_, ⟨?_, fun j hj => ?_⟩, hS2, hG.trans hG2⟩
    · have : p ≠ m := fun e => hsm (by rw [← e]; exact hst)
      omega
    · have : p ≠ m := fun e => hsm (by rw [← e]; exact hst)
      omega
    · by_cases e : j = p
      · subst e; exact hst
      · exact hno j (by omega)
  | some r =>
    rw [hst] at hr hpj
    simp only at hr hpj
    refine AWp.seen hg hng hS (Nat.zero_le _) hr hpj fun fr2 s2 hS2 hG2 => ⟨hG2, ?_⟩
    have hfin := hstop p r (by omega) hno hst fr2 s2 hS2
    obtain ⟨ex, frj, sj⟩ := r
    cases ex with
    | normal => exact hfin.elim
    | exit j =>
      obtain ⟨rfl, hrest⟩ := hfin
      simp only [if_true]
      exact ⟨hG.trans hG2, hrest⟩
    | ret => exact ⟨hG.trans hG2, hfin⟩
    | pan v => exact hfin.elim

/-- A row that was made stands in a slot. -/
def RowL (b : Nat) (t : Tmp) (x : Value × St) : Ex → Fr → St → Prop := fun ex fr' s' => (ex = .normal ∨ ex = .ret) ∧ ∃ frj sj, Sn ⟨0, b⟩ 0 0 cz frj sj fr' s' ∧ frj.tm.get t = some x.1 ∧
  ((∃ l cp E sz sp, x = (.slice (some ⟨0, 0, none⟩) l cp, st0.new (.cells E sz sp)) ∧ sj.heap.get 0 = some (.cells E sz sp) ∧ E.all (plainN 6) = true ∧ E.all (freeN 6) = true) ∨ (x.2 = st0 ∧ plainN 9 x.1 = true))
theorem AWp.row (hg : ∀ B, Good g B) (hng : g.ng = 0) {fri : Fr} {si : St} (hS : Sn ⟨0, b⟩ 0 0 cz fri si fr s) {k : Code} {ex : Ex} (hex : ex = .normal ∨ ex = .ret) {frj : Fr} {sj : St} (h : gcObs 0 0 sel (code g (call g n) lim cz k fri si) = some (ex, frj, sj)) (hp : plainJ sj (sel ex).2 0) {t : Tmp} {x : Value × St}
    (ht : frj.tm.get t = some x.1) (hx : (∃ l cp E sz sp, x = (.slice (some ⟨0, 0, none⟩) l cp, st0.new (.cells E sz sp)) ∧ sj.heap.get 0 = some (.cells E sz sp) ∧ E.all (plainN 6) = true ∧ E.all (freeN 6) = true) ∨ (x.2 = st0 ∧ plainN 9 x.1 = true)) : AWp g ⟨0, b⟩ cz k fr s (RowL b t x) :=
  AWp.seen hg hng hS (Nat.zero_le _) h hp fun fr' s' hS' _ => ⟨hex, frj, sj, hS', ht, hx⟩
theorem RowL.shed {t : Tmp} {x : Value × St} {ex : Ex} {fr' : Fr} {s' : St} (h : RowL b t x ex fr' s') : (ex = .normal ∨ ex = .ret) ∧ ∃ v, resultsV g cz fr' s' [.tmp t] = some v ∧ Go.Am.shed st0 s' v = some x := by
  obtain ⟨hex, frj, sj, ⟨e, V, F⟩, ht, hx⟩ := h
  refine ⟨hex, ?_⟩
  obtain ⟨v', h1, h2⟩ := F.tm t _ ht
  rcases hx with ⟨l, cp, E, sz, sp, rfl, h4, h5, h6⟩ | ⟨h4, h5⟩
  · simp only at h2
    obtain ⟨_, o', h7, h8⟩ := V.obj 0 _ h4
    cases o' with
    | map _ => exact h8.elim
    | loop _ => exact h8.elim
    | cells E' sz' sp' =>
    obtain ⟨rfl, rfl, h9, h10⟩ := h8
    have hE : E' = E := by
      refine Array.ext h9.symm fun i hi1 hi2 => ?_
      have := h10 i E[i] E'[i] (Array.getElem?_eq_getElem hi2) (Array.getElem?_eq_getElem hi1)
      refine plain_eq (Z := idZone) 6 _ _ ?_ this
      simp only [Array.all_eq_true] at h5
      exact h5 i hi2
    subst hE
    refine ⟨.slice (some ⟨e 0, 0, none⟩) l cp, ?_, ?_⟩
    · have e1 : v' = .slice (some ⟨e 0, 0, none⟩) l cp := by
        cases h2 with
        | slice _ _ _ _ _ => rfl
      rw [e1] at h1
      have hl : local? (.slice (some ⟨e 0, 0, none⟩) l cp) = false := rfl
      simp only [resultsV, resultsL, resultOf, h1, Option.bind_eq_bind, Option.bind_some, hl]
      rfl
    · unfold Go.Am.shed
      simp only [h7, h6, Bool.and_true]
      rfl
  · have e1 := plain_eq (Z := idZone) 9 _ _ h5 h2
    rw [e1] at h1
    obtain ⟨v, s2⟩ := x
    simp only at h4 h5 h1
    subst h4
    exact ⟨v, resultsV_one h1 h5, shed_plain h5⟩
/-- A told function that answers a row. -/
theorem tells_row (hg : ∀ B, Good g B) (hng : g.ng = 0) {f : FuncId} {i : FnI} (hi : g.fns f = some i) {t : Tmp} (hr : i.results = [.tmp t]) {F : Array Value → Option (Value × St)}
    (h : ∀ args x, F args = some x → args.all (freeN 9) = true ∧ args.size ≤ i.nt ∧ ∀ b, AWp g ⟨0, b⟩ cz i.body (frame0 f i.nt args) st0 (RowL b t x)) : Tells g f F := by
  refine tells_of hg hng hi fun args x hF => ?_
  obtain ⟨h1, h2, h3⟩ := h args x hF
  refine ⟨h1, h2, fun b => (h3 b).mono fun ex fr' s' hR => ?_⟩
  obtain ⟨p1, v, p2, p3⟩ := RowL.shed (g := g) hR
  rw [hr]
  exact ⟨p1, v, p2, p3⟩
end
/-- Arguments, one by one. -/
theorem Arel.cons3 {φ : Nat → Pl} {c : Ctx} {n : Nat} {a b d a' b' d' : Value} (h0 : Vrel φ c n a a') (h1 : Vrel φ c n b b') (h2 : Vrel φ c n d d') : Arel φ c n #[a, b, d] #[a', b', d'] :=
  ⟨rfl, fun i x x' hx hx' => match i with
    | 0 => by simp at hx hx'; subst hx hx'; exact h0
    | 1 => by simp at hx hx'; subst hx hx'; exact h1
    | 2 => by simp at hx hx'; subst hx hx'; exact h2
    | i + 3 => by simp at hx⟩
theorem Arel.cons2 {φ : Nat → Pl} {c : Ctx} {n : Nat} {a b a' b' : Value} (h0 : Vrel φ c n a a') (h1 : Vrel φ c n b b') : Arel φ c n #[a, b] #[a', b'] :=
  ⟨rfl, fun i x x' hx hx' => match i with
    | 0 => by simp at hx hx'; subst hx hx'; exact h0
    | 1 => by simp at hx hx'; subst hx hx'; exact h1
    | i + 2 => by simp at hx⟩
end
end Go.Am

/- Calls that only read, and answer a row of plain values. -/
namespace Go.Am
noncomputable section
def rowR (s : St) (x : Value × St) : DT (Option (Outc × St)) :=
  match x.1 with
  | .slice (some ⟨0, 0, none⟩) l cp => (match x.2.heap.get 0 with
    | some (.cells E sz sp) => .must (E.all (plainN 6) && E.all (freeN 6)) (.leaf (some (.ret (.slice (some ⟨s.next, 0, none⟩) l cp), s.new (.cells E sz sp)))) (.leaf none)
    | _ => .leaf none)
  | v => .leaf (if plainN 9 v then some (.ret v, s) else none)
def frzRT (F : Array Value → DT (Option (Value × St))) : HandT := fun args c s =>
  (mapD (frzV c s) args.toList).bind fun l => .must (l.all (freeN 9)) ((F ⟨l⟩).andThen fun x => rowR s x) (.leaf none)
def frzRH (F : Array Value → DT (Option (Value × St))) : Hand := fun args c s => (frzRT F args c s).eval

theorem srel_row {Z Z' : Zone} {g : Cfg} {φ : Nat → Pl} {ω : Nat → Option Tag} {w w' : World} {E : Array Value} {sz : Nat} {sp : Bool} (hE : E.all (plainN 6) = true)
    (hz : @ZoneOk Z w) (hsame : ∀ b, b < w.heap.size → w'.heap[b]? = w.heap[b]?) (h : @SRel Z' g ⟨0, w.heap.size⟩ φ ω (ctx0 0) (st0.new (.cells E sz sp)) w') : @SRel Z g ⟨0, w.heap.size⟩ φ ω (ctx0 0) (st0.new (.cells E sz sp)) w' := by
  refine @SRel.mk Z g ⟨0, w.heap.size⟩ φ ω (ctx0 0) _ w' h.dom h.bn h.bf h.vlow h.vnew h.bw (fun id o hg hv => ?_) h.low h.tag h.tags h.glob (fun X b o hX => ?_) (@ZoneOk.nosame Z w hz) (@ZoneOk.isreal Z w hz)
  · have hob := @SRel.obj Z' _ _ _ _ _ _ _ h id o hg hv
    have hg' : (Tr.put Tr.nil 0 (AObj.cells E sz sp)).get id = some o := hg
    rw [Tr.get_put] at hg'
    split at hg'
    · cases hg'
      refine ⟨hob.1, fun e => ?_⟩
      obtain ⟨cs', el, fz, h1, h2, h3, h4⟩ := hob.2 e
      refine ⟨cs', el, fz, h1, h2, h3, fun i y hy => ?_⟩
      obtain ⟨y', p, q⟩ := h4 i y hy
      have hp := all_get hE hy
      refine ⟨y', p, ?_⟩
      rw [plain_eq (Z := Z') 6 _ _ hp q]
      exact plain_rel (Z := Z) _ _ _ 6 _ hp
    · rw [Tr.get_nil] at hg'; cases hg'
  · obtain ⟨h1, X', el, fz, h2, h3⟩ := @ZoneOk.zone Z w hz X b o hX
    exact ⟨.inl h1, X', el, fz, by rw [hsame b h1]; exact h2, h3⟩

theorem frzR_calls [Z : Zone] {g : Cfg} (hng : g.ng = 0) {f : FuncId} {F : Array Value → DT (Option (Value × St))} (hT : ∀ Z' : Zone, @Tells Z' g f fun a => (F a).eval) {base : Base} {args args' : Array Value} {c : Ctx} {s s' : St} {r : Outc} (h : frzRH F args c s = some (r, s')) {φ : Nat → Pl} {ω : Nat → Option Tag} {w : World} (hs : SRel g base φ ω c s w) (ha : Arel φ c s.next args args') :
    CallsIn (FF none) 0 g.P f args' w (CallR g base c φ ω s s' w r) := by
  unfold frzRH frzRT at h
  rw [DT.eval_bind, DT.eval_must] at h
  cases hfr : (mapD (frzV c s) args.toList).eval.all (freeN 9) with
  | false => rw [hfr, cond_false, DT.eval_leaf] at h; cases h
  | true =>
  rw [hfr, cond_true, DT.eval_andThen _ _ (fun x => (rowR s x).eval) fun _ => rfl] at h
  obtain ⟨x, hF, h⟩ := Option.bind_eq_some_iff.1 h
  have hz := zAll_ok hs
  have hz0 := zone_of hs
  obtain ⟨a1, a2⟩ := mapD_rel (Z := Z) (k := frzV c s) (d := 9) (Z' := zAll Z φ c s) (φ0 := fun _ => ⟨0, 0, 0⟩) (c0 := ctx0 0) (n0 := 0) (fun v v' h1 h2 => frzV_rel hs h1 h2) ha.1 ha.2 hfr
  have hc := fun q hl => @hT (zAll Z φ c s) _ x hF ⟨0, w.heap.size⟩ (ctx0 0) (fun _ => ⟨0, 0, 0⟩) (fun _ => none) st0 w args' q (@Laid.srel (zAll Z φ c s) g 0 _ _ w (@Laid.nil (zAll Z φ c s) g hng w hz)) ⟨a1, a2⟩ hl
  obtain ⟨v, st⟩ := x
  unfold rowR at h
  simp only at h
  split at h
  · rename_i l cp
    split at h
    · rename_i E sz sp hget
      rw [DT.eval_must] at h
      cases hcnd : (E.all (plainN 6) && E.all (freeN 6)) with
      | false => rw [hcnd] at h; cases h
      | true =>
        rw [hcnd, cond_true, DT.eval_leaf] at h
        cases h
        simp only [Bool.and_eq_true] at hcnd
        have hl : landed st0 (Value.slice (some ⟨0, 0, none⟩) l cp, st) = some (.ret (.slice (some ⟨0, 0, none⟩) l cp), st0.new (.cells E sz sp)) := by
          unfold landed
          simp only [hget]
          rfl
        refine (hc _ hl).mono ?_
        rintro e w' ⟨φ', ω', hag, hnx, hsr, hk, he⟩
        have hsame : ∀ b, b < w.heap.size → w'.heap[b]? = w.heap[b]? := fun b hb => (hk.same b hb (by rintro ⟨id, o, h, _⟩; cases h) (fun h => h)).1
        have hsr2 := srel_row (Z := Z) (Z' := zAll Z φ c s) hcnd.1 hz0 hsame hsr
        have h0 : (st0.new (.cells E sz sp)).heap.get 0 = some (.cells E sz sp) := by
          show (Tr.put Tr.nil 0 (AObj.cells E sz sp)).get 0 = _
          rw [Tr.get_put]; rfl
        refine landed_sim (Z := Z) (s0 := st0.new (.cells E sz sp)) (v := .slice (some ⟨0, 0, none⟩) l cp) (x := (.slice (some ⟨0, 0, none⟩) l cp, st0.new (.cells E sz sp))) (r := (.ret (.slice (some ⟨s.next, 0, none⟩) l cp), s.new (.cells E sz sp))) (φ0 := fun _ => ⟨0, 0, 0⟩) (ω0 := fun _ => none) (fun _ => rfl) ?_ ?_ hs ⟨φ', ω', hag, hnx, hsr2, hk, ?_⟩
        · unfold shed
          simp only [h0, hcnd.2, Bool.and_true]
          rfl
        · unfold landed
          simp only [h0]
        · cases he with
          | ret _ v' hv' =>
            refine .ret _ _ ?_
            cases hv' with
            | slice _ _ _ _ hin => exact Vrel.slice (Z := Z) _ _ _ _ hin
    · cases h
  · rename_i hne
    split at h
    · rename_i hpl
      cases h
      have hl : landed st0 (v, st) = some (.ret v, st0) := by
        unfold landed
        split
        · rename_i l cp e
          exact absurd e (hne l cp)
        · rfl
      refine (hc _ hl).mono ?_
      rintro e w' ⟨φ', ω', hag, hnx, hsr, hk, he⟩
      have hsame : ∀ b, b < w.heap.size → w'.heap[b]? = w.heap[b]? := fun b hb => (hk.same b hb (by rintro ⟨id, o, h, _⟩; cases h) (fun h => h)).1
      cases he with
      | ret _ v' hv' =>
        rw [plain_eq (Z := zAll Z φ c s) 9 _ _ hpl hv']
        exact ⟨φ, ω, fun _ _ => rfl, Nat.le_refl _, hs.below hk.size hsame, ⟨hk.os, hk.tape, hk.output, hk.size, fun b hb _ _ => ⟨hsame b hb, rfl⟩⟩, .ret _ _ (plain_rel _ _ _ 9 _ hpl)⟩
    · cases h

/-- More that is told: readers that answer rows. -/
def Cfg.frzR (g : Cfg) (T : FuncId → Option (Array Value → DT (Option (Value × St)))) : Cfg := g.more fun f => (T f).map frzRH
def treeFR (T : FuncId → Option (Array Value → DT (Option (Value × St)))) (o : FuncId → Option HandT) : FuncId → Option HandT := fun f => match T f with | some F => some (frzRT F) | none => o f
theorem treeFR_ok {g : Cfg} {T : FuncId → Option (Array Value → DT (Option (Value × St)))} {o : FuncId → Option HandT} (ho : ∀ f k hd, o f = some k → g.hand f = some hd → ∀ a c s, (k a c s).eval = hd a c s) :
    ∀ f k hd, treeFR T o f = some k → (g.frzR T).hand f = some hd → ∀ a c s, (k a c s).eval = hd a c s := by
  intro f k hd h1 h2 a c s
  simp only [treeFR] at h1
  simp only [Cfg.frzR, Cfg.more] at h2
  cases hT : T f with
  | some F =>
    rw [hT] at h1 h2
    cases h1; cases h2
    rfl
  | none =>
    rw [hT] at h1 h2
    exact ho f k hd h1 h2 a c s
theorem rowR_grow {c : Ctx} {s : St} {x : Value × St} {r : Outc × St} (h : (rowR s x).eval = some r) : Grow c s r.2 := by
  unfold rowR at h
  split at h
  · split at h
    · rename_i E sz sp _
      rw [DT.eval_must] at h
      · cases hc : (E.all (plainN 6) && E.all (freeN 6)) with
        | false => rw [hc] at h; cases h
        | true => rw [hc, cond_true, DT.eval_leaf] at h; cases h; exact Grow.new _ _ _
    · cases h
  · rw [DT.eval_leaf] at h
    split at h
    · cases h; exact Grow.refl _ _
    · cases h
theorem frzR_grow {F : Array Value → DT (Option (Value × St))} {args : Array Value} {c : Ctx} {s : St} {r : Outc × St} (h : frzRH F args c s = some r) : Grow c s r.2 := by
  unfold frzRH frzRT at h
  rw [DT.eval_bind, DT.eval_must] at h
  cases hfr : (mapD (frzV c s) args.toList).eval.all (freeN 9) with
  | false => rw [hfr, cond_false, DT.eval_leaf] at h; cases h
  | true =>
    rw [hfr, cond_true, DT.eval_andThen _ _ (fun x => (rowR s x).eval) fun _ => rfl] at h
    obtain ⟨x, _, h⟩ := Option.bind_eq_some_iff.1 h
    exact rowR_grow h
theorem frzR_good [Z : Zone] {g : Cfg} (hg : ∀ (Z' : Zone) B, @Good Z' g B) (hng : g.ng = 0) {T : FuncId → Option (Array Value → DT (Option (Value × St)))} (hT : ∀ f F, T f = some F → (∃ i, g.fns f = some i) ∧ ∀ Z' : Zone, @Tells Z' g f fun a => (F a).eval) (B : Base) : Good (g.frzR T) B where
  fns := (hg Z B).fns
  hgrow f hd h args c s r hr := by
    simp only [Cfg.frzR, Cfg.more] at h
    cases hF : T f with
    | some F =>
      rw [hF] at h
      cases h
      exact frzR_grow hr
    | none =>
      rw [hF] at h
      exact (hg Z B).hgrow f hd h args c s r hr
  hand f hd h := by
    simp only [Cfg.frzR, Cfg.more] at h
    cases hF : T f with
    | some F =>
      rw [hF] at h
      cases h
      intro args c s r s' hr φ ω w args' hs ha
      obtain ⟨⟨i, hi⟩, hR⟩ := hT f F hF
      obtain ⟨Fn, hFn, hb, _, _, hname⟩ := (hg Z B).fns f i hi
      exact ⟨f, args', run_callFunc hFn hb hname _, (frzR_calls hng hR hr (SRel.cfg (g := g.frzR T) (g' := g) rfl hs) ha).mono fun e W' hR => CallR.cfg (g := g) (g' := g.frzR T) rfl hR⟩
    | none =>
      rw [hF] at h
      intro args c s r s' hr φ ω w args' hs ha
      obtain ⟨f', as', h1, h2⟩ := (hg Z B).hand f hd h args c s r s' hr φ ω w args' (SRel.cfg (g := g.frzR T) (g' := g) rfl hs) ha
      exact ⟨f', as', h1, h2.mono fun e W' hR => CallR.cfg (g := g) (g' := g.frzR T) rfl hR⟩
end
end Go.Am

/- Calls that only read, and answer a row of plain values; a slice that is nil stays what it is; the zone may bring what holds of its whole rows. -/
namespace Go.Am
noncomputable section
def frz1N (c : Ctx) (s : St) : Value → DT Value
  | .slice (some ⟨id, o, none⟩) l cp => (match s.heap.get id with
    | some (.cells E _ _) => .must (c.vis id && (decide (l ≤ cp) && (decide (E.size ≠ 0) && E.all (freeN 9)))) (.leaf (VS E o l)) (.leaf (.slice (some ⟨id, o, none⟩) l cp))
    | _ => .leaf (.slice (some ⟨id, o, none⟩) l cp))
  | .pointer (some ⟨id, o, none⟩) => (match s.heap.get id with
    | some (.cells E _ _) => .must (c.vis id && (decide (E.size ≠ 0) && E.all (freeN 9))) (.leaf (VP E o)) (.leaf (.pointer (some ⟨id, o, none⟩)))
    | _ => .leaf (.pointer (some ⟨id, o, none⟩)))
  | v => .leaf v
def frzVN (c : Ctx) (s : St) : Value → DT Value
  | .func (.func f) a b => (mapD (frz1N c s) b.toList).bind fun l => .leaf (.func (.func f) a ⟨l⟩)
  | v => frz1N c s v
variable {Z : Zone}
section
variable {g : Cfg} {base : Base} {c : Ctx} {φ : Nat → Pl} {ω : Nat → Option Tag} {s : St} {w : World}
theorem frz1N_rel (hs : SRel g base φ ω c s w) {d : Nat} {v v' : Value} (h : Vrel φ c s.next v v') (hf : freeN d (frz1N c s v).eval = true) {φ0 : Nat → Pl} {c0 : Ctx} {n0 : Nat} : @Vrel (zAll Z φ c s) φ0 c0 n0 (frz1N c s v).eval v' := by
  have hsl : ∀ (p : Option Addr) (l cp : Nat), freeN d (.slice p l cp) = true → p = none := fun p l cp h => by
    cases d <;> cases p <;> simp [freeN] at h ⊢
  have hpt : ∀ (p : Addr), freeN d (.pointer (some p)) = true → False := fun p h => by
    cases d <;> simp [freeN] at h
  unfold frz1N at hf ⊢
  split at hf
  · rename_i id o l cp
    split at hf
    · rename_i E sz sp hget
      rw [DT.eval_must] at hf ⊢
      cases hc : (c.vis id && (decide (l ≤ cp) && (decide (E.size ≠ 0) && E.all (freeN 9)))) with
      | false => rw [hc] at hf; exact absurd (hsl _ _ _ hf) (by simp)
      | true =>
        simp only [Bool.and_eq_true, decide_eq_true_eq] at hc
        obtain ⟨h1, h2, h3, h4⟩ := hc
        cases h with
        | slice _ _ _ _ hin => exact Vrel.vslice (Z := zAll Z φ c s) "" E o l _ _ _ (.inr ⟨id, sz, sp, hget, h1, h3, h4, rfl, rfl⟩) (by omega)
    · exact absurd (hsl _ _ _ hf) (by simp)
  · rename_i id o
    split at hf
    · rename_i E sz sp hget
      rw [DT.eval_must] at hf ⊢
      cases hc : (c.vis id && (decide (E.size ≠ 0) && E.all (freeN 9))) with
      | false => rw [hc] at hf; exact (hpt _ hf).elim
      | true =>
        simp only [Bool.and_eq_true, decide_eq_true_eq] at hc
        obtain ⟨h1, h3, h4⟩ := hc
        cases h with
        | pointer _ _ hin => exact Vrel.vptr (Z := zAll Z φ c s) 0 "" E o 0 _ _ (.inr ⟨id, sz, sp, hget, h1, h3, h4, rfl, rfl⟩)
    · exact (hpt _ hf).elim
  · exact (free_move d _ _ hf h).sub (Z := Z) (Z' := zAll Z φ c s) (fun _ _ _ h => Or.inl h) (fun h => h) (fun h => h)
theorem frzVN_rel (hs : SRel g base φ ω c s w) {v v' : Value} (h : Vrel φ c s.next v v') (hf : freeN 9 (frzVN c s v).eval = true) {φ0 : Nat → Pl} {c0 : Ctx} {n0 : Nat} : @Vrel (zAll Z φ c s) φ0 c0 n0 (frzVN c s v).eval v' := by
  unfold frzVN at hf ⊢
  split at hf
  · rename_i f a b
    rw [DT.eval_bind, DT.eval_leaf] at hf ⊢
    cases h with
    | func _ _ _ a' b' ha hb hA hB =>
    have hf' : (a.all (freeN 8) && (mapD (frz1N c s) b.toList).eval.toArray.all (freeN 8)) = true := hf
    simp only [Bool.and_eq_true] at hf'
    obtain ⟨f1, f2⟩ := hf'
    obtain ⟨p1, p2⟩ := mapD_rel (Z := Z) (k := frz1N c s) (d := 8) (Z' := zAll Z φ c s) (φ0 := φ0) (c0 := c0) (n0 := n0) (fun v v' h1 h2 => frz1N_rel hs h1 h2) hb hB (by simpa using f2)
    refine Vrel.func (Z := zAll Z φ c s) f _ _ _ _ ha p1 (fun i x x' hx hx' => ?_) p2
    exact (free_move 8 _ _ (all_get f1 hx) (hA i x x' hx hx')).sub (Z := Z) (Z' := zAll Z φ c s) (fun _ _ _ h => Or.inl h) (fun h => h) (fun h => h)
  · exact frz1N_rel hs h hf
end
def frzRTN (F : Array Value → DT (Option (Value × St))) : HandT := fun args c s =>
  (mapD (frzVN c s) args.toList).bind fun l => .must (l.all (freeN 9)) ((F ⟨l⟩).andThen fun x => rowR s x) (.leaf none)
def frzRHN (F : Array Value → DT (Option (Value × St))) : Hand := fun args c s => (frzRTN F args c s).eval

theorem frzRN_calls [Z : Zone] {g : Cfg} (hng : g.ng = 0) {f : FuncId} {F : Array Value → DT (Option (Value × St))} (hT : ∀ φ c s, @Tells (zAll Z φ c s) g f fun a => (F a).eval) {base : Base} {args args' : Array Value} {c : Ctx} {s s' : St} {r : Outc} (h : frzRHN F args c s = some (r, s')) {φ : Nat → Pl} {ω : Nat → Option Tag} {w : World} (hs : SRel g base φ ω c s w) (ha : Arel φ c s.next args args') :
    CallsIn (FF none) 0 g.P f args' w (CallR g base c φ ω s s' w r) := by
  unfold frzRHN frzRTN at h
  rw [DT.eval_bind, DT.eval_must] at h
  cases hfr : (mapD (frzVN c s) args.toList).eval.all (freeN 9) with
  | false => rw [hfr, cond_false, DT.eval_leaf] at h; cases h
  | true =>
  rw [hfr, cond_true, DT.eval_andThen _ _ (fun x => (rowR s x).eval) fun _ => rfl] at h
  obtain ⟨x, hF, h⟩ := Option.bind_eq_some_iff.1 h
  have hz := zAll_ok hs
  have hz0 := zone_of hs
  obtain ⟨a1, a2⟩ := mapD_rel (Z := Z) (k := frzVN c s) (d := 9) (Z' := zAll Z φ c s) (φ0 := fun _ => ⟨0, 0, 0⟩) (c0 := ctx0 0) (n0 := 0) (fun v v' h1 h2 => frzVN_rel hs h1 h2) ha.1 ha.2 hfr
  have hc := fun q hl => @hT φ c s _ x hF ⟨0, w.heap.size⟩ (ctx0 0) (fun _ => ⟨0, 0, 0⟩) (fun _ => none) st0 w args' q (@Laid.srel (zAll Z φ c s) g 0 _ _ w (@Laid.nil (zAll Z φ c s) g hng w hz)) ⟨a1, a2⟩ hl
  obtain ⟨v, st⟩ := x
  unfold rowR at h
  simp only at h
  split at h
  · rename_i l cp
    split at h
    · rename_i E sz sp hget
      rw [DT.eval_must] at h
      cases hcnd : (E.all (plainN 6) && E.all (freeN 6)) with
      | false => rw [hcnd] at h; cases h
      | true =>
        rw [hcnd, cond_true, DT.eval_leaf] at h
        cases h
        simp only [Bool.and_eq_true] at hcnd
        have hl : landed st0 (Value.slice (some ⟨0, 0, none⟩) l cp, st) = some (.ret (.slice (some ⟨0, 0, none⟩) l cp), st0.new (.cells E sz sp)) := by
          unfold landed
          simp only [hget]
          rfl
        refine (hc _ hl).mono ?_
        rintro e w' ⟨φ', ω', hag, hnx, hsr, hk, he⟩
        have hsame : ∀ b, b < w.heap.size → w'.heap[b]? = w.heap[b]? := fun b hb => (hk.same b hb (by rintro ⟨id, o, h, _⟩; cases h) (fun h => h)).1
        have hsr2 := srel_row (Z := Z) (Z' := zAll Z φ c s) hcnd.1 hz0 hsame hsr
        have h0 : (st0.new (.cells E sz sp)).heap.get 0 = some (.cells E sz sp) := by
          show (Tr.put Tr.nil 0 (AObj.cells E sz sp)).get 0 = _
          rw [Tr.get_put]; rfl
        refine landed_sim (Z := Z) (s0 := st0.new (.cells E sz sp)) (v := .slice (some ⟨0, 0, none⟩) l cp) (x := (.slice (some ⟨0, 0, none⟩) l cp, st0.new (.cells E sz sp))) (r := (.ret (.slice (some ⟨s.next, 0, none⟩) l cp), s.new (.cells E sz sp))) (φ0 := fun _ => ⟨0, 0, 0⟩) (ω0 := fun _ => none) (fun _ => rfl) ?_ ?_ hs ⟨φ', ω', hag, hnx, hsr2, hk, ?_⟩
        · unfold shed
          simp only [h0, hcnd.2, Bool.and_true]
          rfl
        · unfold landed
          simp only [h0]
        · cases he with
          | ret _ v' hv' =>
            refine .ret _ _ ?_
            cases hv' with
            | slice _ _ _ _ hin => exact Vrel.slice (Z := Z) _ _ _ _ hin
    · cases h
  · rename_i hne
    split at h
    · rename_i hpl
      cases h
      have hl : landed st0 (v, st) = some (.ret v, st0) := by
        unfold landed
        split
        · rename_i l cp e
          exact absurd e (hne l cp)
        · rfl
      refine (hc _ hl).mono ?_
      rintro e w' ⟨φ', ω', hag, hnx, hsr, hk, he⟩
      have hsame : ∀ b, b < w.heap.size → w'.heap[b]? = w.heap[b]? := fun b hb => (hk.same b hb (by rintro ⟨id, o, h, _⟩; cases h) (fun h => h)).1
      cases he with
      | ret _ v' hv' =>
        rw [plain_eq (Z := zAll Z φ c s) 9 _ _ hpl hv']
        exact ⟨φ, ω, fun _ _ => rfl, Nat.le_refl _, hs.below hk.size hsame, ⟨hk.os, hk.tape, hk.output, hk.size, fun b hb _ _ => ⟨hsame b hb, rfl⟩⟩, .ret _ _ (plain_rel _ _ _ 9 _ hpl)⟩
    · cases h

/-- More that is told: readers that answer rows. -/
def Cfg.frzRN (g : Cfg) (T : FuncId → Option (Array Value → DT (Option (Value × St)))) : Cfg := g.more fun f => (T f).map frzRHN
def treeFN (T : FuncId → Option (Array Value → DT (Option (Value × St)))) (o : FuncId → Option HandT) : FuncId → Option HandT := fun f => match T f with | some F => some (frzRTN F) | none => o f
theorem treeFN_ok {g : Cfg} {T : FuncId → Option (Array Value → DT (Option (Value × St)))} {o : FuncId → Option HandT} (ho : ∀ f k hd, o f = some k → g.hand f = some hd → ∀ a c s, (k a c s).eval = hd a c s) :
    ∀ f k hd, treeFN T o f = some k → (g.frzRN T).hand f = some hd → ∀ a c s, (k a c s).eval = hd a c s := by
  intro f k hd h1 h2 a c s
  simp only [treeFN] at h1
  simp only [Cfg.frzRN, Cfg.more] at h2
  cases hT : T f with
  | some F =>
    rw [hT] at h1 h2
    cases h1; cases h2
    rfl
  | none =>
    rw [hT] at h1 h2
    exact ho f k hd h1 h2 a c s
theorem frzRN_grow {F : Array Value → DT (Option (Value × St))} {args : Array Value} {c : Ctx} {s : St} {r : Outc × St} (h : frzRHN F args c s = some r) : Grow c s r.2 := by
  unfold frzRHN frzRTN at h
  rw [DT.eval_bind, DT.eval_must] at h
  cases hfr : (mapD (frzVN c s) args.toList).eval.all (freeN 9) with
  | false => rw [hfr, cond_false, DT.eval_leaf] at h; cases h
  | true =>
    rw [hfr, cond_true, DT.eval_andThen _ _ (fun x => (rowR s x).eval) fun _ => rfl] at h
    obtain ⟨x, _, h⟩ := Option.bind_eq_some_iff.1 h
    exact rowR_grow h
theorem frzRN_good [Z : Zone] {g : Cfg} (hg : ∀ B, Good g B) (hng : g.ng = 0) {T : FuncId → Option (Array Value → DT (Option (Value × St)))} (hT : ∀ f F, T f = some F → (∃ i, g.fns f = some i) ∧ ∀ φ c s, @Tells (zAll Z φ c s) g f fun a => (F a).eval) (B : Base) : Good (g.frzRN T) B where
  fns := (hg B).fns
  hgrow f hd h args c s r hr := by
    simp only [Cfg.frzRN, Cfg.more] at h
    cases hF : T f with
    | some F =>
      rw [hF] at h
      cases h
      exact frzRN_grow hr
    | none =>
      rw [hF] at h
      exact (hg B).hgrow f hd h args c s r hr
  hand f hd h := by
    simp only [Cfg.frzRN, Cfg.more] at h
    cases hF : T f with
    | some F =>
      rw [hF] at h
      cases h
      intro args c s r s' hr φ ω w args' hs ha
      obtain ⟨⟨i, hi⟩, hR⟩ := hT f F hF
      obtain ⟨Fn, hFn, hb, _, _, hname⟩ := (hg B).fns f i hi
      exact ⟨f, args', run_callFunc hFn hb hname _, (frzRN_calls hng hR hr (SRel.cfg (g := g.frzRN T) (g' := g) rfl hs) ha).mono fun e W' hR => CallR.cfg (g := g) (g' := g.frzRN T) rfl hR⟩
    | none =>
      rw [hF] at h
      intro args c s r s' hr φ ω w args' hs ha
      obtain ⟨f', as', h1, h2⟩ := (hg B).hand f hd h args c s r s' hr φ ω w args' (SRel.cfg (g := g.frzRN T) (g' := g) rfl hs) ha
      exact ⟨f', as', h1, h2.mono fun e W' hR => CallR.cfg (g := g) (g' := g.frzRN T) rfl hR⟩
section
variable {Z : Zone} {g : Cfg} {base : Base} {c : Ctx} {fr : Fr} {s : St}
/-- A loop that counts, the first m objects where they are; what is kept may turn from round to round. -/
theorem AWp.countPI (hg : ∀ B, Good g B) (hng : g.ng = 0) {m k0 fl n lim : Nat} {k : Code} {sel : Nat → Ex → List Tmp × List Kept} {head : Nat → Fr} {sh : Nat → St} {N : Nat} {stop : Nat → Option (Ex × Fr × St)} {R : Ex → Fr → St → Prop} {s0 : St}
    (hfl : ∀ i, fl ≤ (sh i).next) (hm : ∀ i, m ≤ (sh i).next)
    (hround : ∀ i, i ≤ N → (∀ j, j < i → stop j = none) → gcObs k0 fl (sel i) (code g (call g n) lim { floor := fl, own := [], hide := [] } k (head i) (sh i)) = some (match stop i with | some r => r | none => (.normal, head (i + 1), sh (i + 1))))
    (hp : ∀ i, i ≤ N → plainJ (match stop i with | some r => r.2.2 | none => sh (i + 1)) (sel i (match stop i with | some r => r.1 | none => .normal)).2 0)
    (hpin : ∀ i ex, pinned m (sel i ex).2)
    (hlast : ∃ i, i ≤ N ∧ stop i ≠ none) (hstop : ∀ i r, stop i = some r → r.1 ≠ .normal)
    (hR : ∀ i r, i ≤ N → (∀ j, j < i → stop j = none) → stop i = some r → ∀ fr' s', SnP m base k0 fl c r.2.1 r.2.2 fr' s' → Grow c s0 s' → R r.1 fr' s') :
    SnP m base k0 fl c (head 0) (sh 0) fr s → Grow c s0 s → AWp g base c (.loop k) fr s R := by
  intro hS hG
  obtain ⟨l, hl, hsl⟩ := hlast
  refine AWp.loop (I := fun (p : Nat) fr s => (p ≤ l ∧ ∀ j, j < p → stop j = none) ∧ SnP m base k0 fl c (head p) (sh p) fr s ∧ Grow c s0 s) (fun p => l - p) (fun p fr s hI => ?_) 0 fr s ⟨⟨Nat.zero_le _, fun j hj => by omega⟩, hS, hG⟩
  obtain ⟨⟨hpm, hno⟩, hS, hG⟩ := hI
  have hr := hround p (by omega) hno
  have hpj := hp p (by omega)
  cases hst : stop p with
  | none =>
    rw [hst] at hr hpj
    simp only at hr hpj
    have hne : p ≠ l := fun e => hsl (by rw [← e]; exact hst)
    refine AWp.seenP hg hng hS (hm p) (hfl p) hr hpj (hpin _ _) fun fr' s' hS' hG' => ⟨hG', p + 1, by omega, ⟨by omega, fun j hj => ?_⟩, hS', hG.trans hG'⟩
    by_cases e : j = p
    · subst e; exact hst
    · exact hno j (by omega)
  | some r =>
    rw [hst] at hr hpj
    simp only at hr hpj
    refine AWp.seenP hg hng hS (hm p) (hfl p) hr hpj (hpin _ _) fun fr' s' hS' hG' => ⟨hG', ?_⟩
    have hne := hstop p r hst
    have hfin := hR p r (by omega) hno hst fr' s' hS' (hG.trans hG')
    obtain ⟨ex, frj, sj⟩ := r
    cases ex with
    | normal => exact (hne rfl).elim
    | _ => exact hfin

end
/-! ### Readers that answer plain values, where the zone brings what holds of its whole rows -/
theorem frzM_reads [Z : Zone] {g : Cfg} (hng : g.ng = 0) {f : FuncId} {F : Array Value → DT (Option (Value × St))} (hT : ∀ φ c s, @Tells (zAll Z φ c s) g f fun a => (F a).eval) : Reads g f (frzH F) := by
  intro base args c s r s' h
  unfold frzH frzT at h
  rw [DT.eval_bind, DT.eval_must] at h
  cases hfr : (mapD (frzV c s) args.toList).eval.all (freeN 9) with
  | false => rw [hfr, cond_false, DT.eval_leaf] at h; cases h
  | true =>
  rw [hfr, cond_true, DT.eval_bind, DT.eval_leaf] at h
  cases hF : (F ⟨(mapD (frzV c s) args.toList).eval⟩).eval with
  | none => rw [hF] at h; cases h
  | some x =>
  rw [hF, Option.bind_some] at h
  cases hl : landed st0 x with
  | none => rw [hl] at h; cases h
  | some q =>
  obtain ⟨o, s1⟩ := q
  rw [hl] at h
  cases o with
  | pan v => cases h
  | ret u =>
  simp only at h
  split at h
  · rename_i hpl
    cases h
    refine ⟨rfl, fun φ ω w args' hs ha => ?_⟩
    have hz := zAll_ok hs
    obtain ⟨a1, a2⟩ := mapD_rel (Z := Z) (k := frzV c s) (d := 9) (Z' := zAll Z φ c s) (φ0 := fun _ => ⟨0, 0, 0⟩) (c0 := ctx0 0) (n0 := 0) (fun v v' h1 h2 => frzV_rel hs h1 h2) ha.1 ha.2 hfr
    have hc := @hT φ c s _ x hF ⟨0, w.heap.size⟩ (ctx0 0) (fun _ => ⟨0, 0, 0⟩) (fun _ => none) st0 w args' _ (@Laid.srel (zAll Z φ c s) g 0 _ _ w (@Laid.nil (zAll Z φ c s) g hng w hz)) ⟨a1, a2⟩ hl
    refine hc.mono ?_
    rintro e w' ⟨φ', ω', hag, hnx, hsr, hk, he⟩
    have hsame : ∀ b, b < w.heap.size → w'.heap[b]? = w.heap[b]? := fun b hb => (hk.same b hb (by rintro ⟨id, o, h, _⟩; cases h) (fun h => h)).1
    cases he with
    | ret _ v' hv' =>
      rw [plain_eq (Z := zAll Z φ c s) 9 _ _ hpl hv']
      exact ⟨φ, ω, fun _ _ => rfl, Nat.le_refl _, hs.below hk.size hsame, ⟨hk.os, hk.tape, hk.output, hk.size, fun b hb _ _ => ⟨hsame b hb, rfl⟩⟩, .ret _ _ (plain_rel _ _ _ 9 u hpl)⟩
  · cases h

/-- More that is told: readers. -/
def Cfg.frzM (g : Cfg) (T : FuncId → Option (Array Value → DT (Option (Value × St)))) : Cfg := g.more fun f => (T f).map frzH
def treeFM (T : FuncId → Option (Array Value → DT (Option (Value × St)))) (o : FuncId → Option HandT) : FuncId → Option HandT := fun f => match T f with | some F => some (frzT F) | none => o f
theorem treeFM_ok {g : Cfg} {T : FuncId → Option (Array Value → DT (Option (Value × St)))} {o : FuncId → Option HandT} (ho : ∀ f k hd, o f = some k → g.hand f = some hd → ∀ a c s, (k a c s).eval = hd a c s) :
    ∀ f k hd, treeFM T o f = some k → (g.frzM T).hand f = some hd → ∀ a c s, (k a c s).eval = hd a c s := by
  intro f k hd h1 h2 a c s
  simp only [treeFM] at h1
  simp only [Cfg.frzM, Cfg.more] at h2
  cases hT : T f with
  | some F =>
    rw [hT] at h1 h2
    cases h1; cases h2
    rfl
  | none =>
    rw [hT] at h1 h2
    exact ho f k hd h1 h2 a c s
theorem frzM_good [Z : Zone] {g : Cfg} (hg : ∀ B, Good g B) (hng : g.ng = 0) {T : FuncId → Option (Array Value → DT (Option (Value × St)))} (hT : ∀ f F, T f = some F → (∃ i, g.fns f = some i) ∧ ∀ φ c s, @Tells (zAll Z φ c s) g f fun a => (F a).eval) (B : Base) : Good (g.frzM T) B :=
  more_good hg (fun f hd h => by
    simp only [Option.map_eq_some_iff] at h
    obtain ⟨F, hF, rfl⟩ := h
    exact ⟨(hT f F hF).1, frzM_reads hng (hT f F hF).2⟩) B
end
end Go.Am
