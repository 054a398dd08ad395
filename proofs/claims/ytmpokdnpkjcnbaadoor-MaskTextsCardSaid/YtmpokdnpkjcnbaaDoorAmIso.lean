/- Calls apart: a function of plain values, reckoned on a heap of its own, may be told by what it answers. -/
import Derived.Test.YtmpokdnpkjcnbaaDoorAmLaw
import Derived.Test.YtmpokdnpkjcnbaaDoorAmSym
namespace Go.Am
open Go.RowKit Go.ChangeShapes Go.WideShapes
noncomputable section
variable {Z : Zone}

/-- An empty heap. -/
def st0 : St := ⟨.nil, 0⟩

/-- What a call apart tells: plain values in; out comes a plain value, or one fresh slice of plain values. -/
def Apart (g : Cfg) (f : FuncId) (F : Array Value → DT (Option (Value × St))) : Prop :=
  ∀ args x, (F args).eval = some x → args.all (freeN 9) = true ∧ ∃ n v s', call g n (.func (.func f) #[] #[]) args (ctx0 0) st0 = some (.ret v, s') ∧ shed st0 s' v = some x

/-- The same, in the caller's state. -/
def landed (s : St) (x : Value × St) : Option (Outc × St) :=
  match x.1 with
  | .slice (some ⟨0, 0, none⟩) l cp => (match x.2.heap.get 0 with
    | some (.cells cs sz sp) => some (.ret (.slice (some ⟨s.next, 0, none⟩) l cp), s.new (.cells cs sz sp))
    | _ => none)
  | v => some (.ret v, s)

def apartT (F : Array Value → DT (Option (Value × St))) : Array Value → Ctx → St → DT (Option (Outc × St)) := fun args _ s => (F args).andThen fun x => .leaf (landed s x)
def apartHand (F : Array Value → DT (Option (Value × St))) : Hand := fun args _ s => (F args).eval.bind (landed s)
theorem apartT_eval (F : Array Value → DT (Option (Value × St))) (args : Array Value) (c : Ctx) (s : St) : (apartT F args c s).eval = apartHand F args c s :=
  DT.eval_andThen _ _ _ fun _ => rfl

theorem Arel.free {φ φ' : Nat → Pl} {c c' : Ctx} {n n' : Nat} {a a' : Array Value} {d : Nat} (h : Arel φ c n a a') (hp : a.all (freeN d) = true) : Arel φ' c' n' a a' :=
  ⟨h.1, fun i x x' hx hx' => free_move d x x' (all_get hp hx) (h.2 i x x' hx hx')⟩
theorem Arel.plain {φ : Nat → Pl} {c : Ctx} {n : Nat} {a a' : Array Value} {d : Nat} (h : Arel φ c n a a') (hp : a.all (plainN d) = true) : a' = a :=
  arr_ext h.1 fun i x x' hx hx' => plain_eq d x x' (all_get hp hx) (h.2 i x x' hx hx')

section
variable {g : Cfg} {base : Base} {c : Ctx} {φ : Nat → Pl} {ω : Nat → Option Tag} {s : St} {w w' : World}

theorem SRel.cfg {g' : Cfg} (hng : g'.ng = g.ng) (h : SRel g base φ ω c s w) : SRel g' base φ ω c s w :=
  { dom := h.dom, bn := h.bn, bf := h.bf, vlow := h.vlow, vnew := h.vnew, bw := h.bw, obj := h.obj, low := h.low, tag := h.tag, tags := h.tags, glob := fun i hi => h.glob i (by rw [← hng]; exact hi), zone := h.zone, nosame := h.nosame, isreal := h.isreal }

theorem CallR.cfg {g' : Cfg} (hng : g'.ng = g.ng) {s' : St} {r : Outc} {e : Ending} (h : CallR g base c φ ω s s' w r e w') : CallR g' base c φ ω s s' w r e w' := by
  obtain ⟨φ', ω', h1, h2, h3, h4, h5⟩ := h
  exact ⟨φ', ω', h1, h2, h3.cfg hng, h4, h5⟩

/-- The world has grown: what was known is known. -/
theorem SRel.below (hs : SRel g base φ ω c s w) (hz : w.heap.size ≤ w'.heap.size) (hb : ∀ b, b < w.heap.size → w'.heap[b]? = w.heap[b]?) : SRel g base φ ω c s w' :=
  SRel.move hs hz (fun b hlt _ => ⟨hb b hlt, rfl⟩) (fun b t h => by
    obtain ⟨x, y, z⟩ := hs.tags b t h
    exact ⟨x, Nat.lt_of_lt_of_le y hz, z⟩)

theorem landed_sim {s0 : St} {v : Value} {x : Value × St} {r : Outc × St} {φ0 : Nat → Pl} {ω0 : Nat → Option Tag} (hω0 : ∀ b, ω0 b = none) (hx : shed st0 s0 v = some x) (hr : landed s x = some r) (hs : SRel g base φ ω c s w) {e : Ending}
    (hc : CallR g ⟨0, w.heap.size⟩ (ctx0 0) φ0 ω0 st0 s0 w (.ret v) e w') : CallR g base c φ ω s r.2 w r.1 e w' := by
  obtain ⟨φ', ω', hag, hnx, hsr, hk, he⟩ := hc
  cases he with
  | ret v v' hv =>
  have hsame : ∀ b, b < w.heap.size → w'.heap[b]? = w.heap[b]? := fun b hb => (hk.same b hb (by rintro ⟨id, o, h, _⟩; rw [hω0] at h; cases h) (fun h => h)).1
  have hback := hs.below hk.size hsame
  have hkeep : ∀ ω2 : Nat → Option Tag, (∀ b, b < w.heap.size → ω2 b = ω b) → Keep ω ω2 c s (fun _ => False) w w' := fun ω2 h => ⟨hk.os, hk.tape, hk.output, hk.size, fun b hb _ _ => ⟨hsame b hb, h b hb⟩⟩
  unfold shed at hx
  split at hx
  · rename_i id l cp
    split at hx
    · rename_i cs sz sp hg
      split at hx
      · rename_i hcnd
        simp only [Bool.and_eq_true, decide_eq_true_eq] at hcnd
        cases hx
        unfold landed at hr
        have h0 : (st0.new (.cells cs sz sp)).heap.get 0 = some (.cells cs sz sp) := by
          show (Tr.put Tr.nil 0 (AObj.cells cs sz sp)).get 0 = _
          rw [Tr.get_put]; rfl
        simp only [st0, Nat.lt_irrefl] at hr
        rw [show (({ heap := Tr.nil, next := 0 } : St).new (.cells cs sz sp)) = st0.new (.cells cs sz sp) from rfl, h0] at hr
        simp only [Option.some.injEq] at hr
        subst hr
        have hvis : (ctx0 0).vis id = true := rfl
        have hobj := hsr.obj id _ hg hvis
        have hφ : ∀ i, i < s.next → upd φ s.next (φ' id) i = φ i := fun i hi => upd_ne _ _ (by omega)
        have hv' : v' = .slice (some ⟨(φ' id).blk, (φ' id).off + 0, none⟩) l (cp + (φ' id).ex) := by cases hv; rfl
        have hplain : ∀ {i : Nat} {y y' : Value}, cs[i]? = some y → Vrel φ' (ctx0 0) s0.next y y' → Vrel (upd φ s.next (φ' id)) c (s.next + 1) y y' := fun hy hr => by
          have hp := all_get hcnd.2 hy
          exact free_move 6 _ _ hp hr
        have hres : Vrel (upd φ s.next (φ' id)) c (s.next + 1) (.slice (some ⟨s.next, 0, none⟩) l cp) v' := by
          rw [hv']
          have := Vrel.slice (φ := upd φ s.next (φ' id)) (c := c) (n := s.next + 1) s.next 0 l cp ⟨Nat.lt_succ_self _, hs.vnew _ (Nat.le_refl _)⟩
          rw [upd_self] at this
          exact this
        by_cases hso : cs.size ≠ 0 ∨ sp = true
        · have ht := hsr.tag id _ hg hvis (Nat.zero_le _) hso
          have hlt := (hsr.tags _ _ ht).1
          have hlt2 := (hsr.tags _ _ ht).2.1
          simp only at hlt
          refine ⟨upd φ s.next (φ' id), fun b => if b = (φ' id).blk then some (.obj s.next) else ω b, hφ, by simp [St.new], ?_, hkeep _ (fun b hb => by rw [if_neg (by omega)]), .ret _ _ hres⟩
          refine SRel.putObj hback (Nat.le_refl _) hs.bn (Nat.lt_succ_self _) (Nat.le_succ _) hφ (fun b hb hle => ⟨rfl, ?_⟩) (fun _ => ?_) (fun _ _ => ?_) (fun b t htt => ?_)
          · rw [if_neg]
            rintro rfl
            rcases hle with hle | hle | ⟨i, o, hi, hvi, hbi', hsoi, hti, _⟩
            · have := (hs.tags _ _ hle).2.1; omega
            · have := hs.bw; omega
            · have := (hs.tags _ _ hti).2.1; omega
          · refine ⟨fun e => by rw [upd_self]; exact hobj.1 e, fun e => ?_⟩
            obtain ⟨cs', el, fz, h1, h2, h3, h4⟩ := hobj.2 e
            rw [upd_self]
            exact ⟨cs', el, fz, h1, fun _ => h2 (Nat.zero_le _), h3, fun i y hy => let ⟨y', p, q⟩ := h4 i y hy; ⟨y', p, hplain hy q⟩⟩
          · simp only [upd_self, if_true]
          · split at htt
            · rename_i e; cases htt; subst e
              exact ⟨Nat.le_trans hs.bw hlt, hlt2, fun i hi => by cases hi; exact Nat.lt_succ_self _⟩
            · obtain ⟨p, q, r⟩ := hback.tags b t htt
              exact ⟨p, q, fun i hi => Nat.lt_succ_of_lt (r i hi)⟩
        · refine ⟨upd φ s.next (φ' id), ω, hφ, by simp [St.new], ?_, hkeep _ (fun _ _ => rfl), .ret _ _ hres⟩
          refine SRel.putObj hback (Nat.le_refl _) hs.bn (Nat.lt_succ_self _) (Nat.le_succ _) hφ (fun b hb hle => ⟨rfl, rfl⟩) (fun _ => ?_) (fun _ e => (hso e).elim) (fun b t htt => ?_)
          · exact ⟨fun e => by rw [upd_self]; exact hobj.1 e, fun e => (hso e).elim⟩
          · obtain ⟨p, q, r⟩ := hback.tags b t htt
            exact ⟨p, q, fun i hi => Nat.lt_succ_of_lt (r i hi)⟩
      · cases hx
    · cases hx
  · split at hx
    · rename_i hne hp
      cases hx
      have hl : landed s (v, st0) = some (.ret v, s) := by
        unfold landed
        split
        · rename_i l cp e
          exact (hne _ _ _ e).elim
        · rfl
      have hr' := Option.some.inj (hl.symm.trans hr)
      subst hr'
      exact ⟨φ, ω, fun _ _ => rfl, Nat.le_refl _, hback, hkeep _ (fun _ _ => rfl), .ret _ _ (free_move 9 _ _ hp hv)⟩
    · cases hx

theorem apart_hand {g' : Cfg} (hg : ∀ B, Go.Am.Good g B) (hng : g.ng = 0) (hP : g'.P = g.P) (hng' : g'.ng = g.ng) {f : FuncId} {i : FnI} (hh : g.hand f = none) (hi : g.fns f = some i) {F : Array Value → DT (Option (Value × St))} (hF : Apart g f F) :
    ∀ args c s r s', apartHand F args c s = some (r, s') → ∀ φ ω w args', SRel g' base φ ω c s w → Arel φ c s.next args args' →
      ∃ f' as', (callFunc f args').run g'.P w = .ok (.enter f' as') w ∧ CallsIn (FF none) 0 g'.P f' as' w (CallR g' base c φ ω s s' w r) := by
  intro args c s r s' h φ ω w args' hs ha
  unfold apartHand at h
  obtain ⟨x, hx, hl⟩ := Option.bind_eq_some_iff.1 h
  obtain ⟨hp, n, v, s1, hcall, hsh⟩ := hF args x hx
  have he := ha.free (φ' := fun _ => ⟨0, 0, 0⟩) (c' := ctx0 0) (n' := 0) hp
  obtain ⟨Fn, hFn, hb, _, _, hname⟩ := (hg ⟨0, w.heap.size⟩).fns f i hi
  rw [hP]
  refine ⟨f, args', run_callFunc hFn hb hname _, ?_⟩
  obtain ⟨nx, hnx, hact⟩ := call_ok (hg ⟨0, w.heap.size⟩) n _ _ _ _ _ _ hcall (fun _ => ⟨0, 0, 0⟩) (fun _ => none) w (.func (.func f) #[] #[]) args' (Laid.nil hng w (zone_of hs)).srel
    (.func f #[] #[] #[] #[] rfl rfl (fun i x x' h => by simp at h) (fun i x x' h => by simp at h)) he
  simp only [Deferred.ofValue, Sem.run_bind, Sem.run_pure, Result.andThen_ok, invoke, run_callFunc hFn hb hname, Array.empty_append, Array.append_empty] at hnx
  cases hnx
  refine hact.mono fun e W' hR => ?_
  exact (landed_sim (fun _ => rfl) hsh hl (hs.cfg hng'.symm) hR).cfg hng'

/-- More calls apart. -/
def Cfg.told (g : Cfg) (T : FuncId → Option (Array Value → DT (Option (Value × St)))) : Cfg := { g with hand := fun f => match T f with | some F => some (apartHand F) | none => g.hand f }

theorem told_good (hg : ∀ B, Go.Am.Good g B) (hng : g.ng = 0) {T : FuncId → Option (Array Value → DT (Option (Value × St)))} (hT : ∀ f F, T f = some F → g.hand f = none ∧ (∃ i, g.fns f = some i) ∧ Apart g f F) (B : Base) : Go.Am.Good (g.told T) B where
  fns := (hg B).fns
  hgrow f hd h args c s r hr := by
    simp only [Cfg.told] at h
    split at h
    · rename_i F hF
      cases h
      unfold apartHand at hr
      obtain ⟨x, _, hl⟩ := Option.bind_eq_some_iff.1 hr
      unfold landed at hl
      split at hl
      · split at hl
        · cases hl; exact Grow.new _ _ _
        · cases hl
      · cases hl; exact Grow.refl _ _
    · exact (hg B).hgrow f hd h args c s r hr
  hand f hd h := by
    simp only [Cfg.told] at h
    split at h
    · rename_i F hF
      cases h
      obtain ⟨hh, ⟨i, hi⟩, hA⟩ := hT f F hF
      exact apart_hand (g' := g.told T) hg hng rfl rfl hh hi hA
    · intro args c s r s' hr φ ω w args' hs ha
      obtain ⟨f', as', h1, h2⟩ := (hg B).hand f hd h args c s r s' hr φ ω w args' (SRel.cfg (g := g.told T) (g' := g) rfl hs) ha
      exact ⟨f', as', h1, h2.mono fun e W' hR => CallR.cfg (g := g) (g' := g.told T) rfl hR⟩
end

/-! ### Trees, looked at -/
def DT.evalW {α β : Type} (p : α → β) (x : DT α) : β := DT.rec (motive := fun _ => β) p (fun c _ _ t f => cond c t f) (fun c _ _ t f => cond c t f) x
theorem DT.evalW_must {α β : Type} (p : α → β) (c : Bool) (t f : DT α) : (DT.must c t f).evalW p = cond c (t.evalW p) (f.evalW p) := rfl
theorem DT.evalW_node {α β : Type} (p : α → β) (c : Bool) (t f : DT α) : (DT.node c t f).evalW p = cond c (t.evalW p) (f.evalW p) := rfl
theorem DT.evalW_eq {α β : Type} (p : α → β) (x : DT α) : x.evalW p = p x.eval := by
  induction x with
  | leaf a => rfl
  | node c t f it jf => cases c <;> simp [DT.evalW_node, DT.eval_node, it, jf]
  | must c t f it jf => cases c <;> simp [DT.evalW_must, DT.eval_must, it, jf]
/-- The same, but for sides that are not looked at. -/
def DT.evalM {α β : Type} (p : α → Option β) (x : DT α) : Option β := DT.rec (motive := fun _ => Option β) p (fun c _ _ t f => cond c t f) (fun c _ _ t _ => cond c t none) x
theorem DT.evalM_some {α β : Type} (p : α → Option β) (x : DT α) {y : β} (h : x.evalM p = some y) : p x.eval = some y := by
  induction x with
  | leaf a => exact h
  | node c t f it jf =>
    have h' : cond c (t.evalM p) (f.evalM p) = some y := h
    cases c with
    | true => exact it h'
    | false => exact jf h'
  | must c t f it jf =>
    have h' : cond c (t.evalM p) none = some y := h
    cases c with
    | true => exact it h'
    | false => cases h'

/-- What a call apart leaves. -/
def seenOf : Option (Outc × St) → Option (Value × St)
  | some (.ret v, s') => shed st0 s' v
  | _ => none
theorem of_seenOf {r : Option (Outc × St)} {x : Value × St} (h : seenOf r = some x) : ∃ v s', r = some (.ret v, s') ∧ shed st0 s' v = some x := by
  unfold seenOf at h
  split at h
  · exact ⟨_, _, rfl, h⟩
  · cases h

def noT : FuncId → Option HandT := fun _ => none
theorem noT_ok {g : Cfg} : ∀ f k hd, noT f = some k → g.hand f = some hd → ∀ a c s, (k a c s).eval = hd a c s := fun f k hd h => by cases h

/-- the tree of calls apart -/
def treeT (T : FuncId → Option (Array Value → DT (Option (Value × St)))) (o : FuncId → Option HandT) : FuncId → Option HandT := fun f => match T f with | some F => some (apartT F) | none => o f
theorem treeT_ok {g : Cfg} {T : FuncId → Option (Array Value → DT (Option (Value × St)))} {o : FuncId → Option HandT} (ho : ∀ f k hd, o f = some k → g.hand f = some hd → ∀ a c s, (k a c s).eval = hd a c s) :
    ∀ f k hd, treeT T o f = some k → (g.told T).hand f = some hd → ∀ a c s, (k a c s).eval = hd a c s := by
  intro f k hd h1 h2 a c s
  simp only [treeT] at h1
  simp only [Cfg.told] at h2
  cases hT : T f with
  | some F =>
    rw [hT] at h1 h2
    cases h1; cases h2
    exact apartT_eval F a c s
  | none =>
    rw [hT] at h1 h2
    exact ho f k hd h1 h2 a c s

/-- A call apart, by its tree. -/
theorem apart_of {g : Cfg} {o : FuncId → Option HandT} (ho : ∀ f k hd, o f = some k → g.hand f = some hd → ∀ a c s, (k a c s).eval = hd a c s) {f : FuncId} {n : Nat} {args : Array Value} {x : Value × St}
    (h : (callT g o n (.func (.func f) #[] #[]) args (ctx0 0) st0).evalW seenOf = some x) : ∃ n v s', call g n (.func (.func f) #[] #[]) args (ctx0 0) st0 = some (.ret v, s') ∧ shed st0 s' v = some x := by
  rw [DT.evalW_eq, callT_eval g o ho] at h
  obtain ⟨v, s', h1, h2⟩ := of_seenOf h
  exact ⟨n, v, s', h1, h2⟩
end
end Go.Am
