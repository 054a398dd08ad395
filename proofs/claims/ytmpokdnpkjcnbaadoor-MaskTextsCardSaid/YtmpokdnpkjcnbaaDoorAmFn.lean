/- From what is known behind a body to a call. -/
import Derived.Test.YtmpokdnpkjcnbaaDoorAmGc
namespace Go.Am
open Go.RowKit Go.ChangeShapes Go.WideShapes
noncomputable section
variable {Z : Zone}

section
variable {g : Cfg} {base : Base} {c : Ctx} {φ : Nat → Pl} {ω : Nat → Option Tag} {s : St} {w : World}

def frame0 (f : FuncId) (nt : Nat) (args : Array Value) : Fr := { fn := f, nt := nt, tm := args0 0 args.toList .nil, pt := .nil, loc := .nil, round := none }

theorem AWp.calls (hg : Good g base) {f : FuncId} {i : FnI} (hi : g.fns f = some i) {args args' : Array Value} (hle : args.size ≤ i.nt) {Fin : Value → St → Prop}
    (h : AWp g base c i.body (frame0 f i.nt args) s fun ex fr' s' => (ex = .normal ∨ ex = .ret) ∧ ∃ v, resultsV g c fr' s' i.results = some v ∧ Fin v s') (hs : SRel g base φ ω c s w) (ha : Arel φ c s.next args args') :
    CallsIn (FF none) 0 g.P f args' w fun e w' => ∃ v s', Fin v s' ∧ CallR g base c φ ω s s' w (.ret v) e w' := by
  obtain ⟨F, hF, hb, hn, hR, hname⟩ := hg.fns f i hi
  refine callsIn_of_wp_marks hF hb trivial ?_ rfl
  have hf : FRel φ c s.next (fun _ => 0) ω (frame0 f i.nt args) [] { tmps := args' ++ Array.replicate (F.ntmps - args'.size) undef, defers := [] } w := by
    unfold frame0
    refine ⟨?_, fun t v hv => ?_, fun t p hp => by simp [Tr.get_nil] at hp, fun d cs hd => by simp [Tr.get_nil] at hd, rfl, List.nodup_nil, fun r hr => by cases hr⟩
    · simp only [Array.size_append, Array.size_replicate]
      rw [hn, ← ha.1]; omega
    · rcases get_args0 _ _ _ _ _ hv with ⟨_, h2⟩ | h2
      · simp only [Nat.sub_zero, Array.getElem?_toList] at h2
        obtain ⟨x', hx', hr⟩ := ha.get h2
        obtain ⟨hlt, e⟩ := Array.getElem?_eq_some_iff.1 hx'
        rw [Array.getD_eq_getD_getElem?, Array.getElem?_append_left hlt, hx']; exact hr
      · simp [Tr.get_nil] at h2
  have hloc : ∀ d, (frame0 f i.nt args).loc.get d = none := fun d => Tr.get_nil d
  refine h φ ω _ [] _ w none _ hs hf rfl ?_
  intro ex fr1 s1 ⟨hex, v, hv, hfin⟩
  intro φ' ω' lam' rs' a' w' e hp he
  have fin : LeavesInM (FF none) 0 g.P F a'.tmps (fun e w' => ∃ v s', Fin v s' ∧ CallR g base c φ ω s s' w (.ret v) e w') a'.defers .returning w' := by
    rw [hp.frel.defers]
    refine leaves_marks (by simp) rs' w' hp.frel.nodup (fun r hr => (hp.frel.marks r hr).1) fun w'' hw => ?_
    have hs'' := hp.srel.shut (fun r hr => (hp.frel.marks r hr).2) (fun r hr => (hp.frel.marks r hr).1) hw
    have hf'' : FRel φ' c s1.next lam' ω' fr1 [] { a' with defers := [] } w'' := by
      refine ⟨hp.frel.size, hp.frel.tm, hp.frel.pt, fun d cs hd => ?_, rfl, List.nodup_nil, fun r hr => by cases hr⟩
      obtain ⟨ht, cs', el, hb, hA⟩ := hp.frel.own d cs hd
      refine ⟨ht, cs', el, ?_, hA⟩
      rw [hw.same _ fun hr => by have := (hp.frel.marks _ hr).2; rw [ht] at this; cases this]; exact hb
    rw [← hR] at hv
    obtain ⟨v', h1, h2⟩ := resultsV_run hs'' hf'' hv
    exact ⟨v', h1, v, s1, hfin, callR_of hp hloc hw (.ret v v' h2)⟩
  cases he with
  | normal => exact fin
  | ret => exact fin
  | exit j => rcases hex with e | e <;> cases e
  | pan v v' hv => rcases hex with e | e <;> cases e

/-- A law's call from outside: it answers true, and nothing that was there has turned. -/
theorem law_of (hg : ∀ B, Good g B) {n : Nat} {φ : Nat → Pl} {h : Tr AObj} {W : World} (L : Laid g n φ h W) {f : FuncId} {i : FnI} (hi : g.fns f = some i) {args args' : Array Value} (ha : Arel φ (ctx0 n) n args args') (hle : args.size ≤ i.nt)
    (hb : AWp g ⟨n, W.heap.size⟩ (ctx0 n) i.body (frame0 f i.nt args) ⟨h, n⟩ fun ex fr' s' => (ex = .normal ∨ ex = .ret) ∧ resultsV g (ctx0 n) fr' s' i.results = some (.bool true)) :
    Calls g.P f args' W fun e W' => e = .returned (.bool true) ∧ Below W.heap.size W W' := by
  have := AWp.calls (hg ⟨n, W.heap.size⟩) hi hle (Fin := fun v _ => v = .bool true) (hb.mono fun ex fr' s' ⟨h1, h2⟩ => ⟨h1, _, h2, rfl⟩) L.srel ha
  refine callsIn_wide.1 ((callsIn_FF (r' := none) this).mono ?_)
  rintro e W' ⟨v, s', rfl, φ', ω', _, _, _, hk, he⟩
  cases he with
  | ret v v' hv =>
    cases hv
    exact ⟨rfl, hk.os, hk.tape, hk.output, hk.size, fun b hb => (hk.same b hb (by rintro ⟨id, o, h, _⟩; cases h) (fun h => h)).1⟩
end
end
end Go.Am

/- Code in a row. -/
namespace Go.Am
noncomputable section
variable {Z : Zone}

def seqOf : List Code → Code
  | [] => .skip
  | p :: ps => .seq p (seqOf ps)
def nest : List Code → Code → Code
  | [], rest => rest
  | p :: ps, rest => .seq p (nest ps rest)

def contP : Ex → Prop → Prop → Prop
  | .normal, A, _ => A
  | _, _, B => B

section
variable {g : Cfg} {base : Base} {c : Ctx}

theorem AWp.nest (hg : ∀ B, Good g B) {n lim : Nat} {rest : Code} {ex : Ex} {fr' : Fr} {s' : St} {R : Ex → Fr → St → Prop} : ∀ (ps : List Code) (fr : Fr) (s : St), code g (call g n) lim c (seqOf ps) fr s = some (ex, fr', s') →
    (Grow c s s' → contP ex (AWp g base c rest fr' s' R) (R ex fr' s')) → AWp g base c (Go.Am.nest ps rest) fr s R := by
  intro ps
  induction ps with
  | nil =>
    intro fr s h hR
    simp only [seqOf, code, Option.some.injEq, Prod.mk.injEq] at h
    obtain ⟨rfl, rfl, rfl⟩ := h
    exact hR (Grow.refl _ _)
  | cons p ps ih =>
    intro fr s h hR
    simp only [seqOf, code] at h
    replace h := bind_some h; obtain ⟨⟨ex1, fr1, s1⟩, h1, h⟩ := h
    have hg1 : Grow c s s1 := code_grow (call_grow (hg base).hgrow n) _ _ _ _ h1
    refine AWp.seq (AWp.eval hg h1 ⟨hg1, ?_⟩)
    cases ex1 with
    | normal =>
      simp only at h ⊢
      exact ih fr1 s1 h fun hg2 => hR (hg1.trans hg2)
    | ret =>
      simp only [pure, Option.some.injEq, Prod.mk.injEq] at h
      obtain ⟨rfl, rfl, rfl⟩ := h
      exact hR hg1
    | exit i =>
      simp only [pure, Option.some.injEq, Prod.mk.injEq] at h
      obtain ⟨rfl, rfl, rfl⟩ := h
      exact hR hg1
    | pan v =>
      simp only [pure, Option.some.injEq, Prod.mk.injEq] at h
      obtain ⟨rfl, rfl, rfl⟩ := h
      exact hR hg1

/-- Code in a row, from a state that is laid. -/
theorem AWp.nestFirst (hg : ∀ B, Good g B) {k0 fl b n lim : Nat} {ps : List Code} {rest : Code} {fr : Fr} {s : St} {sel : Ex → List Tmp × List Kept} {ex : Ex} {frj : Fr} {sj : St}
    (h : gcObs k0 fl sel (code g (call g n) lim { floor := fl, own := [], hide := [] } (seqOf ps) fr s) = some (ex, frj, sj)) (hp : plainJ sj (sel ex).2 0) (hfl : fl ≤ s.next) {R : Ex → Fr → St → Prop}
    (hR : ∀ fr' s', Sn ⟨k0, b⟩ k0 fl { floor := fl, own := [], hide := [] } frj sj fr' s' → contP ex (AWp g ⟨k0, b⟩ { floor := fl, own := [], hide := [] } rest fr' s' R) (R ex fr' s')) : AWp g ⟨k0, b⟩ { floor := fl, own := [], hide := [] } (Go.Am.nest ps rest) fr s R := by
  obtain ⟨fr', s', h1, h2, h3⟩ := gcObs_some h
  have hgr : Grow { floor := fl, own := [], hide := [] } s s' := code_grow (call_grow (hg ⟨k0, b⟩).hgrow n) _ _ _ _ h1
  obtain ⟨e, V, F⟩ := gc_view h3 hp (Nat.le_trans hfl hgr.next) (b := b)
  exact AWp.nest hg ps fr s h1 fun _ => hR fr' s' ⟨e, V, F⟩

/-- By its tree. -/
theorem gcObs_tree {o : FuncId → Option HandT} (ho : ∀ f k hd, o f = some k → g.hand f = some hd → ∀ a c s, (k a c s).eval = hd a c s) {k0 fl n lim : Nat} {sel : Ex → List Tmp × List Kept} {k : Code} {fr : Fr} {s : St} :
    (codeT g (callT g o n) lim c k fr s).evalW (gcObs k0 fl sel) = gcObs k0 fl sel (code g (call g n) lim c k fr s) := by
  rw [DT.evalW_eq, codeT_eval g _ _ (callT_eval g o ho n)]

/-! ### One path of a tree -/
def followT {α : Type} : List Bool → DT α → Bool × Option α
  | _, .leaf a => (true, some a)
  | [], .node _ _ _ => (false, none)
  | [], .must _ _ _ => (false, none)
  | b :: bs, .node c t f => (cond (cond b c (!c)) (followT bs (cond b t f)).1 false, (followT bs (cond b t f)).2)
  | b :: bs, .must c t f => (cond (cond b c (!c)) (followT bs (cond b t f)).1 false, (followT bs (cond b t f)).2)
theorem followT_eval {α : Type} : ∀ (bs : List Bool) (x : DT α) {a : α}, (followT bs x).1 = true → (followT bs x).2 = some a → x.eval = a := by
  intro bs
  induction bs with
  | nil =>
    intro x a h1 h2
    cases x with
    | leaf y => simp only [followT, Option.some.injEq] at h2; exact h2
    | node c t f => cases h1
    | must c t f => cases h1
  | cons b bs ih =>
    intro x a h1 h2
    cases x with
    | leaf y => simp only [followT, Option.some.injEq] at h2; exact h2
    | node c t f =>
      simp only [followT] at h1 h2
      cases c <;> cases b <;> simp only [cond_true, cond_false, Bool.not_true, Bool.not_false, Bool.false_eq_true] at h1 h2
      · exact ih f h1 h2
      · exact ih t h1 h2
    | must c t f =>
      simp only [followT] at h1 h2
      cases c <;> cases b <;> simp only [cond_true, cond_false, Bool.not_true, Bool.not_false, Bool.false_eq_true] at h1 h2
      · exact ih f h1 h2
      · exact ih t h1 h2
/-- The path's end, seen. -/
def pathObs {α β : Type} (p : α → Option β) (bs : List Bool) (x : DT α) : Option β := match (followT bs x).2 with | some a => p a | none => none
theorem path_ok {g : Cfg} {o : FuncId → Option HandT} (ho : ∀ f k hd, o f = some k → g.hand f = some hd → ∀ a c s, (k a c s).eval = hd a c s) {k0 fl n lim : Nat} {sel : Ex → List Tmp × List Kept} {k : Code} {fr : Fr} {s : St} {bs : List Bool} {y : Ex × Fr × St}
    (h1 : (followT bs (codeT g (callT g o n) lim { floor := fl, own := [], hide := [] } k fr s)).1 = true) (h2 : pathObs (gcObs k0 fl sel) bs (codeT g (callT g o n) lim { floor := fl, own := [], hide := [] } k fr s) = some y) :
    gcObs k0 fl sel (code g (call g n) lim { floor := fl, own := [], hide := [] } k fr s) = some y := by
  unfold pathObs at h2
  split at h2
  · rename_i a ha
    have := followT_eval _ _ h1 ha
    rw [codeT_eval g _ _ (callT_eval g o ho n)] at this
    rw [this]; exact h2
  · cases h2

/-! ### Parts of code -/
def cL : Code → Code
  | .seq a _ => a
  | c => c
def cR : Code → Code
  | .seq _ b => b
  | c => c
def cB : Code → Code
  | .block _ a => a
  | .loop a => a
  | c => c
end
end
end Go.Am

/- Functions that only read: told by what they answer, whatever the state. -/
namespace Go.Am
noncomputable section
variable {Z : Zone}

section
variable {g : Cfg} {base : Base} {c : Ctx} {φ : Nat → Pl} {ω : Nat → Option Tag} {s : St} {w : World}

/-- A call that is seen in a state where nothing that is seen may be written. -/
theorem read_call (hg : ∀ B, Good g B) (hng : g.ng = 0) {f : FuncId} {i : FnI} (hi : g.fns f = some i) {si : St} {e : Nat → Nat} {k0 : Nat} (V : View base k0 c s { floor := si.next, own := [], hide := [] } si e) {argsi args args' : Array Value} (hle : argsi.size ≤ i.nt)
    (hsz : argsi.size = args.size) (hr : ∀ (k : Nat) x x', argsi[k]? = some x → args[k]? = some x' → VRen e si.next x x') {v : Value} (hv : plainN 9 v = true)
    (h : AWp g ⟨k0, base.blk⟩ { floor := si.next, own := [], hide := [] } i.body (frame0 f i.nt argsi) si fun ex fr' s' => (ex = .normal ∨ ex = .ret) ∧ resultsV g { floor := si.next, own := [], hide := [] } fr' s' i.results = some v)
    (hs : SRel g base φ ω c s w) (ha : Arel φ c s.next args args') : CallsIn (FF none) 0 g.P f args' w (CallR g base c φ ω s s w (.ret v)) := by
  have hsi := V.open_ hng hs
  have hai : Arel (fun i => φ (e i)) { floor := si.next, own := [], hide := [] } si.next argsi args' := Arel.seen rfl hsz hr ha
  have := AWp.calls (hg ⟨k0, base.blk⟩) hi hle (Fin := fun u _ => u = v) (h.mono fun ex fr' s' ⟨h1, h2⟩ => ⟨h1, _, h2, rfl⟩) hsi hai
  refine this.mono ?_
  rintro en w' ⟨u, s', rfl, φ', ω', hag, hnx, hsr, hk, he⟩
  have hsame : ∀ b, b < w.heap.size → w'.heap[b]? = w.heap[b]? := fun b hb => (hk.same b hb (by
    rintro ⟨j, o, _, h2, _, h4⟩
    have h5 := (V.obj j o h4).1
    simp [Ctx.wr] at h2
    omega) (fun h => h)).1
  cases he with
  | ret _ v' hv' =>
    rw [plain_eq 9 _ _ hv hv']
    exact ⟨φ, ω, fun _ _ => rfl, Nat.le_refl _, hs.below hk.size hsame, ⟨hk.os, hk.tape, hk.output, hk.size, fun b hb _ _ => ⟨hsame b hb, rfl⟩⟩, .ret _ _ (plain_rel _ _ _ 9 u hv)⟩

/-- More hands: calls that only read. -/
def Cfg.more (g : Cfg) (T : FuncId → Option Hand) : Cfg := { g with hand := fun f => match T f with | some hd => some hd | none => g.hand f }

variable [Z]
/-- What a hand of a reader has to keep to. -/
def Reads (g : Cfg) (f : FuncId) (hd : Hand) : Prop :=
  ∀ base args c s r s', hd args c s = some (r, s') → s' = s ∧ ∀ φ ω w args', SRel g base φ ω c s w → Arel φ c s.next args args' → CallsIn (FF none) 0 g.P f args' w (CallR g base c φ ω s s w r)
variable {Z}

theorem more_good (hg : ∀ B, Good g B) {T : FuncId → Option Hand} (hT : ∀ f hd, T f = some hd → (∃ i, g.fns f = some i) ∧ Reads g f hd) (B : Base) : Good (g.more T) B where
  fns := (hg B).fns
  hgrow f hd h args c s r hr := by
    simp only [Cfg.more] at h
    split at h
    · rename_i hd' hF
      cases h
      obtain ⟨r1, s1⟩ := r
      obtain ⟨rfl, _⟩ := (hT f hd hF).2 B args c s r1 s1 hr
      exact Grow.refl _ _
    · exact (hg B).hgrow f hd h args c s r hr
  hand f hd h := by
    simp only [Cfg.more] at h
    split at h
    · rename_i hd' hF
      cases h
      intro args c s r s' hr φ ω w args' hs ha
      obtain ⟨⟨i, hi⟩, hR⟩ := hT f hd hF
      obtain ⟨rfl, hC⟩ := hR B args c s r s' hr
      obtain ⟨Fn, hFn, hb, _, _, hname⟩ := (hg B).fns f i hi
      exact ⟨f, args', run_callFunc hFn hb hname _, (hC φ ω w args' (SRel.cfg (g := g.more T) (g' := g) rfl hs) ha).mono fun e W' hR => CallR.cfg (g := g) (g' := g.more T) rfl hR⟩
    · intro args c s r s' hr φ ω w args' hs ha
      obtain ⟨f', as', h1, h2⟩ := (hg B).hand f hd h args c s r s' hr φ ω w args' (SRel.cfg (g := g.more T) (g' := g) rfl hs) ha
      exact ⟨f', as', h1, h2.mono fun e W' hR => CallR.cfg (g := g) (g' := g.more T) rfl hR⟩
end
end
end Go.Am
