/- What is known behind some code: rules, for loops whose rounds are not known, above all. -/
import Derived.Test.YtmpokdnpkjcnbaaDoorAmView
import Derived.Test.YtmpokdnpkjcnbaaDoorAmDraw
namespace Go.Am
noncomputable section
variable {Z : Zone}

section
variable {g : Cfg} {base : Base} {c : Ctx} {φ : Nat → Pl} {ω : Nat → Option Tag} {lam : Nat → Nat} {fr : Fr} {s : St} {rs : List Nat} {a : Act} {w w' : World}

/-! ### Frames, seen -/
variable [Z]
structure FView (e : Nat → Nat) (m : Nat) (fr fri : Fr) : Prop where
  fn : fri.fn = fr.fn
  nt : fri.nt = fr.nt
  tm : ∀ t v, fri.tm.get t = some v → ∃ v', fr.tm.get t = some v' ∧ VRen e m v v'
  pt : ∀ t p, fri.pt.get t = some p → fr.pt.get t = some p ∧ ∃ cs, fri.loc.get p.1 = some cs
  loc : ∀ d cs, fri.loc.get d = some cs → ∃ cs', fr.loc.get d = some cs' ∧ cs.size = cs'.size ∧ ∀ (k : Nat) x x', cs[k]? = some x → cs'[k]? = some x' → VRen e m x x'
  round : match fri.round with | none => fr.round = none | some i => i < m ∧ fr.round = some (e i)
variable {Z}

theorem Arel.seen {e : Nat → Nat} {m n : Nat} {ci : Ctx} (hci : ci.hide = []) {cs cs' cs'' : Array Value} (hsz : cs.size = cs'.size) (h : ∀ (k : Nat) x x', cs[k]? = some x → cs'[k]? = some x' → VRen e m x x') (hr : Arel φ c n cs' cs'') : Arel (fun i => φ (e i)) ci m cs cs'' :=
  ⟨hsz.trans hr.1, arr_trans (R := VRen e m) (S := fun x y => Vrel φ c n x y) hsz hr.1 h hr.2 fun i x y z hx hy hz h1 h2 => h1.comp hci h2⟩
theorem Arel.back {e : Nat → Nat} {m n : Nat} {ci : Ctx} {φi : Nat → Pl} (hi : ∀ i, i < m → In c n (e i) ∧ φ (e i) = φi i) {cs cs' cs'' : Array Value} (hsz : cs.size = cs'.size) (h : ∀ (k : Nat) x x', cs[k]? = some x → cs'[k]? = some x' → VRen e m x x') (hr : Arel φi ci m cs cs'') : Arel φ c n cs' cs'' := by
  refine ⟨hsz.symm.trans hr.1, fun i y z hy hz => ?_⟩
  have hlt : i < cs.size := by obtain ⟨h, _⟩ := Array.getElem?_eq_some_iff.1 hy; omega
  exact (h i _ y (Array.getElem?_eq_getElem hlt) hy).back hi (hr.2 i _ z (Array.getElem?_eq_getElem hlt) hz)

theorem tagsIn_loc {e : Nat → Nat} {m b : Nat} {t : Tag} (ht : ∀ i, t ≠ .obj i) (h : ω b = some t) : tagsIn e m ω b = some t := by
  unfold tagsIn
  rw [h]
  cases t with
  | obj i => exact (ht i rfl).elim
  | _ => rfl

theorem FView.open_ {e : Nat → Nat} {m : Nat} {ci : Ctx} {fri : Fr} (F : FView e m fr fri) (hci : ci.hide = []) (hf : FRel φ c s.next lam ω fr rs a w) : FRel (fun i => φ (e i)) ci m lam (tagsIn e m ω) fri rs a w where
  size := by rw [F.nt]; exact hf.size
  tm t v h := by
    obtain ⟨v', h1, h2⟩ := F.tm t v h
    exact h2.comp hci (hf.tm t v' h1)
  pt t p h := by
    obtain ⟨h1, h2⟩ := F.pt t p h
    exact ⟨h2, (hf.pt t p h1).2⟩
  own d cs h := by
    obtain ⟨cs', h1, h2, h3⟩ := F.loc d cs h
    obtain ⟨ht, cs'', el, hb, hA⟩ := hf.own d cs' h1
    exact ⟨tagsIn_loc (fun i h => by cases h) ht, cs'', el, hb, hA.seen hci h2 h3⟩
  defers := hf.defers
  nodup := hf.nodup
  marks r hr := ⟨(hf.marks r hr).1, tagsIn_loc (fun i h => by cases h) (hf.marks r hr).2⟩

theorem FView.round_ {e : Nat → Nat} {m : Nat} {fri : Fr} {ro : Option Nat} {n : Nat} (F : FView e m fr fri) (h : RoundOk φ n ro fr) : RoundOk (fun i => φ (e i)) m ro fri := by
  have hr := F.round
  unfold RoundOk at *
  cases hf : fri.round with
  | none => rw [hf] at hr; simp only at hr ⊢; rw [hr] at h; exact h
  | some i =>
    rw [hf] at hr
    simp only at hr ⊢
    rw [hr.2] at h
    exact ⟨hr.1, h.2⟩

/-! ### What stands for the state that is come to, laid -/
def Tr.mapT {α β : Type} (f : α → β) : Tr α → Tr β
  | .nil => .nil
  | .node l v r => .node (l.mapT f) (v.map f) (r.mapT f)
theorem Tr.get_mapT {α β : Type} (f : α → β) : ∀ (t : Tr α) (k : Nat), (t.mapT f).get k = (t.get k).map f := by
  intro t
  induction t with
  | nil => intro k; rfl
  | node l v r il ir =>
    intro k
    simp only [Tr.mapT, Tr.get_node, il, ir]
    split
    · rfl
    · split <;> rfl

variable [Z]
open Classical in
def renV (e : Nat → Nat) (n : Nat) (v : Value) : Value := if h : ∃ v', VRen e n v v' then Classical.choose h else undef
variable {Z}

theorem renV_ok {e : Nat → Nat} {n : Nat} {v : Value} (h : ∃ v', VRen e n v v') : VRen e n v (renV e n v) := by
  unfold renV
  rw [dif_pos h]
  exact Classical.choose_spec h
variable [Z]
def renO (e : Nat → Nat) (n : Nat) : AObj → AObj
  | .cells cs sz sp => .cells (cs.map (renV e n)) sz sp
  | .map es => .map (es.map fun p => (p.1, renV e n p.2))
  | .loop r => .loop { r with tm := r.tm.mapT (renV e n) }
variable {Z}

theorem renO_ok {e : Nat → Nat} {n i : Nat} {ci : Ctx} {ωi : Nat → Option Tag} {o : AObj} (h : ORel φ ci n base i ωi w o) : ObRen e n o (renO e n o) ∧ ∀ r r', o = .loop r → renO e n o = .loop r' → ∀ t v', r'.tm.get t = some v' → ∃ v, r.tm.get t = some v ∧ VRen e n v v' := by
  cases o with
  | cells cs sz sp =>
    refine ⟨⟨rfl, rfl, by simp, fun k x x' hx hx' => ?_⟩, fun r r' h => by cases h⟩
    rw [Array.getElem?_map, hx] at hx'
    simp only [Option.map_some, Option.some.injEq] at hx'
    subst hx'
    refine renV_ok ?_
    obtain ⟨hk, _⟩ := Array.getElem?_eq_some_iff.1 hx
    obtain ⟨cs', el, fz, _, _, _, h4⟩ := h.2 (.inl (by omega))
    obtain ⟨y, _, hy⟩ := h4 k x hx
    exact ren_ex e hy
  | map es =>
    refine ⟨⟨by simp, fun k p p' hp hp' => ?_⟩, fun r r' h => by cases h⟩
    rw [List.getElem?_map, hp] at hp'
    simp only [Option.map_some, Option.some.injEq] at hp'
    subst hp'
    refine ⟨rfl, renV_ok ?_⟩
    obtain ⟨es', cl, _, _, h3⟩ := h
    obtain ⟨y, _, _, _, hy⟩ := h3 k p hp
    exact ren_ex e hy
  | loop r =>
    obtain ⟨L, _, _, _, _, _, _, _, h8⟩ := h
    have key : ∀ t v, r.tm.get t = some v → VRen e n v (renV e n v) := fun t v hv => renV_ok (ren_ex e (h8 t v hv))
    refine ⟨⟨rfl, rfl, rfl, rfl, rfl, rfl, fun t v hv => ⟨_, by show (r.tm.mapT _).get t = _; rw [Tr.get_mapT, hv]; rfl, key t v hv⟩⟩, fun r1 r2 h1 h2 t v' hv' => ?_⟩
    cases h1; cases h2
    simp only at hv'
    rw [Tr.get_mapT] at hv'
    obtain ⟨v, a, b⟩ := Option.map_eq_some_iff.1 hv'
    exact ⟨v, a, by rw [← b]; exact key t v a⟩

/-- The heap, with what the view has come to. -/
def bld (sel : Nat → Bool) (e' : Nat → Nat) (F : Nat → Option AObj) : Nat → Tr AObj → Tr AObj
  | 0, t => t
  | n + 1, t => if sel n then (bld sel e' F n t).set (e' n) (F n) else bld sel e' F n t
theorem bld_out {sel : Nat → Bool} {e' : Nat → Nat} {F : Nat → Option AObj} {t : Tr AObj} {id : Nat} : ∀ {n : Nat}, (∀ i, i < n → sel i = true → e' i ≠ id) → (bld sel e' F n t).get id = t.get id := by
  intro n
  induction n with
  | zero => intro _; rfl
  | succ n ih =>
    intro h
    simp only [bld]
    split
    · rename_i hs
      rw [Tr.get_set, if_neg (fun e => h n (Nat.lt_succ_self _) hs e.symm), ih fun i hi => h i (Nat.lt_succ_of_lt hi)]
    · exact ih fun i hi => h i (Nat.lt_succ_of_lt hi)
theorem bld_in {sel : Nat → Bool} {e' : Nat → Nat} {F : Nat → Option AObj} {t : Tr AObj} : ∀ {n : Nat}, (∀ i j, i < n → j < n → e' i = e' j → i = j) → ∀ i, i < n → sel i = true → (bld sel e' F n t).get (e' i) = F i := by
  intro n
  induction n with
  | zero => intro _ i h; omega
  | succ n ih =>
    intro hinj i hi hs
    simp only [bld]
    by_cases e : i = n
    · subst e
      rw [if_pos hs, Tr.get_set, if_pos rfl]
    · have := ih (fun i j hi hj => hinj i j (by omega) (by omega)) i (by omega) hs
      split
      · rw [Tr.get_set, if_neg (fun h => e (hinj i n (by omega) (by omega) h)), this]
      · exact this

theorem VRen.up {e e' : Nat → Nat} {m n : Nat} (hmn : m ≤ n) (he : ∀ i, i < m → e' i = e i) {v v' : Value} (h : VRen e m v v') : VRen e' n v v' :=
  Vrel.conv (Z := idZone) (fun i hi => ⟨⟨Nat.lt_of_lt_of_le hi.1 hmn, rfl⟩, by simp only [emb]; rw [he i hi.1]⟩) h
theorem ObRen.up {e e' : Nat → Nat} {m n : Nat} (hmn : m ≤ n) (he : ∀ i, i < m → e' i = e i) {o o' : AObj} (h : ObRen e m o o') : ObRen e' n o o' := by
  cases o with
  | cells cs sz sp => cases o' with
    | cells cs' sz' sp' => exact ⟨h.1, h.2.1, h.2.2.1, fun k x x' hx hx' => (h.2.2.2 k x x' hx hx').up hmn he⟩
    | _ => exact h.elim
  | map es => cases o' with
    | map es' => exact ⟨h.1, fun k p p' hp hp' => ⟨(h.2 k p p' hp hp').1, (h.2 k p p' hp hp').2.up hmn he⟩⟩
    | _ => exact h.elim
  | loop r => cases o' with
    | loop r' =>
      obtain ⟨b1, b2, b3, b4, b5, b6, b7⟩ := h
      exact ⟨b1, b2, b3, b4, b5, b6, fun t v hv => let ⟨v', p, q⟩ := b7 t v hv; ⟨v', p, q.up hmn he⟩⟩
    | _ => exact h.elim

/-! ### What is known behind some code -/
variable [Z]
def AWp (g : Cfg) (base : Base) (c : Ctx) (k : Code) (fr : Fr) (s : St) (R : Ex → Fr → St → Prop) : Prop :=
  ∀ φ ω lam rs a w ro Q, SRel g base φ ω c s w → FRel φ c s.next lam ω fr rs a w → RoundOk φ s.next ro fr → (∀ ex fr' s', R ex fr' s' → CodeQ g base c φ ω lam fr s rs w ex fr' s' Q) → k.wpIn (FF ro) 0 g.P Q a w
variable {Z}

theorem AWp.mono {k : Code} {R R' : Ex → Fr → St → Prop} (h : AWp g base c k fr s R) (hR : ∀ ex fr' s', R ex fr' s' → R' ex fr' s') : AWp g base c k fr s R' :=
  fun φ ω lam rs a w ro Q hs hf hro hQ => h φ ω lam rs a w ro Q hs hf hro fun ex fr' s' hr => hQ ex fr' s' (hR ex fr' s' hr)

theorem AWp.eval (hg : ∀ B, Good g B) {n lim : Nat} {k : Code} {ex : Ex} {fr' : Fr} {s' : St} (h : code g (call g n) lim c k fr s = some (ex, fr', s')) {R : Ex → Fr → St → Prop} (hR : R ex fr' s') : AWp g base c k fr s R := by
  intro φ ω lam rs a w ro Q hs hf hro hQ
  exact code_sim (call_ok (hg base) n) (call_grow (hg base).hgrow n) (draw_sim (call_ok (hg base) n) (call_grow (hg base).hgrow n)) k φ ω lam fr s rs a w ex fr' s' Q hs hf hro h (hQ _ _ _ hR)

theorem AWp.seq {x y : Code} {R : Ex → Fr → St → Prop} (h : AWp g base c x fr s fun ex fr' s' => Grow c s s' ∧ match ex with | .normal => AWp g base c y fr' s' R | ex => R ex fr' s') : AWp g base c (.seq x y) fr s R := by
  intro φ ω lam rs a w ro Q hs hf hro hQ
  refine wpIn_seq (h φ ω lam rs a w ro _ hs hf hro fun ex fr1 s1 ⟨hg1, h1⟩ => ?_)
  intro φ' ω' lam' rs' a' w' e hp he
  cases he with
  | normal =>
    simp only at h1
    exact h1 φ' ω' lam' rs' a' w' ro Q hp.srel hp.frel (hro.post hp) fun ex fr' s' hr => (hQ ex fr' s' hr).after hs hg1 hp
  | ret => exact hQ _ _ _ h1 _ _ _ _ _ _ _ hp .ret
  | exit i => exact hQ _ _ _ h1 _ _ _ _ _ _ _ hp (.exit i)
  | pan v v' hv => exact hQ _ _ _ h1 _ _ _ _ _ _ _ hp (.pan v v' hv)

theorem AWp.cond {x : Operand} {y z : Code} {b : Bool} (hx : fr.ev g x = some (.bool b)) {R : Ex → Fr → St → Prop} (h : AWp g base c (if b then y else z) fr s R) : AWp g base c (.cond x y z) fr s R := by
  intro φ ω lam rs a w ro Q hs hf hro hQ
  have hr : Vrel φ c s.next (.bool b) (a.eval x) := ev_rel hs hf hx
  have e : a.eval x = .bool b := by generalize a.eval x = z at hr; cases hr; rfl
  cases b with
  | true => exact wpIn_cond_true e (h φ ω lam rs a w ro Q hs hf hro hQ)
  | false => exact wpIn_cond_false e (h φ ω lam rs a w ro Q hs hf hro hQ)

theorem AWp.block {i : Nat} {x : Code} {R : Ex → Fr → St → Prop} (h : AWp g base c x fr s fun ex fr' s' => R (match ex with | .exit j => if j = i then .normal else .exit j | ex => ex) fr' s') : AWp g base c (.block i x) fr s R := by
  intro φ ω lam rs a w ro Q hs hf hro hQ
  refine wpIn_block (h φ ω lam rs a w ro _ hs hf hro fun ex fr1 s1 h1 => ?_)
  intro φ' ω' lam' rs' a' w' e hp he
  cases he with
  | normal => exact hQ _ _ _ h1 _ _ _ _ _ _ _ hp .normal
  | ret => exact hQ _ _ _ h1 _ _ _ _ _ _ _ hp .ret
  | exit j =>
    simp only [Exit.inBlock]
    split
    · rename_i e; subst e; simp only [if_true] at h1; exact hQ _ _ _ h1 _ _ _ _ _ _ _ hp .normal
    · rename_i e; simp only [if_neg e] at h1; exact hQ _ _ _ h1 _ _ _ _ _ _ _ hp (.exit j)
  | pan v v' hv => exact hQ _ _ _ h1 _ _ _ _ _ _ _ hp (.pan v v' hv)

theorem AWp.scope {x : Code} {R : Ex → Fr → St → Prop} (h : AWp g base c x fr s R) : AWp g base c (.scope x) fr s R := by
  intro φ ω lam rs a w ro Q hs hf hro hQ
  refine wpIn_scope (h φ ω lam rs a w ro _ hs hf hro fun ex fr1 s1 h1 => ?_)
  intro φ' ω' lam' rs' a' w' e hp he
  have hq := hQ _ _ _ h1 _ _ _ _ _ _ _ hp he
  cases he with
  | normal => exact hq
  | ret => exact hq
  | exit j => exact hq
  | pan v v' hv => exact hq

/-- A loop: each round comes to a smaller one, or out. -/
theorem AWp.loop {k : Code} {ι : Type} {I : ι → Fr → St → Prop} {R : Ex → Fr → St → Prop} (μ : ι → Nat)
    (hstep : ∀ p fr s, I p fr s → AWp g base c k fr s fun ex fr' s' => Grow c s s' ∧ match ex with | .normal => ∃ p', μ p' < μ p ∧ I p' fr' s' | ex => R ex fr' s') :
    ∀ p fr s, I p fr s → AWp g base c (.loop k) fr s R := by
  intro p fr s hI φ ω lam rs a w ro Q hs hf hro hQ
  refine wpIn_loop_rounds (μ p + 1) ?_
  have key : ∀ n p fr s φ ω lam rs a w, μ p < n → I p fr s → SRel g base φ ω c s w → FRel φ c s.next lam ω fr rs a w → RoundOk φ s.next ro fr → (∀ ex fr' s', R ex fr' s' → CodeQ g base c φ ω lam fr s rs w ex fr' s' Q) → Code.roundsIn (FF ro) 0 g.P k Q n a w := by
    intro n
    induction n with
    | zero => intro p fr s φ ω lam rs a w h; omega
    | succ n ih =>
      intro p fr s φ ω lam rs a w hlt hI hs hf hro hQ
      refine hstep p fr s hI φ ω lam rs a w ro _ hs hf hro fun ex fr1 s1 ⟨hg1, h1⟩ => ?_
      intro φ' ω' lam' rs' a' w' e hp he
      cases he with
      | normal =>
        simp only at h1
        obtain ⟨p', hm, hI'⟩ := h1
        exact ih p' fr1 s1 _ _ _ _ _ _ (by omega) hI' hp.srel hp.frel (hro.post hp) fun ex fr' s' hr => (hQ ex fr' s' hr).after hs hg1 hp
      | ret => exact hQ _ _ _ h1 _ _ _ _ _ _ _ hp .ret
      | exit i => exact hQ _ _ _ h1 _ _ _ _ _ _ _ hp (.exit i)
      | pan v v' hv => exact hQ _ _ _ h1 _ _ _ _ _ _ _ hp (.pan v v' hv)
  exact key (μ p + 1) p fr s φ ω lam rs a w (Nat.lt_succ_self _) hI hs hf hro hQ
end
end
end Go.Am

/- Code, reckoned in a state through which the other is seen. -/
namespace Go.Am
noncomputable section
variable {Z : Zone}

section
variable {g : Cfg} {base : Base} {c : Ctx} {φ : Nat → Pl} {ω : Nat → Option Tag} {lam : Nat → Nat} {fr : Fr} {s : St} {rs : List Nat} {a : Act} {w w' : World}

def outE (e : Nat → Nat) (m n0 : Nat) : Nat → Nat := fun i => if i < m then e i else n0 + (i - m)
variable [Z]
def outS (ci : Ctx) (s si si' : St) (e : Nat → Nat) : St :=
  { heap := bld (fun i => !(decide (i < si.next) && !ci.wr i)) (outE e si.next s.next) (fun i => (si'.heap.get i).map (renO (outE e si.next s.next) si'.next)) si'.next s.heap
    next := s.next + (si'.next - si.next) }
variable {Z}

variable [Z]
def outFr (s si si' : St) (e : Nat → Nat) (fr fri' : Fr) : Fr :=
  { fri' with tm := fri'.tm.mapT (renV (outE e si.next s.next) si'.next), loc := fri'.loc.mapT (·.map (renV (outE e si.next s.next) si'.next)), round := fr.round }
variable {Z}

theorem outE_inj {k0 : Nat} {ci : Ctx} {si si' : St} {e : Nat → Nat} (V : View base k0 c s ci si e) : ∀ i j, i < si'.next → j < si'.next → outE e si.next s.next i = outE e si.next s.next j → i = j := by
  intro i j _ _ h
  unfold outE at h
  split at h <;> split at h
  · exact V.inj i j (by assumption) (by assumption) h
  · have := (V.lt i (by assumption)).1; omega
  · have := (V.lt j (by assumption)).1; omega
  · omega

theorem outS_shut {k0 : Nat} {ci : Ctx} {si si' : St} {e : Nat → Nat} (V : View base k0 c s ci si e) (hgr : Grow ci si si')
    (hO : ∀ i o, si'.heap.get i = some o → ObRen (outE e si.next s.next) si'.next o (renO (outE e si.next s.next) si'.next o) ∧ ∀ r r', o = .loop r → renO (outE e si.next s.next) si'.next o = .loop r' → ∀ t v', r'.tm.get t = some v' → ∃ v, r.tm.get t = some v ∧ VRen (outE e si.next s.next) si'.next v v')
    (hdom : ∀ id o, s.heap.get id = some o → id < s.next) (hvn : ∀ id, s.next ≤ id → c.vis id = true) (hbn : base.id ≤ s.next) :
    Shut c ci s si si' e (outE e si.next s.next) (outS ci s si si' e) ∧ Grow c s (outS ci s si si' e) ∧ View base k0 c (outS ci s si si' e) ci si' (outE e si.next s.next) := by
  have hinj := outE_inj (si' := si') V
  have hext : ∀ i, i < si.next → outE e si.next s.next i = e i := fun i hi => if_pos hi
  have hnew : ∀ i, si.next ≤ i → i < si'.next → s.next ≤ outE e si.next s.next i ∧ outE e si.next s.next i < (outS ci s si si' e).next := fun i h1 h2 => by
    unfold outE outS
    rw [if_neg (by omega)]
    simp only
    omega
  have hout : ∀ id, (∀ i, i < si'.next → (!(decide (i < si.next) && !ci.wr i)) = true → outE e si.next s.next i ≠ id) → (outS ci s si si' e).heap.get id = s.heap.get id := fun id h => bld_out h
  have hin : ∀ i, i < si'.next → (!(decide (i < si.next) && !ci.wr i)) = true → (outS ci s si si' e).heap.get (outE e si.next s.next i) = (si'.heap.get i).map (renO (outE e si.next s.next) si'.next) := fun i hi hs => bld_in (n := si'.next) hinj i hi hs
  have hcase : ∀ id, (∃ i, i < si'.next ∧ (!(decide (i < si.next) && !ci.wr i)) = true ∧ outE e si.next s.next i = id) ∨ (outS ci s si si' e).heap.get id = s.heap.get id := fun id => by
    by_cases h : ∃ i, i < si'.next ∧ (!(decide (i < si.next) && !ci.wr i)) = true ∧ outE e si.next s.next i = id
    · exact .inl h
    · exact .inr (hout id fun i h1 h2 h3 => h ⟨i, h1, h2, h3⟩)
  have hnext : s.next ≤ (outS ci s si si' e).next := by unfold outS; simp only; omega
  refine ⟨⟨hext, hnext, hgr.next, hnew, hinj, fun id o' h => ?_⟩, ⟨hnext, fun id hlt hn => ?_, fun id hw hlt => ?_, fun id hv hlt => ?_, fun hd id o h => ?_⟩, ?_⟩
  · by_cases hx : ∃ i, i < si'.next ∧ (!(decide (i < si.next) && !ci.wr i)) = true ∧ outE e si.next s.next i = id
    · obtain ⟨i, h1, h2, rfl⟩ := hx
      rw [hin i h1 h2] at h
      obtain ⟨o, ho, rfl⟩ := Option.map_eq_some_iff.1 h
      exact .inr ⟨i, o, h1, rfl, ho, (hO i o ho).1, (hO i o ho).2⟩
    · rw [hout id fun i h1 h2 h3 => hx ⟨i, h1, h2, h3⟩] at h
      refine .inl ⟨hdom id o' h, fun i hi he => ?_, h⟩
      cases hc : ci.wr i with
      | false => rfl
      | true => exact (hx ⟨i, Nat.lt_of_lt_of_le hi hgr.next, by simp [hc], by rw [hext i hi, he]⟩).elim
  · rcases hcase id with ⟨i, h1, h2, rfl⟩ | h
    · rw [hin i h1 h2]
      by_cases hi : i < si.next
      · rw [hext i hi] at hn
        have : si.heap.get i = none := by
          cases hc : si.heap.get i with
          | none => rfl
          | some o => obtain ⟨_, o', h3, _⟩ := V.obj i o hc; rw [hn] at h3; cases h3
        rw [hgr.gone i hi this]; rfl
      · have := (hnew i (by omega) h1).1; omega
    · rw [h]; exact hn
  · rcases hcase id with ⟨i, h1, h2, rfl⟩ | h
    · by_cases hi : i < si.next
      · have : ci.wr i = true := by simpa [hi] using h2
        have := V.wr i hi this
        rw [hext i hi] at hw
        rw [hw] at this; cases this
      · have := (hnew i (by omega) h1).1; omega
    · exact h
  · rcases hcase id with ⟨i, h1, h2, rfl⟩ | h
    · by_cases hi : i < si.next
      · have := (V.lt i hi).2
        rw [hext i hi] at hv
        rw [hv] at this; cases this
      · have := (hnew i (by omega) h1).1; omega
    · exact h
  · rcases hcase id with ⟨i, h1, h2, rfl⟩ | h'
    · by_cases hi : i < si.next
      · rw [hext i hi]; exact Nat.lt_of_lt_of_le (V.lt i hi).1 hnext
      · exact (hnew i (by omega) h1).2
    · rw [h'] at h; exact Nat.lt_of_lt_of_le (hd id o h) hnext
  · have hfl := V.floor
    have hwrnew : ∀ id, s.next ≤ id → c.wr id = true := fun id h => by
      unfold Ctx.wr
      rw [decide_eq_true (Nat.le_trans hfl h)]; rfl
    refine ⟨V.hide, Nat.le_trans hfl hnext, fun i hi => ?_, hinj, fun i o h => ?_, fun i hi hw => ?_, fun i hi => ?_, Nat.le_trans V.k0 hgr.next⟩
    · by_cases h : i < si.next
      · rw [hext i h]; exact ⟨Nat.lt_of_lt_of_le (V.lt i h).1 hnext, (V.lt i h).2⟩
      · have := hnew i (by omega) hi
        exact ⟨this.2, hvn _ this.1⟩
    · have hi : i < si'.next := hgr.dom (fun i o h => (V.obj i o h).1) i o h
      refine ⟨hi, ?_⟩
      cases hsel : (!(decide (i < si.next) && !ci.wr i)) with
      | true => exact ⟨_, by rw [hin i hi hsel, h]; rfl, (hO i o h).1⟩
      | false =>
        have hlt : i < si.next ∧ ci.wr i = false := by simpa using hsel
        rw [hgr.low i hlt.2 hlt.1] at h
        obtain ⟨_, o', h1, h2⟩ := V.obj i o h
        refine ⟨o', ?_, h2.up hgr.next fun j hj => hext j hj⟩
        rw [hext i hlt.1, hout (e i) fun j h3 h4 h5 => ?_]
        · exact h1
        · have hij : j = i := hinj j i h3 hi (by rw [h5, hext i hlt.1])
          subst hij
          rw [h4] at hsel; cases hsel
    · by_cases h : i < si.next
      · rw [hext i h]; exact V.wr i h hw
      · exact hwrnew _ (hnew i (by omega) hi).1
    · by_cases h : i < si.next
      · rw [hext i h]; exact V.old i h
      · have h1 := (hnew i (by omega) hi).1
        have := V.k0
        omega

theorem AWp.view (hg : ∀ B, Good g B) (hng : g.ng = 0) {k0 : Nat} {ci : Ctx} {si si' : St} {e : Nat → Nat} {fri fri' : Fr} (V : View base k0 c s ci si e) (F : FView e si.next fr fri) {n lim : Nat} {k : Code} {ex : Ex}
    (h : code g (call g n) lim ci k fri si = some (ex, fri', si')) (hex : ∀ v, ex ≠ .pan v) {R : Ex → Fr → St → Prop}
    (hR : ∀ fr' s' e', (∀ i, i < si.next → e' i = e i) → View base k0 c s' ci si' e' → FView e' si'.next fr' fri' → Grow c s s' → R ex fr' s') : AWp g base c k fr s R := by
  intro φ ω lam rs a w ro Q hs hf hro hQ
  have hgr : Grow ci si si' := code_grow (call_grow (hg base).hgrow n) _ _ _ _ h
  refine code_sim (call_ok (hg ⟨k0, base.blk⟩) n) (call_grow (hg ⟨k0, base.blk⟩).hgrow n) (draw_sim (call_ok (hg ⟨k0, base.blk⟩) n) (call_grow (hg ⟨k0, base.blk⟩).hgrow n)) k (fun i => φ (e i)) (tagsIn e si.next ω) lam fri si rs a w ex fri' si' Q
    (V.open_ hng hs) (F.open_ V.hide hf) (F.round_ hro) h ?_
  intro φi' ωi' lam' rs' a' w' e0 hp he
  have hvis : ∀ i, ci.vis i = true := fun i => by unfold Ctx.vis; rw [V.hide]; rfl
  obtain ⟨S, hG, V'⟩ := outS_shut (si' := si') V hgr (fun i o ho => renO_ok (hp.srel.obj i o ho (hvis i))) hs.dom hs.vnew hs.bn
  have hX : ∀ b, LocB lam fri.loc b → ∃ d, ω b = some (.loc d) := by
    rintro b ⟨d, cs, hd, rfl⟩
    obtain ⟨cs', h1, _, _⟩ := F.loc d cs hd
    exact ⟨d, (hf.own d cs' h1).1⟩
  obtain ⟨φ', ω', hag, hsr, hk, hmap, hloc, hmark⟩ := V.shut hng hs S hX hp.agree hp.srel hp.keep
  have htm : ∀ t v', (outFr s si si' e fr fri').tm.get t = some v' → ∃ v, fri'.tm.get t = some v ∧ VRen (outE e si.next s.next) si'.next v v' := fun t v' hv => by
    unfold outFr at hv
    simp only at hv
    rw [Tr.get_mapT] at hv
    obtain ⟨v, h1, h2⟩ := Option.map_eq_some_iff.1 hv
    exact ⟨v, h1, by rw [← h2]; exact renV_ok (ren_ex _ (hp.frel.tm t v h1))⟩
  have hlc : ∀ d cs', (outFr s si si' e fr fri').loc.get d = some cs' → ∃ cs, fri'.loc.get d = some cs ∧ cs.size = cs'.size ∧ ∀ (k : Nat) x x', cs[k]? = some x → cs'[k]? = some x' → VRen (outE e si.next s.next) si'.next x x' := fun d cs' hd => by
    unfold outFr at hd
    simp only at hd
    rw [Tr.get_mapT] at hd
    obtain ⟨cs, h1, h2⟩ := Option.map_eq_some_iff.1 hd
    subst h2
    refine ⟨cs, h1, by simp, fun k x x' hx hx' => ?_⟩
    rw [Array.getElem?_map, hx] at hx'
    simp only [Option.map_some, Option.some.injEq] at hx'
    subst hx'
    obtain ⟨_, cs2, el, _, hA⟩ := hp.frel.own d cs h1
    obtain ⟨hk, _⟩ := Array.getElem?_eq_some_iff.1 hx
    obtain ⟨x', _, hr⟩ := hA.get hx
    exact renV_ok (ren_ex _ hr)
  have hround : fri'.round = fri.round := hp.round
  have hF : FView (outE e si.next s.next) si'.next (outFr s si si' e fr fri') fri' := by
    refine ⟨rfl, rfl, fun t v hv => ⟨_, by unfold outFr; simp only; rw [Tr.get_mapT, hv]; rfl, renV_ok (ren_ex _ (hp.frel.tm t v hv))⟩, fun t p hpp => ⟨hpp, (hp.frel.pt t p hpp).1⟩, fun d cs hd => ?_, ?_⟩
    · refine ⟨cs.map (renV (outE e si.next s.next) si'.next), by unfold outFr; simp only; rw [Tr.get_mapT, hd]; rfl, by simp, fun k x x' hx hx' => ?_⟩
      obtain ⟨cs1, h1, _, h3⟩ := hlc d (cs.map (renV (outE e si.next s.next) si'.next)) (by unfold outFr; simp only; rw [Tr.get_mapT, hd]; rfl)
      rw [hd] at h1; cases h1
      exact h3 k x x' hx hx'
    · have hr := F.round
      rw [hround]
      cases hf1 : fri.round with
      | none => rw [hf1] at hr; exact hr
      | some i =>
        rw [hf1] at hr
        simp only at hr ⊢
        refine ⟨Nat.lt_of_lt_of_le hr.1 hgr.next, ?_⟩
        show fr.round = _
        rw [hr.2, S.ext i hr.1]
  refine hQ ex (outFr s si si' e fr fri') (outS ci s si si' e) (hR _ _ _ S.ext V' hF hG) φ' ω' lam' rs' a' w' e0 ⟨hag, S.next, hsr, ⟨hp.frel.size, fun t v' hv => ?_, fun t p hpp => ?_, fun d cs' hd => ?_, hp.frel.defers, hp.frel.nodup, fun r hr => ⟨(hp.frel.marks r hr).1, hmark r (hp.frel.marks r hr).2⟩⟩, fun d cs' hd => ?_, ?_, hp.marks, rfl⟩ ?_
  · obtain ⟨v, h1, h2⟩ := htm t v' hv
    exact h2.back hmap (hp.frel.tm t v h1)
  · obtain ⟨⟨cs, h1⟩, h2⟩ := hp.frel.pt t p hpp
    obtain ⟨cs', h3, _⟩ := hF.loc p.1 cs h1
    exact ⟨⟨cs', h3⟩, h2⟩
  · obtain ⟨cs, h1, h2, h3⟩ := hlc d cs' hd
    obtain ⟨ht, cs2, el, hb, hA⟩ := hp.frel.own d cs h1
    exact ⟨hloc _ _ ht, cs2, el, hb, hA.back hmap h2 h3⟩
  · obtain ⟨cs, h1, _, _⟩ := hlc d cs' hd
    rcases hp.lamW d cs h1 with ⟨h2, cs0, h3⟩ | h2
    · obtain ⟨cs1, h4, _, _⟩ := F.loc d cs0 h3
      exact .inl ⟨h2, cs1, h4⟩
    · exact .inr h2
  · refine hk.weaken ?_
    rintro b ⟨d, cs, hd, rfl⟩
    obtain ⟨cs1, h4, _, _⟩ := F.loc d cs hd
    exact ⟨d, cs1, h4, rfl⟩
  · cases he with
    | normal => exact .normal
    | ret => exact .ret
    | exit i => exact .exit i
    | pan v v' hv => exact (hex v rfl).elim
end
end
end Go.Am
