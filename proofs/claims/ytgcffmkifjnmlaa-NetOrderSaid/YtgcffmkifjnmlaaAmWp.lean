/- What is known behind some code: rules, for loops whose rounds are not known, above all. -/
import Derived.Test.YtgcffmkifjnmlaaAmView2
import Derived.Test.YtgcffmkifjnmlaaAmDraw4
namespace Go.Am
noncomputable section

section
variable {g : Cfg} {base : Base} {c : Ctx} {φ : Nat → Pl} {ω : Nat → Option Tag} {lam : Nat → Nat} {fr : Fr} {s : St} {rs : List Nat} {a : Act} {w w' : World}

/-! ### Frames, seen -/
structure FView (e : Nat → Nat) (m : Nat) (fr fri : Fr) : Prop where
  fn : fri.fn = fr.fn
  nt : fri.nt = fr.nt
  tm : ∀ t v, fri.tm.get t = some v → ∃ v', fr.tm.get t = some v' ∧ VRen e m v v'
  pt : ∀ t p, fri.pt.get t = some p → fr.pt.get t = some p ∧ ∃ cs, fri.loc.get p.1 = some cs
  loc : ∀ d cs, fri.loc.get d = some cs → ∃ cs', fr.loc.get d = some cs' ∧ cs.size = cs'.size ∧ ∀ (k : Nat) x x', cs[k]? = some x → cs'[k]? = some x' → VRen e m x x'
  round : match fri.round with | none => fr.round = none | some i => i < m ∧ fr.round = some (e i)

theorem Arel.seen {e : Nat → Nat} {m n : Nat} {ci : Ctx} (hci : ci.hide = []) {cs cs' cs'' : Array Value} (hsz : cs.size = cs'.size) (h : ∀ (k : Nat) x x', cs[k]? = some x → cs'[k]? = some x' → VRen e m x x') (hr : Arel φ c n cs' cs'') : Arel (fun i => φ (e i)) ci m cs cs'' :=
  ⟨hsz.trans hr.1, arr_trans (R := VRen e m) (S := fun x y => Vrel φ c n x y) hsz hr.1 h hr.2 fun i x y z hx hy hz h1 h2 => h1.comp hci h2⟩
theorem Arel.back {e : Nat → Nat} {m n : Nat} {ci : Ctx} {φi : Nat → Pl} (hi : ∀ i, i < m → In c n (e i) ∧ φ (e i) = φi i) {cs cs' cs'' : Array Value} (hsz : cs.size = cs'.size) (h : ∀ (k : Nat) x x', cs[k]? = some x → cs'[k]? = some x' → VRen e m x x') (hr : Arel φi ci m cs cs'') : Arel φ c n cs' cs'' := by
  refine ⟨hsz.symm.trans hr.1, fun i y z hy hz => ?_⟩
  have hlt : i < cs.size := by obtain ⟨h, _⟩ := Array.getElem?_eq_some_iff.1 hy; omega
  exact (h i _ y (Array.getElem?_eq_getElem hlt) hy).back hi (hr.2 i _ z (Array.getElem?_eq_getElem hlt) hz)

theorem tagsIn_loc {e : Nat → Nat} {m b : Nat} {t : Tag} (ht : ∀ i, t ≠ .obj i) (h : ω b = some t) : tagsIn e m ω b = some t := by
  unfold tagsIn
  rw [h]
  cases t with
  | obj i => exact (ht i rfl).elim
  | _ => rfl

theorem FView.open_ {e : Nat → Nat} {m : Nat} {ci : Ctx} {fri : Fr} (F : FView e m fr fri) (hci : ci.hide = []) (hf : FRel φ c s.next lam ω fr rs a w) : FRel (fun i => φ (e i)) ci m lam (tagsIn e m ω) fri rs a w where
  size := by rw [F.nt]; exact hf.size
  tm t v h := by
    obtain ⟨v', h1, h2⟩ := F.tm t v h
    exact h2.comp hci (hf.tm t v' h1)
  pt t p h := by
    obtain ⟨h1, h2⟩ := F.pt t p h
    exact ⟨h2, (hf.pt t p h1).2⟩
  own d cs h := by
    obtain ⟨cs', h1, h2, h3⟩ := F.loc d cs h
    obtain ⟨ht, cs'', el, hb, hA⟩ := hf.own d cs' h1
    exact ⟨tagsIn_loc (fun i h => by cases h) ht, cs'', el, hb, hA.seen hci h2 h3⟩
  defers := hf.defers
  nodup := hf.nodup
  marks r hr := ⟨(hf.marks r hr).1, tagsIn_loc (fun i h => by cases h) (hf.marks r hr).2⟩

theorem FView.round_ {e : Nat → Nat} {m : Nat} {fri : Fr} {ro : Option Nat} {n : Nat} (F : FView e m fr fri) (h : RoundOk φ n ro fr) : RoundOk (fun i => φ (e i)) m ro fri := by
  have hr := F.round
  unfold RoundOk at *
  cases hf : fri.round with
  | none => rw [hf] at hr; simp only at hr ⊢; rw [hr] at h; exact h
  | some i =>
    rw [hf] at hr
    simp only at hr ⊢
    rw [hr.2] at h
    exact ⟨hr.1, h.2⟩

/-! ### What stands for the state that is come to, laid -/
def Tr.mapT {α β : Type} (f : α → β) : Tr α → Tr β
  | .nil => .nil
  | .node l v r => .node (l.mapT f) (v.map f) (r.mapT f)
theorem Tr.get_mapT {α β : Type} (f : α → β) : ∀ (t : Tr α) (k : Nat), (t.mapT f).get k = (t.get k).map f := by
  intro t
  induction t with
  | nil => intro k; rfl
  | node l v r il ir =>
    intro k
    simp only [Tr.mapT, Tr.get_node, il, ir]
    split
    · rfl
    · split <;> rfl

open Classical in
def renV (e : Nat → Nat) (n : Nat) (v : Value) : Value := if h : ∃ v', VRen e n v v' then Classical.choose h else undef
theorem renV_ok {e : Nat → Nat} {n : Nat} {v : Value} (h : ∃ v', VRen e n v v') : VRen e n v (renV e n v) := by
  unfold renV
  rw [dif_pos h]
  exact Classical.choose_spec h
def renO (e : Nat → Nat) (n : Nat) : AObj → AObj
  | .cells cs sz sp => .cells (cs.map (renV e n)) sz sp
  | .map es => .map (es.map fun p => (p.1, renV e n p.2))
  | .loop r => .loop { r with tm := r.tm.mapT (renV e n) }
theorem renO_ok {e : Nat → Nat} {n i : Nat} {ci : Ctx} {ωi : Nat → Option Tag} {o : AObj} (h : ORel φ ci n base i ωi w o) : ObRen e n o (renO e n o) ∧ ∀ r r', o = .loop r → renO e n o = .loop r' → ∀ t v', r'.tm.get t = some v' → ∃ v, r.tm.get t = some v ∧ VRen e n v v' := by
  cases o with
  | cells cs sz sp =>
    refine ⟨⟨rfl, rfl, by simp, fun k x x' hx hx' => ?_⟩, fun r r' h => by cases h⟩
    rw [Array.getElem?_map, hx] at hx'
    simp only [Option.map_some, Option.some.injEq] at hx'
    subst hx'
    refine renV_ok ?_
    obtain ⟨hk, _⟩ := Array.getElem?_eq_some_iff.1 hx
    obtain ⟨cs', el, fz, _, _, _, h4⟩ := h.2 (.inl (by omega))
    obtain ⟨y, _, hy⟩ := h4 k x hx
    exact ren_ex e hy
  | map es =>
    refine ⟨⟨by simp, fun k p p' hp hp' => ?_⟩, fun r r' h => by cases h⟩
    rw [List.getElem?_map, hp] at hp'
    simp only [Option.map_some, Option.some.injEq] at hp'
    subst hp'
    refine ⟨rfl, renV_ok ?_⟩
    obtain ⟨es', cl, _, _, h3⟩ := h
    obtain ⟨y, _, _, _, hy⟩ := h3 k p hp
    exact ren_ex e hy
  | loop r =>
    obtain ⟨L, _, _, _, _, _, _, _, h8⟩ := h
    have key : ∀ t v, r.tm.get t = some v → VRen e n v (renV e n v) := fun t v hv => renV_ok (ren_ex e (h8 t v hv))
    refine ⟨⟨rfl, rfl, rfl, rfl, rfl, rfl, fun t v hv => ⟨_, by show (r.tm.mapT _).get t = _; rw [Tr.get_mapT, hv]; rfl, key t v hv⟩⟩, fun r1 r2 h1 h2 t v' hv' => ?_⟩
    cases h1; cases h2
    simp only at hv'
    rw [Tr.get_mapT] at hv'
    obtain ⟨v, a, b⟩ := Option.map_eq_some_iff.1 hv'
    exact ⟨v, a, by rw [← b]; exact key t v a⟩

/-- The heap, with what the view has come to. -/
def bld (sel : Nat → Bool) (e' : Nat → Nat) (F : Nat → Option AObj) : Nat → Tr AObj → Tr AObj
  | 0, t => t
  | n + 1, t => if sel n then (bld sel e' F n t).set (e' n) (F n) else bld sel e' F n t
theorem bld_out {sel : Nat → Bool} {e' : Nat → Nat} {F : Nat → Option AObj} {t : Tr AObj} {id : Nat} : ∀ {n : Nat}, (∀ i, i < n → sel i = true → e' i ≠ id) → (bld sel e' F n t).get id = t.get id := by
  intro n
  induction n with
  | zero => intro _; rfl
  | succ n ih =>
    intro h
    simp only [bld]
    split
    · rename_i hs
      rw [Tr.get_set, if_neg (fun e => h n (Nat.lt_succ_self _) hs e.symm), ih fun i hi => h i (Nat.lt_succ_of_lt hi)]
    · exact ih fun i hi => h i (Nat.lt_succ_of_lt hi)
theorem bld_in {sel : Nat → Bool} {e' : Nat → Nat} {F : Nat → Option AObj} {t : Tr AObj} : ∀ {n : Nat}, (∀ i j, i < n → j < n → e' i = e' j → i = j) → ∀ i, i < n → sel i = true → (bld sel e' F n t).get (e' i) = F i := by
  intro n
  induction n with
  | zero => intro _ i h; omega
  | succ n ih =>
    intro hinj i hi hs
    simp only [bld]
    by_cases e : i = n
    · subst e
      rw [if_pos hs, Tr.get_set, if_pos rfl]
    · have := ih (fun i j hi hj => hinj i j (by omega) (by omega)) i (by omega) hs
      split
      · rw [Tr.get_set, if_neg (fun h => e (hinj i n (by omega) (by omega) h)), this]
      · exact this

theorem VRen.up {e e' : Nat → Nat} {m n : Nat} (hmn : m ≤ n) (he : ∀ i, i < m → e' i = e i) {v v' : Value} (h : VRen e m v v') : VRen e' n v v' :=
  Vrel.conv (fun i hi => ⟨⟨Nat.lt_of_lt_of_le hi.1 hmn, rfl⟩, by simp only [emb]; rw [he i hi.1]⟩) h
theorem ObRen.up {e e' : Nat → Nat} {m n : Nat} (hmn : m ≤ n) (he : ∀ i, i < m → e' i = e i) {o o' : AObj} (h : ObRen e m o o') : ObRen e' n o o' := by
  cases o with
  | cells cs sz sp => cases o' with
    | cells cs' sz' sp' => exact ⟨h.1, h.2.1, h.2.2.1, fun k x x' hx hx' => (h.2.2.2 k x x' hx hx').up hmn he⟩
    | _ => exact h.elim
  | map es => cases o' with
    | map es' => exact ⟨h.1, fun k p p' hp hp' => ⟨(h.2 k p p' hp hp').1, (h.2 k p p' hp hp').2.up hmn he⟩⟩
    | _ => exact h.elim
  | loop r => cases o' with
    | loop r' =>
      obtain ⟨b1, b2, b3, b4, b5, b6, b7⟩ := h
      exact ⟨b1, b2, b3, b4, b5, b6, fun t v hv => let ⟨v', p, q⟩ := b7 t v hv; ⟨v', p, q.up hmn he⟩⟩
    | _ => exact h.elim

/-! ### What is known behind some code -/
def AWp (g : Cfg) (base : Base) (c : Ctx) (k : Code) (fr : Fr) (s : St) (R : Ex → Fr → St → Prop) : Prop :=
  ∀ φ ω lam rs a w ro Q, SRel g base φ ω c s w → FRel φ c s.next lam ω fr rs a w → RoundOk φ s.next ro fr → (∀ ex fr' s', R ex fr' s' → CodeQ g base c φ ω lam fr s rs w ex fr' s' Q) → k.wpIn (FF ro) 0 g.P Q a w

theorem AWp.mono {k : Code} {R R' : Ex → Fr → St → Prop} (h : AWp g base c k fr s R) (hR : ∀ ex fr' s', R ex fr' s' → R' ex fr' s') : AWp g base c k fr s R' :=
  fun φ ω lam rs a w ro Q hs hf hro hQ => h φ ω lam rs a w ro Q hs hf hro fun ex fr' s' hr => hQ ex fr' s' (hR ex fr' s' hr)

theorem AWp.eval (hg : ∀ B, Good g B) {n lim : Nat} {k : Code} {ex : Ex} {fr' : Fr} {s' : St} (h : code g (call g n) lim c k fr s = some (ex, fr', s')) {R : Ex → Fr → St → Prop} (hR : R ex fr' s') : AWp g base c k fr s R := by
  intro φ ω lam rs a w ro Q hs hf hro hQ
  exact code_sim (call_ok (hg base) n) (call_grow (hg base).hgrow n) (draw_sim (call_ok (hg base) n) (call_grow (hg base).hgrow n)) k φ ω lam fr s rs a w ex fr' s' Q hs hf hro h (hQ _ _ _ hR)

theorem AWp.seq {x y : Code} {R : Ex → Fr → St → Prop} (h : AWp g base c x fr s fun ex fr' s' => Grow c s s' ∧ match ex with | .normal => AWp g base c y fr' s' R | ex => R ex fr' s') : AWp g base c (.seq x y) fr s R := by
  intro φ ω lam rs a w ro Q hs hf hro hQ
  refine wpIn_seq (h φ ω lam rs a w ro _ hs hf hro fun ex fr1 s1 ⟨hg1, h1⟩ => ?_)
  intro φ' ω' lam' rs' a' w' e hp he
  cases he with
  | normal =>
    simp only at h1
    exact h1 φ' ω' lam' rs' a' w' ro Q hp.srel hp.frel (hro.post hp) fun ex fr' s' hr => (hQ ex fr' s' hr).after hs hg1 hp
  | ret => exact hQ _ _ _ h1 _ _ _ _ _ _ _ hp .ret
  | exit i => exact hQ _ _ _ h1 _ _ _ _ _ _ _ hp (.exit i)
  | pan v v' hv => exact hQ _ _ _ h1 _ _ _ _ _ _ _ hp (.pan v v' hv)

theorem AWp.cond {x : Operand} {y z : Code} {b : Bool} (hx : fr.ev g x = some (.bool b)) {R : Ex → Fr → St → Prop} (h : AWp g base c (if b then y else z) fr s R) : AWp g base c (.cond x y z) fr s R := by
  intro φ ω lam rs a w ro Q hs hf hro hQ
  have hr : Vrel φ c s.next (.bool b) (a.eval x) := ev_rel hs hf hx
  have e : a.eval x = .bool b := by generalize a.eval x = z at hr; cases hr; rfl
  cases b with
  | true => exact wpIn_cond_true e (h φ ω lam rs a w ro Q hs hf hro hQ)
  | false => exact wpIn_cond_false e (h φ ω lam rs a w ro Q hs hf hro hQ)

theorem AWp.block {i : Nat} {x : Code} {R : Ex → Fr → St → Prop} (h : AWp g base c x fr s fun ex fr' s' => R (match ex with | .exit j => if j = i then .normal else .exit j | ex => ex) fr' s') : AWp g base c (.block i x) fr s R := by
  intro φ ω lam rs a w ro Q hs hf hro hQ
  refine wpIn_block (h φ ω lam rs a w ro _ hs hf hro fun ex fr1 s1 h1 => ?_)
  intro φ' ω' lam' rs' a' w' e hp he
  cases he with
  | normal => exact hQ _ _ _ h1 _ _ _ _ _ _ _ hp .normal
  | ret => exact hQ _ _ _ h1 _ _ _ _ _ _ _ hp .ret
  | exit j =>
    simp only [Exit.inBlock]
    split
    · rename_i e; subst e; simp only [if_true] at h1; exact hQ _ _ _ h1 _ _ _ _ _ _ _ hp .normal
    · rename_i e; simp only [if_neg e] at h1; exact hQ _ _ _ h1 _ _ _ _ _ _ _ hp (.exit j)
  | pan v v' hv => exact hQ _ _ _ h1 _ _ _ _ _ _ _ hp (.pan v v' hv)

/-- A loop: each round comes to a smaller one, or out. -/
theorem AWp.loop {k : Code} {ι : Type} {I : ι → Fr → St → Prop} {R : Ex → Fr → St → Prop} (μ : ι → Nat)
    (hstep : ∀ p fr s, I p fr s → AWp g base c k fr s fun ex fr' s' => Grow c s s' ∧ match ex with | .normal => ∃ p', μ p' < μ p ∧ I p' fr' s' | ex => R ex fr' s') :
    ∀ p fr s, I p fr s → AWp g base c (.loop k) fr s R := by
  intro p fr s hI φ ω lam rs a w ro Q hs hf hro hQ
  refine wpIn_loop_rounds (μ p + 1) ?_
  have key : ∀ n p fr s φ ω lam rs a w, μ p < n → I p fr s → SRel g base φ ω c s w → FRel φ c s.next lam ω fr rs a w → RoundOk φ s.next ro fr → (∀ ex fr' s', R ex fr' s' → CodeQ g base c φ ω lam fr s rs w ex fr' s' Q) → Code.roundsIn (FF ro) 0 g.P k Q n a w := by
    intro n
    induction n with
    | zero => intro p fr s φ ω lam rs a w h; omega
    | succ n ih =>
      intro p fr s φ ω lam rs a w hlt hI hs hf hro hQ
      refine hstep p fr s hI φ ω lam rs a w ro _ hs hf hro fun ex fr1 s1 ⟨hg1, h1⟩ => ?_
      intro φ' ω' lam' rs' a' w' e hp he
      cases he with
      | normal =>
        simp only at h1
        obtain ⟨p', hm, hI'⟩ := h1
        exact ih p' fr1 s1 _ _ _ _ _ _ (by omega) hI' hp.srel hp.frel (hro.post hp) fun ex fr' s' hr => (hQ ex fr' s' hr).after hs hg1 hp
      | ret => exact hQ _ _ _ h1 _ _ _ _ _ _ _ hp .ret
      | exit i => exact hQ _ _ _ h1 _ _ _ _ _ _ _ hp (.exit i)
      | pan v v' hv => exact hQ _ _ _ h1 _ _ _ _ _ _ _ hp (.pan v v' hv)
  exact key (μ p + 1) p fr s φ ω lam rs a w (Nat.lt_succ_self _) hI hs hf hro hQ
end
end
end Go.Am
