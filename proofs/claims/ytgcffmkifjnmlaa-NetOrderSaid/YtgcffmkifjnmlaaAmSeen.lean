/- A state as it is seen: rules for code, loops, and calls from outside. -/
import Derived.Test.YtgcffmkifjnmlaaAmGc
import Derived.Test.YtgcffmkifjnmlaaAmIso
namespace Go.Am
open Go.RowKit Go.ChangeShapes Go.WideShapes
noncomputable section

section
variable {g : Cfg} {base : Base} {c : Ctx} {fr : Fr} {s : St}

theorem VRen.trans {e e2 : Nat → Nat} {m m2 : Nat} {v v1 v' : Value} (h2 : VRen e2 m2 v v1) (h : VRen e m v1 v') : VRen (fun i => e (e2 i)) m2 v v' :=
  h2.comp (ci := cAll) rfl h

theorem ObRen.trans {e e2 : Nat → Nat} {m m2 : Nat} {o o1 o' : AObj} (h2 : ObRen e2 m2 o o1) (h : ObRen e m o1 o') : ObRen (fun i => e (e2 i)) m2 o o' := by
  cases o with
  | cells cs sz sp => cases o1 with
    | cells cs1 sz1 sp1 => cases o' with
      | cells cs' sz' sp' =>
        obtain ⟨a1, a2, a3, a4⟩ := h2
        obtain ⟨b1, b2, b3, b4⟩ := h
        exact ⟨a1.trans b1, a2.trans b2, a3.trans b3, arr_trans (R := VRen e2 m2) (S := VRen e m) a3 b3 a4 b4 fun i x y z _ _ _ p q => p.trans q⟩
      | _ => exact h.elim
    | _ => exact h2.elim
  | map es => cases o1 with
    | map es1 => cases o' with
      | map es' =>
        refine ⟨h2.1.trans h.1, fun k p p' hp hp' => ?_⟩
        obtain ⟨hk, _⟩ := List.getElem?_eq_some_iff.1 hp
        have hk1 : k < es1.length := by rw [← h2.1]; exact hk
        obtain ⟨x1, x2⟩ := h2.2 k p _ hp (List.getElem?_eq_getElem hk1)
        obtain ⟨y1, y2⟩ := h.2 k _ p' (List.getElem?_eq_getElem hk1) hp'
        exact ⟨x1.trans y1, x2.trans y2⟩
      | _ => exact h.elim
    | _ => exact h2.elim
  | loop r => cases o1 with
    | loop r1 => cases o' with
      | loop r' =>
        obtain ⟨a1, a2, a3, a4, a5, a6, a7⟩ := h2
        obtain ⟨b1, b2, b3, b4, b5, b6, b7⟩ := h
        refine ⟨a1.trans b1, a2.trans b2, a3.trans b3, a4.trans b4, a5.trans b5, a6.trans b6, fun t v hv => ?_⟩
        obtain ⟨v1, p, q⟩ := a7 t v hv
        obtain ⟨v', p', q'⟩ := b7 t v1 p
        exact ⟨v', p', q.trans q'⟩
      | _ => exact h.elim
    | _ => exact h2.elim

theorem View.comp {k0 k1 b : Nat} {ci cj : Ctx} {si sj : St} {e e2 : Nat → Nat} (V : View base k0 c s ci si e) (V2 : View ⟨k0, b⟩ k1 ci si cj sj e2) : View base k1 c s cj sj (fun i => e (e2 i)) where
  hide := V2.hide
  floor := V.floor
  lt i hi := V.lt _ (V2.lt i hi).1
  inj i j hi hj h := V2.inj i j hi hj (V.inj _ _ (V2.lt i hi).1 (V2.lt j hj).1 h)
  obj i o h := by
    obtain ⟨h1, o1, h2, h3⟩ := V2.obj i o h
    obtain ⟨_, o', h4, h5⟩ := V.obj _ o1 h2
    exact ⟨h1, o', h4, h3.trans h5⟩
  wr i hi h := V.wr _ (V2.lt i hi).1 (V2.wr i hi h)
  old i hi := by
    have h1 := V2.old i hi
    have h2 := V.old _ (V2.lt i hi).1
    simp only at h1
    omega
  k0 := V2.k0

theorem FView.comp {e e2 : Nat → Nat} {m m2 : Nat} {fri frj : Fr} (F : FView e m fr fri) (F2 : FView e2 m2 fri frj) : FView (fun i => e (e2 i)) m2 fr frj where
  fn := F2.fn.trans F.fn
  nt := F2.nt.trans F.nt
  tm t v h := by
    obtain ⟨v1, h1, h2⟩ := F2.tm t v h
    obtain ⟨v', h3, h4⟩ := F.tm t v1 h1
    exact ⟨v', h3, h2.trans h4⟩
  pt t p h := by
    obtain ⟨h1, h2⟩ := F2.pt t p h
    exact ⟨(F.pt t p h1).1, h2⟩
  loc d cs h := by
    obtain ⟨cs1, h1, h2, h3⟩ := F2.loc d cs h
    obtain ⟨cs', h4, h5, h6⟩ := F.loc d cs1 h1
    exact ⟨cs', h4, h2.trans h5, arr_trans (R := VRen e2 m2) (S := VRen e m) h2 h5 h3 h6 fun i x y z _ _ _ p q => p.trans q⟩
  round := by
    have h1 := F.round
    have h2 := F2.round
    cases hj : frj.round with
    | none =>
      rw [hj] at h2
      simp only at h2 ⊢
      rw [h2] at h1; exact h1
    | some i =>
      rw [hj] at h2
      simp only at h2 ⊢
      rw [h2.2] at h1
      exact ⟨h2.1, h1.2⟩

/-- The state is seen as this one. -/
def Sn (base : Base) (k0 fl : Nat) (c : Ctx) (fri : Fr) (si : St) (fr : Fr) (s : St) : Prop := ∃ e, View base k0 c s { floor := fl, own := [], hide := [] } si e ∧ FView e si.next fr fri

/-- The code's end, with what is kept. -/
def gcObs (k0 fl : Nat) (sel : Ex → List Tmp × List Kept) : Option (Ex × Fr × St) → Option (Ex × Fr × St)
  | some (.pan _, _, _) => none
  | some (ex, fr, s) => (match gc k0 fl (sel ex).1 (sel ex).2 fr s with | some x => some (ex, x.1, x.2) | none => none)
  | none => none

theorem gcH_get {L : List Nat} {s : St} : ∀ {ks : List Kept} {j : Nat} {acc h : Tr AObj}, gcH L s ks j acc = some h → (∀ i, i < j → h.get i = acc.get i) ∧ ∀ i k, ks[i]? = some k → ∃ o, gcO L s k = some o ∧ h.get (j + i) = some o := by
  intro ks
  induction ks with
  | nil => intro j acc h hh; cases hh; exact ⟨fun _ _ => rfl, fun i k hk => by simp at hk⟩
  | cons k r ih =>
    intro j acc h hh
    simp only [gcH] at hh
    split at hh
    · rename_i o0 ho0
      obtain ⟨h1, h2⟩ := ih hh
      refine ⟨fun i hi => ?_, fun i k' hk => ?_⟩
      · rw [h1 i (by omega), Tr.get_put, if_neg (by omega)]
      · cases i with
        | zero =>
          simp at hk; subst hk
          exact ⟨o0, ho0, by rw [Nat.add_zero, h1 j (by omega), Tr.get_put, if_pos rfl]⟩
        | succ i =>
          obtain ⟨o, p, q⟩ := h2 i k' (by simpa using hk)
          exact ⟨o, p, by rw [show j + (i + 1) = j + 1 + i from by omega]; exact q⟩
    · cases hh

/-- The rows that were left as they are hold plain values. -/
def plainJ (sj : St) : List Kept → Nat → Prop
  | [], _ => True
  | .plain _ :: r, j => (match sj.heap.get j with | some (.cells cs _ _) => cs.all (plainN 9) = true | _ => True) ∧ plainJ sj r (j + 1)
  | _ :: r, j => plainJ sj r (j + 1)

theorem plainJ_all {L : List Nat} {s sj : St} {acc : Tr AObj} : ∀ {ks : List Kept} {j : Nat}, (∀ i k, ks[i]? = some k → ∃ o, gcO L s k = some o ∧ sj.heap.get (j + i) = some o) → plainJ sj ks j → allPlain s ks := by
  intro ks
  induction ks with
  | nil => intro j _ _; trivial
  | cons k r ih =>
    intro j h hp
    have hr : ∀ i k, r[i]? = some k → ∃ o, gcO L s k = some o ∧ sj.heap.get (j + 1 + i) = some o := fun i k hk => by
      obtain ⟨o, a, b⟩ := h (i + 1) k (by simpa using hk)
      exact ⟨o, a, by rw [show j + 1 + i = j + (i + 1) from by omega]; exact b⟩
    cases k with
    | plain id =>
      refine ⟨fun cs sz sp hcs => ?_, ih hr hp.2⟩
      obtain ⟨o, h1, h2⟩ := h 0 (.plain id) (by simp)
      simp only [gcO] at h1
      rw [hcs] at h1
      cases h1
      have := hp.1
      rw [Nat.add_zero] at h2
      rw [h2] at this
      exact this
    | cells id => exact ih hr hp
    | loop id ts => exact ih hr hp

theorem gcObs_some {k0 fl : Nat} {sel : Ex → List Tmp × List Kept} {r : Option (Ex × Fr × St)} {ex : Ex} {frj : Fr} {sj : St} (h : gcObs k0 fl sel r = some (ex, frj, sj)) : ∃ fr' s', r = some (ex, fr', s') ∧ (∀ v, ex ≠ .pan v) ∧ gc k0 fl (sel ex).1 (sel ex).2 fr' s' = some (frj, sj) := by
  cases r with
  | none => cases h
  | some x =>
    obtain ⟨ex', fr', s'⟩ := x
    cases ex' with
    | pan v => cases h
    | _ =>
      simp only [gcObs] at h
      split at h
      · rename_i y hy
        cases h
        exact ⟨_, _, rfl, fun v h => (by cases h), hy⟩
      · cases h

theorem gc_view {k0 fl : Nat} {ts : List Tmp} {ks : List Kept} {fr' : Fr} {s' : St} {frj : Fr} {sj : St} (h : gc k0 fl ts ks fr' s' = some (frj, sj)) (hp : plainJ sj ks 0) (hfl : fl ≤ s'.next) {b : Nat} :
    ∃ e, View ⟨k0, b⟩ k0 { floor := fl, own := [], hide := [] } s' { floor := fl, own := [], hide := [] } sj e ∧ FView e sj.next fr' frj := by
  have hap : allPlain s' ks := by
    have h' := h
    unfold gc at h'
    split at h'
    · rename_i tm hh h1 h2 h3 h4 h5
      cases h'
      refine plainJ_all (L := ks.map Kept.id) (acc := .nil) (fun i k hk => ?_) hp
      obtain ⟨o, a, b⟩ := (gcH_get h4).2 i k hk
      exact ⟨o, a, b⟩
    · cases h'
  exact ⟨_, gc_ok h hap hfl⟩

/-- Code, from a state that is laid. -/
theorem AWp.first (hg : ∀ B, Good g B) {k0 fl b n lim : Nat} {k : Code} {sel : Ex → List Tmp × List Kept} {ex : Ex} {frj : Fr} {sj : St} (h : gcObs k0 fl sel (code g (call g n) lim { floor := fl, own := [], hide := [] } k fr s) = some (ex, frj, sj)) (hp : plainJ sj (sel ex).2 0)
    (hfl : fl ≤ s.next) {R : Ex → Fr → St → Prop} (hR : ∀ fr' s', Sn ⟨k0, b⟩ k0 fl { floor := fl, own := [], hide := [] } frj sj fr' s' → Grow { floor := fl, own := [], hide := [] } s s' → R ex fr' s') : AWp g ⟨k0, b⟩ { floor := fl, own := [], hide := [] } k fr s R := by
  obtain ⟨fr', s', h1, h2, h3⟩ := gcObs_some h
  have hgr : Grow { floor := fl, own := [], hide := [] } s s' := code_grow (call_grow (hg ⟨k0, b⟩).hgrow n) _ _ _ _ h1
  obtain ⟨e, V, F⟩ := gc_view h3 hp (Nat.le_trans hfl hgr.next) (b := b)
  exact AWp.eval hg h1 (hR _ _ ⟨e, V, F⟩ hgr)

/-- Code, from a state that is seen. -/
theorem AWp.seen (hg : ∀ B, Good g B) (hng : g.ng = 0) {k0 fl n lim : Nat} {fri : Fr} {si : St} (hS : Sn base k0 fl c fri si fr s) (hfi : fl ≤ si.next) {k : Code} {sel : Ex → List Tmp × List Kept} {ex : Ex} {frj : Fr} {sj : St}
    (h : gcObs k0 fl sel (code g (call g n) lim { floor := fl, own := [], hide := [] } k fri si) = some (ex, frj, sj)) (hp : plainJ sj (sel ex).2 0)
    {R : Ex → Fr → St → Prop} (hR : ∀ fr' s', Sn base k0 fl c frj sj fr' s' → Grow c s s' → R ex fr' s') : AWp g base c k fr s R := by
  obtain ⟨fr1, s1, h1, h2, h3⟩ := gcObs_some h
  obtain ⟨e, V, F⟩ := hS
  have hgr : Grow { floor := fl, own := [], hide := [] } si s1 := code_grow (call_grow (hg base).hgrow n) _ _ _ _ h1
  obtain ⟨e2, V2, F2⟩ := gc_view h3 hp (Nat.le_trans hfi hgr.next) (b := 0)
  exact AWp.view hg hng V F h1 h2 fun fr' s' e' _ V' F' hG => hR fr' s' ⟨_, V'.comp V2, F'.comp F2⟩ hG

/-- A slot that is seen to be plain. -/
theorem Sn.slot {k0 fl : Nat} {fri : Fr} {si : St} (hS : Sn base k0 fl c fri si fr s) {t : Tmp} {v : Value} (h : fri.tm.get t = some v) (hp : plainN 9 v = true) : fr.tm.get t = some v := by
  obtain ⟨e, V, F⟩ := hS
  obtain ⟨v', h1, h2⟩ := F.tm t v h
  rw [h1, plain_eq 9 _ _ hp h2]
end
end
end Go.Am
