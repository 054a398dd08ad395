/- Code, reckoned in a state through which the other is seen. -/
import Derived.Test.YtgcffmkifjnmlaaAmWp
namespace Go.Am
noncomputable section

section
variable {g : Cfg} {base : Base} {c : Ctx} {φ : Nat → Pl} {ω : Nat → Option Tag} {lam : Nat → Nat} {fr : Fr} {s : St} {rs : List Nat} {a : Act} {w w' : World}

def outE (e : Nat → Nat) (m n0 : Nat) : Nat → Nat := fun i => if i < m then e i else n0 + (i - m)
def outS (ci : Ctx) (s si si' : St) (e : Nat → Nat) : St :=
  { heap := bld (fun i => !(decide (i < si.next) && !ci.wr i)) (outE e si.next s.next) (fun i => (si'.heap.get i).map (renO (outE e si.next s.next) si'.next)) si'.next s.heap
    next := s.next + (si'.next - si.next) }
def outFr (s si si' : St) (e : Nat → Nat) (fr fri' : Fr) : Fr :=
  { fri' with tm := fri'.tm.mapT (renV (outE e si.next s.next) si'.next), loc := fri'.loc.mapT (·.map (renV (outE e si.next s.next) si'.next)), round := fr.round }

theorem outE_inj {k0 : Nat} {ci : Ctx} {si si' : St} {e : Nat → Nat} (V : View base k0 c s ci si e) : ∀ i j, i < si'.next → j < si'.next → outE e si.next s.next i = outE e si.next s.next j → i = j := by
  intro i j _ _ h
  unfold outE at h
  split at h <;> split at h
  · exact V.inj i j (by assumption) (by assumption) h
  · have := (V.lt i (by assumption)).1; omega
  · have := (V.lt j (by assumption)).1; omega
  · omega

theorem outS_shut {k0 : Nat} {ci : Ctx} {si si' : St} {e : Nat → Nat} (V : View base k0 c s ci si e) (hgr : Grow ci si si')
    (hO : ∀ i o, si'.heap.get i = some o → ObRen (outE e si.next s.next) si'.next o (renO (outE e si.next s.next) si'.next o) ∧ ∀ r r', o = .loop r → renO (outE e si.next s.next) si'.next o = .loop r' → ∀ t v', r'.tm.get t = some v' → ∃ v, r.tm.get t = some v ∧ VRen (outE e si.next s.next) si'.next v v')
    (hdom : ∀ id o, s.heap.get id = some o → id < s.next) (hvn : ∀ id, s.next ≤ id → c.vis id = true) (hbn : base.id ≤ s.next) :
    Shut c ci s si si' e (outE e si.next s.next) (outS ci s si si' e) ∧ Grow c s (outS ci s si si' e) ∧ View base k0 c (outS ci s si si' e) ci si' (outE e si.next s.next) := by
  have hinj := outE_inj (si' := si') V
  have hext : ∀ i, i < si.next → outE e si.next s.next i = e i := fun i hi => if_pos hi
  have hnew : ∀ i, si.next ≤ i → i < si'.next → s.next ≤ outE e si.next s.next i ∧ outE e si.next s.next i < (outS ci s si si' e).next := fun i h1 h2 => by
    unfold outE outS
    rw [if_neg (by omega)]
    simp only
    omega
  have hout : ∀ id, (∀ i, i < si'.next → (!(decide (i < si.next) && !ci.wr i)) = true → outE e si.next s.next i ≠ id) → (outS ci s si si' e).heap.get id = s.heap.get id := fun id h => bld_out h
  have hin : ∀ i, i < si'.next → (!(decide (i < si.next) && !ci.wr i)) = true → (outS ci s si si' e).heap.get (outE e si.next s.next i) = (si'.heap.get i).map (renO (outE e si.next s.next) si'.next) := fun i hi hs => bld_in (n := si'.next) hinj i hi hs
  have hcase : ∀ id, (∃ i, i < si'.next ∧ (!(decide (i < si.next) && !ci.wr i)) = true ∧ outE e si.next s.next i = id) ∨ (outS ci s si si' e).heap.get id = s.heap.get id := fun id => by
    by_cases h : ∃ i, i < si'.next ∧ (!(decide (i < si.next) && !ci.wr i)) = true ∧ outE e si.next s.next i = id
    · exact .inl h
    · exact .inr (hout id fun i h1 h2 h3 => h ⟨i, h1, h2, h3⟩)
  have hnext : s.next ≤ (outS ci s si si' e).next := by unfold outS; simp only; omega
  refine ⟨⟨hext, hnext, hgr.next, hnew, hinj, fun id o' h => ?_⟩, ⟨hnext, fun id hlt hn => ?_, fun id hw hlt => ?_, fun id hv hlt => ?_, fun hd id o h => ?_⟩, ?_⟩
  · by_cases hx : ∃ i, i < si'.next ∧ (!(decide (i < si.next) && !ci.wr i)) = true ∧ outE e si.next s.next i = id
    · obtain ⟨i, h1, h2, rfl⟩ := hx
      rw [hin i h1 h2] at h
      obtain ⟨o, ho, rfl⟩ := Option.map_eq_some_iff.1 h
      exact .inr ⟨i, o, h1, rfl, ho, (hO i o ho).1, (hO i o ho).2⟩
    · rw [hout id fun i h1 h2 h3 => hx ⟨i, h1, h2, h3⟩] at h
      refine .inl ⟨hdom id o' h, fun i hi he => ?_, h⟩
      cases hc : ci.wr i with
      | false => rfl
      | true => exact (hx ⟨i, Nat.lt_of_lt_of_le hi hgr.next, by simp [hc], by rw [hext i hi, he]⟩).elim
  · rcases hcase id with ⟨i, h1, h2, rfl⟩ | h
    · rw [hin i h1 h2]
      by_cases hi : i < si.next
      · rw [hext i hi] at hn
        have : si.heap.get i = none := by
          cases hc : si.heap.get i with
          | none => rfl
          | some o => obtain ⟨_, o', h3, _⟩ := V.obj i o hc; rw [hn] at h3; cases h3
        rw [hgr.gone i hi this]; rfl
      · have := (hnew i (by omega) h1).1; omega
    · rw [h]; exact hn
  · rcases hcase id with ⟨i, h1, h2, rfl⟩ | h
    · by_cases hi : i < si.next
      · have : ci.wr i = true := by simpa [hi] using h2
        have := V.wr i hi this
        rw [hext i hi] at hw
        rw [hw] at this; cases this
      · have := (hnew i (by omega) h1).1; omega
    · exact h
  · rcases hcase id with ⟨i, h1, h2, rfl⟩ | h
    · by_cases hi : i < si.next
      · have := (V.lt i hi).2
        rw [hext i hi] at hv
        rw [hv] at this; cases this
      · have := (hnew i (by omega) h1).1; omega
    · exact h
  · rcases hcase id with ⟨i, h1, h2, rfl⟩ | h'
    · by_cases hi : i < si.next
      · rw [hext i hi]; exact Nat.lt_of_lt_of_le (V.lt i hi).1 hnext
      · exact (hnew i (by omega) h1).2
    · rw [h'] at h; exact Nat.lt_of_lt_of_le (hd id o h) hnext
  · have hfl := V.floor
    have hwrnew : ∀ id, s.next ≤ id → c.wr id = true := fun id h => by
      unfold Ctx.wr
      rw [decide_eq_true (Nat.le_trans hfl h)]; rfl
    refine ⟨V.hide, Nat.le_trans hfl hnext, fun i hi => ?_, hinj, fun i o h => ?_, fun i hi hw => ?_, fun i hi => ?_, Nat.le_trans V.k0 hgr.next⟩
    · by_cases h : i < si.next
      · rw [hext i h]; exact ⟨Nat.lt_of_lt_of_le (V.lt i h).1 hnext, (V.lt i h).2⟩
      · have := hnew i (by omega) hi
        exact ⟨this.2, hvn _ this.1⟩
    · have hi : i < si'.next := hgr.dom (fun i o h => (V.obj i o h).1) i o h
      refine ⟨hi, ?_⟩
      cases hsel : (!(decide (i < si.next) && !ci.wr i)) with
      | true => exact ⟨_, by rw [hin i hi hsel, h]; rfl, (hO i o h).1⟩
      | false =>
        have hlt : i < si.next ∧ ci.wr i = false := by simpa using hsel
        rw [hgr.low i hlt.2 hlt.1] at h
        obtain ⟨_, o', h1, h2⟩ := V.obj i o h
        refine ⟨o', ?_, h2.up hgr.next fun j hj => hext j hj⟩
        rw [hext i hlt.1, hout (e i) fun j h3 h4 h5 => ?_]
        · exact h1
        · have hij : j = i := hinj j i h3 hi (by rw [h5, hext i hlt.1])
          subst hij
          rw [h4] at hsel; cases hsel
    · by_cases h : i < si.next
      · rw [hext i h]; exact V.wr i h hw
      · exact hwrnew _ (hnew i (by omega) hi).1
    · by_cases h : i < si.next
      · rw [hext i h]; exact V.old i h
      · have h1 := (hnew i (by omega) hi).1
        have := V.k0
        omega

theorem AWp.view (hg : ∀ B, Good g B) (hng : g.ng = 0) {k0 : Nat} {ci : Ctx} {si si' : St} {e : Nat → Nat} {fri fri' : Fr} (V : View base k0 c s ci si e) (F : FView e si.next fr fri) {n lim : Nat} {k : Code} {ex : Ex}
    (h : code g (call g n) lim ci k fri si = some (ex, fri', si')) (hex : ∀ v, ex ≠ .pan v) {R : Ex → Fr → St → Prop}
    (hR : ∀ fr' s' e', (∀ i, i < si.next → e' i = e i) → View base k0 c s' ci si' e' → FView e' si'.next fr' fri' → Grow c s s' → R ex fr' s') : AWp g base c k fr s R := by
  intro φ ω lam rs a w ro Q hs hf hro hQ
  have hgr : Grow ci si si' := code_grow (call_grow (hg base).hgrow n) _ _ _ _ h
  refine code_sim (call_ok (hg ⟨k0, base.blk⟩) n) (call_grow (hg ⟨k0, base.blk⟩).hgrow n) (draw_sim (call_ok (hg ⟨k0, base.blk⟩) n) (call_grow (hg ⟨k0, base.blk⟩).hgrow n)) k (fun i => φ (e i)) (tagsIn e si.next ω) lam fri si rs a w ex fri' si' Q
    (V.open_ hng hs) (F.open_ V.hide hf) (F.round_ hro) h ?_
  intro φi' ωi' lam' rs' a' w' e0 hp he
  have hvis : ∀ i, ci.vis i = true := fun i => by unfold Ctx.vis; rw [V.hide]; rfl
  obtain ⟨S, hG, V'⟩ := outS_shut (si' := si') V hgr (fun i o ho => renO_ok (hp.srel.obj i o ho (hvis i))) hs.dom hs.vnew hs.bn
  have hX : ∀ b, LocB lam fri.loc b → ∃ d, ω b = some (.loc d) := by
    rintro b ⟨d, cs, hd, rfl⟩
    obtain ⟨cs', h1, _, _⟩ := F.loc d cs hd
    exact ⟨d, (hf.own d cs' h1).1⟩
  obtain ⟨φ', ω', hag, hsr, hk, hmap, hloc, hmark⟩ := V.shut hng hs S hX hp.agree hp.srel hp.keep
  have htm : ∀ t v', (outFr s si si' e fr fri').tm.get t = some v' → ∃ v, fri'.tm.get t = some v ∧ VRen (outE e si.next s.next) si'.next v v' := fun t v' hv => by
    unfold outFr at hv
    simp only at hv
    rw [Tr.get_mapT] at hv
    obtain ⟨v, h1, h2⟩ := Option.map_eq_some_iff.1 hv
    exact ⟨v, h1, by rw [← h2]; exact renV_ok (ren_ex _ (hp.frel.tm t v h1))⟩
  have hlc : ∀ d cs', (outFr s si si' e fr fri').loc.get d = some cs' → ∃ cs, fri'.loc.get d = some cs ∧ cs.size = cs'.size ∧ ∀ (k : Nat) x x', cs[k]? = some x → cs'[k]? = some x' → VRen (outE e si.next s.next) si'.next x x' := fun d cs' hd => by
    unfold outFr at hd
    simp only at hd
    rw [Tr.get_mapT] at hd
    obtain ⟨cs, h1, h2⟩ := Option.map_eq_some_iff.1 hd
    subst h2
    refine ⟨cs, h1, by simp, fun k x x' hx hx' => ?_⟩
    rw [Array.getElem?_map, hx] at hx'
    simp only [Option.map_some, Option.some.injEq] at hx'
    subst hx'
    obtain ⟨_, cs2, el, _, hA⟩ := hp.frel.own d cs h1
    obtain ⟨hk, _⟩ := Array.getElem?_eq_some_iff.1 hx
    obtain ⟨x', _, hr⟩ := hA.get hx
    exact renV_ok (ren_ex _ hr)
  have hround : fri'.round = fri.round := hp.round
  have hF : FView (outE e si.next s.next) si'.next (outFr s si si' e fr fri') fri' := by
    refine ⟨rfl, rfl, fun t v hv => ⟨_, by unfold outFr; simp only; rw [Tr.get_mapT, hv]; rfl, renV_ok (ren_ex _ (hp.frel.tm t v hv))⟩, fun t p hpp => ⟨hpp, (hp.frel.pt t p hpp).1⟩, fun d cs hd => ?_, ?_⟩
    · refine ⟨cs.map (renV (outE e si.next s.next) si'.next), by unfold outFr; simp only; rw [Tr.get_mapT, hd]; rfl, by simp, fun k x x' hx hx' => ?_⟩
      obtain ⟨cs1, h1, _, h3⟩ := hlc d (cs.map (renV (outE e si.next s.next) si'.next)) (by unfold outFr; simp only; rw [Tr.get_mapT, hd]; rfl)
      rw [hd] at h1; cases h1
      exact h3 k x x' hx hx'
    · have hr := F.round
      rw [hround]
      cases hf1 : fri.round with
      | none => rw [hf1] at hr; exact hr
      | some i =>
        rw [hf1] at hr
        simp only at hr ⊢
        refine ⟨Nat.lt_of_lt_of_le hr.1 hgr.next, ?_⟩
        show fr.round = _
        rw [hr.2, S.ext i hr.1]
  refine hQ ex (outFr s si si' e fr fri') (outS ci s si si' e) (hR _ _ _ S.ext V' hF hG) φ' ω' lam' rs' a' w' e0 ⟨hag, S.next, hsr, ⟨hp.frel.size, fun t v' hv => ?_, fun t p hpp => ?_, fun d cs' hd => ?_, hp.frel.defers, hp.frel.nodup, fun r hr => ⟨(hp.frel.marks r hr).1, hmark r (hp.frel.marks r hr).2⟩⟩, fun d cs' hd => ?_, ?_, hp.marks, rfl⟩ ?_
  · obtain ⟨v, h1, h2⟩ := htm t v' hv
    exact h2.back hmap (hp.frel.tm t v h1)
  · obtain ⟨⟨cs, h1⟩, h2⟩ := hp.frel.pt t p hpp
    obtain ⟨cs', h3, _⟩ := hF.loc p.1 cs h1
    exact ⟨⟨cs', h3⟩, h2⟩
  · obtain ⟨cs, h1, h2, h3⟩ := hlc d cs' hd
    obtain ⟨ht, cs2, el, hb, hA⟩ := hp.frel.own d cs h1
    exact ⟨hloc _ _ ht, cs2, el, hb, hA.back hmap h2 h3⟩
  · obtain ⟨cs, h1, _, _⟩ := hlc d cs' hd
    rcases hp.lamW d cs h1 with ⟨h2, cs0, h3⟩ | h2
    · obtain ⟨cs1, h4, _, _⟩ := F.loc d cs0 h3
      exact .inl ⟨h2, cs1, h4⟩
    · exact .inr h2
  · refine hk.weaken ?_
    rintro b ⟨d, cs, hd, rfl⟩
    obtain ⟨cs1, h4, _, _⟩ := F.loc d cs hd
    exact ⟨d, cs1, h4, rfl⟩
  · cases he with
    | normal => exact .normal
    | ret => exact .ret
    | exit i => exact .exit i
    | pan v v' hv => exact (hex v rfl).elim
end
end
end Go.Am
