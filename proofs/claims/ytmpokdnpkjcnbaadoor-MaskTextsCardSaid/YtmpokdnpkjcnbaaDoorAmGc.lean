/- What is needed no more is left out, and the rest renumbered, by reckoning. -/
import Derived.Test.YtmpokdnpkjcnbaaDoorAmWp
import Derived.Test.YtmpokdnpkjcnbaaDoorAmSym
import Derived.Test.YtmpokdnpkjcnbaaDoorAmIso
namespace Go.Am
noncomputable section
variable {Z : Zone}

def idx : List Nat → Nat → Nat → Option Nat
  | [], _, _ => none
  | x :: r, id, j => cond (Nat.beq x id) (some j) (idx r id (j + 1))
theorem idx_some : ∀ {L : List Nat} {id j k : Nat}, idx L id j = some k → j ≤ k ∧ L[k - j]? = some id := by
  intro L
  induction L with
  | nil => intro id j k h; cases h
  | cons x r ih =>
    intro id j k h
    simp only [idx, cond_beq] at h
    split at h
    · rename_i e; cases h; subst e; exact ⟨Nat.le_refl _, by simp⟩
    · obtain ⟨h1, h2⟩ := ih h
      refine ⟨by omega, ?_⟩
      rw [show k - j = (k - (j + 1)) + 1 from by omega, List.getElem?_cons_succ]
      exact h2

def optL {α β : Type} (f : α → Option β) : List α → Option (List β)
  | [] => some []
  | x :: r => match f x with
    | some y => (match optL f r with | some ys => some (y :: ys) | none => none)
    | none => none
theorem optL_some {α β : Type} {f : α → Option β} : ∀ {l : List α} {l' : List β}, optL f l = some l' → l.length = l'.length ∧ ∀ (i : Nat) x y, l[i]? = some x → l'[i]? = some y → f x = some y := by
  intro l
  induction l with
  | nil => intro l' h; cases h; exact ⟨rfl, fun i x y h => by simp at h⟩
  | cons a r ih =>
    intro l' h
    simp only [optL] at h
    split at h
    · rename_i y hy
      split at h
      · rename_i ys hys
        cases h
        obtain ⟨h1, h2⟩ := ih hys
        refine ⟨by simp [h1], fun i x z hx hz => ?_⟩
        cases i with
        | zero => simp at hx hz; subst hx hz; exact hy
        | succ i => exact h2 i x z (by simpa using hx) (by simpa using hz)
      · cases h
    · cases h

/-- A value, renumbered. -/
def gcV (L : List Nat) : Nat → Value → Option Value
  | 0, _ => none
  | n + 1, v => match v with
    | .bool b => some (.bool b)
    | .int k i => some (.int k i)
    | .float k i => some (.float k i)
    | .string b => some (.string b)
    | .pointer none => some (.pointer none)
    | .pointer (some ⟨id, o, none⟩) => (match idx L id 0 with | some j => some (.pointer (some ⟨j, o, none⟩)) | none => none)
    | .slice none l cp => some (.slice none l cp)
    | .slice (some ⟨id, o, none⟩) l cp => (match idx L id 0 with | some j => some (.slice (some ⟨j, o, none⟩) l cp) | none => none)
    | .map none => some (.map none)
    | .map (some id) => (match idx L id 0 with | some j => some (.map (some j)) | none => none)
    | .func (.func f) a b => (match optL (gcV L n) a.toList, optL (gcV L n) b.toList with | some a', some b' => some (.func (.func f) ⟨a'⟩ ⟨b'⟩) | _, _ => none)
    | .func (.yield id) ⟨[]⟩ ⟨[]⟩ => (match idx L id 0 with | some j => some (.func (.yield j) #[] #[]) | none => none)
    | .nilFunc => some .nilFunc
    | .iface t w => (match gcV L n w with | some w' => some (.iface t w') | none => none)
    | .nilIface => some .nilIface
    | .agg a => (match optL (gcV L n) a.toList with | some a' => some (.agg ⟨a'⟩) | none => none)
    | .tuple a => (match optL (gcV L n) a.toList with | some a' => some (.tuple ⟨a'⟩) | none => none)
    | .func (.method nm) X ⟨[.slice none o l]⟩ => some (.func (.method nm) X ⟨[.slice none o l]⟩)
    | .func (.methodOf t nm) X ⟨[.slice none o l]⟩ => some (.func (.methodOf t nm) X ⟨[.slice none o l]⟩)
    | _ => none

theorem gcV_ok {L : List Nat} : ∀ (n : Nat) (v v' : Value), gcV L n v = some v' → VRen (fun j => L.getD j 0) L.length v' v := by
  have hid : ∀ {id j}, idx L id 0 = some j → In cAll L.length j ∧ L.getD j 0 = id := fun {id j} h => by
    obtain ⟨_, h2⟩ := idx_some h
    rw [Nat.sub_zero] at h2
    obtain ⟨hlt, _⟩ := List.getElem?_eq_some_iff.1 h2
    exact ⟨⟨hlt, rfl⟩, by rw [List.getD_eq_getElem?_getD, h2]; rfl⟩
  intro n
  induction n with
  | zero => intro v v' h; cases h
  | succ n ih =>
    have harr : ∀ {a : Array Value} {a' : List Value}, optL (gcV L n) a.toList = some a' → (Array.mk a').size = a.size ∧ ∀ (i : Nat) x y, (Array.mk a')[i]? = some x → a[i]? = some y → VRen (fun j => L.getD j 0) L.length x y := fun {a a'} h => by
      obtain ⟨h1, h2⟩ := optL_some h
      refine ⟨by simpa using h1.symm, fun i x y hx hy => ?_⟩
      exact ih y x (h2 i y x (by simpa using hy) (by simpa using hx))
    intro v v' h
    unfold gcV at h
    split at h
    · cases h; exact Vrel.bool (Z := idZone) _
    · cases h; exact Vrel.int (Z := idZone) _ _
    · cases h; exact Vrel.float (Z := idZone) _ _
    · cases h; exact Vrel.string (Z := idZone) _
    · cases h; exact Vrel.nilPointer (Z := idZone)
    · rename_i id o
      split at h
      · rename_i j hj
        cases h
        obtain ⟨h1, h2⟩ := hid hj
        have := Vrel.pointer (Z := idZone) (φ := emb fun j => L.getD j 0) (c := cAll) (n := L.length) j o h1
        simpa [emb, h2, ← List.getD_eq_getElem?_getD] using this
      · cases h
    · cases h; exact Vrel.nilSlice (Z := idZone) _ _
    · rename_i id o l cp
      split at h
      · rename_i j hj
        cases h
        obtain ⟨h1, h2⟩ := hid hj
        have := Vrel.slice (Z := idZone) (φ := emb fun j => L.getD j 0) (c := cAll) (n := L.length) j o l cp h1
        simpa [emb, h2, ← List.getD_eq_getElem?_getD] using this
      · cases h
    · cases h; exact Vrel.nilMap (Z := idZone)
    · split at h
      · rename_i j hj
        cases h
        obtain ⟨h1, h2⟩ := hid hj
        have := Vrel.map (Z := idZone) (φ := emb fun j => L.getD j 0) (c := cAll) (n := L.length) j h1
        simpa [emb, h2, ← List.getD_eq_getElem?_getD] using this
      · cases h
    · split at h
      · rename_i a' b' ha hb
        cases h
        obtain ⟨h1, h2⟩ := harr ha
        obtain ⟨h3, h4⟩ := harr hb
        exact Vrel.func (Z := idZone) _ _ _ _ _ h1 h3 h2 h4
      · cases h
    · split at h
      · rename_i j hj
        cases h
        obtain ⟨h1, h2⟩ := hid hj
        have := Vrel.yield (Z := idZone) (φ := emb fun j => L.getD j 0) (c := cAll) (n := L.length) j h1
        simpa [emb, h2, ← List.getD_eq_getElem?_getD] using this
      · cases h
    · cases h; exact Vrel.nilFunc (Z := idZone)
    · split at h
      · rename_i w' hw; cases h; exact Vrel.iface (Z := idZone) _ _ _ (ih _ _ hw)
      · cases h
    · cases h; exact Vrel.nilIface (Z := idZone)
    · split at h
      · rename_i a' ha
        cases h
        obtain ⟨h1, h2⟩ := harr ha
        exact Vrel.agg (Z := idZone) _ _ h1 h2
      · cases h
    · split at h
      · rename_i a' ha
        cases h
        obtain ⟨h1, h2⟩ := harr ha
        exact Vrel.tuple (Z := idZone) _ _ h1 h2
      · cases h
    · cases h; exact Vrel.vsame (Z := idZone) _ _ _ _ trivial
    · cases h; exact Vrel.psame (Z := idZone) _ _ _ _ _ trivial
    · cases h

/-- Slots that are kept, renumbered, in this order. -/
def gcT (L : List Nat) : List Tmp → Tr Value → Tr Value → Option (Tr Value)
  | [], _, acc => some acc
  | t :: r, tm, acc => match tm.get t with
    | some v => (match gcV L 6 v with | some v' => gcT L r tm (acc.put t v') | none => none)
    | none => none
theorem gcT_ok {L : List Nat} {tm : Tr Value} : ∀ {ts : List Tmp} {acc tm' : Tr Value}, gcT L ts tm acc = some tm' → (∀ t v, acc.get t = some v → ∃ v', tm.get t = some v' ∧ VRen (fun j => L.getD j 0) L.length v v') → ∀ t v, tm'.get t = some v → ∃ v', tm.get t = some v' ∧ VRen (fun j => L.getD j 0) L.length v v' := by
  intro ts
  induction ts with
  | nil => intro acc tm' h ha; cases h; exact ha
  | cons t0 r ih =>
    intro acc tm' h ha
    simp only [gcT] at h
    split at h
    · rename_i v hv
      split at h
      · rename_i v' hv'
        refine ih h fun t u hu => ?_
        rw [Tr.get_put] at hu
        split at hu
        · rename_i e; subst e; cases hu; exact ⟨v, hv, gcV_ok _ _ _ hv'⟩
        · exact ha t u hu
      · cases h
    · cases h

/-- Objects: of plain values alone (left as they are), or renumbered (of a loop's record, the slots that are kept). -/
inductive Kept where
  | plain (id : Nat)
  | cells (id : Nat)
  | loop (id : Nat) (ts : List Tmp)
def Kept.id : Kept → Nat
  | .plain i => i
  | .cells i => i
  | .loop i _ => i

def gcO (L : List Nat) (s : St) : Kept → Option AObj
  | .plain id => (match s.heap.get id with | some (.cells cs sz sp) => some (.cells cs sz sp) | _ => none)
  | .cells id => (match s.heap.get id with | some (.cells cs sz sp) => (match optL (gcV L 6) cs.toList with | some l => some (.cells ⟨l⟩ sz sp) | none => none) | _ => none)
  | .loop id ts => (match s.heap.get id with | some (.loop r) => (match gcT L ts r.tm .nil with | some tm => some (.loop { r with tm := tm }) | none => none) | _ => none)

def gcH (L : List Nat) (s : St) : List Kept → Nat → Tr AObj → Option (Tr AObj)
  | [], _, acc => some acc
  | k :: r, j, acc => match gcO L s k with
    | some o => gcH L s r (j + 1) (acc.put j o)
    | none => none

theorem gcH_ok {L : List Nat} {s : St} : ∀ {ks : List Kept} {j : Nat} {acc h : Tr AObj}, gcH L s ks j acc = some h → (∀ i o, acc.get i = some o → i < j) → ∀ i o, h.get i = some o → (i < j ∧ acc.get i = some o) ∨ ∃ k, j ≤ i ∧ ks[i - j]? = some k ∧ gcO L s k = some o := by
  intro ks
  induction ks with
  | nil => intro j acc h hh ha i o ho; cases hh; exact .inl ⟨ha i o ho, ho⟩
  | cons k r ih =>
    intro j acc h hh ha i o ho
    simp only [gcH] at hh
    split at hh
    · rename_i o0 ho0
      rcases ih hh (fun i o hi => by
        rw [Tr.get_put] at hi
        split at hi
        · omega
        · have := ha i o hi; omega) i o ho with ⟨h1, h2⟩ | ⟨k', h1, h2, h3⟩
      · rw [Tr.get_put] at h2
        split at h2
        · rename_i e; subst e; cases h2
          exact .inr ⟨k, Nat.le_refl _, by simp, ho0⟩
        · exact .inl ⟨ha i o h2, h2⟩
      · refine .inr ⟨k', by omega, ?_, h3⟩
        rw [show i - j = (i - (j + 1)) + 1 from by omega, List.getElem?_cons_succ]
        exact h2
    · cases hh

def allPlain (s : St) : List Kept → Prop
  | [] => True
  | .plain id :: r => (∀ cs sz sp, s.heap.get id = some (.cells cs sz sp) → cs.all (freeN 9) = true) ∧ allPlain s r
  | _ :: r => allPlain s r
theorem allPlain_get {s : St} : ∀ {ks : List Kept}, allPlain s ks → ∀ id, Kept.plain id ∈ ks → ∀ cs sz sp, s.heap.get id = some (.cells cs sz sp) → cs.all (freeN 9) = true := by
  intro ks
  induction ks with
  | nil => intro _ id h; cases h
  | cons k r ih =>
    intro h id hm0
    rcases List.mem_cons.1 hm0 with e | hm
    · subst e; exact h.1
    · cases k with
      | plain i => exact ih h.2 id hm
      | _ => exact ih h id hm

/-- May these ids be kept, in this order? (ids below k0 are old; the context's own ones are from its floor on) -/
def keepOk (k0 fl next : Nat) : List Nat → Nat → Bool
  | [], _ => true
  | x :: r, j => Nat.blt x next && (Nat.blt j k0 == Nat.blt x k0) && (!Nat.ble fl j || Nat.ble fl x) && !memN x r && keepOk k0 fl next r (j + 1)

theorem keepOk_get {k0 fl next : Nat} : ∀ {L : List Nat} {j : Nat}, keepOk k0 fl next L j = true → (∀ (i x : Nat), L[i]? = some x → x < next ∧ (j + i < k0 ↔ x < k0) ∧ (fl ≤ j + i → fl ≤ x)) ∧ L.Nodup := by
  intro L
  induction L with
  | nil => intro j _; exact ⟨fun i x h => by simp at h, List.nodup_nil⟩
  | cons a r ih =>
    intro j h
    simp only [keepOk, Bool.and_eq_true, Bool.or_eq_true, Bool.not_eq_true', beq_iff_eq] at h
    obtain ⟨⟨⟨⟨h1, h2⟩, h3⟩, h4⟩, h5⟩ := h
    obtain ⟨h6, h7⟩ := ih h5
    have hblt : ∀ a b : Nat, Nat.blt a b = true ↔ a < b := fun a b => by simp [Nat.blt]; omega
    have hble : ∀ a b : Nat, Nat.ble a b = true ↔ a ≤ b := fun a b => by simp
    rw [memN_eq] at h4
    refine ⟨fun i x hx => ?_, List.nodup_cons.2 ⟨by simpa using h4, h7⟩⟩
    cases i with
    | zero =>
      simp at hx; subst hx
      refine ⟨(hblt _ _).1 h1, ?_, fun hf => ?_⟩
      · rw [← hblt, ← hblt, Nat.add_zero, h2]
      · rcases h3 with h3 | h3
        · have : ¬ fl ≤ j := fun h => by rw [(hble _ _).2 h] at h3; cases h3
          omega
        · exact (hble _ _).1 h3
    | succ i =>
      have := h6 i x (by simpa using hx)
      rw [show j + (i + 1) = j + 1 + i from by omega]
      exact this

/-- Own variables whose places stand in slots that are kept. -/
def gcP (L : List Nat) (fr : Fr) : List Tmp → Tr (Nat × Nat) → Tr (Array Value) → Option (Tr (Nat × Nat) × Tr (Array Value))
  | [], p, l => some (p, l)
  | t :: r, p, l => match fr.pt.get t with
    | some (d, o) => (match fr.loc.get d with
      | some cs => (match optL (gcV L 6) cs.toList with
        | some cs' => gcP L fr r (p.put t (d, o)) (l.put d ⟨cs'⟩)
        | none => none)
      | none => none)
    | none => gcP L fr r p l
theorem gcP_ok {L : List Nat} {fr : Fr} : ∀ {ts : List Tmp} {p p' : Tr (Nat × Nat)} {l l' : Tr (Array Value)}, gcP L fr ts p l = some (p', l') →
    (∀ t q, p.get t = some q → fr.pt.get t = some q ∧ ∃ cs, l.get q.1 = some cs) → (∀ d cs, l.get d = some cs → ∃ cs', fr.loc.get d = some cs' ∧ cs.size = cs'.size ∧ ∀ (k : Nat) x x', cs[k]? = some x → cs'[k]? = some x' → VRen (fun j => L.getD j 0) L.length x x') →
    (∀ t q, p'.get t = some q → fr.pt.get t = some q ∧ ∃ cs, l'.get q.1 = some cs) ∧ (∀ d cs, l'.get d = some cs → ∃ cs', fr.loc.get d = some cs' ∧ cs.size = cs'.size ∧ ∀ (k : Nat) x x', cs[k]? = some x → cs'[k]? = some x' → VRen (fun j => L.getD j 0) L.length x x') := by
  intro ts
  induction ts with
  | nil => intro p p' l l' h hp hl; cases h; exact ⟨hp, hl⟩
  | cons t r ih =>
    intro p p' l l' h hp hl
    simp only [gcP] at h
    split at h
    · rename_i d o hpt
      split at h
      · rename_i cs hcs
        split at h
        · rename_i cs1 ho
          obtain ⟨e1, e2⟩ := optL_some ho
          refine ih h (fun t' q hq => ?_) (fun d' cs' hd => ?_)
          · rw [Tr.get_put] at hq
            split at hq
            · rename_i e; subst e; cases hq
              exact ⟨hpt, _, by rw [Tr.get_put, if_pos rfl]⟩
            · obtain ⟨h1, cs2, h2⟩ := hp t' q hq
              refine ⟨h1, ?_⟩
              rw [Tr.get_put]
              split
              · exact ⟨_, rfl⟩
              · exact ⟨cs2, h2⟩
          · rw [Tr.get_put] at hd
            split at hd
            · rename_i e; subst e; cases hd
              refine ⟨cs, hcs, by simpa using e1.symm, fun k x x' hx hx' => ?_⟩
              exact gcV_ok _ _ _ (e2 k x' x (by simpa using hx') (by simpa using hx))
            · exact hl d' cs' hd
        · cases h
      · cases h
    · exact ih h hp hl
def noPt (fr : Fr) : List Tmp → List Tmp
  | [] => []
  | t :: r => match fr.pt.get t with | some _ => noPt fr r | none => t :: noPt fr r

/-- All of it: the frame's slots that are kept, the objects that are kept. -/
def gc (k0 fl : Nat) (ts : List Tmp) (ks : List Kept) (fr : Fr) (s : St) : Option (Fr × St) :=
  match keepOk k0 fl s.next (ks.map Kept.id) 0, Nat.ble k0 ks.length, gcT (ks.map Kept.id) (noPt fr ts) fr.tm .nil, gcH (ks.map Kept.id) s ks 0 .nil, fr.round, gcP (ks.map Kept.id) fr ts .nil .nil with
  | true, true, some tm, some h, none, some pl => some ({ fn := fr.fn, nt := fr.nt, tm := tm, pt := pl.1, loc := pl.2, round := none }, { heap := h, next := ks.length })
  | _, _, _, _, _, _ => none

theorem gc_ok {k0 fl : Nat} {ts : List Tmp} {ks : List Kept} {fr fr' : Fr} {s s' : St} (h : gc k0 fl ts ks fr s = some (fr', s')) (hp : allPlain s ks) (hfl : fl ≤ s.next) {b : Nat} :
    View ⟨k0, b⟩ k0 { floor := fl, own := [], hide := [] } s { floor := fl, own := [], hide := [] } s' (fun j => (ks.map Kept.id).getD j 0) ∧ FView (fun j => (ks.map Kept.id).getD j 0) s'.next fr fr' := by
  unfold gc at h
  split at h
  · rename_i tm hh pl h1 h2 h3 h4 h5 h6
    cases h
    obtain ⟨q1, q2⟩ := gcP_ok h6 (fun t q h => by simp [Tr.get_nil] at h) (fun d cs h => by simp [Tr.get_nil] at h)
    obtain ⟨k1, k2⟩ := keepOk_get h1
    have hlen : (ks.map Kept.id).length = ks.length := by simp
    have hk0 : k0 ≤ ks.length := by simpa using h2
    have hget : ∀ i, i < ks.length → (ks.map Kept.id)[i]? = some ((ks.map Kept.id).getD i 0) := fun i hi => by
      rw [List.getD_eq_getElem?_getD, List.getElem?_eq_getElem (by simpa using hi)]; rfl
    have hwr : ∀ i, ({ floor := fl, own := [], hide := [] } : Ctx).wr i = true ↔ fl ≤ i := fun i => by simp [Ctx.wr]
    refine ⟨⟨rfl, hfl, fun i hi => ⟨(k1 i _ (hget i hi)).1, rfl⟩, fun i j hi hj he => ?_, fun i o ho => ?_, fun i hi hw => ?_, fun i hi => ?_, hk0⟩, ⟨rfl, rfl, fun t v hv => ?_, q1, fun d cs hd => by rw [hlen] at q2; exact q2 d cs hd, h5⟩⟩
    · have := (List.getElem?_inj (by simpa using hi) k2).1 ((hget i hi).trans (by rw [he]; exact (hget j hj).symm))
      exact this
    · rcases gcH_ok h4 (fun i o hi => by simp [Tr.get_nil] at hi) i o ho with ⟨hlt, _⟩ | ⟨k, _, hk, hko⟩
      · omega
      · rw [Nat.sub_zero] at hk
        obtain ⟨hi, _⟩ := List.getElem?_eq_some_iff.1 hk
        refine ⟨hi, ?_⟩
        have hid : (ks.map Kept.id).getD i 0 = k.id := by
          rw [List.getD_eq_getElem?_getD, List.getElem?_map, hk]; rfl
        rw [hid]
        cases k with
        | plain id =>
          simp only [gcO] at hko
          split at hko
          · rename_i cs sz sp hcs
            cases hko
            have hpl := allPlain_get hp id (List.mem_of_getElem? hk) cs sz sp hcs
            refine ⟨_, hcs, rfl, rfl, rfl, fun k x x' hx hx' => ?_⟩
            rw [hx] at hx'; cases hx'
            exact free_self _ _ _ 9 x (all_get hpl hx)
          · cases hko
        | cells id =>
          simp only [gcO] at hko
          split at hko
          · rename_i cs sz sp hcs
            split at hko
            · rename_i l hl
              cases hko
              obtain ⟨e1, e2⟩ := optL_some hl
              refine ⟨_, hcs, rfl, rfl, by simpa using e1.symm, fun k x x' hx hx' => ?_⟩
              have := gcV_ok _ _ _ (e2 k x' x (by simpa using hx') (by simpa using hx))
              rw [hlen] at this; exact this
            · cases hko
          · cases hko
        | loop id ts' =>
          simp only [gcO] at hko
          split at hko
          · rename_i r hr
            split at hko
            · rename_i tm' htm
              cases hko
              refine ⟨_, hr, rfl, rfl, rfl, rfl, rfl, rfl, fun t v hv => ?_⟩
              have := gcT_ok htm (fun t v h => by simp [Tr.get_nil] at h) t v hv
              rw [hlen] at this; exact this
            · cases hko
          · cases hko
    · rw [hwr] at hw ⊢
      exact (k1 i _ (hget i hi)).2.2 (by omega)
    · have := (k1 i _ (hget i hi)).2.1
      simp only [Nat.zero_add] at this
      exact this
    · have := gcT_ok h3 (fun t v h => by simp [Tr.get_nil] at h) t v hv
      rw [hlen] at this; exact this
  · cases h
end
end Go.Am

/- A state as it is seen: rules for code, loops, and calls from outside. -/
namespace Go.Am
open Go.RowKit Go.ChangeShapes Go.WideShapes
noncomputable section
variable {Z : Zone}

section
variable {g : Cfg} {base : Base} {c : Ctx} {fr : Fr} {s : St}

theorem VRen.trans {e e2 : Nat → Nat} {m m2 : Nat} {v v1 v' : Value} (h2 : VRen e2 m2 v v1) (h : VRen e m v1 v') : VRen (fun i => e (e2 i)) m2 v v' :=
  VRen.comp (Z := idZone) h2 (ci := cAll) rfl h

theorem ObRen.trans {e e2 : Nat → Nat} {m m2 : Nat} {o o1 o' : AObj} (h2 : ObRen e2 m2 o o1) (h : ObRen e m o1 o') : ObRen (fun i => e (e2 i)) m2 o o' := by
  cases o with
  | cells cs sz sp => cases o1 with
    | cells cs1 sz1 sp1 => cases o' with
      | cells cs' sz' sp' =>
        obtain ⟨a1, a2, a3, a4⟩ := h2
        obtain ⟨b1, b2, b3, b4⟩ := h
        exact ⟨a1.trans b1, a2.trans b2, a3.trans b3, arr_trans (R := VRen e2 m2) (S := VRen e m) a3 b3 a4 b4 fun i x y z _ _ _ p q => p.trans q⟩
      | _ => exact h.elim
    | _ => exact h2.elim
  | map es => cases o1 with
    | map es1 => cases o' with
      | map es' =>
        refine ⟨h2.1.trans h.1, fun k p p' hp hp' => ?_⟩
        obtain ⟨hk, _⟩ := List.getElem?_eq_some_iff.1 hp
        have hk1 : k < es1.length := by rw [← h2.1]; exact hk
        obtain ⟨x1, x2⟩ := h2.2 k p _ hp (List.getElem?_eq_getElem hk1)
        obtain ⟨y1, y2⟩ := h.2 k _ p' (List.getElem?_eq_getElem hk1) hp'
        exact ⟨x1.trans y1, x2.trans y2⟩
      | _ => exact h.elim
    | _ => exact h2.elim
  | loop r => cases o1 with
    | loop r1 => cases o' with
      | loop r' =>
        obtain ⟨a1, a2, a3, a4, a5, a6, a7⟩ := h2
        obtain ⟨b1, b2, b3, b4, b5, b6, b7⟩ := h
        refine ⟨a1.trans b1, a2.trans b2, a3.trans b3, a4.trans b4, a5.trans b5, a6.trans b6, fun t v hv => ?_⟩
        obtain ⟨v1, p, q⟩ := a7 t v hv
        obtain ⟨v', p', q'⟩ := b7 t v1 p
        exact ⟨v', p', q.trans q'⟩
      | _ => exact h.elim
    | _ => exact h2.elim

theorem View.comp {k0 k1 b : Nat} {ci cj : Ctx} {si sj : St} {e e2 : Nat → Nat} (V : View base k0 c s ci si e) (V2 : View ⟨k0, b⟩ k1 ci si cj sj e2) : View base k1 c s cj sj (fun i => e (e2 i)) where
  hide := V2.hide
  floor := V.floor
  lt i hi := V.lt _ (V2.lt i hi).1
  inj i j hi hj h := V2.inj i j hi hj (V.inj _ _ (V2.lt i hi).1 (V2.lt j hj).1 h)
  obj i o h := by
    obtain ⟨h1, o1, h2, h3⟩ := V2.obj i o h
    obtain ⟨_, o', h4, h5⟩ := V.obj _ o1 h2
    exact ⟨h1, o', h4, h3.trans h5⟩
  wr i hi h := V.wr _ (V2.lt i hi).1 (V2.wr i hi h)
  old i hi := by
    have h1 := V2.old i hi
    have h2 := V.old _ (V2.lt i hi).1
    simp only at h1
    omega
  k0 := V2.k0

theorem FView.comp {e e2 : Nat → Nat} {m m2 : Nat} {fri frj : Fr} (F : FView e m fr fri) (F2 : FView e2 m2 fri frj) : FView (fun i => e (e2 i)) m2 fr frj where
  fn := F2.fn.trans F.fn
  nt := F2.nt.trans F.nt
  tm t v h := by
    obtain ⟨v1, h1, h2⟩ := F2.tm t v h
    obtain ⟨v', h3, h4⟩ := F.tm t v1 h1
    exact ⟨v', h3, h2.trans h4⟩
  pt t p h := by
    obtain ⟨h1, h2⟩ := F2.pt t p h
    exact ⟨(F.pt t p h1).1, h2⟩
  loc d cs h := by
    obtain ⟨cs1, h1, h2, h3⟩ := F2.loc d cs h
    obtain ⟨cs', h4, h5, h6⟩ := F.loc d cs1 h1
    exact ⟨cs', h4, h2.trans h5, arr_trans (R := VRen e2 m2) (S := VRen e m) h2 h5 h3 h6 fun i x y z _ _ _ p q => p.trans q⟩
  round := by
    have h1 := F.round
    have h2 := F2.round
    cases hj : frj.round with
    | none =>
      rw [hj] at h2
      simp only at h2 ⊢
      rw [h2] at h1; exact h1
    | some i =>
      rw [hj] at h2
      simp only at h2 ⊢
      rw [h2.2] at h1
      exact ⟨h2.1, h1.2⟩

variable [Z]
/-- The state is seen as this one. -/
def Sn (base : Base) (k0 fl : Nat) (c : Ctx) (fri : Fr) (si : St) (fr : Fr) (s : St) : Prop := ∃ e, View base k0 c s { floor := fl, own := [], hide := [] } si e ∧ FView e si.next fr fri
variable {Z}

/-- The code's end, with what is kept. -/
def gcObs (k0 fl : Nat) (sel : Ex → List Tmp × List Kept) : Option (Ex × Fr × St) → Option (Ex × Fr × St)
  | some (.pan _, _, _) => none
  | some (ex, fr, s) => (match gc k0 fl (sel ex).1 (sel ex).2 fr s with | some x => some (ex, x.1, x.2) | none => none)
  | none => none

theorem gcH_get {L : List Nat} {s : St} : ∀ {ks : List Kept} {j : Nat} {acc h : Tr AObj}, gcH L s ks j acc = some h → (∀ i, i < j → h.get i = acc.get i) ∧ ∀ i k, ks[i]? = some k → ∃ o, gcO L s k = some o ∧ h.get (j + i) = some o := by
  intro ks
  induction ks with
  | nil => intro j acc h hh; cases hh; exact ⟨fun _ _ => rfl, fun i k hk => by simp at hk⟩
  | cons k r ih =>
    intro j acc h hh
    simp only [gcH] at hh
    split at hh
    · rename_i o0 ho0
      obtain ⟨h1, h2⟩ := ih hh
      refine ⟨fun i hi => ?_, fun i k' hk => ?_⟩
      · rw [h1 i (by omega), Tr.get_put, if_neg (by omega)]
      · cases i with
        | zero =>
          simp at hk; subst hk
          exact ⟨o0, ho0, by rw [Nat.add_zero, h1 j (by omega), Tr.get_put, if_pos rfl]⟩
        | succ i =>
          obtain ⟨o, p, q⟩ := h2 i k' (by simpa using hk)
          exact ⟨o, p, by rw [show j + (i + 1) = j + 1 + i from by omega]; exact q⟩
    · cases hh

/-- The rows that were left as they are hold plain values. -/
def plainJ (sj : St) : List Kept → Nat → Prop
  | [], _ => True
  | .plain _ :: r, j => (match sj.heap.get j with | some (.cells cs _ _) => cs.all (freeN 9) = true | _ => True) ∧ plainJ sj r (j + 1)
  | _ :: r, j => plainJ sj r (j + 1)

theorem plainJ_all {L : List Nat} {s sj : St} {acc : Tr AObj} : ∀ {ks : List Kept} {j : Nat}, (∀ i k, ks[i]? = some k → ∃ o, gcO L s k = some o ∧ sj.heap.get (j + i) = some o) → plainJ sj ks j → allPlain s ks := by
  intro ks
  induction ks with
  | nil => intro j _ _; trivial
  | cons k r ih =>
    intro j h hp
    have hr : ∀ i k, r[i]? = some k → ∃ o, gcO L s k = some o ∧ sj.heap.get (j + 1 + i) = some o := fun i k hk => by
      obtain ⟨o, a, b⟩ := h (i + 1) k (by simpa using hk)
      exact ⟨o, a, by rw [show j + 1 + i = j + (i + 1) from by omega]; exact b⟩
    cases k with
    | plain id =>
      refine ⟨fun cs sz sp hcs => ?_, ih hr hp.2⟩
      obtain ⟨o, h1, h2⟩ := h 0 (.plain id) (by simp)
      simp only [gcO] at h1
      rw [hcs] at h1
      cases h1
      have := hp.1
      rw [Nat.add_zero] at h2
      rw [h2] at this
      exact this
    | cells id => exact ih hr hp
    | loop id ts => exact ih hr hp

theorem gcObs_some {k0 fl : Nat} {sel : Ex → List Tmp × List Kept} {r : Option (Ex × Fr × St)} {ex : Ex} {frj : Fr} {sj : St} (h : gcObs k0 fl sel r = some (ex, frj, sj)) : ∃ fr' s', r = some (ex, fr', s') ∧ (∀ v, ex ≠ .pan v) ∧ gc k0 fl (sel ex).1 (sel ex).2 fr' s' = some (frj, sj) := by
  cases r with
  | none => cases h
  | some x =>
    obtain ⟨ex', fr', s'⟩ := x
    cases ex' with
    | pan v => cases h
    | _ =>
      simp only [gcObs] at h
      split at h
      · rename_i y hy
        cases h
        exact ⟨_, _, rfl, fun v h => (by cases h), hy⟩
      · cases h

theorem gc_view {k0 fl : Nat} {ts : List Tmp} {ks : List Kept} {fr' : Fr} {s' : St} {frj : Fr} {sj : St} (h : gc k0 fl ts ks fr' s' = some (frj, sj)) (hp : plainJ sj ks 0) (hfl : fl ≤ s'.next) {b : Nat} :
    ∃ e, View ⟨k0, b⟩ k0 { floor := fl, own := [], hide := [] } s' { floor := fl, own := [], hide := [] } sj e ∧ FView e sj.next fr' frj := by
  have hap : allPlain s' ks := by
    have h' := h
    unfold gc at h'
    split at h'
    · rename_i tm hh pl h1 h2 h3 h4 h5 h6
      cases h'
      refine plainJ_all (L := ks.map Kept.id) (acc := .nil) (fun i k hk => ?_) hp
      obtain ⟨o, a, b⟩ := (gcH_get h4).2 i k hk
      exact ⟨o, a, b⟩
    · cases h'
  exact ⟨_, gc_ok h hap hfl⟩

/-- Code, from a state that is laid. -/
theorem AWp.first (hg : ∀ B, Good g B) {k0 fl b n lim : Nat} {k : Code} {sel : Ex → List Tmp × List Kept} {ex : Ex} {frj : Fr} {sj : St} (h : gcObs k0 fl sel (code g (call g n) lim { floor := fl, own := [], hide := [] } k fr s) = some (ex, frj, sj)) (hp : plainJ sj (sel ex).2 0)
    (hfl : fl ≤ s.next) {R : Ex → Fr → St → Prop} (hR : ∀ fr' s', Sn ⟨k0, b⟩ k0 fl { floor := fl, own := [], hide := [] } frj sj fr' s' → Grow { floor := fl, own := [], hide := [] } s s' → R ex fr' s') : AWp g ⟨k0, b⟩ { floor := fl, own := [], hide := [] } k fr s R := by
  obtain ⟨fr', s', h1, h2, h3⟩ := gcObs_some h
  have hgr : Grow { floor := fl, own := [], hide := [] } s s' := code_grow (call_grow (hg ⟨k0, b⟩).hgrow n) _ _ _ _ h1
  obtain ⟨e, V, F⟩ := gc_view h3 hp (Nat.le_trans hfl hgr.next) (b := b)
  exact AWp.eval hg h1 (hR _ _ ⟨e, V, F⟩ hgr)

/-- Code, from a state that is seen. -/
theorem AWp.seen (hg : ∀ B, Good g B) (hng : g.ng = 0) {k0 fl n lim : Nat} {fri : Fr} {si : St} (hS : Sn base k0 fl c fri si fr s) (hfi : fl ≤ si.next) {k : Code} {sel : Ex → List Tmp × List Kept} {ex : Ex} {frj : Fr} {sj : St}
    (h : gcObs k0 fl sel (code g (call g n) lim { floor := fl, own := [], hide := [] } k fri si) = some (ex, frj, sj)) (hp : plainJ sj (sel ex).2 0)
    {R : Ex → Fr → St → Prop} (hR : ∀ fr' s', Sn base k0 fl c frj sj fr' s' → Grow c s s' → R ex fr' s') : AWp g base c k fr s R := by
  obtain ⟨fr1, s1, h1, h2, h3⟩ := gcObs_some h
  obtain ⟨e, V, F⟩ := hS
  have hgr : Grow { floor := fl, own := [], hide := [] } si s1 := code_grow (call_grow (hg base).hgrow n) _ _ _ _ h1
  obtain ⟨e2, V2, F2⟩ := gc_view h3 hp (Nat.le_trans hfi hgr.next) (b := 0)
  exact AWp.view hg hng V F h1 h2 fun fr' s' e' _ V' F' hG => hR fr' s' ⟨_, V'.comp V2, F'.comp F2⟩ hG

/-- A slot that is seen to be plain. -/
theorem Sn.slot {k0 fl : Nat} {fri : Fr} {si : St} (hS : Sn base k0 fl c fri si fr s) {t : Tmp} {v : Value} (h : fri.tm.get t = some v) (hp : plainN 9 v = true) : fr.tm.get t = some v := by
  obtain ⟨e, V, F⟩ := hS
  obtain ⟨v', h1, h2⟩ := F.tm t v h
  rw [h1, plain_eq (Z := idZone) 9 _ _ hp h2]
end
end
end Go.Am
