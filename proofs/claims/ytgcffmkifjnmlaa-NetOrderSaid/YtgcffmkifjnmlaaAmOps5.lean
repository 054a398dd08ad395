/- Slices: cut, appended to, copied. -/
import Derived.Test.YtgcffmkifjnmlaaAmOps4
namespace Go.Am
section
variable {g : Cfg} {base : Base} {c : Ctx} {φ : Nat → Pl} {ω : Nat → Option Tag} {lam : Nat → Nat} {fr : Fr} {s : St} {rs : List Nat} {a : Act} {w w' : World}

/-- A new number without an object: a place that nobody may read or write. -/
theorem skip_post (hs : SRel g base φ ω c s w) (hf : FRel φ c s.next lam ω fr rs a w) (p : Pl) :
    Post g base c φ (upd φ s.next p) ω ω lam lam fr.loc fr.loc s { s with next := s.next + 1 } w w := by
  have hφ : ∀ i, i < s.next → (upd φ s.next p) i = φ i := fun i hi => upd_ne _ _ (by omega)
  refine ⟨hφ, Nat.le_succ _, ?_, ?_, fun d cs h => .inl ⟨rfl, cs, h⟩, fun d cs h => ⟨rfl, cs, h⟩, Keep.refl _ _ _ _ _⟩
  · exact
    { dom := fun id o h => Nat.lt_succ_of_lt (hs.dom id o h)
      bn := Nat.le_succ_of_le hs.bn
      bf := hs.bf
      vlow := hs.vlow
      vnew := fun i hi => hs.vnew i (Nat.le_of_succ_le hi)
      bw := hs.bw
      obj := fun id o h hv => (hs.obj id o h hv).keep hφ (hs.dom id o h) (Nat.le_succ _) (fun _ => rfl) (fun _ _ => ⟨rfl, rfl⟩)
      low := fun id hi => by rw [hφ id (Nat.lt_of_lt_of_le hi hs.bn)]; exact hs.low id hi
      tag := fun id o h hv hb hso => by rw [hφ id (hs.dom id o h)]; exact hs.tag id o h hv hb hso
      tags := fun b t h => ⟨(hs.tags b t h).1, (hs.tags b t h).2.1, fun i hi => Nat.lt_succ_of_lt ((hs.tags b t h).2.2 i hi)⟩
      glob := fun i hi => ⟨(hs.glob i hi).1, by rw [hφ i (Nat.lt_of_lt_of_le (hs.glob i hi).1 hs.bn)]; exact (hs.glob i hi).2⟩ }
  · intro d cs h
    obtain ⟨ht, cs', el, hb, ha⟩ := hf.own d cs h
    exact ⟨ht, cs', el, hb, ha.mono hφ (Nat.le_succ _)⟩

/-- A new object without cells. -/
theorem empty_post (hs : SRel g base φ ω c s w) (hf : FRel φ c s.next lam ω fr rs a w) (b o sz : Nat) :
    Post g base c φ (upd φ s.next ⟨b, o, 0⟩) ω ω lam lam fr.loc fr.loc s (s.new (.cells #[] sz false)) w w := by
  have hp := skip_post hs hf ⟨b, o, 0⟩
  have hφ := hp.agree
  refine ⟨hφ, Nat.le_succ _, ?_, hp.own, hp.lamW, hp.old, Keep.refl _ _ _ _ _⟩
  refine SRel.putObj hs (Nat.le_refl _) hs.bn (Nat.lt_succ_self _) (Nat.le_succ _) hφ (fun _ _ _ => ⟨rfl, rfl⟩) (fun _ => ⟨fun _ => by rw [upd_self], fun h => ?_⟩) (fun _ h => ?_) hp.srel.tags
  · simp at h
  · simp [Solid] at h


theorem bound_val (hs : SRel g base φ ω c s w) (hf : FRel φ c s.next lam ω fr rs a w) {x : Operand} {other l : Nat} (h : bound g fr (some x) other = some l) : ∃ k : IntKind, a.eval x = .int k l := by
  unfold bound at h
  replace h := bind_some h; obtain ⟨v, hv, h⟩ := h
  replace h := bind_some h; obtain ⟨i, hi, h⟩ := h
  replace h := bind_some h; obtain ⟨_, hc, h⟩ := h
  rw [chk_some, decide_eq_true_eq] at hc
  cases h
  obtain ⟨k, hk, _⟩ := int_of (gev_rel hs hf hv) hi
  exact ⟨k, by rw [hk]; congr 1; omega⟩

theorem sliceBound_run (k : IntKind) (l y : Nat) (code : BoundsCode) (h : l ≤ y) : (Instr.sliceBound (.int k l) y code).run g.P w = .ok l w := by
  have : (0 : Int) ≤ l ∧ (l : Int) ≤ y := by omega
  simp [Instr.sliceBound, asIntOf, h]

theorem bounds_run (hs : SRel g base φ ω c s w) (hf : FRel φ c s.next lam ω fr rs a w) {lo hi : Option Operand} {l h len cap : Nat} (b : Bool) (h1 : bound g fr lo 0 = some l) (h2 : bound g fr hi len = some h) (hl : l ≤ h) (hh : h ≤ cap) :
    (Instr.sliceBounds b len cap (lo.map a.eval) (hi.map a.eval) none).run g.P w = .ok (l, h, cap) w := by
  cases lo with
  | none =>
    simp only [bound, Option.some.injEq] at h1; subst h1
    cases hi with
    | none => simp only [bound, Option.some.injEq] at h2; subst h2; rfl
    | some x =>
      obtain ⟨k, hk⟩ := bound_val hs hf h2
      have := fun code => sliceBound_run (g := g) (w := w) k h cap code hh
      simp [Instr.sliceBounds, hk, this]
  | some y =>
    obtain ⟨ky, hky⟩ := bound_val hs hf h1
    have t1 := fun code => sliceBound_run (g := g) (w := w) ky l h code hl
    cases hi with
    | none =>
      simp only [bound, Option.some.injEq] at h2; subst h2
      simp [Instr.sliceBounds, hky, t1]
    | some x =>
      obtain ⟨k, hk⟩ := bound_val hs hf h2
      have := fun code => sliceBound_run (g := g) (w := w) k h cap code hh
      simp [Instr.sliceBounds, hk, this, hky, t1]

theorem bounds3_run (hs : SRel g base φ ω c s w) (hf : FRel φ c s.next lam ω fr rs a w) {lo hi : Option Operand} {mx : Operand} {len cap l h m : Nat} (h1 : bound g fr lo 0 = some l) (h2 : bound g fr hi len = some h) (h3 : bound g fr (some mx) 0 = some m) (hhi : hi.isSome = true)
    (hlh : l ≤ h) (hhm : h ≤ m) (hmc : m ≤ cap) : (Instr.sliceBounds true len cap (lo.map a.eval) (hi.map a.eval) (some (a.eval mx))).run g.P w = .ok (l, h, m) w := by
  obtain ⟨km, hm⟩ := bound_val hs hf h3
  cases hi with
  | none => cases hhi
  | some x =>
    obtain ⟨kh, hh⟩ := bound_val hs hf h2
    have e0 := fun code => sliceBound_run (g := g) (w := w) km m cap code hmc
    have e1 := fun code => sliceBound_run (g := g) (w := w) kh h m code hhm
    cases lo with
    | none =>
      simp only [bound, Option.some.injEq] at h1; subst h1
      simp [Instr.sliceBounds, hm, hh, e0, e1]
    | some z =>
      obtain ⟨kl, hl⟩ := bound_val hs hf h1
      have e2 := fun code => sliceBound_run (g := g) (w := w) kl l h code hlh
      simp [Instr.sliceBounds, hm, hh, hl, e0, e1, e2]

theorem slice_ok (hs : SRel g base φ ω c s w) (hf : FRel φ c s.next lam ω fr rs a w) {o : Oper} {t : TypeId} {x : Operand} {lo hi mx : Option Operand} (ho : o.op = .slice t x lo hi mx) {r : Value × St} (h : doSlice g c fr s t x lo hi mx = some r) :
    OpOk g base c φ ω lam fr s a w o r.1 fr.loc r.2 := by
  unfold doSlice at h
  replace h := bind_some h; obtain ⟨p, hp, h⟩ := h
  have hrel := gev_rel hs hf hp
  split at h
  · rename_i n elem id off hu
    replace h := bind_some h; obtain ⟨_, hm, h⟩ := h
    rw [chk_some] at hm
    replace h := bind_some h; obtain ⟨size, hsize, h⟩ := h
    replace h := bind_some h; obtain ⟨l, hl, h⟩ := h
    replace h := bind_some h; obtain ⟨hh, hhi, h⟩ := h
    replace h := bind_some h; obtain ⟨_, hc, h⟩ := h
    rw [chk_some, Bool.and_eq_true, decide_eq_true_eq, decide_eq_true_eq] at hc
    unfold sizeOf? at hsize
    cases mx with
    | some _ => simp at hm
    | none =>
      have hrel : Vrel φ c s.next (.pointer (some ⟨id, off, none⟩)) (a.eval x) := hrel
      have hx : a.eval x = .pointer (some ⟨(φ id).blk, (φ id).off + off, none⟩) := by
        generalize a.eval x = z at hrel; cases hrel; rfl
      have hid : In c s.next id := by generalize a.eval x = z at hrel; cases hrel; assumption
      have hb := bounds_run hs hf false hl hhi hc.1 hc.2
      split at h
      · rename_i cs sz hlk
        obtain ⟨hv, hg⟩ := look_some hlk
        have hex := (hs.obj id _ hg hv).1 rfl
        cases h
        refine OpOk.sameV hs hf (v' := .slice (some ⟨(φ id).blk, (φ id).off + (if n = l then off else off + l * size), none⟩) (hh - l) (n - l)) ?_ ?_
        · simp only [execOp, ho, hx, Instr.sliceAt, Sem.run_bind, run_under hu, Result.andThen_ok, Instr.sureAddr, Sem.run_pure, Option.map_none, hb, run_size hsize, addr_add]
          split <;> simp [Nat.add_assoc]
        · have := Vrel.slice (φ := φ) (c := c) (n := s.next) id (if n = l then off else off + l * size) (hh - l) (n - l) hid
          rw [hex] at this
          exact this
      · cases h
  · rename_i elem id off len cap hu
    replace h := bind_some h; obtain ⟨size, hsize, h⟩ := h
    replace h := bind_some h; obtain ⟨l, hl, h⟩ := h
    replace h := bind_some h; obtain ⟨hh, hhi, h⟩ := h
    unfold sizeOf? at hsize
    have hrel : Vrel φ c s.next (.slice (some ⟨id, off, none⟩) len cap) (a.eval x) := hrel
    have hx : a.eval x = .slice (some ⟨(φ id).blk, (φ id).off + off, none⟩) len (cap + (φ id).ex) := by
      generalize a.eval x = z at hrel; cases hrel; rfl
    have hid : In c s.next id := by generalize a.eval x = z at hrel; cases hrel; assumption
    split at h
    · rename_i mx
      replace h := bind_some h; obtain ⟨m, hm, h⟩ := h
      replace h := bind_some h; obtain ⟨_, hc, h⟩ := h
      rw [chk_some] at hc
      simp only [Bool.and_eq_true, decide_eq_true_eq] at hc
      obtain ⟨⟨⟨hlh, hhm⟩, hmc⟩, hhs⟩ := hc
      have hb := bounds3_run hs hf (len := len) (cap := cap + (φ id).ex) hl hhi hm hhs hlh hhm (by omega)
      split at h
      · rename_i hm0
        subst hm0
        obtain rfl : hh = 0 := by omega
        obtain rfl : l = 0 := by omega
        cases h
        refine ⟨.slice (some ⟨(φ id).blk, (φ id).off + off, none⟩) 0 0, _, _, lam, w, .value _, ?_, .inl rfl, ?_, live_glob rfl, empty_post hs hf (φ id).blk ((φ id).off + off) size⟩
        · simp only [execOp, ho, hx, Instr.sliceAt, Instr.slice, Sem.run_bind, run_under hu, Result.andThen_ok, Option.map_some, hb, run_size hsize, if_true, Sem.run_pure, Nat.sub_zero]
        · have := Vrel.slice (c := c) (φ := upd φ s.next ⟨(φ id).blk, (φ id).off + off, 0⟩) (n := s.next + 1) s.next 0 0 0 ⟨Nat.lt_succ_self _, hs.vnew _ (Nat.le_refl _)⟩
          rw [upd_self] at this
          exact this.trel
      · rename_i hm0
        cases h
        have run : ∀ ad, (if m = l then (⟨(φ id).blk, (φ id).off + off, none⟩ : Addr) else ⟨(φ id).blk, (φ id).off + off + l * size, none⟩) = ad →
            (execOp a.eval o).run g.P w = .ok (.value (.slice (some ad) (hh - l) (m - l))) w := by
          intro ad had
          simp only [execOp, ho, hx, Instr.sliceAt, Instr.slice, Sem.run_bind, run_under hu, Result.andThen_ok, Option.map_some, hb, run_size hsize, Sem.run_pure]
          rw [← had]
          split <;> simp [addr_add]
        refine ⟨_, _, _, lam, w, .value _, run _ rfl, .inl rfl, ?_, live_glob rfl, skip_post hs hf ⟨(φ id).blk, (φ id).off + (if m = l then off else off + l * size), 0⟩⟩
        have := Vrel.slice (c := c) (φ := upd φ s.next ⟨(φ id).blk, (φ id).off + (if m = l then off else off + l * size), 0⟩) (n := s.next + 1) s.next 0 (hh - l) (m - l) ⟨Nat.lt_succ_self _, hs.vnew _ (Nat.le_refl _)⟩
        rw [upd_self] at this
        simp only [Trel]
        by_cases e : m = l
        · rw [if_pos e] at this ⊢; rw [if_pos e]; simpa using this
        · rw [if_neg e] at this ⊢; rw [if_neg e]; simpa [Nat.add_assoc] using this
    · replace h := bind_some h; obtain ⟨_, hc, h⟩ := h
      rw [chk_some, Bool.and_eq_true, decide_eq_true_eq, decide_eq_true_eq] at hc
      have hb := bounds_run hs hf true (cap := cap + (φ id).ex) hl hhi hc.1 (by omega)
      have run : ∀ ad, (if cap + (φ id).ex = l then (⟨(φ id).blk, (φ id).off + off, none⟩ : Addr) else ⟨(φ id).blk, (φ id).off + off + l * size, none⟩) = ad →
          (execOp a.eval o).run g.P w = .ok (.value (.slice (some ad) (hh - l) (cap + (φ id).ex - l))) w := by
        intro ad had
        simp only [execOp, ho, hx, Instr.sliceAt, Instr.slice, Sem.run_bind, run_under hu, Result.andThen_ok, Option.map_none, hb, run_size hsize, Sem.run_pure]
        rw [← had]
        split <;> simp [addr_add]
      split at h
      · rename_i hlt
        cases h
        refine OpOk.sameV hs hf (run ⟨(φ id).blk, (φ id).off + off + l * size, none⟩ (if_neg (by omega))) ?_
        have := Vrel.slice (φ := φ) (c := c) (n := s.next) id (off + l * size) (hh - l) (cap - l) hid
        rw [← Nat.add_assoc, show cap - l + (φ id).ex = cap + (φ id).ex - l by omega] at this
        exact this
      · rename_i hge
        have hlc : l = cap := by omega
        have hhl : hh = l := by omega
        split at h
        · rename_i cs sz hlk
          obtain ⟨hv, hg⟩ := look_some hlk
          have hex := (hs.obj id _ hg hv).1 rfl
          cases h
          refine OpOk.sameV hs hf (run ⟨(φ id).blk, (φ id).off + off, none⟩ (if_pos (by omega))) ?_
          have := Vrel.slice (φ := φ) (c := c) (n := s.next) id off 0 0 hid
          rw [hex] at this
          rw [show hh - l = 0 by omega, show cap + (φ id).ex - l = 0 by omega]
          exact this
        · cases h
          refine ⟨_, _, _, lam, w, .value _, run _ rfl, .inl rfl, ?_, live_glob rfl, skip_post hs hf ⟨(φ id).blk, (φ id).off + (if cap + (φ id).ex = l then off else off + l * size), (φ id).ex⟩⟩
          have := Vrel.slice (c := c) (φ := upd φ s.next ⟨(φ id).blk, (φ id).off + (if cap + (φ id).ex = l then off else off + l * size), (φ id).ex⟩) (n := s.next + 1) s.next 0 0 0 ⟨Nat.lt_succ_self _, hs.vnew _ (Nat.le_refl _)⟩
          rw [upd_self] at this
          rw [show hh - l = 0 by omega, show cap + (φ id).ex - l = 0 + (φ id).ex by omega]
          refine Vrel.trel ?_
          have e : (if cap + (φ id).ex = l then (⟨(φ id).blk, (φ id).off + off, none⟩ : Addr) else ⟨(φ id).blk, (φ id).off + off + l * size, none⟩) = ⟨(φ id).blk, (φ id).off + (if cap + (φ id).ex = l then off else off + l * size) + 0, none⟩ := by
            split <;> simp [Nat.add_assoc]
          rw [e]; exact this
  · cases h

end
end Go.Am
