/- From the abstract machine to a row's statement. -/
import Derived.Test.YtgcffmkifjnmlaaAmDraw4
import Derived.Carry
import Derived.ChangeSame
import Derived.OpenShut
namespace Go.Am
open Go.RowKit Go.ChangeShapes Go.WideShapes

def ctx0 (n : Nat) : Ctx := { floor := n, own := [], hide := [] }

/-- The state at a call from outside: what is known of the heap. -/
structure Laid (g : Cfg) (n : Nat) (φ : Nat → Pl) (h : Tr AObj) (W : World) : Prop where
  dom : ∀ id o, h.get id = some o → id < n
  obj : ∀ id o, h.get id = some o → ORel φ (ctx0 n) n ⟨n, W.heap.size⟩ id (fun _ => none) W o
  low : ∀ id, id < n → (φ id).blk < W.heap.size
  glob : ∀ i, i < g.ng → i < n ∧ φ i = ⟨i, 0, 0⟩

theorem Laid.srel {g : Cfg} {n : Nat} {φ : Nat → Pl} {h : Tr AObj} {W : World} (L : Laid g n φ h W) : SRel g ⟨n, W.heap.size⟩ φ (fun _ => none) (ctx0 n) ⟨h, n⟩ W where
  dom := L.dom
  bn := Nat.le_refl _
  bf id hw := by
    simp only [ctx0, Ctx.wr, List.any_nil, Bool.or_false] at hw
    exact of_decide_eq_true hw
  vlow _ _ := rfl
  vnew _ _ := rfl
  bw := Nat.le_refl _
  obj id o ho _ := L.obj id o ho
  low := L.low
  tag id o ho _ hb _ := by have := L.dom id o ho; simp only at hb; omega
  tags b t ht := by cases ht
  glob := L.glob

/-- Nothing known of the heap. -/
theorem Laid.nil {g : Cfg} (hg : g.ng = 0) (W : World) : Laid g 0 (fun _ => ⟨0, 0, 0⟩) .nil W :=
  ⟨fun id o h => by simp [Tr.get_nil] at h, fun id o h => by simp [Tr.get_nil] at h, fun id h => by omega, fun i h => by omega⟩

/-- What the abstract machine answers, the machine answers, and nothing that was there has turned. -/
theorem calls_of {g : Cfg} {n k : Nat} {φ : Nat → Pl} {h : Tr AObj} {W : World} (hg : Good g ⟨n, W.heap.size⟩) (L : Laid g n φ h W) {f : FuncId} {i : FnI} (hh : g.hand f = none) (hi : g.fns f = some i) {args args' : Array Value} (ha : Arel φ (ctx0 n) n args args')
    {b : Bool} {s' : St} (hcall : call g k (.func (.func f) #[] #[]) args (ctx0 n) ⟨h, n⟩ = some (.ret (.bool b), s')) :
    Calls g.P f args' W fun e W' => e = .returned (.bool b) ∧ Below W.heap.size W W' := by
  obtain ⟨nx, hnx, hact⟩ := call_ok hg k _ _ _ _ _ _ hcall φ (fun _ => none) W (.func (.func f) #[] #[]) args' L.srel (.func f #[] #[] #[] #[] rfl rfl (fun i x x' h => by simp at h) (fun i x x' h => by simp at h)) ha
  obtain ⟨F, hF, hb, _, _, hname⟩ := hg.fns f i hi
  simp only [Deferred.ofValue, Sem.run_bind, Sem.run_pure, Result.andThen_ok, invoke, run_callFunc hF hb hname, Array.empty_append, Array.append_empty] at hnx
  cases hnx
  refine callsIn_wide.1 ((callsIn_FF (r' := none) hact).mono ?_)
  rintro e W' ⟨φ', ω', _, _, _, hk, he⟩
  cases he with
  | ret v v' hv =>
    cases hv
    exact ⟨rfl, hk.os, hk.tape, hk.output, hk.size, fun b hb => (hk.same b hb (by rintro ⟨id, o, h, _⟩; cases h) (fun h => h)).1⟩

/-! ### Arguments, opened -/
theorem cell_int {P : Program} {w : World} {r : Reach} {b : Nat} {t : TypeId} {k : IntKind} {v : Value} (ht : P.underlying t = some (.int k)) (h : Cell.okWide P w r b t v) : ∃ n, v = .int k n ∧ k.has n := by
  unfold Cell.okWide at h
  rw [ht] at h
  simp only [Cell.ok, ht] at h
  cases v <;> simp at h
  obtain ⟨rfl, h⟩ := h
  exact ⟨_, rfl, h⟩

theorem cell_slice {P : Program} {w : World} {r : Reach} {b : Nat} {t e : TypeId} {v : Value} (ht : P.underlying t = some (.slice e)) (h : Cell.okWide P w r b t v) :
    v = .slice none 0 0 ∨ ∃ blk off len cap, v = .slice (some ⟨blk, off, none⟩) len cap ∧ blk < w.heap.size ∧ len ≤ cap := by
  unfold Cell.okWide at h
  rw [ht] at h
  simp only [Cell.ok, ht] at h
  split at h
  · rename_i e1; cases e1
  · rename_i e1; cases e1
  · rename_i e1; cases e1
  · rename_i e1; cases e1
  · rename_i e1; cases e1
  · rename_i e1; cases e1
  · exact .inl rfl
  · rename_i e1; cases e1
  · rename_i e1
    cases e1
    obtain ⟨h1, _, h2⟩ := h
    rename_i _ a len cap _
    obtain ⟨_, hs, row, cells, hsh, _⟩ := h2
    refine .inr ⟨a.block, a.off, len, cap, ?_, ?_, h1⟩
    · obtain ⟨b', o', s'⟩ := a; simp only at hs; subst hs; rfl
    · unfold World.shape? at hsh
      cases hh : w.heap[a.block]? with
      | none => rw [hh] at hsh; cases hsh
      | some o => exact (Array.getElem?_eq_some_iff.1 hh).1
  · cases h

section
variable {H : Type} {enc : TypeId × Value → H} {P : Program}

def typesRead (P : Program) (ts : List TypeId) : Bool := ts.all fun t => P.readableRec t && decide (t < P.types.size)

theorem trodAll_below (hl : laidOutB P = true) {W W' : World} (hb : Below W.heap.size W W') : ∀ {ts : List TypeId} {vs : List Value} {ds : List (DataW H)} {p : List MemPlace}, typesRead P ts = true → (∀ x ∈ p, x.block < W.heap.size) →
    DataW.TrodAll enc P W 0 (fun _ => true) true ts vs ds p → DataW.TrodAll enc P W' 0 (fun b => decide (b < W.heap.size)) true ts vs ds p
  | [], _, _, _, _, _, h => by
    obtain ⟨rfl, rfl, rfl⟩ := trodAll_nil h
    exact trodAll_mk0
  | t :: ts, _, _, _, ht, hlt, h => by
    obtain ⟨v, vs1, d, ds1, a, b, rfl, rfl, rfl, h1, h2⟩ := trodAll_cons h
    simp only [typesRead, List.all_cons, Bool.and_eq_true, decide_eq_true_eq] at ht
    exact trodAll_cons_mk (Below.trod hl ht.1.1 ht.1.2 h1 hb (fun x hx => hlt x (List.mem_append_left _ hx))) (trodAll_below hl hb (by simpa [typesRead] using ht.2) (fun x hx => hlt x (List.mem_append_right _ hx)) h2)

/-- A law's result: true, and the arguments read as they did. -/
theorem post_of_below {f : Func} {s : ChangeSpec} {W W' : World} {args : Array Value} {ds gs : List (DataW H)} {before : List MemPlace} {t : TypeId} (hl : laidOutB P = true) (ht : typesRead P f.params.toList = true) (hr : f.resultTypes = #[t]) (hbt : P.underlying t = some .bool)
    (hvars : s.vars = []) (hfn : s.fn H (ds ++ gs) = { results := [.lit (.bool true)], args := ds }) (hW : DataW.Whole enc P f.params.toList s.vars false W args.toList ds gs before) (hb : Below W.heap.size W W') :
    s.post enc P f false true false false W args (.bool true) W' := by
  have hlt := hW.lt
  have hW' := hW
  obtain ⟨p, q, hA, hV, rfl, hfz, hnd⟩ := hW
  rw [hvars] at hV
  obtain ⟨rfl, rfl⟩ := trodVars_none hV
  refine ⟨ds, _, _, [], p, [], hW', ?_, ?_, ?_, hb.frame _, fun h => by cases h⟩
  · rw [hfn, hr]
    exact trodAll_cons_mk (shut_bool hbt _) trodAll_mk0
  · rw [hfn]
    exact trodAll_below hl hb ht (fun x hx => hlt x (by simpa using hx)) hA
  · rw [hfn, hvars]
    rfl
end
end Go.Am
