import Derived.Test.YtgcffmkifjnmlaaPC
/- NetComes: what is true along a round. -/
namespace Go.Proofs.Ytgcffmkifjnmlaa
open Go.Am
noncomputable section
theorem Holds.clz {s : St} {w : Value} {nl : Bool} {M : Array Value} (h : Holds s w nl M) (hP : listP M = true) : clz w s = true := by
  unfold Go.Proofs.Ytgcffmkifjnmlaa.clz okL
  rcases h with ⟨_, rfl, rfl⟩ | ⟨_, q, rfl, hq, h0, _⟩
  · simp [Ctx.vis]
  · simp [hq, hP, h0, Ctx.vis]
/-- The lists that are made of what a net holds, behind an op. -/
theorem fin {s : St} {w : Value} {nl : Bool} {M : Array Value} (H : Holds s w nl M) (hP : listP M = true) (hk : ∀ q, w = .slice (some ⟨q, 0, none⟩) M.size M.size → q ≠ s.next) :
    clz w s = true ∧ (∀ n, nn w n = nl) ∧ (∀ ma ca b, mkB ma ca b s w = (ma != IntKind.wrap .i64 (IntKind.wrap .i64 (ca + b) + ((M.size : Nat) : Int)))) ∧ clz w (aft s w) = true ∧ ∀ a, bigB a (aft s w) w = decide (a < ((M.size : Nat) : Int)) := by
  obtain ⟨f, n1⟩ := H.find
  have H' : Holds (aft s w) w nl M := H.set hk
  refine ⟨H.clz hP, fun n => ?_, fun ma ca b => ?_, H'.clz hP, fun a => ?_⟩
  · unfold nn
    rw [n1]
    cases nl <;> rfl
  · unfold mkB
    rw [f]
  · unfold bigB
    rw [H'.find.1]
theorem Holds.lt6 {s : St} {w : Value} {nl : Bool} {M : Array Value} (h : Holds s w nl M) {q : Nat} (e : w = .slice (some ⟨q, 0, none⟩) M.size M.size) : 0 < q ∧ q < 6 ∧ s.heap.get q = some (.cells M 1 true) := by
  rcases h with ⟨_, h1, _⟩ | ⟨_, q', h1, h2, h3, h4⟩
  · rw [h1] at e; cases e
  · rw [h1] at e; cases e; exact ⟨h3, h4, h2⟩
section
variable {E : Eff} {a p q : Int} {M S : Array Value} {l : List Value}
theorem t1_1k : (fun (E : Eff) (p q : Int) (M S : Array Value) (l : List Value) => (t1 E p q M S l).heap.get 1) = fun (E : Eff) (p q : Int) (M _ : Array Value) (l : List Value) => oldO (netO false M) (E.row (nA (NA p q M)) l) := by kernel_rfl
theorem t1_1 : (t1 E p q M S l).heap.get 1 = oldO (netO false M) (E.row (nA (NA p q M)) l) := congrFun (congrFun (congrFun (congrFun (congrFun (congrFun t1_1k E) p) q) M) S) l
theorem t1_3k : (fun (E : Eff) (p q : Int) (M S : Array Value) (l : List Value) => (t1 E p q M S l).heap.get 3) = fun (E : Eff) (p q : Int) (M _ : Array Value) (l : List Value) => newO (E.row (nA (NA p q M)) l) := by kernel_rfl
theorem t1_3 : (t1 E p q M S l).heap.get 3 = newO (E.row (nA (NA p q M)) l) := congrFun (congrFun (congrFun (congrFun (congrFun (congrFun t1_3k E) p) q) M) S) l
theorem u1_2k : (fun (E : Eff) (a : Int) (l : List Value) => (u1 E a l).heap.get 2) = fun (E : Eff) (a : Int) (l : List Value) => newO (E.row (nA (net0 a)) l) := by kernel_rfl
theorem u1_2 : (u1 E a l).heap.get 2 = newO (E.row (nA (net0 a)) l) := congrFun (congrFun (congrFun u1_2k E) a) l
theorem NAnl : (NA p q M).nl = false := rfl
theorem tw_eq (hA : netOk (NA p q M) = true) : tw E p q M l = netV (at1 E (NA p q M) l 1 3) (nxt E (NA p q M) l).nl (nxt E (NA p q M) l).M := by
  unfold tw nxt at1
  rw [nA_eq hA]
  cases E.row (NA p q M) l <;> rfl
theorem uw_eq (hA : netOk (net0 a) = true) : uw E a l = netV (at1 E (net0 a) l 1 2) (nxt E (net0 a) l).nl (nxt E (net0 a) l).M := by
  unfold uw nxt at1
  rw [nA_eq hA]
  cases E.row (net0 a) l <;> rfl
theorem t1_at (hA : netOk (NA p q M) = true) : (t1 E p q M S l).heap.get (at1 E (NA p q M) l 1 3) = netO (nxt E (NA p q M) l).nl (nxt E (NA p q M) l).M := by
  have h1 := t1_1 (E := E) (p := p) (q := q) (M := M) (S := S) (l := l)
  have h4 := t1_3 (E := E) (p := p) (q := q) (M := M) (S := S) (l := l)
  rw [nA_eq hA] at h1 h4
  unfold at1 nxt
  cases hr : E.row (NA p q M) l with
  | none => rw [hr] at h1; exact h1
  | some x => rw [hr] at h4; exact h4
theorem t1_holds (hA : netOk (NA p q M) = true) (hA' : netOk (nxt E (NA p q M) l) = true) : Holds (t1 E p q M S l) (tw E p q M l) (nxt E (NA p q M) l).nl (nxt E (NA p q M) l).M ∧ ∀ r k n, tw E p q M l = .slice (some ⟨r, 0, none⟩) k n → r = 1 ∨ r = 3 := by
  rw [tw_eq hA]
  have q1 : at1 E (NA p q M) l 1 3 = 1 ∨ at1 E (NA p q M) l 1 3 = 3 := by
    unfold at1
    split
    · exact .inl rfl
    · exact .inr rfl
  refine ⟨Holds.of hA' (t1_at hA) (by omega) (by omega), fun r k n h => ?_⟩
  unfold netV at h
  cases hn : (nxt E (NA p q M) l).nl with
  | true => rw [hn] at h; cases h
  | false => rw [hn] at h; cases h; exact q1
theorem u1_at (hA : netOk (net0 a) = true) : (nxt E (net0 a) l).nl = false → (u1 E a l).heap.get 2 = netO (nxt E (net0 a) l).nl (nxt E (net0 a) l).M ∧ at1 E (net0 a) l 1 2 = 2 := by
  have h4 := u1_2 (E := E) (a := a) (l := l)
  rw [nA_eq hA] at h4
  unfold at1 nxt
  cases hr : E.row (net0 a) l with
  | none => intro h; cases h
  | some x => rw [hr] at h4; exact fun _ => ⟨h4, rfl⟩
theorem u1_holds (hA : netOk (net0 a) = true) (hA' : netOk (nxt E (net0 a) l) = true) : Holds (u1 E a l) (uw E a l) (nxt E (net0 a) l).nl (nxt E (net0 a) l).M ∧ ∀ r k n, uw E a l = .slice (some ⟨r, 0, none⟩) k n → r = 2 := by
  have hU := u1_at (E := E) (l := l) hA
  rw [uw_eq hA]
  cases hn : (nxt E (net0 a) l).nl with
  | true =>
    refine ⟨.inl ⟨rfl, rfl, (netOk_iff.1 hA').2.2.2.2.2.2 hn⟩, fun r k n h => ?_⟩
    unfold netV at h
    cases h
  | false =>
    obtain ⟨g, e⟩ := hU hn
    rw [hn] at g
    rw [e]
    refine ⟨.inr ⟨rfl, 2, rfl, g, by decide, by decide⟩, fun r k n h => ?_⟩
    unfold netV at h
    cases h
    rfl
theorem d1_ok (hA : netOk (NA p q M) = true) (ok1 : E.ok (NA p q M) l = true) (p1 : plainN 9 (E.res (NA p q M) l) = true) (hl : l.all (freeN 9) = true) : d1 E p q M S l = true := by
  unfold d1 effOk
  rw [nA_eq hA, ok1, p1, hl, show (sC1 p q M S).heap.get (0 + 1) = netO (NA p q M).nl (NA p q M).M from rfl, show v1 (NA p q M) = netV (0 + 1) (NA p q M).nl (NA p q M).M from rfl, okV_net (id := 0) (net_free hA)]
  rfl
theorem e1_ok (hA : netOk (net0 a) = true) (ok1 : E.ok (net0 a) l = true) (p1 : plainN 9 (E.res (net0 a) l) = true) (hl : l.all (freeN 9) = true) : e1 E a l = true := by
  unfold e1 effOk
  rw [nA_eq hA, ok1, p1, hl, show (sC0 a).heap.get (0 + 1) = netO (net0 a).nl (net0 a).M from rfl, show v1 (net0 a) = netV (0 + 1) (net0 a).nl (net0 a).M from rfl, okV_net (id := 0) (net_free hA)]
  rfl
end
theorem mem_ext {M : Array Value} {i j : Nat} {x : Value} (h : x ∈ M.extract i j) : x ∈ M := by
  obtain ⟨k, hk, rfl⟩ := Array.mem_iff_getElem.1 h
  rw [Array.getElem_extract]
  exact Array.getElem_mem _
theorem hit_mem {S : Array Value} {v : Value} {t : ByteArray} (h : v ∈ S) (hv : v = .string t) : 0 < cnt S t S.size := by
  obtain ⟨k, hk, e⟩ := Array.mem_iff_getElem.1 h
  refine cnt_pos hk ?_
  unfold hit
  rw [Array.getElem?_eq_getElem hk, e, hv]
  show (t.toList == t.toList) = true
  simp
theorem took_mem {M : Array Value} {i : Int} (hM : strs M = true) (h0 : M.size ≠ 0) : ∃ v, v ∈ M ∧ v = .string (took M i) := by
  obtain ⟨p, hp, hpm⟩ := plI_nat (i := i) h0
  obtain ⟨b, e⟩ := strs_get hM hpm
  unfold took
  rw [if_neg h0, hp, Int.toNat_natCast, e]
  refine ⟨.string b, ?_, rfl⟩
  rw [Array.getElem?_eq_getElem hpm, Option.some.injEq] at e
  rw [← e]
  exact Array.getElem_mem _
theorem strs_ne {S : Array Value} (h : S.size ≠ 0) (hs : strs S = true) : (decide (S.size ≤ S.size) && (decide (S.size ≠ 0) && S.all (freeN 9))) = true := by
  rw [strs_free hs, decide_eq_true (Nat.le_refl _), decide_eq_true h]; rfl
end
end Go.Proofs.Ytgcffmkifjnmlaa

/- NetComes: where a round begins, and where it ends. -/
namespace Go.Proofs.Ytgcffmkifjnmlaa
open Go.Am
noncomputable section
/-- The state at the loop's head: nothing was sent yet, or something was. -/
inductive Cst
  | zero
  | one (p q : Int) (M S : Array Value)
def Cst.st (a : Int) : Cst → St
  | .zero => sC0 a
  | .one p q M S => sC1 p q M S
def Cst.val : Cst → Value
  | .zero => nilV
  | .one _ _ _ S => sent 2 S
def Cst.net (a : Int) : Cst → Net
  | .zero => net0 a
  | .one p q M _ => NA p q M
def Cst.row : Cst → Array Value
  | .zero => #[]
  | .one _ _ _ S => S
structure InvC (a : Int) (c : Cst) (ca ma : Int) (i : Nat) : Prop where
  ok : netOk (c.net a) = true
  ha : (c.net a).a = a
  le : (c.net a).b ≤ 100 * (i : Int)
  eq : ma = ca + (c.net a).b + ((c.net a).M.size : Int)
  ca0 : 0 ≤ ca
  ma1 : ma ≤ 100 * (i : Int)
  sub : ∀ v, v ∈ (c.net a).M → v ∈ c.row
  strs : strs c.row = true
  size : c.row.size ≤ 100 * i
  ne : match c with | .zero => True | .one _ _ _ S => S.size ≠ 0
structure EndC (fr : Fr) (s : St) (a : Int) (X : Array Value) (o n : Nat) (ca ma i : Int) (c : Cst) : Prop where
  hfr : (fr.fn, fr.nt, fr.round) = (4, 120, none)
  hex : match c with
    | .zero => [0, 1, 5, 6, 7, 8, 9].map fr.tm.get = [some (.int .i64 a), some (VS X o n), some (ptrV 0), some nilV, some (.int .i64 ca), some (.int .i64 ma), some (.int .i64 i)] ∧ 2 ≤ s.next ∧ s.heap.get 0 = some (boxO false a 0 nilV)
    | .one p q M S => ∃ r t, r ≠ 0 ∧ t ≠ 0 ∧ r ≠ t ∧ r < s.next ∧ t < s.next ∧ [0, 1, 5, 6, 7, 8, 9].map fr.tm.get = [some (.int .i64 a), some (VS X o n), some (ptrV 0), some (sent t S), some (.int .i64 ca), some (.int .i64 ma), some (.int .i64 i)] ∧ s.heap.get 0 = some (boxO false p q (netV r false M)) ∧ s.heap.get r = some (.cells M 1 true) ∧ s.heap.get t = some (.cells S 1 true)
def thr (r t : Nat) : Nat → Nat := fun i => if i = 0 then 0 else if i = 1 then r else t
theorem sC1_get {p q : Int} {M S : Array Value} {i : Nat} {o : AObj} (h : (sC1 p q M S).heap.get i = some o) : (i = 0 ∧ o = boxO false p q (netV 1 false M)) ∨ (i = 1 ∧ o = .cells M 1 true) ∨ (i = 2 ∧ o = .cells S 1 true) := by
  unfold sC1 netS at h
  simp only at h
  rw [Tr.get_put] at h
  split at h
  · rename_i e; cases h; exact .inr (.inr ⟨e, rfl⟩)
  · rw [Tr.get_set] at h
    split at h
    · rename_i e; cases h; exact .inr (.inl ⟨e, rfl⟩)
    · rw [Tr.get_put] at h
      split at h
      · rename_i e; cases h; exact .inl ⟨e, rfl⟩
      · rw [Tr.get_nil] at h; cases h
theorem sC0_get {a : Int} {i : Nat} {o : AObj} (h : (sC0 a).heap.get i = some o) : i = 0 ∧ o = boxO false a 0 nilV := by
  unfold sC0 at h
  simp only at h
  rw [Tr.get_put] at h
  split at h
  · rename_i e; cases h; exact ⟨e, rfl⟩
  · rw [Tr.get_nil] at h; cases h
theorem frC_get {a : Int} {X : Array Value} {o n : Nat} {v0 : Value} {ca ma i : Int} {t : Tmp} {v : Value} (h : (frC a X o n v0 ca ma i).tm.get t = some v) : (t = 0 ∧ v = .int .i64 a) ∨ (t = 1 ∧ v = VS X o n) ∨ (t = 5 ∧ v = ptrV 0) ∨ (t = 6 ∧ v = v0) ∨ (t = 7 ∧ v = .int .i64 ca) ∨ (t = 8 ∧ v = .int .i64 ma) ∨ (t = 9 ∧ v = .int .i64 i) := by
  simp only [frC, frS, tmS] at h
  repeat
    rw [Tr.get_put] at h
    split at h
    · rename_i e; cases h; simp [e]
  rw [Tr.get_nil] at h; cases h
theorem nt4 : ntOf 4 = 120 := by kernel_rfl
theorem fr_view {fr : Fr} {a : Int} {X : Array Value} {o n : Nat} {ca ma i : Int} {v0 v1 : Value} {e2 : Nat → Nat} {m : Nat} (hfr : (fr.fn, fr.nt, fr.round) = (4, 120, none)) (htm : [0, 1, 5, 6, 7, 8, 9].map fr.tm.get = [some (.int .i64 a), some (VS X o n), some (ptrV 0), some v1, some (.int .i64 ca), some (.int .i64 ma), some (.int .i64 i)]) (h0 : e2 0 = 0) (hm : 0 < m) (hv : VRen e2 m v0 v1) : FView e2 m fr (frC a X o n v0 ca ma i) := by
  simp only [Prod.mk.injEq] at hfr
  simp only [List.map_cons, List.map_nil, List.cons.injEq, and_true] at htm
  obtain ⟨f1, f2, f3⟩ := hfr
  obtain ⟨t0, t1, t5, t6, t7, t8, t9⟩ := htm
  refine ⟨f1.symm, ?_, fun t v hv => ?_, fun t p hp => ?_, fun d cs hd => ?_, f3⟩
  · rw [f2]; exact nt4
  · rcases frC_get hv with ⟨rfl, rfl⟩ | ⟨rfl, rfl⟩ | ⟨rfl, rfl⟩ | ⟨rfl, rfl⟩ | ⟨rfl, rfl⟩ | ⟨rfl, rfl⟩ | ⟨rfl, rfl⟩
    · exact ⟨_, t0, Vrel.int (Z := idZone) _ _⟩
    · exact ⟨_, t1, free_self _ _ _ 9 _ rfl⟩
    · have := ptr_ren e2 (o := 0) hm
      rw [h0] at this
      exact ⟨_, t5, this⟩
    · exact ⟨_, t6, by assumption⟩
    · exact ⟨_, t7, Vrel.int (Z := idZone) _ _⟩
    · exact ⟨_, t8, Vrel.int (Z := idZone) _ _⟩
    · exact ⟨_, t9, Vrel.int (Z := idZone) _ _⟩
  · have hp : (Tr.nil : Tr (Nat × Nat)).get t = some p := hp
    rw [Tr.get_nil] at hp; cases hp
  · have hd : (Tr.nil : Tr (Array Value)).get d = some cs := hd
    rw [Tr.get_nil] at hd; cases hd
theorem end_viewC {fr : Fr} {s : St} {a : Int} {X : Array Value} {o n : Nat} {ca ma i : Int} {c : Cst} (h : EndC fr s a X o n ca ma i c) (hA : netOk (c.net a) = true) (hS : strs c.row = true) : ∃ e2, (∀ b, View ⟨0, b⟩ 0 cz s cz (c.st a) e2) ∧ FView e2 (c.st a).next fr (frC a X o n c.val ca ma i) := by
  cases c with
  | zero =>
    obtain ⟨htm, hn, g0⟩ := h.hex
    refine ⟨fun i => i, fun b => ⟨rfl, Nat.zero_le _, fun i hi => ⟨Nat.lt_of_lt_of_le hi hn, rfl⟩, fun i j hi hj he => he, fun i o ho => ?_, fun i hi _ => rfl, fun i hi => ⟨fun h => absurd h (Nat.not_lt_zero _), fun h => absurd h (Nat.not_lt_zero _)⟩, Nat.zero_le _⟩, ?_⟩
    · obtain ⟨rfl, rfl⟩ := sC0_get ho
      exact ⟨(by decide : 0 < 2), _, g0, box_ren (Vrel.nilSlice (Z := idZone) 0 0)⟩
    · exact fr_view h.hfr htm rfl (by decide : 0 < 2) (Vrel.nilSlice (Z := idZone) 0 0)
  | one p q M S =>
    obtain ⟨r, t, hr0, ht0, hrt, hrn, htn, htm, g0, gr, gt⟩ := h.hex
    have hM : strs M = true := (netOk_iff.1 hA).2.2.2.2.2.1
    refine ⟨thr r t, fun b => ⟨rfl, Nat.zero_le _, fun i hi => ⟨?_, rfl⟩, fun i j hi hj he => ?_, fun i o ho => ?_, fun i hi _ => rfl, fun i hi => ⟨fun h => absurd h (Nat.not_lt_zero _), fun h => absurd h (Nat.not_lt_zero _)⟩, Nat.zero_le _⟩, ?_⟩
    · unfold thr
      split
      · omega
      · split
        · exact hrn
        · exact htn
    · have hi : i < 3 := hi
      have hj : j < 3 := hj
      rcases (by omega : i = 0 ∨ i = 1 ∨ i = 2) with rfl | rfl | rfl <;> rcases (by omega : j = 0 ∨ j = 1 ∨ j = 2) with rfl | rfl | rfl <;> simp [thr] at he ⊢ <;> omega
    · rcases sC1_get ho with ⟨rfl, rfl⟩ | ⟨rfl, rfl⟩ | ⟨rfl, rfl⟩
      · exact ⟨(by decide : 0 < 3), _, g0, box_ren (netV_ren (thr r t) (by decide : 1 < 3) _ _)⟩
      · exact ⟨(by decide : 1 < 3), _, gr, row_ren (strs_free hM)⟩
      · exact ⟨(by decide : 2 < 3), _, gt, row_ren (strs_free hS)⟩
    · exact fr_view h.hfr htm rfl (by decide : 0 < 3) (slice_ren (thr r t) (by decide : 2 < 3))
end
end Go.Proofs.Ytgcffmkifjnmlaa

/- NetComes: conditions of a round's paths. -/
namespace Go.Proofs.Ytgcffmkifjnmlaa
open Go.Am
noncomputable section
section
variable {E : Eff} {a p q : Int} {M S T : Array Value} {l : List Value}
/-- What the round looks at, behind an op: all as it should be. -/
def Fine (a : Int) (N : Net) (b : Int) (s : St) (w : Value) : Prop :=
  clz w s = true ∧ (∀ n, nn w n = N.nl) ∧ (∀ ma ca, ma = ca + N.b + (N.M.size : Int) → 0 ≤ ca → ca ≤ 1000000 → mkB ma ca b s w = false) ∧ clz w (aft s w) = true ∧ bigB a (aft s w) w = false
theorem fine {N : Net} {b : Int} {s : St} {w : Value} (hN : netOk N = true) (hb : b = N.b) (ha : N.a = a) (H : Holds s w N.nl N.M) (hk : ∀ q, w = .slice (some ⟨q, 0, none⟩) N.M.size N.M.size → q ≠ s.next) : Fine a N b s w := by
  obtain ⟨k1, k2, k3, k4, k5⟩ := fin H (net_list hN) hk
  obtain ⟨h1, h2, h3, h4, h5, h6, h7⟩ := netOk_iff.1 hN
  refine ⟨k1, k2, fun ma ca e c0 c1 => ?_, k4, ?_⟩
  · rw [k3, hb, wrap64 (x := ca + N.b) (by omega) (by omega), wrap64 (by omega) (by omega), e]
    simp
  · rw [k5, decide_eq_false_iff_not]
    omega
theorem nb_eq (hA : netOk (NA p q M) = true) : E.b (nA (NA p q M)) l = (nxt E (NA p q M) l).b := by rw [nA_eq hA, nxt_a.2]
theorem nb_eq0 (hA : netOk (net0 a) = true) : E.b (nA (net0 a)) l = (nxt E (net0 a) l).b := by rw [nA_eq hA, nxt_a.2]
theorem cond1 (hA : netOk (NA p q M) = true) (hA' : netOk (nxt E (NA p q M) l) = true) (ha : (nxt E (NA p q M) l).a = a) : Fine a (nxt E (NA p q M) l) (E.b (nA (NA p q M)) l) (t1 E p q M S l) (tw E p q M l) := by
  obtain ⟨H, hr⟩ := t1_holds (E := E) (S := S) (l := l) hA hA'
  refine fine hA' (nb_eq hA) ha H fun r e => ?_
  have := hr _ _ _ e
  show r ≠ 4
  omega
theorem condS (hA : netOk (NA p q M) = true) (hA' : netOk (nxt E (NA p q M) l) = true) (ha : (nxt E (NA p q M) l).a = a) : Fine a (nxt E (NA p q M) l) (E.b (nA (NA p q M)) l) (app1 S T (t1 E p q M S l)) (tw E p q M l) := by
  obtain ⟨H, hr⟩ := t1_holds (E := E) (S := S) (l := l) hA hA'
  have H1 : Holds (app1 S T (t1 E p q M S l)) (tw E p q M l) (nxt E (NA p q M) l).nl (nxt E (NA p q M) l).M := by
    show Holds ⟨((t1 E p q M S l).heap.set 2 none).set 4 (some _), 5⟩ _ _ _
    refine Holds.set (s := ⟨(t1 E p q M S l).heap.set 2 none, 4⟩) (H.set fun r e => ?_) fun r e => ?_
    · have := hr _ _ _ e; omega
    · have := hr _ _ _ e; omega
  refine fine hA' (nb_eq hA) ha H1 fun r e => ?_
  have := hr _ _ _ e
  show r ≠ 5
  omega
theorem cond0 (hA : netOk (net0 a) = true) (hA' : netOk (nxt E (net0 a) l) = true) (ha : (nxt E (net0 a) l).a = a) : Fine a (nxt E (net0 a) l) (E.b (nA (net0 a)) l) (u1 E a l) (uw E a l) := by
  obtain ⟨H, hr⟩ := u1_holds (E := E) (l := l) hA hA'
  refine fine hA' (nb_eq0 hA) ha H fun r e => ?_
  have := hr _ _ _ e
  show r ≠ 3
  omega
theorem condS0 (hA : netOk (net0 a) = true) (hA' : netOk (nxt E (net0 a) l) = true) (ha : (nxt E (net0 a) l).a = a) : Fine a (nxt E (net0 a) l) (E.b (nA (net0 a)) l) (app0 T (u1 E a l)) (uw E a l) := by
  obtain ⟨H, hr⟩ := u1_holds (E := E) (l := l) hA hA'
  have H1 : Holds (app0 T (u1 E a l)) (uw E a l) (nxt E (net0 a) l).nl (nxt E (net0 a) l).M := by
    show Holds ⟨(u1 E a l).heap.set 3 (some _), 4⟩ _ _ _
    refine H.set fun r e => ?_
    have := hr _ _ _ e; omega
  refine fine hA' (nb_eq0 hA) ha H1 fun r e => ?_
  have := hr _ _ _ e
  show r ≠ 4
  omega
theorem fineN (hA : netOk (NA p q M) = true) (ha : p = a) : Fine a (NA p q M) q (sC1 p q M S) (v1 (NA p q M)) := by
  have H : Holds (sC1 p q M S) (v1 (NA p q M)) (NA p q M).nl (NA p q M).M := Holds.of hA (by rfl) (by decide) (by decide)
  refine fine hA rfl ha H fun r e => ?_
  have e : v1 (NA p q M) = .slice (some ⟨r, 0, none⟩) M.size M.size := e
  cases e
  show (1 : Nat) ≠ 3
  decide
theorem nxt_nl (hx : ∀ x, E.row (NA p q M) l = some x → x.1 = false) : (nxt E (NA p q M) l).nl = false := by
  unfold nxt
  cases hr : E.row (NA p q M) l with
  | none => rfl
  | some x => exact hx x hr
theorem take_nl {n : Net} : ∀ x, (takeE false).row n l = some x → x.1 = false := fun x h => by
  simp only [takeE] at h
  split at h
  · cases h
  · cases h; rfl
theorem twice_nl {n : Net} : ∀ x, twiceE.row n l = some x → x.1 = false := fun x h => by
  simp only [twiceE] at h
  split at h
  · cases h
  · cases h; rfl
theorem send_nl {n : Net} {Y : Array Value} {k j : Nat} : ∀ x, sendE.row n [VS Y k j] = some x → x.1 = false := fun x h => by
  have h : (if laidN n j = 0 then none else some (false, n.M ++ Y.extract k (k + laidN n j))) = some x := h
  split at h
  · cases h
  · cases h; rfl
/-- The invariant, of a net. -/
theorem InvC.mk1 {N : Net} {ca ma : Int} {i : Nat} (hnl : N.nl = false) (ok : netOk N = true) (ha : N.a = a) (le : N.b ≤ 100 * (i : Int)) (eq : ma = ca + N.b + (N.M.size : Int)) (ca0 : 0 ≤ ca) (ma1 : ma ≤ 100 * (i : Int)) (sub : ∀ v, v ∈ N.M → v ∈ S) (st : Proofs.Ytgcffmkifjnmlaa.strs S = true) (size : S.size ≤ 100 * i) (ne : S.size ≠ 0) : InvC a (.one N.a N.b N.M S) ca ma i := by
  obtain ⟨x, y, z, w⟩ := N
  simp only at hnl
  subst hnl
  exact ⟨ok, ha, le, eq, ca0, ma1, sub, st, size, ne⟩
theorem cObs_some {r : Option (Ex × Fr × St)} {ex : Ex} {f : FuncId × Nat × Option Nat} {vs : List (Option Value)} {hs : List (Option AObj)} {n : Nat} (h : cObs r = some (ex, f, vs, hs, n)) : ∃ fr s, r = some (ex, fr, s) ∧ (fr.fn, fr.nt, fr.round) = f ∧ [0, 1, 5, 6, 7, 8, 9].map fr.tm.get = vs ∧ [0, 1, 2, 3, 4, 5].map s.heap.get = hs ∧ s.next = n := by
  unfold cObs at h
  split at h
  · simp only [Option.some.injEq, Prod.mk.injEq] at h
    obtain ⟨rfl, h2, h3, h4, h5⟩ := h
    exact ⟨_, _, rfl, h2, h3, h4, h5⟩
  · cases h
variable {X : Array Value} {o n : Nat} {ca ma i : Int}
theorem at_row {k0 k1 : Nat} (hnl : (nxt E (NA p q M) l).nl = false) {s : St} (g1 : s.heap.get k0 = oldO (netO false M) (E.row (NA p q M) l)) (g3 : s.heap.get k1 = newO (E.row (NA p q M) l)) : s.heap.get (at1 E (NA p q M) l k0 k1) = some (.cells (nxt E (NA p q M) l).M 1 true) ∧ (at1 E (NA p q M) l k0 k1 = k0 ∨ at1 E (NA p q M) l k0 k1 = k1) := by
  unfold at1
  unfold nxt at hnl ⊢
  cases hr : E.row (NA p q M) l with
  | none => rw [hr] at g1; exact ⟨g1, .inl rfl⟩
  | some x =>
    rw [hr] at g3 hnl
    simp only at hnl
    have g3 : s.heap.get k1 = netO x.1 x.2 := g3
    rw [hnl] at g3
    exact ⟨g3, .inr rfl⟩
theorem end_op (hA : netOk (NA p q M) = true) (hnl : (nxt E (NA p q M) l).nl = false) {r : Option (Ex × Fr × St)} {x y : Option AObj}
    (h : cObs r = some (.normal, (4, 120, none), [some (.int .i64 a), some (VS X o n), some (ptrV 0), some (.slice (some ⟨2, 0, none⟩) S.size S.size), some (.int .i64 ca), some (.int .i64 ma), some (.int .i64 i)],
      [some (boxO false (E.a (nA (NA p q M)) l) (E.b (nA (NA p q M)) l) (tw E p q M l)), oldO (netO false M) (E.row (nA (NA p q M)) l), some (.cells S 1 true), newO (E.row (nA (NA p q M)) l), x, y], 6)) :
    ∃ fr s, r = some (.normal, fr, s) ∧ EndC fr s a X o n ca ma i (.one (nxt E (NA p q M) l).a (nxt E (NA p q M) l).b (nxt E (NA p q M) l).M S) := by
  obtain ⟨fr, s, h1, h2, h3, h4, h5⟩ := cObs_some h
  simp only [List.map_cons, List.map_nil, List.cons.injEq, and_true] at h4
  obtain ⟨g0, g1, g2, g3, g4, g5⟩ := h4
  rw [tw_eq hA, nA_eq hA, ← (nxt_a (E := E)).1, ← (nxt_a (E := E)).2, hnl] at g0
  rw [nA_eq hA] at g1 g3
  obtain ⟨e1, e2⟩ := at_row hnl g1 g3
  exact ⟨fr, s, h1, h2, at1 E (NA p q M) l 1 3, 2, by omega, by omega, by omega, by omega, by omega, h3, g0, e1, g2⟩
theorem end_send {T : Array Value} {k : Nat} (hT : T.size = k) (hA : netOk (NA p q M) = true) (hnl : (nxt E (NA p q M) l).nl = false) {r : Option (Ex × Fr × St)} {x : Option AObj}
    (h : cObs r = some (.normal, (4, 120, none), [some (.int .i64 a), some (VS X o n), some (ptrV 0), some (.slice (some ⟨4, 0, none⟩) (S.size + k) (S.size + k)), some (.int .i64 ca), some (.int .i64 ma), some (.int .i64 i)],
      [some (boxO false (E.a (nA (NA p q M)) l) (E.b (nA (NA p q M)) l) (tw E p q M l)), oldO (netO false M) (E.row (nA (NA p q M)) l), none, newO (E.row (nA (NA p q M)) l), some (.cells (S.extract 0 (0 + S.size * 1) ++ T) 1 true), x], 7)) :
    ∃ fr s, r = some (.normal, fr, s) ∧ EndC fr s a X o n ca ma i (.one (nxt E (NA p q M) l).a (nxt E (NA p q M) l).b (nxt E (NA p q M) l).M (S ++ T)) := by
  obtain ⟨fr, s, h1, h2, h3, h4, h5⟩ := cObs_some h
  simp only [List.map_cons, List.map_nil, List.cons.injEq, and_true] at h4
  obtain ⟨g0, g1, g2, g3, g4, g5⟩ := h4
  rw [tw_eq hA, nA_eq hA, ← (nxt_a (E := E)).1, ← (nxt_a (E := E)).2, hnl] at g0
  rw [nA_eq hA] at g1 g3
  obtain ⟨e1, e2⟩ := at_row hnl g1 g3
  have eS : S.extract 0 (0 + S.size * 1) = S := by simp
  rw [eS] at g4
  have es : S.size + k = (S ++ T).size := by simp; omega
  rw [es] at h3
  exact ⟨fr, s, h1, h2, at1 E (NA p q M) l 1 3, 4, by omega, by omega, by omega, by omega, by omega, h3, g0, e1, g4⟩
theorem end_send0 {T : Array Value} {k : Nat} (hT : T.size = k) (hA : netOk (net0 a) = true) (hnl : (nxt E (net0 a) l).nl = false) {r : Option (Ex × Fr × St)} {x y : Option AObj}
    (h : cObs r = some (.normal, (4, 120, none), [some (.int .i64 a), some (VS X o n), some (ptrV 0), some (.slice (some ⟨3, 0, none⟩) k k), some (.int .i64 ca), some (.int .i64 ma), some (.int .i64 i)],
      [some (boxO false (E.a (nA (net0 a)) l) (E.b (nA (net0 a)) l) (uw E a l)), oldO none (E.row (nA (net0 a)) l), newO (E.row (nA (net0 a)) l), some (.cells T 1 true), x, y], 6)) :
    ∃ fr s, r = some (.normal, fr, s) ∧ EndC fr s a X o n ca ma i (.one (nxt E (net0 a) l).a (nxt E (net0 a) l).b (nxt E (net0 a) l).M T) := by
  obtain ⟨fr, s, h1, h2, h3, h4, h5⟩ := cObs_some h
  simp only [List.map_cons, List.map_nil, List.cons.injEq, and_true] at h4
  obtain ⟨g0, g1, g2, g3, g4, g5⟩ := h4
  have hx : ∃ x, E.row (net0 a) l = some x := by
    unfold nxt at hnl
    cases hr : E.row (net0 a) l with
    | none => rw [hr] at hnl; cases hnl
    | some x => exact ⟨x, rfl⟩
  obtain ⟨x, hr⟩ := hx
  have e1 : at1 E (net0 a) l 1 2 = 2 := by unfold at1; rw [hr]
  rw [uw_eq hA, nA_eq hA, ← (nxt_a (E := E)).1, ← (nxt_a (E := E)).2, hnl, e1] at g0
  rw [nA_eq hA, hr] at g2
  have e2 : (nxt E (net0 a) l).M = x.2 ∧ (nxt E (net0 a) l).nl = x.1 := by unfold nxt; rw [hr]; exact ⟨rfl, rfl⟩
  have g2 : s.heap.get 2 = netO x.1 x.2 := g2
  rw [← e2.2, hnl, ← e2.1] at g2
  subst hT
  exact ⟨fr, s, h1, h2, 2, 3, by omega, by omega, by omega, by omega, by omega, h3, g0, g2, g3⟩
theorem end_zero (hA : netOk (net0 a) = true) (hr : E.row (net0 a) l = none) (ha : E.a (net0 a) l = a) (hb : E.b (net0 a) l = 0) {r : Option (Ex × Fr × St)} {x y z u v : Option AObj}
    (h : cObs r = some (.normal, (4, 120, none), [some (.int .i64 a), some (VS X o n), some (ptrV 0), some nilV, some (.int .i64 ca), some (.int .i64 ma), some (.int .i64 i)],
      [some (boxO false (E.a (nA (net0 a)) l) (E.b (nA (net0 a)) l) (uw E a l)), x, y, z, u, v], 5)) :
    ∃ fr s, r = some (.normal, fr, s) ∧ EndC fr s a X o n ca ma i .zero := by
  obtain ⟨fr, s, h1, h2, h3, h4, h5⟩ := cObs_some h
  simp only [List.map_cons, List.map_nil, List.cons.injEq, and_true] at h4
  obtain ⟨g0, _⟩ := h4
  have e1 : (nxt E (net0 a) l).nl = true := by unfold nxt; rw [hr]; rfl
  rw [uw_eq hA, nA_eq hA, ha, hb, e1] at g0
  exact ⟨fr, s, h1, h2, h3, by omega, g0⟩
end
end
end Go.Proofs.Ytgcffmkifjnmlaa

/- NetComes: a round. -/
namespace Go.Proofs.Ytgcffmkifjnmlaa
open Go.Am
noncomputable section
section
variable {X : Array Value} {o n : Nat} {a ca ma : Int} {i : Nat} {p q : Int} {M S : Array Value} {E : Eff} {l : List Value}
def Done (r : Option (Ex × Fr × St)) (a : Int) (X : Array Value) (o n i : Nat) : Prop := ∃ c' ca' ma' fr s, InvC a c' ca' ma' (i + 1) ∧ r = some (.normal, fr, s) ∧ EndC fr s a X o n ca' ma' ((i + 1 : Nat) : Int) c'
theorem close1 (hI : InvC a (.one p q M S) ca ma i) (hi : i ≤ 40) {ca' ma' : Int} (hN : netOk (nxt E (NA p q M) l) = true) (hNa : (nxt E (NA p q M) l).a = a) (hnl : (nxt E (NA p q M) l).nl = false) (hle : (nxt E (NA p q M) l).b ≤ 100 * (i : Int) + 100) (heq : ma' = ca' + (nxt E (NA p q M) l).b + ((nxt E (NA p q M) l).M.size : Int)) (hc : 0 ≤ ca') (hm : ma' ≤ 100 * (i : Int) + 100) (hsub : ∀ v, v ∈ (nxt E (NA p q M) l).M → v ∈ M)
    {r : Option (Ex × Fr × St)} {x y : Option AObj} (h : cObs r = some (.normal, (4, 120, none), [some (.int .i64 a), some (VS X o n), some (ptrV 0), some (.slice (some ⟨2, 0, none⟩) S.size S.size), some (.int .i64 ca'), some (.int .i64 ma'), some (.int .i64 (inc (i : Int)))],
      [some (boxO false (E.a (nA (NA p q M)) l) (E.b (nA (NA p q M)) l) (tw E p q M l)), oldO (netO false M) (E.row (nA (NA p q M)) l), some (.cells S 1 true), newO (E.row (nA (NA p q M)) l), x, y], 6)) : Done r a X o n i := by
  rw [incN (by omega)] at h
  obtain ⟨fr, s, h1, h2⟩ := end_op hI.ok hnl h
  have hsz : S.size ≤ 100 * i := hI.size
  have hst : strs S = true := hI.strs
  have hne : S.size ≠ 0 := hI.ne
  have hsb : ∀ v, v ∈ M → v ∈ S := hI.sub
  exact ⟨_, _, _, fr, s, InvC.mk1 hnl hN hNa (by omega) heq hc (by omega) (fun v hv => hsb v (hsub v hv)) hst (by omega) hne, h1, h2⟩
theorem closeS (hI : InvC a (.one p q M S) ca ma i) (hi : i ≤ 40) {ca' ma' : Int} {T : Array Value} {k : Nat} (hT : T.size = k) (hk : k ≤ 50) (hTs : strs T = true) (hN : netOk (nxt E (NA p q M) l) = true) (hNa : (nxt E (NA p q M) l).a = a) (hnl : (nxt E (NA p q M) l).nl = false) (hle : (nxt E (NA p q M) l).b ≤ 100 * (i : Int) + 100) (heq : ma' = ca' + (nxt E (NA p q M) l).b + ((nxt E (NA p q M) l).M.size : Int)) (hc : 0 ≤ ca') (hm : ma' ≤ 100 * (i : Int) + 100) (hsub : ∀ v, v ∈ (nxt E (NA p q M) l).M → v ∈ M ∨ v ∈ T)
    {r : Option (Ex × Fr × St)} {x : Option AObj} (h : cObs r = some (.normal, (4, 120, none), [some (.int .i64 a), some (VS X o n), some (ptrV 0), some (.slice (some ⟨4, 0, none⟩) (S.size + k) (S.size + k)), some (.int .i64 ca'), some (.int .i64 ma'), some (.int .i64 (inc (i : Int)))],
      [some (boxO false (E.a (nA (NA p q M)) l) (E.b (nA (NA p q M)) l) (tw E p q M l)), oldO (netO false M) (E.row (nA (NA p q M)) l), none, newO (E.row (nA (NA p q M)) l), some (.cells (S.extract 0 (0 + S.size * 1) ++ T) 1 true), x], 7)) : Done r a X o n i := by
  rw [incN (by omega)] at h
  obtain ⟨fr, s, h1, h2⟩ := end_send hT hI.ok hnl h
  have hsz : S.size ≤ 100 * i := hI.size
  have hst : strs S = true := hI.strs
  have hne : S.size ≠ 0 := hI.ne
  have hsb : ∀ v, v ∈ M → v ∈ S := hI.sub
  have es : (S ++ T).size = S.size + T.size := Array.size_append
  exact ⟨_, _, _, fr, s, InvC.mk1 hnl hN hNa (by omega) heq hc (by omega) (fun v hv => Array.mem_append.2 ((hsub v hv).imp (hsb v) id)) (strs_app hst hTs) (by omega) (by omega), h1, h2⟩
theorem closeS0 (hI : InvC a .zero ca ma i) (hi : i ≤ 40) {ca' ma' : Int} {T : Array Value} {k : Nat} (hT : T.size = k) (hk : k ≤ 50) (hk0 : k ≠ 0) (hTs : strs T = true) (hN : netOk (nxt E (net0 a) l) = true) (hNa : (nxt E (net0 a) l).a = a) (hnl : (nxt E (net0 a) l).nl = false) (hle : (nxt E (net0 a) l).b ≤ 100 * (i : Int) + 100) (heq : ma' = ca' + (nxt E (net0 a) l).b + ((nxt E (net0 a) l).M.size : Int)) (hc : 0 ≤ ca') (hm : ma' ≤ 100 * (i : Int) + 100) (hsub : ∀ v, v ∈ (nxt E (net0 a) l).M → v ∈ T)
    {r : Option (Ex × Fr × St)} {x y : Option AObj} (h : cObs r = some (.normal, (4, 120, none), [some (.int .i64 a), some (VS X o n), some (ptrV 0), some (.slice (some ⟨3, 0, none⟩) k k), some (.int .i64 ca'), some (.int .i64 ma'), some (.int .i64 (inc (i : Int)))],
      [some (boxO false (E.a (nA (net0 a)) l) (E.b (nA (net0 a)) l) (uw E a l)), oldO none (E.row (nA (net0 a)) l), newO (E.row (nA (net0 a)) l), some (.cells T 1 true), x, y], 6)) : Done r a X o n i := by
  rw [incN (by omega)] at h
  obtain ⟨fr, s, h1, h2⟩ := end_send0 hT hI.ok hnl h
  exact ⟨_, _, _, fr, s, InvC.mk1 hnl hN hNa (by omega) heq hc (by omega) hsub hTs (by omega) (by omega), h1, h2⟩
theorem close0 (hI : InvC a .zero ca ma i) (hi : i ≤ 40) {ma' : Int} (hma : ma' = ma) (hr : E.row (net0 a) l = none) (ha : E.a (net0 a) l = a) (hb : E.b (net0 a) l = 0) {r : Option (Ex × Fr × St)} {x y z u v : Option AObj}
    (h : cObs r = some (.normal, (4, 120, none), [some (.int .i64 a), some (VS X o n), some (ptrV 0), some nilV, some (.int .i64 ca), some (.int .i64 ma'), some (.int .i64 (inc (i : Int)))],
      [some (boxO false (E.a (nA (net0 a)) l) (E.b (nA (net0 a)) l) (uw E a l)), x, y, z, u, v], 5)) : Done r a X o n i := by
  rw [incN (by omega), hma] at h
  obtain ⟨fr, s, h1, h2⟩ := end_zero hI.ok hr ha hb h
  obtain ⟨k1, k2, k3, k4, k5, k6, k7, k8, k9, k10⟩ := hI
  exact ⟨.zero, _, _, fr, s, ⟨k1, k2, by omega, k4, k5, by omega, k7, k8, by omega, k10⟩, h1, h2⟩
/-- What is known of an op. -/
structure OpK (X : Array Value) (o i : Nat) : Prop where
  c0 : isI .i64 X[pI o (i : Nat) + 0]? = true
  c1 : isV X[pI o (i : Nat) + 1]? = true
  c2 : isI .i64 X[pI o (i : Nat) + 2]? = true
  in1 : vO X[pI o (i : Nat) + 1]? + vL X[pI o (i : Nat) + 1]? * 1 ≤ (vX X[pI o (i : Nat) + 1]?).size
  st : strs (opS X o (i : Nat)) = true
  sz : (opS X o (i : Nat)).size = vL X[pI o (i : Nat) + 1]?
  le : vL X[pI o (i : Nat) + 1]? ≤ 50
  int : intOk (toI X[pI o (i : Nat) + 2]?) = true
theorem opK (h : opOk X o i = true) : OpK X o i := by
  simp only [opOk, Bool.and_eq_true, decide_eq_true_eq] at h
  obtain ⟨o1, o2, o3, o4, o5, o6⟩ := h
  simp only [cellsOk, Bool.and_eq_true] at o2
  obtain ⟨c0, c1, c2, _⟩ := o2
  have o3 : vO X[pI o (i : Nat) + 1]? + vL X[pI o (i : Nat) + 1]? ≤ (vX X[pI o (i : Nat) + 1]?).size := o3
  refine ⟨c0, c1, c2, by omega, ?_, ?_, o5, o6⟩
  · unfold opS
    rw [Nat.mul_one]; exact o4
  · unfold opS
    rw [Array.size_extract]
    omega
end
end
end Go.Proofs.Ytgcffmkifjnmlaa

/- NetComes: a round, where something was sent. -/
namespace Go.Proofs.Ytgcffmkifjnmlaa
open Go.Am
noncomputable section
section
variable {X : Array Value} {o n : Nat} {a ca ma : Int} {i : Nat} {p q : Int} {M S : Array Value}
theorem drop_nl {n : Net} {l : List Value} : ∀ x, (dropE false).row n l = some x → x.1 = false := fun x h => take_nl (n := n) (l := l) x h
theorem round1 (hI : InvC a (.one p q M S) ca ma i) (hi : i < n) (hn : n ≤ 40) (hop : opOk X o i = true) : Done (code cfC (call cfC 60) 60 cz k4c (frC a X o n (sent 2 S) ca ma i) (sC1 p q M S)) a X o n i := by
  have hK := opK hop
  have hA : netOk (NA p q M) = true := hI.ok
  have ha : p = a := hI.ha
  subst ha
  have hle : q ≤ 100 * (i : Int) := hI.le
  have heq : ma = ca + q + (M.size : Int) := hI.eq
  have hc := hI.ca0
  have hm := hI.ma1
  have hSz : S.size ≤ 100 * i := hI.size
  have hSs : strs S = true := hI.strs
  have hSn : S.size ≠ 0 := hI.ne
  have hsub : ∀ v, v ∈ M → v ∈ S := hI.sub
  have hi1 : decide (((i : Nat) : Int) < (n : Int)) = true := decide_eq_true (by omega)
  have hi0 : decide ((0 : Int) ≤ (i : Int)) = true := decide_eq_true (by omega)
  obtain ⟨q1, q2, q3, q4, q5, q6, q7⟩ := netOk_iff.1 hA
  have q1 : 1 ≤ p := q1
  have q2 : p ≤ 1000 := q2
  have q3 : (M.size : Int) ≤ p := q3
  have q4 : 0 ≤ q := q4
  have q5 : q ≤ 1099511627776 := q5
  have q6 : strs M = true := q6
  have hnA := nA_eq hA
  obtain ⟨c0, c1, c2, in1, st, sz, le, int⟩ := hK
  have hint : (iA X o (i : Nat)).all (freeN 9) = true := rfl
  have hokI : (netOk (NA p q M) && (match iA X o (i : Nat) with | [.int .i64 i] => intOk i | _ => false)) = true := by
    rw [hA]
    exact int
  by_cases d0 : toI X[pI o (i : Nat) + 0]? = 0
  · -- sent
    have d0' : (toI X[pI o (i : Nat) + 0]? == 0) = true := by rw [d0]; rfl
    have st' : strs ((vX X[pI o (i : Nat) + 1]?).extract (vO X[pI o (i : Nat) + 1]?) (vO X[pI o (i : Nat) + 1]? + vL X[pI o (i : Nat) + 1]?)) = true := by
      unfold opS at st; rwa [Nat.mul_one] at st
    have hok : sendE.ok (NA p q M) (sA X o (i : Nat)) = true := by
      show (netOk _ && (decide ("" = "") && rowOk (vX X[pI o (i : Nat) + 1]?) (vO X[pI o (i : Nat) + 1]?) (vL X[pI o (i : Nat) + 1]?) && decide (q + ((vL X[pI o (i : Nat) + 1]? : Nat) : Int) ≤ 1099511627776))) = true
      rw [hA]
      simp only [rowOk, Bool.and_eq_true, decide_eq_true_eq, st', true_and, and_true]
      omega
    have N1 : netOk (nxt sendE (NA p q M) (sA X o (i : Nat))) = true ∧ (nxt sendE (NA p q M) (sA X o (i : Nat))).a = p ∧ (nxt sendE (NA p q M) (sA X o (i : Nat))).b = q + ((vL X[pI o (i : Nat) + 1]? - min (vL X[pI o (i : Nat) + 1]?) (p.toNat - M.size) : Nat) : Int) ∧
      (nxt sendE (NA p q M) (sA X o (i : Nat))).M = if min (vL X[pI o (i : Nat) + 1]?) (p.toNat - M.size) = 0 then M else M ++ (vX X[pI o (i : Nat) + 1]?).extract (vO X[pI o (i : Nat) + 1]?) (vO X[pI o (i : Nat) + 1]? + min (vL X[pI o (i : Nat) + 1]?) (p.toNat - M.size)) := nx_send hA st' (by omega)
    obtain ⟨N1, N2, N3, N4⟩ := N1
    have hnl : (nxt sendE (NA p q M) (sA X o (i : Nat))).nl = false := nxt_nl send_nl
    have hd := d1_ok (E := sendE) (S := S) (l := sA X o (i : Nat)) hA hok rfl rfl
    have e8 : IntKind.wrap .i64 (ma + ((vL X[pI o (i : Nat) + 1]? : Nat) : Int)) = ma + ((vL X[pI o (i : Nat) + 1]? : Nat) : Int) := wrap64 (by omega) (by omega)
    have hsizeM : ((nxt sendE (NA p q M) (sA X o (i : Nat))).M.size : Int) = (M.size : Int) + ((min (vL X[pI o (i : Nat) + 1]?) (p.toNat - M.size) : Nat) : Int) := by
      rw [N4]
      split
      · rename_i e; rw [e]; omega
      · simp only [Array.size_append, Array.size_extract]; omega
    have heq' : ma + ((vL X[pI o (i : Nat) + 1]? : Nat) : Int) = ca + (nxt sendE (NA p q M) (sA X o (i : Nat))).b + ((nxt sendE (NA p q M) (sA X o (i : Nat))).M.size : Int) := by
      rw [N3, hsizeM]; omega
    by_cases hk : vL X[pI o (i : Nat) + 1]? = 0
    · obtain ⟨k1, k2, k3, k4, k5⟩ := cond1 (E := sendE) (S := S) (l := sA X o (i : Nat)) hA N1 N2
      have k3 := k3 _ ca heq' hc (by omega)
      have hz : min (vL X[pI o (i : Nat) + 1]?) (p.toNat - M.size) = 0 := by omega
      refine close1 hI (by omega) N1 N2 hnl (by rw [N3]; omega) heq' hc (by omega) (fun v hv => by rw [N4, if_pos hz] at hv; exact hv) (path_eval tC_ok ((rb1z_cond p X o n ca ma (i : Nat) p q M S).trans ?_) ((rb1z_leaf p X o n ca ma (i : Nat) p q M S).trans (by rw [e8])))
      have hkb : decide (vL X[pI o (i : Nat) + 1]? = 0) = true := decide_eq_true hk
      have hlim : decide (S.size + vL X[pI o (i : Nat) + 1]? ≤ nLim) = true := decide_eq_true (by unfold nLim; omega)
      have hSS : decide (S.size ≤ S.size) = true := decide_eq_true (Nat.le_refl _)
      simp only [rb1z_c, hi1, hi0, c0, c1, d0', hd, hkb, hlim, hSS, e8, k1, k2, hnl, k3, k4, k5, Bool.and_self, Bool.not_false]
    · obtain ⟨k1, k2, k3, k4, k5⟩ := condS (E := sendE) (S := S) (T := opS X o (i : Nat)) (l := sA X o (i : Nat)) hA N1 N2
      have k3 := k3 _ ca heq' hc (by omega)
      refine closeS hI (by omega) sz le st N1 N2 hnl (by rw [N3]; omega) heq' hc (by omega) (fun v hv => ?_) (path_eval tC_ok ((rb1_cond p X o n ca ma (i : Nat) p q M S).trans ?_) ((rb1_leaf p X o n ca ma (i : Nat) p q M S).trans (by rw [e8])))
      · rw [N4] at hv
        split at hv
        · exact .inl hv
        · refine (Array.mem_append.1 hv).imp id fun hv => ?_
          rw [ext_ext (k := vL X[pI o (i : Nat) + 1]?) (by omega)] at hv
          unfold opS
          rw [Nat.mul_one]
          exact mem_ext hv
      have hkb : decide (vL X[pI o (i : Nat) + 1]? = 0) = false := decide_eq_false hk
      have hlim : decide (S.size + vL X[pI o (i : Nat) + 1]? ≤ nLim) = true := decide_eq_true (by unfold nLim; omega)
      have hSS : decide (S.size ≤ S.size) = true := decide_eq_true (Nat.le_refl _)
      have h11 : (decide (vL X[pI o (i : Nat) + 1]? ≤ vL X[pI o (i : Nat) + 1]?) && decide (vO X[pI o (i : Nat) + 1]? + vL X[pI o (i : Nat) + 1]? * 1 ≤ Array.size (vX X[pI o (i : Nat) + 1]?))) = true := by rw [decide_eq_true (Nat.le_refl _), decide_eq_true in1]; rfl
      have h13 : decide (S.size + vL X[pI o (i : Nat) + 1]? ≤ S.size) = false := decide_eq_false (by omega)
      have h14 : decide (0 + S.size * 1 ≤ S.size) = true := decide_eq_true (by omega)
      have h15 : (S.size == S.size && 0 + S.size * 1 == S.size) = true := by simp
      simp only [rb1_c, hi1, hi0, c0, c1, d0', hd, hkb, hlim, hSS, h11, strs_one st, h13, h14, h15, e8, k1, k2, hnl, k3, k4, k5, Bool.and_self, Bool.not_false]
  · have d0' : (toI X[pI o (i : Nat) + 0]? == 0) = false := by simpa using d0
    by_cases d1 : toI X[pI o (i : Nat) + 0]? = 1
    · -- taken
      have d1' : (toI X[pI o (i : Nat) + 0]? == 1) = true := by rw [d1]; rfl
      have N1 : netOk (nxt (takeE false) (NA p q M) (iA X o (i : Nat))) = true ∧ (nxt (takeE false) (NA p q M) (iA X o (i : Nat))).a = p ∧ (nxt (takeE false) (NA p q M) (iA X o (i : Nat))).b = q ∧
        (nxt (takeE false) (NA p q M) (iA X o (i : Nat))).M = if M.size = 0 then M else cutM M (plI M.size (toI X[pI o (i : Nat) + 2]?)).toNat := nx_take hA
      obtain ⟨N1, N2, N3, N4⟩ := N1
      have hnl : (nxt (takeE false) (NA p q M) (iA X o (i : Nat))).nl = false := nxt_nl take_nl
      have hd := d1_ok (E := takeE false) (S := S) (l := iA X o (i : Nat)) hA hokI (by simp [takeE, plainN]) hint
      obtain ⟨k1, k2, k3, k4, k5⟩ := cond1 (E := takeE false) (S := S) (l := iA X o (i : Nat)) hA N1 N2
      have hMM : (nA (NA p q M)).M = M := by rw [hnA]; rfl
      by_cases h0 : M.size = 0
      · rw [if_pos h0] at N4
        have heq' : ma = ca + (nxt (takeE false) (NA p q M) (iA X o (i : Nat))).b + ((nxt (takeE false) (NA p q M) (iA X o (i : Nat))).M.size : Int) := by rw [N3, N4]; exact heq
        have k3 := k3 _ ca heq' hc (by omega)
        refine close1 hI (by omega) N1 N2 hnl (by rw [N3]; omega) heq' hc (by omega) (fun v hv => by rw [N4] at hv; exact hv) (path_eval tC_ok ((rb2z_cond p X o n ca ma (i : Nat) p q M S).trans ?_) (rb2z_leaf p X o n ca ma (i : Nat) p q M S))
        have h8 : decide (M.size = 0) = true := decide_eq_true h0
        simp only [rb2z_c, hi1, hi0, c0, c2, d0', d1', hd, hMM, h8, k1, k2, hnl, k3, k4, k5, Bool.and_self, Bool.not_false, Bool.not_true]
      · rw [if_neg h0] at N4
        obtain ⟨j, hj, hjm⟩ := plI_nat (i := toI X[pI o (i : Nat) + 2]?) h0
        have hcs := cutM_size hjm
        rw [hj, Int.toNat_natCast] at N4
        have e7 : IntKind.wrap .i64 (ca + 1) = ca + 1 := wrap64 (by omega) (by omega)
        have heq' : ma = (ca + 1) + (nxt (takeE false) (NA p q M) (iA X o (i : Nat))).b + ((nxt (takeE false) (NA p q M) (iA X o (i : Nat))).M.size : Int) := by rw [N3, N4, hcs]; omega
        have k3 := k3 _ (ca + 1) heq' (by omega) (by omega)
        refine close1 hI (by omega) N1 N2 hnl (by rw [N3]; omega) heq' (by omega) (by omega) (fun v hv => ?_) (path_eval tC_ok ((rb2_cond p X o n ca ma (i : Nat) p q M S).trans ?_) ((rb2_leaf p X o n ca ma (i : Nat) p q M S).trans (by rw [e7])))
        · rw [N4] at hv
          exact (Array.mem_append.1 hv).elim mem_ext mem_ext
        obtain ⟨v, hv, hve⟩ := took_mem (i := toI X[pI o (i : Nat) + 2]?) q6 h0
        have hcn := hit_mem (hsub v hv) hve
        have h8 : decide (M.size = 0) = false := decide_eq_false h0
        have h10 : cntOk S = true := by
          simp only [cntOk, hSs, Bool.true_and, decide_eq_true_eq]; omega
        have h11 : (((cnt S (took M (toI X[pI o (i : Nat) + 2]?)) S.size : Nat) : Int) == 0) = false := by
          rw [beq_eq_false_iff_ne]; omega
        simp only [rb2_c, hi1, hi0, c0, c2, d0', d1', hd, hMM, h8, strs_ne hSn hSs, h10, decide_true, h11, e7, k1, k2, hnl, k3, k4, k5, Bool.and_self, Bool.not_false]
    · have d1' : (toI X[pI o (i : Nat) + 0]? == 1) = false := by simpa using d1
      by_cases d2 : toI X[pI o (i : Nat) + 0]? = 2
      · -- dropped
        have d2' : (toI X[pI o (i : Nat) + 0]? == 2) = true := by rw [d2]; rfl
        have hb1 : q + 1 ≤ 1099511627776 := by omega
        have hokD : (dropE false).ok (NA p q M) (iA X o (i : Nat)) = true := by
          show (_ && decide (q + 1 ≤ 1099511627776)) = true
          rw [decide_eq_true hb1, Bool.and_true]
          exact hokI
        have N1 : netOk (nxt (dropE false) (NA p q M) (iA X o (i : Nat))) = true ∧ (nxt (dropE false) (NA p q M) (iA X o (i : Nat))).a = p ∧ (nxt (dropE false) (NA p q M) (iA X o (i : Nat))).b = (if M.size = 0 then q else q + 1) ∧
          (nxt (dropE false) (NA p q M) (iA X o (i : Nat))).M = if M.size = 0 then M else cutM M (plI M.size (toI X[pI o (i : Nat) + 2]?)).toNat := nx_drop hA hb1
        obtain ⟨N1, N2, N3, N4⟩ := N1
        have hnl : (nxt (dropE false) (NA p q M) (iA X o (i : Nat))).nl = false := nxt_nl drop_nl
        have hd := d1_ok (E := dropE false) (S := S) (l := iA X o (i : Nat)) hA hokD rfl hint
        obtain ⟨k1, k2, k3, k4, k5⟩ := cond1 (E := dropE false) (S := S) (l := iA X o (i : Nat)) hA N1 N2
        have heq' : ma = ca + (nxt (dropE false) (NA p q M) (iA X o (i : Nat))).b + ((nxt (dropE false) (NA p q M) (iA X o (i : Nat))).M.size : Int) := by
          rw [N3, N4]
          by_cases h0 : M.size = 0
          · rw [if_pos h0, if_pos h0]; exact heq
          · obtain ⟨j, hj, hjm⟩ := plI_nat (i := toI X[pI o (i : Nat) + 2]?) h0
            have hcs := cutM_size hjm
            rw [if_neg h0, if_neg h0, hj, Int.toNat_natCast, hcs]; omega
        have k3 := k3 _ ca heq' hc (by omega)
        refine close1 hI (by omega) N1 N2 hnl (by rw [N3]; split <;> omega) heq' hc (by omega) (fun v hv => ?_) (path_eval tC_ok ((rb3_cond p X o n ca ma (i : Nat) p q M S).trans ?_) (rb3_leaf p X o n ca ma (i : Nat) p q M S))
        · rw [N4] at hv
          split at hv
          · exact hv
          · exact (Array.mem_append.1 hv).elim mem_ext mem_ext
        simp only [rb3_c, hi1, hi0, c0, c2, d0', d1', d2', hd, k1, k2, hnl, k3, k4, k5, Bool.and_self, Bool.not_false]
      · have d2' : (toI X[pI o (i : Nat) + 0]? == 2) = false := by simpa using d2
        by_cases d3 : toI X[pI o (i : Nat) + 0]? = 3
        · -- doubled
          have d3' : (toI X[pI o (i : Nat) + 0]? == 3) = true := by rw [d3]; rfl
          have N1 : netOk (nxt twiceE (NA p q M) (iA X o (i : Nat))) = true ∧ (nxt twiceE (NA p q M) (iA X o (i : Nat))).a = p ∧ (nxt twiceE (NA p q M) (iA X o (i : Nat))).b = q ∧
            (nxt twiceE (NA p q M) (iA X o (i : Nat))).M = if (decide (M.size = 0) || decide (p ≤ (M.size : Int))) then M else M ++ #[.string (toStr M[(plI M.size (toI X[pI o (i : Nat) + 2]?)).toNat]?)] := nx_twice hA
          obtain ⟨N1, N2, N3, N4⟩ := N1
          have hnl : (nxt twiceE (NA p q M) (iA X o (i : Nat))).nl = false := nxt_nl twice_nl
          have hd := d1_ok (E := twiceE) (S := S) (l := iA X o (i : Nat)) hA hokI rfl hint
          obtain ⟨k1, k2, k3, k4, k5⟩ := cond1 (E := twiceE) (S := S) (l := iA X o (i : Nat)) hA N1 N2
          have hF : fullN (nA (NA p q M)) = (decide (M.size = 0) || decide (p ≤ (M.size : Int))) := by rw [hnA]; rfl
          cases hf : (decide (M.size = 0) || decide (p ≤ (M.size : Int))) with
          | true =>
            rw [hf, if_pos rfl] at N4
            rw [hf] at hF
            have heq' : ma = ca + (nxt twiceE (NA p q M) (iA X o (i : Nat))).b + ((nxt twiceE (NA p q M) (iA X o (i : Nat))).M.size : Int) := by rw [N3, N4]; exact heq
            have k3 := k3 _ ca heq' hc (by omega)
            refine close1 hI (by omega) N1 N2 hnl (by rw [N3]; omega) heq' hc (by omega) (fun v hv => by rw [N4] at hv; exact hv) (path_eval tC_ok ((rb4f_cond p X o n ca ma (i : Nat) p q M S).trans ?_) (rb4f_leaf p X o n ca ma (i : Nat) p q M S))
            simp only [rb4f_c, hi1, hi0, c0, c2, d0', d1', d2', d3', hd, hF, k1, k2, hnl, k3, k4, k5, Bool.and_self, Bool.not_false, Bool.not_true]
          | false =>
            rw [hf] at N4 hF
            simp only [Bool.false_eq_true, if_false] at N4
            have h0 : M.size ≠ 0 := fun e => by rw [decide_eq_true e] at hf; cases hf
            have e8 : IntKind.wrap .i64 (ma + 1) = ma + 1 := wrap64 (by omega) (by omega)
            have heq' : ma + 1 = ca + (nxt twiceE (NA p q M) (iA X o (i : Nat))).b + ((nxt twiceE (NA p q M) (iA X o (i : Nat))).M.size : Int) := by
              rw [N3, N4]
              simp only [Array.size_append, List.size_toArray, List.length_cons, List.length_nil]
              omega
            have k3 := k3 _ ca heq' hc (by omega)
            refine close1 hI (by omega) N1 N2 hnl (by rw [N3]; omega) heq' hc (by omega) (fun v hv => ?_) (path_eval tC_ok ((rb4_cond p X o n ca ma (i : Nat) p q M S).trans ?_) ((rb4_leaf p X o n ca ma (i : Nat) p q M S).trans (by rw [e8])))
            · rw [N4] at hv
              rcases Array.mem_append.1 hv with hv | hv
              · exact hv
              · obtain ⟨w, hw, hwe⟩ := took_mem (i := toI X[pI o (i : Nat) + 2]?) q6 h0
                unfold took at hwe
                rw [if_neg h0] at hwe
                rw [← hwe] at hv
                simp only [List.mem_toArray, List.mem_singleton] at hv
                rw [hv]; exact hw
            simp only [rb4_c, hi1, hi0, c0, c2, d0', d1', d2', d3', hd, hF, e8, k1, k2, hnl, k3, k4, k5, Bool.and_self, Bool.not_false]
        · -- nothing
          have d3' : (toI X[pI o (i : Nat) + 0]? == 3) = false := by simpa using d3
          obtain ⟨k1, k2, k3, k4, k5⟩ := fineN (a := p) (S := S) hA rfl
          have k3 : mkB ma ca q (sC1 p q M S) (v1 (NA p q M)) = false := k3 _ ca heq hc (by omega)
          obtain ⟨fr, s, h1, h2, h3, h4, h5⟩ := cObs_some (path_eval tC_ok ((rb5_cond p X o n ca ma (i : Nat) p q M S).trans (by
            simp only [rb5_c, hi1, hi0, c0, d0', d1', d2', d3', k1, k3, k4, k5, Bool.and_self, Bool.not_false])) (rb5_leaf p X o n ca ma (i : Nat) p q M S))
          simp only [List.map_cons, List.map_nil, List.cons.injEq, and_true] at h4
          obtain ⟨g0, g1, g2, _⟩ := h4
          rw [incN (by omega)] at h3
          exact ⟨.one p q M S, ca, ma, fr, s, ⟨hA, rfl, by show q ≤ _; omega, heq, hc, by omega, hsub, hSs, by show S.size ≤ _; omega, hSn⟩, h1, h2, 1, 2, by omega, by omega, by omega, by omega, by omega, h3, g0, g1, g2⟩
end
end
end Go.Proofs.Ytgcffmkifjnmlaa

/- NetComes: a round, where nothing was sent yet. -/
namespace Go.Proofs.Ytgcffmkifjnmlaa
open Go.Am
noncomputable section
section
variable {X : Array Value} {o n : Nat} {a ca ma : Int} {i : Nat}
theorem round0 (hI : InvC a .zero ca ma i) (hi : i < n) (hn : n ≤ 40) (hop : opOk X o i = true) : Done (code cfC (call cfC 60) 60 cz k4c (frC a X o n nilV ca ma i) (sC0 a)) a X o n i := by
  have hK := opK hop
  have hA : netOk (net0 a) = true := hI.ok
  have heq : ma = ca + 0 + ((0 : Nat) : Int) := hI.eq
  have hc := hI.ca0
  have hm := hI.ma1
  have hi1 : decide (((i : Nat) : Int) < (n : Int)) = true := decide_eq_true (by omega)
  have hi0 : decide ((0 : Int) ≤ (i : Int)) = true := decide_eq_true (by omega)
  obtain ⟨q1, q2, q3, q4, q5, q6, q7⟩ := netOk_iff.1 hA
  have q1 : 1 ≤ a := q1
  have q2 : a ≤ 1000 := q2
  have hnA := nA_eq hA
  have hz : ¬ a ≤ ((0 : Nat) : Int) := by omega
  obtain ⟨c0, c1, c2, in1, st, sz, le, int⟩ := hK
  have hint : (iA X o (i : Nat)).all (freeN 9) = true := rfl
  have hokI : (netOk (net0 a) && (match iA X o (i : Nat) with | [.int .i64 i] => intOk i | _ => false)) = true := by
    rw [hA]
    exact int
  by_cases d0 : toI X[pI o (i : Nat) + 0]? = 0
  · -- sent
    have d0' : (toI X[pI o (i : Nat) + 0]? == 0) = true := by rw [d0]; rfl
    have st' : strs ((vX X[pI o (i : Nat) + 1]?).extract (vO X[pI o (i : Nat) + 1]?) (vO X[pI o (i : Nat) + 1]? + vL X[pI o (i : Nat) + 1]?)) = true := by
      unfold opS at st; rwa [Nat.mul_one] at st
    have hok : sendE.ok (net0 a) (sA X o (i : Nat)) = true := by
      show (netOk _ && (decide ("" = "") && rowOk (vX X[pI o (i : Nat) + 1]?) (vO X[pI o (i : Nat) + 1]?) (vL X[pI o (i : Nat) + 1]?) && decide (0 + ((vL X[pI o (i : Nat) + 1]? : Nat) : Int) ≤ 1099511627776))) = true
      rw [hA]
      simp only [rowOk, Bool.and_eq_true, decide_eq_true_eq, st', true_and, and_true]
      omega
    have N1 : netOk (nxt sendE (net0 a) (sA X o (i : Nat))) = true ∧ (nxt sendE (net0 a) (sA X o (i : Nat))).a = a ∧ (nxt sendE (net0 a) (sA X o (i : Nat))).b = 0 + ((vL X[pI o (i : Nat) + 1]? - min (vL X[pI o (i : Nat) + 1]?) (a.toNat - (#[] : Array Value).size) : Nat) : Int) ∧
      (nxt sendE (net0 a) (sA X o (i : Nat))).M = if min (vL X[pI o (i : Nat) + 1]?) (a.toNat - (#[] : Array Value).size) = 0 then #[] else #[] ++ (vX X[pI o (i : Nat) + 1]?).extract (vO X[pI o (i : Nat) + 1]?) (vO X[pI o (i : Nat) + 1]? + min (vL X[pI o (i : Nat) + 1]?) (a.toNat - (#[] : Array Value).size)) := nx_send hA st' (by omega)
    obtain ⟨N1, N2, N3, N4⟩ := N1
    have hzz : (#[] : Array Value).size = 0 := rfl
    rw [hzz] at N3 N4
    have hd := e1_ok (E := sendE) (l := sA X o (i : Nat)) hA hok rfl rfl
    have hrow : sendE.row (net0 a) (sA X o (i : Nat)) = if min (vL X[pI o (i : Nat) + 1]?) (a.toNat - (#[] : Array Value).size) = 0 then none else some (false, #[] ++ (vX X[pI o (i : Nat) + 1]?).extract (vO X[pI o (i : Nat) + 1]?) (vO X[pI o (i : Nat) + 1]? + min (vL X[pI o (i : Nat) + 1]?) (a.toNat - (#[] : Array Value).size))) := rfl
    rw [hzz] at hrow
    have e8 : IntKind.wrap .i64 (ma + ((vL X[pI o (i : Nat) + 1]? : Nat) : Int)) = ma + ((vL X[pI o (i : Nat) + 1]? : Nat) : Int) := wrap64 (by omega) (by omega)
    have hsizeM : ((nxt sendE (net0 a) (sA X o (i : Nat))).M.size : Int) = ((min (vL X[pI o (i : Nat) + 1]?) (a.toNat - 0) : Nat) : Int) := by
      rw [N4]
      split
      · rename_i e; rw [e]; rfl
      · simp only [Array.size_append, Array.size_extract, List.size_toArray, List.length_nil]; omega
    have heq' : ma + ((vL X[pI o (i : Nat) + 1]? : Nat) : Int) = ca + (nxt sendE (net0 a) (sA X o (i : Nat))).b + ((nxt sendE (net0 a) (sA X o (i : Nat))).M.size : Int) := by
      rw [N3, hsizeM]; omega
    by_cases hk : vL X[pI o (i : Nat) + 1]? = 0
    · have hr : sendE.row (net0 a) (sA X o (i : Nat)) = none := by rw [hrow, if_pos (by omega)]
      have hnl : (nxt sendE (net0 a) (sA X o (i : Nat))).nl = true := by unfold nxt; rw [hr]; rfl
      obtain ⟨k1, k2, k3, k4, k5⟩ := cond0 (E := sendE) (l := sA X o (i : Nat)) hA N1 N2
      have k3 := k3 _ ca heq' hc (by omega)
      have hb : sendE.b (net0 a) (sA X o (i : Nat)) = 0 := by rw [← nxt_a.2, N3]; omega
      refine close0 (ma' := ma + ((vL X[pI o (i : Nat) + 1]? : Nat) : Int)) hI (by omega) (by rw [hk]; omega) hr rfl hb (path_eval tC_ok ((rc1z_cond a X o n ca ma (i : Nat)).trans ?_) ((rc1z_leaf a X o n ca ma (i : Nat)).trans (by rw [e8])))
      have hkb : decide (vL X[pI o (i : Nat) + 1]? = 0) = true := decide_eq_true hk
      have hlim : decide (0 + vL X[pI o (i : Nat) + 1]? ≤ nLim) = true := decide_eq_true (by unfold nLim; omega)
      simp only [rc1z_c, hi1, hi0, c0, c1, d0', hd, hkb, hlim, e8, k1, k2, hnl, k3, k4, k5, Bool.and_self, Bool.not_false]
    · have hr : ∃ x, sendE.row (net0 a) (sA X o (i : Nat)) = some (false, x) := by rw [hrow, if_neg (by omega)]; exact ⟨_, rfl⟩
      obtain ⟨x, hr⟩ := hr
      have hnl : (nxt sendE (net0 a) (sA X o (i : Nat))).nl = false := by unfold nxt; rw [hr]
      obtain ⟨k1, k2, k3, k4, k5⟩ := condS0 (E := sendE) (T := opS X o (i : Nat)) (l := sA X o (i : Nat)) hA N1 N2
      have k3 := k3 _ ca heq' hc (by omega)
      refine closeS0 hI (by omega) sz le hk st N1 N2 hnl (by rw [N3]; omega) heq' hc (by omega) (fun v hv => ?_) (path_eval tC_ok ((rc1_cond a X o n ca ma (i : Nat)).trans ?_) ((rc1_leaf a X o n ca ma (i : Nat)).trans (by rw [e8])))
      · rw [N4] at hv
        split at hv
        · simp at hv
        · rcases Array.mem_append.1 hv with hv | hv
          · simp at hv
          · rw [ext_ext (k := vL X[pI o (i : Nat) + 1]?) (by omega)] at hv
            unfold opS
            rw [Nat.mul_one]
            exact mem_ext hv
      have hkb : decide (vL X[pI o (i : Nat) + 1]? = 0) = false := decide_eq_false hk
      have hlim : decide (0 + vL X[pI o (i : Nat) + 1]? ≤ nLim) = true := decide_eq_true (by unfold nLim; omega)
      have h11 : (decide (vL X[pI o (i : Nat) + 1]? ≤ vL X[pI o (i : Nat) + 1]?) && decide (vO X[pI o (i : Nat) + 1]? + vL X[pI o (i : Nat) + 1]? * 1 ≤ Array.size (vX X[pI o (i : Nat) + 1]?))) = true := by rw [decide_eq_true (Nat.le_refl _), decide_eq_true in1]; rfl
      simp only [rc1_c, hi1, hi0, c0, c1, d0', hd, hkb, hlim, h11, strs_one st, e8, k1, k2, hnl, k3, k4, k5, Bool.and_self, Bool.not_false]
  · have d0' : (toI X[pI o (i : Nat) + 0]? == 0) = false := by simpa using d0
    by_cases d1 : toI X[pI o (i : Nat) + 0]? = 1
    · -- taken
      have d1' : (toI X[pI o (i : Nat) + 0]? == 1) = true := by rw [d1]; rfl
      have hr : (takeE false).row (net0 a) (iA X o (i : Nat)) = none := rfl
      have N1 : netOk (nxt (takeE false) (net0 a) (iA X o (i : Nat))) = true := hA
      have hd := e1_ok (E := takeE false) (l := iA X o (i : Nat)) hA hokI (by simp [takeE, plainN]) hint
      obtain ⟨k1, k2, k3, k4, k5⟩ := cond0 (E := takeE false) (l := iA X o (i : Nat)) hA N1 rfl
      have k3 := k3 ma ca heq hc (by omega)
      refine close0 hI (by omega) rfl hr rfl rfl (path_eval tC_ok ((rc2_cond a X o n ca ma (i : Nat)).trans ?_) (rc2_leaf a X o n ca ma (i : Nat)))
      simp only [rc2_c, hi1, hi0, c0, c2, d0', d1', hd, k3, k5, Bool.and_self, Bool.not_false]
    · have d1' : (toI X[pI o (i : Nat) + 0]? == 1) = false := by simpa using d1
      by_cases d2 : toI X[pI o (i : Nat) + 0]? = 2
      · -- dropped
        have d2' : (toI X[pI o (i : Nat) + 0]? == 2) = true := by rw [d2]; rfl
        have hokD : (dropE false).ok (net0 a) (iA X o (i : Nat)) = true := by
          show (_ && decide ((0 : Int) + 1 ≤ 1099511627776)) = true
          rw [decide_eq_true (by omega), Bool.and_true]
          exact hokI
        have hr : (dropE false).row (net0 a) (iA X o (i : Nat)) = none := rfl
        have N1 : netOk (nxt (dropE false) (net0 a) (iA X o (i : Nat))) = true := hA
        have hd := e1_ok (E := dropE false) (l := iA X o (i : Nat)) hA hokD rfl hint
        obtain ⟨k1, k2, k3, k4, k5⟩ := cond0 (E := dropE false) (l := iA X o (i : Nat)) hA N1 rfl
        have k3 := k3 ma ca heq hc (by omega)
        refine close0 hI (by omega) rfl hr rfl rfl (path_eval tC_ok ((rc3_cond a X o n ca ma (i : Nat)).trans ?_) (rc3_leaf a X o n ca ma (i : Nat)))
        simp only [rc3_c, hi1, hi0, c0, c2, d0', d1', d2', hd, k3, k5, Bool.and_self, Bool.not_false]
      · have d2' : (toI X[pI o (i : Nat) + 0]? == 2) = false := by simpa using d2
        by_cases d3 : toI X[pI o (i : Nat) + 0]? = 3
        · -- doubled
          have d3' : (toI X[pI o (i : Nat) + 0]? == 3) = true := by rw [d3]; rfl
          have hr : twiceE.row (net0 a) (iA X o (i : Nat)) = none := rfl
          have N1 : netOk (nxt twiceE (net0 a) (iA X o (i : Nat))) = true := hA
          have hd := e1_ok (E := twiceE) (l := iA X o (i : Nat)) hA hokI rfl hint
          obtain ⟨k1, k2, k3, k4, k5⟩ := cond0 (E := twiceE) (l := iA X o (i : Nat)) hA N1 rfl
          have k3 := k3 ma ca heq hc (by omega)
          refine close0 hI (by omega) rfl hr rfl rfl (path_eval tC_ok ((rc4_cond a X o n ca ma (i : Nat)).trans ?_) (rc4_leaf a X o n ca ma (i : Nat)))
          simp only [rc4_c, hi1, hi0, c0, c2, d0', d1', d2', d3', hd, k3, k5, Bool.and_self, Bool.not_false]
        · -- nothing
          have d3' : (toI X[pI o (i : Nat) + 0]? == 3) = false := by simpa using d3
          have h7 : (ma != IntKind.wrap .i64 (IntKind.wrap .i64 (ca + 0) + ((0 : Nat) : Int))) = false := by
            rw [wrap64 (x := ca + 0) (by omega) (by omega), wrap64 (by omega) (by omega), heq]
            simp
          have h8 : decide (a < ((0 : Nat) : Int)) = false := decide_eq_false (by omega)
          obtain ⟨fr, s, h1, h2, h3, h4, h5⟩ := cObs_some (path_eval tC_ok ((rc5_cond a X o n ca ma (i : Nat)).trans (by
            simp only [rc5_c, hi1, hi0, c0, d0', d1', d2', d3', h7, h8, Bool.and_self, Bool.not_false])) (rc5_leaf a X o n ca ma (i : Nat)))
          simp only [List.map_cons, List.map_nil, List.cons.injEq, and_true] at h4
          obtain ⟨g0, _⟩ := h4
          rw [incN (by omega)] at h3
          obtain ⟨k1, k2, k3, k4, k5, k6, k7, k8, k9, k10⟩ := hI
          exact ⟨.zero, ca, ma, fr, s, ⟨k1, k2, by omega, k4, k5, by omega, k7, k8, by omega, k10⟩, h1, h2, h3, by omega, g0⟩
end
end
end Go.Proofs.Ytgcffmkifjnmlaa
