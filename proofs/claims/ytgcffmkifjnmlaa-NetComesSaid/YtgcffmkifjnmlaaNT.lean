/- NetScripts: what is true along a round. -/
import Derived.Test.YtgcffmkifjnmlaaNS
namespace Go.Proofs.Ytgcffmkifjnmlaa
open Go.Am
noncomputable section
theorem nA_eq {A : Net} (h : netOk A = true) : nA A = A := by
  obtain ⟨e1, e2⟩ := netV_nil (r := 1) (netOk_iff.1 h).2.2.2.2.2.2
  unfold nA v1
  rw [e1, e2]
theorem nB_eq {B : Net} (h : netOk B = true) : nB B = B := by
  obtain ⟨e1, e2⟩ := netV_nil (r := 3) (netOk_iff.1 h).2.2.2.2.2.2
  unfold nB v3
  rw [e1, e2]
theorem net_free {A : Net} (h : netOk A = true) : A.M.all (freeN 9) = true := strs_free (netOk_iff.1 h).2.2.2.2.2.1
theorem net_list {A : Net} (h : netOk A = true) : listP A.M = true := by
  obtain ⟨_, h2, h3, _, _, h6, _⟩ := netOk_iff.1 h
  unfold listP
  rw [h6, Bool.true_and, decide_eq_true_eq]; omega

section
variable {E E' : Eff} {A B : Net} {l : List Value}
/-- What comes of a thing. -/
def nxt (E : Eff) (n : Net) (l : List Value) : Net :=
  match E.row n l with
  | none => ⟨E.a n l, E.b n l, n.nl, n.M⟩
  | some x => ⟨E.a n l, E.b n l, x.1, x.2⟩
/-- where its row stands -/
def at1 (E : Eff) (n : Net) (l : List Value) (k0 k1 : Nat) : Nat := match E.row n l with | none => k0 | some _ => k1

theorem sB_1 : (sB A B).heap.get 1 = netO A.nl A.M := rfl
theorem sB_3 : (sB A B).heap.get 3 = netO B.nl B.M := rfl
theorem S1_3k : (fun (E : Eff) (A B : Net) (l : List Value) => (S1 E A B l).heap.get 3) = fun _ _ B _ => netO B.nl B.M := by kernel_rfl
theorem S1_3 : (S1 E A B l).heap.get 3 = netO B.nl B.M := congrFun (congrFun (congrFun (congrFun S1_3k E) A) B) l
theorem S2_0k : (fun (E E' : Eff) (A B : Net) (l : List Value) => (S2 E E' A B l).heap.get 0) = fun (E E' : Eff) (A B : Net) (l : List Value) => some (boxO false (E.a (nA A) l) (E.b (nA A) l) (w1 E A l)) := by kernel_rfl
theorem S2_0 : (S2 E E' A B l).heap.get 0 = some (boxO false (E.a (nA A) l) (E.b (nA A) l) (w1 E A l)) := congrFun (congrFun (congrFun (congrFun (congrFun S2_0k E) E') A) B) l
theorem S2_1k : (fun (E E' : Eff) (A B : Net) (l : List Value) => (S2 E E' A B l).heap.get 1) = fun (E E' : Eff) (A B : Net) (l : List Value) => oldO (netO A.nl A.M) (E.row (nA A) l) := by kernel_rfl
theorem S2_1 : (S2 E E' A B l).heap.get 1 = oldO (netO A.nl A.M) (E.row (nA A) l) := congrFun (congrFun (congrFun (congrFun (congrFun S2_1k E) E') A) B) l
theorem S2_3k : (fun (E E' : Eff) (A B : Net) (l : List Value) => (S2 E E' A B l).heap.get 3) = fun (E E' : Eff) (A B : Net) (l : List Value) => oldO (netO B.nl B.M) (E'.row (nB B) l) := by kernel_rfl
theorem S2_3 : (S2 E E' A B l).heap.get 3 = oldO (netO B.nl B.M) (E'.row (nB B) l) := congrFun (congrFun (congrFun (congrFun (congrFun S2_3k E) E') A) B) l
theorem S2_4k : (fun (E E' : Eff) (A B : Net) (l : List Value) => (S2 E E' A B l).heap.get 4) = fun (E E' : Eff) (A B : Net) (l : List Value) => newO (E.row (nA A) l) := by kernel_rfl
theorem S2_4 : (S2 E E' A B l).heap.get 4 = newO (E.row (nA A) l) := congrFun (congrFun (congrFun (congrFun (congrFun S2_4k E) E') A) B) l
theorem S2_5k : (fun (E E' : Eff) (A B : Net) (l : List Value) => (S2 E E' A B l).heap.get 5) = fun (E E' : Eff) (A B : Net) (l : List Value) => newO (E'.row (nB B) l) := by kernel_rfl
theorem S2_5 : (S2 E E' A B l).heap.get 5 = newO (E'.row (nB B) l) := congrFun (congrFun (congrFun (congrFun (congrFun S2_5k E) E') A) B) l

/-- A row stands behind a value. -/
def Holds (s : St) (w : Value) (nl : Bool) (M : Array Value) : Prop := (nl = true ∧ w = .slice none 0 0 ∧ M = #[]) ∨ (nl = false ∧ ∃ q, w = .slice (some ⟨q, 0, none⟩) M.size M.size ∧ s.heap.get q = some (.cells M 1 true) ∧ 0 < q ∧ q < 6)
theorem Holds.of {s : St} {n : Net} {q : Nat} (h : netOk n = true) (hs : s.heap.get q = netO n.nl n.M) (h0 : 0 < q) (h6 : q < 6) : Holds s (netV q n.nl n.M) n.nl n.M := by
  cases hn : n.nl with
  | true => exact .inl ⟨rfl, rfl, (netOk_iff.1 h).2.2.2.2.2.2 hn⟩
  | false => rw [hn] at hs; exact .inr ⟨rfl, q, rfl, hs, h0, h6⟩
theorem Holds.cl {s : St} {w : Value} {nl : Bool} {M : Array Value} (h : Holds s w nl M) (hP : listP M = true) (n : Nat) : cl w n s = true := by
  unfold Go.Proofs.Ytgcffmkifjnmlaa.cl okL
  rcases h with ⟨_, rfl, rfl⟩ | ⟨_, q, rfl, hq, h0, _⟩
  · simp [Ctx.vis]
  · simp [hq, hP, h0, Ctx.vis]
theorem Holds.find {s : St} {w : Value} {nl : Bool} {M : Array Value} (h : Holds s w nl M) : findM s w = M ∧ isNilV w = nl := by
  rcases h with ⟨rfl, rfl, rfl⟩ | ⟨rfl, q, rfl, hq, h0, _⟩
  · exact ⟨rfl, rfl⟩
  · exact ⟨by unfold findM; simp only; rw [hq]; rfl, rfl⟩
theorem Holds.okO {s : St} {w : Value} {nl : Bool} {M : Array Value} (h : Holds s w nl M) (hf : M.all (freeN 9) = true) : okO cz s w = true := by
  unfold Go.Am.okO
  rcases h with ⟨_, rfl, rfl⟩ | ⟨_, q, rfl, hq, h0, _⟩
  · rfl
  · simp only [hq, decide_true, hf]; rfl
theorem Holds.set {s : St} {w : Value} {nl : Bool} {M : Array Value} (h : Holds s w nl M) {k n : Nat} {o : Option AObj} (hk : ∀ q, w = .slice (some ⟨q, 0, none⟩) M.size M.size → q ≠ k) : Holds ⟨s.heap.set k o, n⟩ w nl M := by
  rcases h with ⟨e, h1, h2⟩ | ⟨e, q, h1, hq, h0, h6⟩
  · exact .inl ⟨e, h1, h2⟩
  · refine .inr ⟨e, q, h1, ?_, h0, h6⟩
    show (s.heap.set k o).get q = _
    rw [Tr.get_set, if_neg (hk q h1)]; exact hq
/-- The list that was made. -/
theorem list_holds {s : St} {w : Value} {nl : Bool} {M : Array Value} (h : Holds s w nl M) (hP : listP M = true) {k : Nat} (hs : s.heap.get k = listO nl M) (hn : nl = true → M = #[]) : okO cz s (listV k nl M) = true ∧ findM s (listV k nl M) = M := by
  cases nl with
  | true =>
    have := hn rfl
    subst this
    exact ⟨rfl, rfl⟩
  | false =>
    have hf := listP_free M hP
    have e : s.heap.get k = some (.cells M 1 (!decide (M.size = 0))) := hs
    refine ⟨?_, ?_⟩
    · unfold Go.Am.okO listV
      simp only [cond_false, e, decide_true, hf]; rfl
    · unfold findM listV
      simp only [cond_false, e]; rfl

theorem w1_eq (hA : netOk A = true) : w1 E A l = netV (at1 E A l 1 4) (nxt E A l).nl (nxt E A l).M := by
  unfold w1 nxt at1
  rw [nA_eq hA]
  cases E.row A l <;> rfl
theorem w3_eq (hB : netOk B = true) : w3 E' B l = netV (at1 E' B l 3 5) (nxt E' B l).nl (nxt E' B l).M := by
  unfold w3 nxt at1
  rw [nB_eq hB]
  cases E'.row B l <;> rfl
theorem S2_at1 (hA : netOk A = true) : (S2 E E' A B l).heap.get (at1 E A l 1 4) = netO (nxt E A l).nl (nxt E A l).M := by
  have h1 := S2_1 (E := E) (E' := E') (A := A) (B := B) (l := l)
  have h4 := S2_4 (E := E) (E' := E') (A := A) (B := B) (l := l)
  rw [nA_eq hA] at h1 h4
  unfold at1 nxt
  cases hr : E.row A l with
  | none => rw [hr] at h1; exact h1
  | some x => rw [hr] at h4; exact h4
theorem S2_at3 (hB : netOk B = true) : (S2 E E' A B l).heap.get (at1 E' B l 3 5) = netO (nxt E' B l).nl (nxt E' B l).M := by
  have h1 := S2_3 (E := E) (E' := E') (A := A) (B := B) (l := l)
  have h4 := S2_5 (E := E) (E' := E') (A := A) (B := B) (l := l)
  rw [nB_eq hB] at h1 h4
  unfold at1 nxt
  cases hr : E'.row B l with
  | none => rw [hr] at h1; exact h1
  | some x => rw [hr] at h4; exact h4
theorem at1_lt {n : Net} {k0 k1 : Nat} (h0 : 0 < k0 ∧ k0 < 6) (h1 : 0 < k1 ∧ k1 < 6) : 0 < at1 E n l k0 k1 ∧ at1 E n l k0 k1 < 6 := by
  unfold at1
  split
  · exact h0
  · exact h1

theorem op_conds (hA : netOk A = true) (hB : netOk B = true) (ok1 : E.ok A l = true) (ok2 : E'.ok B l = true) (p1 : plainN 9 (E.res A l) = true) (p2 : plainN 9 (E'.res B l) = true) (hl : l.all (freeN 9) = true) (hA' : netOk (nxt E A l) = true) (hB' : netOk (nxt E' B l) = true) (hM : (nxt E A l).M = (nxt E' B l).M) :
    c1 E A B l = true ∧ c2 E E' A B l = true ∧ c3 E E' A B l = true ∧ c4 E E' A B l = true ∧ c5 E E' A B l = true := by
  have hw1 := w1_eq (E := E) (l := l) hA
  have hw3 := w3_eq (E' := E') (l := l) hB
  have q1 := at1_lt (E := E) (l := l) (n := A) (k0 := 1) (k1 := 4) ⟨by decide, by decide⟩ ⟨by decide, by decide⟩
  have q3 := at1_lt (E := E') (l := l) (n := B) (k0 := 3) (k1 := 5) ⟨by decide, by decide⟩ ⟨by decide, by decide⟩
  have H1 : Holds (S2 E E' A B l) (w1 E A l) (nxt E A l).nl (nxt E A l).M := by rw [hw1]; exact Holds.of hA' (S2_at1 hA) q1.1 q1.2
  have H3 : Holds (S2 E E' A B l) (w3 E' B l) (nxt E' B l).nl (nxt E' B l).M := by rw [hw3]; exact Holds.of hB' (S2_at3 hB) q3.1 q3.2
  obtain ⟨f1, n1⟩ := H1.find
  have lt6 : ∀ {w : Value} {M : Array Value} {nl : Bool} {s : St}, Holds s w nl M → ∀ q, w = .slice (some ⟨q, 0, none⟩) M.size M.size → q ≠ 6 := fun h q e => by
    rcases h with ⟨_, h1, _⟩ | ⟨_, q', h1, _, _, h6⟩
    · rw [h1] at e; cases e
    · rw [h1] at e; cases e; omega
  have H1' : Holds (S3 E E' A B l) (w1 E A l) (nxt E A l).nl (nxt E A l).M := H1.set (lt6 H1)
  have H3' : Holds (S3 E E' A B l) (w3 E' B l) (nxt E' B l).nl (nxt E' B l).M := H3.set (lt6 H3)
  have g6 : (S3 E E' A B l).heap.get 6 = listO (nxt E A l).nl (nxt E A l).M := by
    show ((S2 E E' A B l).heap.set 6 (ls (S2 E E' A B l) (w1 E A l))).get 6 = _
    rw [Tr.get_set, if_pos rfl]
    unfold ls
    rw [f1, n1]
  have hlv : lv1 E E' A B l = listV 6 (nxt E A l).nl (nxt E A l).M := by unfold lv1; rw [f1, n1]
  obtain ⟨L1, L2⟩ := list_holds H1' (net_list hA') g6 (netOk_iff.1 hA').2.2.2.2.2.2
  refine ⟨?_, ?_, ?_, ?_, ?_⟩
  · unfold c1 effOk
    rw [nA_eq hA, ok1, p1, hl, show (sB A B).heap.get (0 + 1) = netO A.nl A.M from rfl, show v1 A = netV (0 + 1) A.nl A.M from rfl, okV_net (id := 0) (net_free hA)]
    rfl
  · unfold c2 effOk
    rw [nB_eq hB, ok2, p2, hl, show (S1 E A B l).heap.get (2 + 1) = netO B.nl B.M from S1_3, show v3 B = netV (2 + 1) B.nl B.M from rfl, okV_net (id := 2) (net_free hB)]
    rfl
  · exact H1.cl (net_list hA') 6
  · unfold c4 cs
    rw [hlv, L1, H3'.okO (net_free hB'), L2, H3'.find.1, hM]
    refine sameB_self (netOk_iff.1 hB').2.2.2.2.2.1 ?_
    have := net_list hB'
    simp only [listP, Bool.and_eq_true, decide_eq_true_eq] at this
    exact this.2
  · exact H1'.cl (net_list hA') 7
theorem no_conds (hA : netOk A = true) (hB : netOk B = true) (hM : A.M = B.M) : cl (v1 A) 4 (sB A B) = true ∧ cs (S3' A B) (listV 4 (isNilV (v1 A)) (findM (sB A B) (v1 A))) (v3 B) = true ∧ cl (v1 A) 5 (S3' A B) = true := by
  have H1 : Holds (sB A B) (v1 A) A.nl A.M := Holds.of hA sB_1 (by decide) (by decide)
  have H3 : Holds (sB A B) (v3 B) B.nl B.M := Holds.of hB sB_3 (by decide) (by decide)
  obtain ⟨f1, n1⟩ := H1.find
  have ne1 : ∀ q, v1 A = .slice (some ⟨q, 0, none⟩) A.M.size A.M.size → q ≠ 4 := fun q e => by
    unfold v1 netV at e
    cases hn : A.nl with
    | true => rw [hn] at e; cases e
    | false => rw [hn] at e; cases e; decide
  have ne3 : ∀ q, v3 B = .slice (some ⟨q, 0, none⟩) B.M.size B.M.size → q ≠ 4 := fun q e => by
    unfold v3 netV at e
    cases hn : B.nl with
    | true => rw [hn] at e; cases e
    | false => rw [hn] at e; cases e; decide
  have H1' : Holds (S3' A B) (v1 A) A.nl A.M := H1.set ne1
  have H3' : Holds (S3' A B) (v3 B) B.nl B.M := H3.set ne3
  have g4 : (S3' A B).heap.get 4 = listO A.nl A.M := by
    show ((sB A B).heap.set 4 (ls (sB A B) (v1 A))).get 4 = _
    rw [Tr.get_set, if_pos rfl]
    unfold ls
    rw [f1, n1]
  obtain ⟨L1, L2⟩ := list_holds H1' (net_list hA) g4 (netOk_iff.1 hA).2.2.2.2.2.2
  refine ⟨H1.cl (net_list hA) 4, ?_, H1'.cl (net_list hA) 5⟩
  unfold cs
  rw [f1, n1, L1, H3'.okO (net_free hB), L2, H3'.find.1, hM]
  refine sameB_self (netOk_iff.1 hB).2.2.2.2.2.1 ?_
  have := net_list hB
  simp only [listP, Bool.and_eq_true, decide_eq_true_eq] at this
  exact this.2
end
end
end Go.Proofs.Ytgcffmkifjnmlaa
