/- The first event of a kind, of another one's job, epoch, node, and step. -/
import Derived.Test.YtbhemcpmklkepaaC
namespace Go.Proofs.Ytbhemcpmklkepaa
open Go.Am
noncomputable section
def cS : Code → Code
  | .scope a => a
  | c => c
def b29 : Code := bodyOf 29
def b47 : Code := bodyOf 47
def rng29 : Code := cB (cR (cL (cR b29)))
/-- An event's numbers. -/
structure Ev where
  kind : Int
  node : Int
  job : Int
  epoch : Int
  step : Int
  arg : Int
def Ev.cells (x : Ev) : List Value := [.int .i64 x.kind, .int .i64 x.node, .int .i64 x.job, .int .i64 x.epoch, .int .i64 x.step, .int .i64 x.arg]
def Ev.val (x : Ev) : Value := .agg ⟨x.cells⟩
def ev0 : Ev := ⟨0, 0, 0, 0, 0, 0⟩
/-- The event that stands in a row from a cell on. -/
def evAt (X : Array Value) (o : Nat) : Ev := ⟨toI X[o]?, toI X[o + 1]?, toI X[o + 1 + 1]?, toI X[o + 1 + 1 + 1]?, toI X[o + 1 + 1 + 1 + 1]?, toI X[o + 1 + 1 + 1 + 1 + 1]?⟩
def selA : Ex → List Tmp × List Kept
  | .normal => ([6, 7, 13], [.cells 0, .cells 1, .cells 2, .cells 3, .cells 4])
  | _ => ([], [])
def selA0 : Ex → List Tmp × List Kept
  | .normal => ([0, 1, 5, 6, 7], [.cells 0, .cells 1])
  | _ => ([], [])
def selC : Ex → List Tmp × List Kept
  | .ret => ([6, 7], [.cells 0, .cells 1])
  | _ => ([], [])
def pt' (i : Nat) : Value := .pointer (some ⟨i, 0, none⟩)
def frA29 : Fr := frS 29 [(6, pt' 0), (7, pt' 1), (13, .func (.func 47) #[] #[pt' 2, pt' 3, pt' 4])]
def frC29 : Fr := frS 29 [(6, pt' 0), (7, pt' 1)]
def frA0 (X : Array Value) (o n : Nat) (kind : Int) (x : Ev) : Fr := frO 29 [(0, VS X o n), (1, .int .i64 kind), (6, pt' 0), (7, pt' 1)] [(5, (5, 0))] [(5, ⟨x.cells⟩)]
def sA0 : St := stS [(0, .cells ⟨ev0.cells⟩ 1 false), (1, .cells #[.bool false] 1 false)] 2
/-- The heap of 'first': result, whether, the row, the kind, the event. -/
def hp29 (r : Ev) (is : Bool) (X : Array Value) (o n : Nat) (kind : Int) (x : Ev) : List (Nat × AObj) :=
  [(0, .cells ⟨r.cells⟩ 1 false), (1, .cells #[.bool is] 1 false), (2, .cells #[VS X o n] 1 false), (3, .cells #[.int .i64 kind] 1 false), (4, .cells ⟨x.cells⟩ 1 false)]
def sA29 (X : Array Value) (o n : Nat) (kind : Int) (x : Ev) : St := stS (hp29 ev0 false X o n kind x) 5
def assignOf : Code → Code
  | .rangeFunc _ _ a _ => a
  | c => c
def rbodyOf : Code → Code
  | .rangeFunc _ _ _ b => b
  | c => c
def loop29 (tm : Tr Value) (st : LoopState) (pd : Option Code) : LoopRec := { fn := 29, nt := ntOf 29, tm := tm, params := #[14, 15], assign := assignOf rng29, body := rbodyOf rng29, state := st, pending := pd }
theorem b29_eq : b29 = .seq (cL b29) (.seq (.seq (cL (cL (cR b29))) (.block 0 (.rangeFunc (.tmp 13) #[14, 15] (assignOf rng29) (rbodyOf rng29)))) (cR (cR b29))) := by kernel_rfl
def i47 : Code := cL (cR (cS b47))
def k47 : Code := cB (cB (cR (cR (cS b47))))
theorem b47_eq : b47 = .scope (.seq (.label 0) (.seq i47 (.block 0 (.loop k47)))) := by kernel_rfl
def tmL : Tr Value := tmS [(6, pt' 0), (7, pt' 1)] .nil
/-- The heap within the loop. -/
def sL29 (r : Ev) (is : Bool) (X : Array Value) (o n : Nat) (kind : Int) (x : Ev) (st : LoopState) (pd : Option Code) : St := stS (hp29 r is X o n kind x ++ [(5, .loop (loop29 tmL st pd))]) 6
def fr47 (X : Array Value) (o n : Nat) (i : Int) : Fr := frS 47 [(0, .func (.yield 5) #[] #[]), (1, pt' 2), (2, pt' 3), (3, pt' 4), (7, VS X o n), (8, nI n), (9, .int .i64 i)]
def sel47 : Ex → List Tmp × List Kept := fun _ => ([0, 1, 2, 3, 7, 8, 9], [.cells 0, .cells 1, .cells 2, .cells 3, .cells 4, .loop 5 [6, 7]])
def unl (s : St) : St := { s with heap := s.heap.set 5 none }
def ev6 : List CK := [.int .i64, .int .i64, .int .i64, .int .i64, .int .i64, .int .i64]
def B47 (X : Array Value) (o n : Nat) (kind : Int) (x : Ev) (i : Int) : Option (Ex × Fr × St) := some (.normal, fr47 X o n (IntKind.wrap .i64 (i + 1)), sL29 ev0 false X o n kind x .ready none)
def A47 (X : Array Value) (o n : Nat) (kind : Int) (x : Ev) (i : Int) : Option (Ex × Fr × St) := some (.exit 0, fr47 X o n i, sL29 (evAt X (o + Int.toNat i * 6)) true X o n kind x .done (some .ret))
def E47 (X : Array Value) (o n : Nat) (kind : Int) (x : Ev) (i : Int) : Option (Ex × Fr × St) := some (.exit 0, fr47 X o n i, sL29 ev0 false X o n kind x .ready none)
theorem s29a_k : (fun (X : Array Value) (o n : Nat) (kind : Int) (x : Ev) => (codeT cfg (callT cfg noT 60) 60 cz (cL b29) (frame0 29 (ntOf 29) #[VS X o n, .int .i64 kind, x.val]) st0).evalM (gcObs 0 0 selA0)) = fun (X : Array Value) (o n : Nat) (kind : Int) (x : Ev) => some (.normal, frA0 X o n kind x, sA0) := by kernel_rfl
theorem s29a (X : Array Value) (o n : Nat) (kind : Int) (x : Ev) : (codeT cfg (callT cfg noT 60) 60 cz (cL b29) (frame0 29 (ntOf 29) #[VS X o n, .int .i64 kind, x.val]) st0).evalM (gcObs 0 0 selA0) = some (.normal, frA0 X o n kind x, sA0) := congrFun (congrFun (congrFun (congrFun (congrFun s29a_k X) o) n) kind) x
theorem s29b_k : (fun (X : Array Value) (o n : Nat) (kind : Int) (x : Ev) => (codeT cfg (callT cfg noT 60) 60 cz (cL (cL (cR b29))) (frA0 X o n kind x) sA0).evalM (gcObs 0 0 selA)) = fun (X : Array Value) (o n : Nat) (kind : Int) (x : Ev) => some (.normal, frA29, sA29 X o n kind x) := by kernel_rfl
theorem s29b (X : Array Value) (o n : Nat) (kind : Int) (x : Ev) : (codeT cfg (callT cfg noT 60) 60 cz (cL (cL (cR b29))) (frA0 X o n kind x) sA0).evalM (gcObs 0 0 selA) = some (.normal, frA29, sA29 X o n kind x) := congrFun (congrFun (congrFun (congrFun (congrFun s29b_k X) o) n) kind) x
theorem s29c_k : (fun (X : Array Value) (o n : Nat) (kind : Int) (x : Ev) => (codeT cfg (callT cfg noT 60) 60 cz (cR (cR b29)) frA29 (unl (sL29 ev0 false X o n kind x .ready none))).evalM (gcObs 0 0 selC)) = fun (X : Array Value) (o n : Nat) (kind : Int) (x : Ev) => some (.ret, frC29, stS [(0, .cells ⟨ev0.cells⟩ 1 false), (1, .cells #[.bool false] 1 false)] 2) := by kernel_rfl
theorem s29c (X : Array Value) (o n : Nat) (kind : Int) (x : Ev) : (codeT cfg (callT cfg noT 60) 60 cz (cR (cR b29)) frA29 (unl (sL29 ev0 false X o n kind x .ready none))).evalM (gcObs 0 0 selC) = some (.ret, frC29, stS [(0, .cells ⟨ev0.cells⟩ 1 false), (1, .cells #[.bool false] 1 false)] 2) := congrFun (congrFun (congrFun (congrFun (congrFun s29c_k X) o) n) kind) x
theorem i47e_k : (fun (X : Array Value) (o n : Nat) (kind : Int) (x : Ev) => (codeT cfg (callT cfg noT 60) 60 cz (seqOf [.label 0, i47]) (frame0 47 (ntOf 47) #[.func (.yield 5) #[] #[], pt' 2, pt' 3, pt' 4]) ((sA29 X o n kind x).new (.loop (loop29 frA29.tm .ready none)))).evalM (gcObs 0 0 sel47)) = fun (X : Array Value) (o n : Nat) (kind : Int) (x : Ev) => some (.normal, fr47 X o n 0, sL29 ev0 false X o n kind x .ready none) := by kernel_rfl
theorem i47e (X : Array Value) (o n : Nat) (kind : Int) (x : Ev) : (codeT cfg (callT cfg noT 60) 60 cz (seqOf [.label 0, i47]) (frame0 47 (ntOf 47) #[.func (.yield 5) #[] #[], pt' 2, pt' 3, pt' 4]) ((sA29 X o n kind x).new (.loop (loop29 frA29.tm .ready none)))).evalM (gcObs 0 0 sel47) = some (.normal, fr47 X o n 0, sL29 ev0 false X o n kind x .ready none) := congrFun (congrFun (congrFun (congrFun (congrFun i47e_k X) o) n) kind) x
theorem r47_k : (fun (X : Array Value) (o n : Nat) (kind : Int) (x : Ev) (i : Int) => (codeT cfg (callT cfg noT 60) 60 cz k47 (fr47 X o n i) (sL29 ev0 false X o n kind x .ready none)).evalM (gcObs 0 0 sel47)) = fun (X : Array Value) (o n : Nat) (kind : Int) (x : Ev) (i : Int) => (bif decide (i < (n : Int)) then (bif decide (0 ≤ i) && decide (i < (n : Int)) then (bif decide (o + Int.toNat i * 6 + 6 ≤ X.size) then (bif cellsOk X ev6 (o + Int.toNat i * 6) then (bif (evAt X (o + Int.toNat i * 6)).kind != kind then B47 X o n kind x i else bif (evAt X (o + Int.toNat i * 6)).job != x.job then B47 X o n kind x i else bif (evAt X (o + Int.toNat i * 6)).epoch != x.epoch then B47 X o n kind x i else bif (evAt X (o + Int.toNat i * 6)).node != x.node then B47 X o n kind x i else bif kind == 0 then A47 X o n kind x i else bif kind == 6 then A47 X o n kind x i else bif !(kind == 7) then (bif (evAt X (o + Int.toNat i * 6)).step != x.step then B47 X o n kind x i else A47 X o n kind x i) else A47 X o n kind x i) else none) else none) else none) else E47 X o n kind x i) := by kernel_rfl
theorem r47 (X : Array Value) (o n : Nat) (kind : Int) (x : Ev) (i : Int) : (codeT cfg (callT cfg noT 60) 60 cz k47 (fr47 X o n i) (sL29 ev0 false X o n kind x .ready none)).evalM (gcObs 0 0 sel47) = (bif decide (i < (n : Int)) then (bif decide (0 ≤ i) && decide (i < (n : Int)) then (bif decide (o + Int.toNat i * 6 + 6 ≤ X.size) then (bif cellsOk X ev6 (o + Int.toNat i * 6) then (bif (evAt X (o + Int.toNat i * 6)).kind != kind then B47 X o n kind x i else bif (evAt X (o + Int.toNat i * 6)).job != x.job then B47 X o n kind x i else bif (evAt X (o + Int.toNat i * 6)).epoch != x.epoch then B47 X o n kind x i else bif (evAt X (o + Int.toNat i * 6)).node != x.node then B47 X o n kind x i else bif kind == 0 then A47 X o n kind x i else bif kind == 6 then A47 X o n kind x i else bif !(kind == 7) then (bif (evAt X (o + Int.toNat i * 6)).step != x.step then B47 X o n kind x i else A47 X o n kind x i) else A47 X o n kind x i) else none) else none) else none) else E47 X o n kind x i) := congrFun (congrFun (congrFun (congrFun (congrFun (congrFun r47_k X) o) n) kind) x) i

def whole (k : Int) : Bool := k == 0 || (k == 6 || k == 7)
/-- Is an event of a kind, and of another one's job, epoch, node, and step? -/
def evM (kind : Int) (x y : Ev) : Bool := y.kind == kind && (y.job == x.job && (y.epoch == x.epoch && (y.node == x.node && (whole kind || y.step == x.step))))
theorem evM_chain {α : Type} (A B : α) (kind : Int) (x y : Ev) : (bif y.kind != kind then B else bif y.job != x.job then B else bif y.epoch != x.epoch then B else bif y.node != x.node then B else bif kind == 0 then A else bif kind == 6 then A else bif !(kind == 7) then (bif y.step != x.step then B else A) else A) = bif evM kind x y then A else B := by
  unfold evM whole
  simp only [bne]
  cases y.kind == kind <;> cases y.job == x.job <;> cases y.epoch == x.epoch <;> cases y.node == x.node <;> cases kind == 0 <;> cases kind == 6 <;> cases kind == 7 <;> cases y.step == x.step <;> rfl
/-- A row of events. -/
def evsOk (X : Array Value) (o n : Nat) : Bool := decide (n ≤ maxI) && (decide (o + n * 6 ≤ X.size) && (List.range n).all fun i => cellsOk X ev6 (o + i * 6))
theorem evsOk_get {X : Array Value} {o n i : Nat} (h : evsOk X o n = true) (hi : i < n) : cellsOk X ev6 (o + i * 6) = true ∧ o + i * 6 + 6 ≤ X.size := by
  simp only [evsOk, Bool.and_eq_true, List.all_eq_true, List.mem_range, decide_eq_true_eq] at h
  exact ⟨h.2.2 i hi, by omega⟩
theorem evsOk_n {X : Array Value} {o n : Nat} (h : evsOk X o n = true) : n ≤ 9223372036854775807 := by
  simp only [evsOk, Bool.and_eq_true, decide_eq_true_eq] at h
  exact h.1
def evP (X : Array Value) (o : Nat) (kind : Int) (x : Ev) (i : Nat) : Bool := evM kind x (evAt X (o + i * 6))
def firstN (X : Array Value) (o n : Nat) (kind : Int) (x : Ev) : Option Nat := findN (evP X o kind x) n

def sY29 (X : Array Value) (o n : Nat) (kind : Int) (x : Ev) : Option Nat → St
  | some i => unl (sL29 (evAt X (o + i * 6)) true X o n kind x .done (some .ret))
  | none => unl (sL29 ev0 false X o n kind x .ready none)
def exY29 : Option Nat → Ex
  | some _ => .ret
  | none => .normal

theorem sel47_pin (ex : Ex) : pinned 6 (sel47 ex).2 := ⟨by show 6 ≤ 6; omega, fun j hj => by
  match j, hj with
  | 0, _ => rfl
  | 1, _ => rfl
  | 2, _ => rfl
  | 3, _ => rfl
  | 4, _ => rfl
  | 5, _ => rfl⟩
theorem get5 (r : Ev) (is : Bool) (X : Array Value) (o n : Nat) (kind : Int) (x : Ev) (st : LoopState) (pd : Option Code) : (sL29 r is X o n kind x st pd).heap.get 5 = some (.loop (loop29 tmL st pd)) := by
  simp [sL29, stS, hpS, hp29, Tr.get_put]

theorem it47 [Z : Zone] {b : Nat} {X : Array Value} {o n : Nat} {kind : Int} {x : Ev} (h : evsOk X o n = true) :
    AWp cfg ⟨0, b⟩ cz b47 (frame0 47 (ntOf 47) #[.func (.yield 5) #[] #[], pt' 2, pt' 3, pt' 4]) ((sA29 X o n kind x).new (.loop (loop29 frA29.tm .ready none)))
      fun ex fr1 s1 => Grow cz (sA29 X o n kind x) s1 ∧ (ex = .normal ∨ ex = .ret) ∧ (∃ v, resultsV cfg cz fr1 s1 [] = some v) ∧ ∃ frX sX lX ee, SnP (5 + 1) ⟨0, b⟩ 0 0 cz frX sX fr1 s1 ∧ sX.heap.get 5 = some (.loop lX) ∧ exitOf lX.pending = some ee ∧ (lX.state != .busy) = true ∧
        (ee = exY29 (firstN X o n kind x) ∧ unl sX = sY29 X o n kind x (firstN X o n kind x)) := by
  have hn := evsOk_n h
  rw [b47_eq]
  refine AWp.scope ?_
  have hgn : Grow cz (sA29 X o n kind x) ((sA29 X o n kind x).new (.loop (loop29 frA29.tm .ready none))) := Grow.new _ _ _
  have h6 : ∀ L : List (Nat × AObj), (stS L 6).next = 6 := fun _ => rfl
  refine AWp.nestP (m := 6) (ps := [.label 0, i47]) (rest := .block 0 (.loop k47)) good (of_treeM noT_ok (i47e X o n kind x)) trivial (sel47_pin _) (Nat.zero_le _) fun fr1 s1 hS1 hG1 => ?_
  refine AWp.block ?_
  refine AWp.countP (m := 6) (N := n) (head := fun i => fr47 X o n i) (sh := fun _ => sL29 ev0 false X o n kind x .ready none) (sel := sel47)
    (stop := fun i => if i < n then (if evP X o kind x i then A47 X o n kind x i else none) else E47 X o n kind x i) good rfl (fun _ => Nat.zero_le _) (fun _ => Nat.le_refl 6) (fun i hi _ => of_treeM noT_ok ((r47 X o n kind x i).trans ?_)) (fun i hi => ?_) sel47_pin
    ⟨n, Nat.le_refl _, by simp [E47]⟩ (fun i r hr => ?_) (fun i r hi hno hr fr' s' hS hG => ?_) hS1 (hgn.trans hG1)
  · have hi0 : (0 : Int) ≤ i := by omega
    rw [evM_chain]
    by_cases hlt : i < n
    · obtain ⟨h1, h2⟩ := evsOk_get h hlt
      have hw := wrap_nat (i := i) (by omega)
      simp only [hlt, if_true, Int.ofNat_lt, hi0, decide_true, Bool.and_true, cond_true, Int.toNat_natCast, h1, h2]
      cases hq : evP X o kind x i with
      | true =>
        unfold evP at hq
        simp only [hq, cond_true, if_true]
        rfl
      | false =>
        unfold evP at hq
        simp only [hq, cond_false, Bool.false_eq_true, if_false, B47, hw]
    · simp only [hlt, if_false, Int.ofNat_lt, decide_false, cond_false]
      rfl
  · split <;> trivial
  · split at hr
    · split at hr
      · cases hr; intro e; cases e
      · cases hr
    · cases hr; intro e; cases e
  · have hno' : ∀ j, j < i → j < n → evP X o kind x j = false := fun j hj hjn => by
      have := hno j hj
      simp only [hjn, if_true] at this
      cases hq : evP X o kind x j with
      | false => rfl
      | true => rw [hq] at this; simp [A47] at this
    split at hr
    · rename_i hlt
      split at hr
      · rename_i hq
        cases hr
        have hf : firstN X o n kind x = some i := findN_some hlt hq fun j hj => hno' j hj (by omega)
        refine ⟨hG, .inl rfl, ⟨_, rfl⟩, _, _, _, .ret, hS, get5 _ _ _ _ _ _ _ _ _, rfl, rfl, ?_⟩
        rw [hf]
        exact ⟨rfl, rfl⟩
      · cases hr
    · rename_i hge
      cases hr
      have hf : firstN X o n kind x = none := findN_none fun j hj => hno' j (by omega) hj
      refine ⟨hG, .inl rfl, ⟨_, rfl⟩, _, _, _, .normal, hS, get5 _ _ _ _ _ _ _ _ _, rfl, rfl, ?_⟩
      rw [hf]
      exact ⟨rfl, rfl⟩

/-- What 'first' answers. -/
def firstV (X : Array Value) (o n : Nat) (kind : Int) (x : Ev) : Value := match firstN X o n kind x with
  | some i => .tuple #[(evAt X (o + i * 6)).val, .bool true]
  | none => .tuple #[ev0.val, .bool false]
theorem res29a : (fun (r : Ev) (is : Bool) (X : Array Value) (o n : Nat) (kind : Int) (x : Ev) (st : LoopState) (pd : Option Code) => resultsV cfg cz frA29 (unl (sL29 r is X o n kind x st pd)) [.cell 6 47, .cell 7 4]) = fun r is X o n kind x st pd => some (.tuple #[r.val, .bool is]) := by kernel_rfl
theorem res29c : resultsV cfg cz frC29 (stS [(0, .cells ⟨ev0.cells⟩ 1 false), (1, .cells #[.bool false] 1 false)] 2) [.cell 6 47, .cell 7 4] = some (.tuple #[ev0.val, .bool false]) := by kernel_rfl
theorem i47_fn : cfg.fns 47 = some { body := b47, nt := ntOf 47, results := [], pure := false } := by kernel_rfl
theorem i29_fn : cfg.fns 29 = some { body := b29, nt := ntOf 29, results := [.cell 6 47, .cell 7 4], pure := false } := by kernel_rfl
theorem ev29 : frA29.gev cfg (.tmp 13) = some (.func (.func 47) #[] #[pt' 2, pt' 3, pt' 4]) := by kernel_rfl

theorem ok29 [Z : Zone] {b : Nat} {X : Array Value} {o n : Nat} {kind : Int} {x : Ev} (h : evsOk X o n = true) :
    AWp cfg ⟨0, b⟩ cz b29 (frame0 29 (ntOf 29) #[VS X o n, .int .i64 kind, x.val]) st0 fun ex fr' s' => (ex = .normal ∨ ex = .ret) ∧ ∃ frj sj, Sn ⟨0, b⟩ 0 0 cz frj sj fr' s' ∧ resultsV cfg cz frj sj [.cell 6 47, .cell 7 4] = some (firstV X o n kind x) := by
  rw [b29_eq]
  refine AWp.seq (AWp.first good (of_treeM noT_ok (s29a X o n kind x)) trivial (Nat.zero_le _) fun fr1 s1 hS1 hG1 => ⟨hG1, ?_⟩)
  refine AWp.seq (AWp.seq (AWp.seen good rfl hS1 (Nat.zero_le _) (of_treeM noT_ok (s29b X o n kind x)) trivial fun fr2 s2 hS2 hG2 => ⟨hG2, ?_⟩))
  refine AWp.block (AWp.rangeSn good rfl hS2 rfl ev29 i47_fn (by show 4 ≤ 57; omega) (Q := fun ee sY => ee = exY29 (firstN X o n kind x) ∧ sY = sY29 X o n kind x (firstN X o n kind x)) (it47 h) fun ex sY fr3 s3 hQ hS3 hG3 => ?_)
  obtain ⟨rfl, rfl⟩ := hQ
  cases hf : firstN X o n kind x with
  | some i =>
    rw [hf] at hS3
    refine ⟨hG2.trans hG3, .inr rfl, _, _, hS3, ?_⟩
    unfold firstV
    rw [hf]
    exact congrFun (congrFun (congrFun (congrFun (congrFun (congrFun (congrFun (congrFun (congrFun res29a (evAt X (o + i * 6))) true) X) o) n) kind) x) .done) (some .ret)
  | none =>
    rw [hf] at hS3
    refine ⟨hG2.trans hG3, ?_⟩
    refine AWp.seen good rfl hS3 (Nat.zero_le _) (of_treeM noT_ok (s29c X o n kind x)) trivial fun fr4 s4 hS4 _ => ⟨.inr rfl, _, _, hS4, ?_⟩
    unfold firstV
    rw [hf]
    exact res29c
theorem firstV_free (X : Array Value) (o n : Nat) (kind : Int) (x : Ev) : freeN 9 (firstV X o n kind x) = true := by
  unfold firstV
  split <;> simp [freeN, Ev.val, Ev.cells]
def hasE (X : Array Value) (o n : Nat) (kind : Int) (x : Ev) : Bool := (firstN X o n kind x).isSome
def fstE (X : Array Value) (o n : Nat) (kind : Int) (x : Ev) : Ev := match firstN X o n kind x with
  | some i => evAt X (o + i * 6)
  | none => ev0
theorem firstV_eq (X : Array Value) (o n : Nat) (kind : Int) (x : Ev) : firstV X o n kind x = .tuple #[(fstE X o n kind x).val, .bool (hasE X o n kind x)] := by
  unfold firstV fstE hasE
  cases firstN X o n kind x <;> rfl
def F29 : Array Value → DT (Option (Value × St))
  | ⟨[.func (.method nm) X ⟨[.slice none o n]⟩, .int .i64 kind, .agg ⟨[.int .i64 x0, .int .i64 x1, .int .i64 x2, .int .i64 x3, .int .i64 x4, .int .i64 x5]⟩]⟩ =>
    .must (decide (nm = "") && evsOk X o n) (.leaf (some (.tuple #[(fstE X o n kind ⟨x0, x1, x2, x3, x4, x5⟩).val, .bool (hasE X o n kind ⟨x0, x1, x2, x3, x4, x5⟩)], st0))) (.leaf none)
  | _ => .leaf none
theorem tells29 [Z : Zone] : Tells cfg 29 fun a => (F29 a).eval := by
  refine tells_seen good rfl i29_fn fun args x hx => ?_
  unfold F29 at hx
  split at hx
  · rename_i nm X o n kind x0 x1 x2 x3 x4 x5
    rw [DT.eval_must] at hx
    cases h : (decide (nm = "") && evsOk X o n) with
    | false => rw [h] at hx; cases hx
    | true =>
      rw [h, cond_true, DT.eval_leaf, ← firstV_eq] at hx
      cases hx
      simp only [Bool.and_eq_true, decide_eq_true_eq] at h
      obtain ⟨rfl, h⟩ := h
      exact ⟨by simp [freeN], by show 3 ≤ 18; omega, _, rfl, firstV_free _ _ _ _ _, fun b => ok29 (x := ⟨x0, x1, x2, x3, x4, x5⟩) h⟩
  · cases hx
end
end Go.Proofs.Ytbhemcpmklkepaa
