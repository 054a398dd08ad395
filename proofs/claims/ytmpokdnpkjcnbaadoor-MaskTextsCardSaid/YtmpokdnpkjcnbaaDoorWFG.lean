import Derived.Test.YtmpokdnpkjcnbaaDoorWCE
/- Parse: trees. -/
namespace Go.Proofs.YtmpokdnpkjcnbaaDoor
open Go.Am
noncomputable section
def b22 : Code := bodyOf 22
def s22 : Code := cSc (cR b22)
def rng22 : Code := cB (cR (cL (cN 3 s22)))
theorem b22_eq : b22 = .seq (cL b22) (.scope (.seq (cL s22) (.seq (cL (cN 1 s22)) (.seq (.label 0) (.seq (.seq (cL (cL (cN 3 s22))) (.block 0 (.rangeFunc (.tmp 16) #[17] (assignOf rng22) (rbodyOf rng22)))) (cN 4 s22)))))) := by kernel_rfl
def comB : ByteArray := ⟨#[44]⟩
def frT22 (s : ByteArray) (L : List (Nat × Value)) : Fr := { fn := 22, nt := ntOf 22, tm := tmS ([(0, .string s), (4, pt' 0)] ++ L) .nil, pt := Tr.nil.put 2 (2, 0), loc := Tr.nil.put 2 (mkC 0 0 0 0), round := none }
def frE22 (a b c d e : Int) : Fr := { fn := 22, nt := ntOf 22, tm := tmS [(3, .int .i64 e)] .nil, pt := Tr.nil.put 2 (2, 0), loc := Tr.nil.put 2 (mkC a b c d), round := none }
def seq22 : Value := .func (.func 60) #[] #[pt' 2, pt' 1, pt' 3]
def hp22 (a b c d : Int) (s : ByteArray) : List (Nat × AObj) := [(0, .cells (mkC a b c d) 1 false), (1, .cells #[.string s] 1 false), (2, .cells #[.string comB] 1 false), (3, .cells #[.int .i64 0] 1 false)]
def sI22 : St := stS [(0, .cells (mkC 0 0 0 0) 1 false)] 1
def sA22 (s : ByteArray) : St := stS (hp22 0 0 0 0 s) 4
def loop22 (tm : Tr Value) (st : LoopState) (pd : Option Code) : LoopRec := { fn := 22, nt := ntOf 22, tm := tm, params := #[17], assign := assignOf rng22, body := rbodyOf rng22, state := st, pending := pd }
def tmL22 : Tr Value := tmS [(4, pt' 0)] .nil
def sL22 (a b c d : Int) (s : ByteArray) (st : LoopState) (pd : Option Code) : St := stS (hp22 a b c d s ++ [(4, .loop (loop22 tmL22 st pd))]) 5
def b60 : Code := bodyOf 60
def k60 : Code := cB (cB (cL (cR b60)))
theorem b60_eq : b60 = .seq (cL b60) (.seq (.block 2 (.loop k60)) (cR (cR b60))) := by kernel_rfl
def fr60 : Fr := frS 60 [(0, .func (.yield 4) #[] #[]), (1, pt' 2), (2, pt' 1), (3, pt' 3)]
def sel60 : Ex → List Tmp × List Kept := fun _ => ([0, 1, 2, 3], [.cells 0, .cells 1, .cells 2, .cells 3, .loop 4 [4]])
def sel22 : Ex → List Tmp × List Kept
  | .normal => ([0, 2, 4], [.cells 0])
  | _ => ([2, 3], [])
/-- a mask's text, left open -/
def txtO (t : Int → Int → Int → Int → ByteArray) : Array Value → DT (Option (Value × St))
  | ⟨[.agg ⟨[.int .u64 a, .int .u64 b, .int .u64 c, .int .u64 d]⟩]⟩ => .must (inQ a b c d) (.leaf (some (.string (t a b c d), st0))) (.leaf none)
  | _ => .leaf none
def tXo (t : Int → Int → Int → Int → ByteArray) : FuncId → Option HandT
  | 24 => some (apartT (txtO t))
  | f => tXx f
def t0F : Int → Int → Int → Int → ByteArray := fun a b c d => textB (ofI a b c d)
theorem tXo_eq : tXo t0F = tXx := by
  funext f
  unfold tXo
  split <;> rfl
theorem tXo_ok : ∀ f k hd, tXo t0F f = some k → cfX.hand f = some hd → ∀ a c s, (k a c s).eval = hd a c s := by rw [tXo_eq]; exact tXx_ok
def frO22 (L : List (Nat × Value)) : Fr := { fn := 22, nt := ntOf 22, tm := tmS L .nil, pt := Tr.nil.put 2 (2, 0), loc := Tr.nil.put 2 (mkC 0 0 0 0), round := none }
/-- the cores from lo to hi -/
def runC {α : Type} : Nat → Int → Int → Int → Int → Int → Int → (Int → Int → Int → Int → Option α) → Option α
  | 0, _, _, _, _, _, _, _ => none
  | n + 1, p, q, r, t, c, hi, K => bif decide (c ≤ hi) then (bif inQ p q r t && (decide (0 ≤ c) && decide (c < 256)) then runC n (W 0 p c) (W 1 q c) (W 2 r c) (W 3 t c) (inc c) hi K else none) else K p q r t
/-- a word, cut -/
def cutC {α : Type} (w : ByteArray) (K : ByteArray → ByteArray → Option α) : Option α :=
  bif decide (fidx w.data.toList 45 0 ≥ 0) then (bif decide (0 ≤ fidx w.data.toList 45 0) && decide (fidx w.data.toList 45 0 ≤ (w.size : Int)) then (bif decide (0 ≤ inc (fidx w.data.toList 45 0)) && decide (inc (fidx w.data.toList 45 0) ≤ (w.size : Int)) then K (w.extract 0 (fidx w.data.toList 45 0).toNat) (w.extract (inc (fidx w.data.toList 45 0)).toNat w.size) else none) else none) else K w w
/-- its numbers -/
def numC {α : Type} (f t : ByteArray) (bad : Option α) (K : Int → Int → Option α) : Option α :=
  bif decide (f.size ≤ 281474976710656) then (bif decide (t.size ≤ 281474976710656) then (bif decide (numI f < 0) then bad else bif decide (numI t < 0) then bad else K (numI f) (numI t)) else none) else none
def wordC {α : Type} (n : Nat) (p q r t : Int) (w : ByteArray) (bad : Option α) (K : Int → Int → Int → Int → Option α) : Option α :=
  cutC w fun f u => numC f u bad fun lo hi => runC n p q r t lo hi K
def fi (s : ByteArray) : Int := fidx s.data.toList 44 0
def hd0 (i : Int) : Int := IntKind.wrap .i64 (i + 0)
theorem s22a_k : (fun (x : Int → Int → Int → Int → ByteArray) (s : ByteArray) => (codeT cfX (callT cfX (tXo x) 60) 60 cz (cL b22) (frame0 22 (ntOf 22) #[.string s]) st0).evalM (gcObs 0 0 (kp [0, 2] []))) = fun (_ : Int → Int → Int → Int → ByteArray) (s : ByteArray) => some (.normal, frO22 [(0, .string s)], st0) := by kernel_rfl
theorem s22a (x : Int → Int → Int → Int → ByteArray) (s : ByteArray) : (codeT cfX (callT cfX (tXo x) 60) 60 cz (cL b22) (frame0 22 (ntOf 22) #[.string s]) st0).evalM (gcObs 0 0 (kp [0, 2] [])) = some (.normal, frO22 [(0, .string s)], st0) := congrFun (congrFun s22a_k x) s
theorem s22b_k : (fun (x : Int → Int → Int → Int → ByteArray) (s : ByteArray) => (codeT cfX (callT cfX (tXo x) 60) 60 cz (cL s22) (frO22 [(0, .string s)]) st0).evalM (gcObs 0 0 (kp [0, 2, 4] [.cells 0]))) = fun (_ : Int → Int → Int → Int → ByteArray) (s : ByteArray) => some (.normal, frT22 s [], sI22) := by kernel_rfl
theorem s22b (x : Int → Int → Int → Int → ByteArray) (s : ByteArray) : (codeT cfX (callT cfX (tXo x) 60) 60 cz (cL s22) (frO22 [(0, .string s)]) st0).evalM (gcObs 0 0 (kp [0, 2, 4] [.cells 0])) = some (.normal, frT22 s [], sI22) := congrFun (congrFun s22b_k x) s
theorem s22c_k : (fun (x : Int → Int → Int → Int → ByteArray) (s : ByteArray) => (codeT cfX (callT cfX (tXo x) 60) 60 cz (cL (cN 1 s22)) (frT22 s []) sI22).evalM (gcObs 0 0 sel22)) = fun (_ : Int → Int → Int → Int → ByteArray) (s : ByteArray) => bif s.toList == (⟨#[]⟩ : ByteArray).toList then some (.ret, frE22 0 0 0 0 0, st0) else some (.normal, frT22 s [], sI22) := by kernel_rfl
theorem s22c (x : Int → Int → Int → Int → ByteArray) (s : ByteArray) : (codeT cfX (callT cfX (tXo x) 60) 60 cz (cL (cN 1 s22)) (frT22 s []) sI22).evalM (gcObs 0 0 sel22) = bif s.toList == (⟨#[]⟩ : ByteArray).toList then some (.ret, frE22 0 0 0 0 0, st0) else some (.normal, frT22 s [], sI22) := congrFun (congrFun s22c_k x) s
theorem s22l_k : (fun (x : Int → Int → Int → Int → ByteArray) (s : ByteArray) => (codeT cfX (callT cfX (tXo x) 60) 60 cz (.label 0) (frT22 s []) sI22).evalM (gcObs 0 0 (kp [0, 2, 4] [.cells 0]))) = fun (_ : Int → Int → Int → Int → ByteArray) (s : ByteArray) => some (.normal, frT22 s [], sI22) := by kernel_rfl
theorem s22l (x : Int → Int → Int → Int → ByteArray) (s : ByteArray) : (codeT cfX (callT cfX (tXo x) 60) 60 cz (.label 0) (frT22 s []) sI22).evalM (gcObs 0 0 (kp [0, 2, 4] [.cells 0])) = some (.normal, frT22 s [], sI22) := congrFun (congrFun s22l_k x) s
theorem s22d_k : (fun (x : Int → Int → Int → Int → ByteArray) (s : ByteArray) => (codeT cfX (callT cfX (tXo x) 60) 60 cz (cL (cL (cN 3 s22))) (frT22 s []) sI22).evalM (gcObs 0 0 (kp [0, 2, 4, 16] [.cells 0, .cells 1, .cells 2, .cells 3]))) = fun (_ : Int → Int → Int → Int → ByteArray) (s : ByteArray) => some (.normal, frT22 s [(16, seq22)], sA22 s) := by kernel_rfl
theorem s22d (x : Int → Int → Int → Int → ByteArray) (s : ByteArray) : (codeT cfX (callT cfX (tXo x) 60) 60 cz (cL (cL (cN 3 s22))) (frT22 s []) sI22).evalM (gcObs 0 0 (kp [0, 2, 4, 16] [.cells 0, .cells 1, .cells 2, .cells 3])) = some (.normal, frT22 s [(16, seq22)], sA22 s) := congrFun (congrFun s22d_k x) s
theorem i60_k : (fun (x : Int → Int → Int → Int → ByteArray) (s : ByteArray) => (codeT cfX (callT cfX (tXo x) 60) 60 cz (seqOf [cL b60]) (frame0 60 (ntOf 60) #[.func (.yield 4) #[] #[], pt' 2, pt' 1, pt' 3]) ((sA22 s).new (.loop (loop22 (frT22 s [(16, seq22)]).tm .ready none)))).evalM (gcObs 0 0 sel60)) = fun (_ : Int → Int → Int → Int → ByteArray) (s : ByteArray) => some (.normal, fr60, sL22 0 0 0 0 s .ready none) := by kernel_rfl
theorem i60 (x : Int → Int → Int → Int → ByteArray) (s : ByteArray) : (codeT cfX (callT cfX (tXo x) 60) 60 cz (seqOf [cL b60]) (frame0 60 (ntOf 60) #[.func (.yield 4) #[] #[], pt' 2, pt' 1, pt' 3]) ((sA22 s).new (.loop (loop22 (frT22 s [(16, seq22)]).tm .ready none)))).evalM (gcObs 0 0 sel60) = some (.normal, fr60, sL22 0 0 0 0 s .ready none) := congrFun (congrFun i60_k x) s
theorem s22e_k : (fun (x : Int → Int → Int → Int → ByteArray) (s : ByteArray) (p q r t : Int) (u : ByteArray) => (codeT cfX (callT cfX (tXo x) 60) 60 cz (cN 4 s22) (frT22 s [(16, seq22)]) (unl 4 (sL22 p q r t u .ready none))).evalM (gcObs 0 0 (kp [2, 3] []))) = fun (x : Int → Int → Int → Int → ByteArray) (s : ByteArray) (p q r t : Int) (_ : ByteArray) => bif inQ p q r t then (bif !((x p q r t).toList == s.toList) then some (.ret, frE22 0 0 0 0 5, st0) else some (.ret, frE22 p q r t 0, st0)) else none := by kernel_rfl
theorem s22e (x : Int → Int → Int → Int → ByteArray) (s : ByteArray) (p q r t : Int) (u : ByteArray) : (codeT cfX (callT cfX (tXo x) 60) 60 cz (cN 4 s22) (frT22 s [(16, seq22)]) (unl 4 (sL22 p q r t u .ready none))).evalM (gcObs 0 0 (kp [2, 3] [])) = bif inQ p q r t then (bif !((x p q r t).toList == s.toList) then some (.ret, frE22 0 0 0 0 5, st0) else some (.ret, frE22 p q r t 0, st0)) else none := congrFun (congrFun (congrFun (congrFun (congrFun (congrFun (congrFun s22e_k x) s) p) q) r) t) u
theorem r60s_k : (fun (x : Int → Int → Int → Int → ByteArray) (p q r t : Int) (s : ByteArray) => (codeT cfX (callT cfX (tXo x) 300) 300 cz k60 fr60 (sL22 p q r t s .ready none)).evalM (gcObs 0 0 sel60)) = fun (_ : Int → Int → Int → Int → ByteArray) (p q r t : Int) (s : ByteArray) => bif decide (fi s < 0) then some (.exit 2, fr60, sL22 p q r t s .ready none) else (bif decide (0 ≤ hd0 (fi s)) && decide (hd0 (fi s) ≤ (s.size : Int)) then wordC 299 p q r t (s.extract 0 (hd0 (fi s)).toNat) (some (.ret, fr60, sL22 0 0 0 0 s .done (some (.exit 0)))) (fun p q r t => bif decide (0 ≤ inc (fi s)) && decide (inc (fi s) ≤ (s.size : Int)) then some (.normal, fr60, sL22 p q r t (s.extract (inc (fi s)).toNat s.size) .ready none) else none) else none) := by kernel_rfl
theorem r60s (x : Int → Int → Int → Int → ByteArray) (p q r t : Int) (s : ByteArray) : (codeT cfX (callT cfX (tXo x) 300) 300 cz k60 fr60 (sL22 p q r t s .ready none)).evalM (gcObs 0 0 sel60) = bif decide (fi s < 0) then some (.exit 2, fr60, sL22 p q r t s .ready none) else (bif decide (0 ≤ hd0 (fi s)) && decide (hd0 (fi s) ≤ (s.size : Int)) then wordC 299 p q r t (s.extract 0 (hd0 (fi s)).toNat) (some (.ret, fr60, sL22 0 0 0 0 s .done (some (.exit 0)))) (fun p q r t => bif decide (0 ≤ inc (fi s)) && decide (inc (fi s) ≤ (s.size : Int)) then some (.normal, fr60, sL22 p q r t (s.extract (inc (fi s)).toNat s.size) .ready none) else none) else none) := congrFun (congrFun (congrFun (congrFun (congrFun (congrFun r60s_k x) p) q) r) t) s
theorem e60s_k : (fun (x : Int → Int → Int → Int → ByteArray) (p q r t : Int) (s : ByteArray) => (codeT cfX (callT cfX (tXo x) 300) 300 cz (cR (cR b60)) fr60 (sL22 p q r t s .ready none)).evalM (gcObs 0 0 sel60)) = fun (_ : Int → Int → Int → Int → ByteArray) (p q r t : Int) (s : ByteArray) => wordC 299 p q r t s (some (.normal, fr60, sL22 0 0 0 0 s .done (some (.exit 0)))) (fun p q r t => some (.normal, fr60, sL22 p q r t s .ready none)) := by kernel_rfl
theorem e60s (x : Int → Int → Int → Int → ByteArray) (p q r t : Int) (s : ByteArray) : (codeT cfX (callT cfX (tXo x) 300) 300 cz (cR (cR b60)) fr60 (sL22 p q r t s .ready none)).evalM (gcObs 0 0 sel60) = wordC 299 p q r t s (some (.normal, fr60, sL22 0 0 0 0 s .done (some (.exit 0)))) (fun p q r t => some (.normal, fr60, sL22 p q r t s .ready none)) := congrFun (congrFun (congrFun (congrFun (congrFun (congrFun e60s_k x) p) q) r) t) s
end
end Go.Proofs.YtmpokdnpkjcnbaaDoor

/- Parse: what its rounds compute. -/
namespace Go.Proofs.YtmpokdnpkjcnbaaDoor
open Go.Am
noncomputable section
/-- k cores more, from c on -/
def fillR (m : B256) (c : Nat) : Nat → B256
  | 0 => m
  | k + 1 => fillR (plus m c) (c + 1) k
theorem runC_eval {α : Type} (K : Int → Int → Int → Int → Option α) (hi : Nat) (hh : hi < 256) : ∀ (k n : Nat) (m : B256) (c : Nat), hi + 1 - c = k → k < n → c ≤ 256 → runC n (wd m 0) (wd m 1) (wd m 2) (wd m 3) (c : Int) (hi : Int) K = K (wd (fillR m c k) 0) (wd (fillR m c k) 1) (wd (fillR m c k) 2) (wd (fillR m c k) 3) := by
  intro k
  induction k with
  | zero =>
    intro n m c hk hn hc
    cases n with
    | zero => omega
    | succ n =>
      show (bif decide ((c : Int) ≤ (hi : Int)) then _ else _) = _
      rw [decide_eq_false (by omega)]; rfl
  | succ k ih =>
    intro n m c hk hn hc
    cases n with
    | zero => omega
    | succ n =>
      have hlt : c < 256 := by omega
      show (bif decide ((c : Int) ≤ (hi : Int)) then (bif inQ (wd m 0) (wd m 1) (wd m 2) (wd m 3) && (decide (0 ≤ (c : Int)) && decide ((c : Int) < 256)) then runC n (W 0 (wd m 0) c) (W 1 (wd m 1) c) (W 2 (wd m 2) c) (W 3 (wd m 3) c) (inc c) hi K else none) else _) = _
      rw [decide_eq_true (by omega : (c : Int) ≤ (hi : Int)), cond_true, wd_inQ, decide_eq_true (by omega : (0 : Int) ≤ c), decide_eq_true (by omega : (c : Int) < 256), Bool.true_and, Bool.true_and, cond_true, W_wd _ hlt, W_wd _ hlt, W_wd _ hlt, W_wd _ hlt, incN (by omega)]
      exact ih n (plus m c) (c + 1) (by omega) (by omega) (by omega)
theorem fidx_rng (l : List UInt8) (c : UInt8) : ∀ k : Nat, fidx l c k = -1 ∨ ((k : Int) ≤ fidx l c k ∧ fidx l c k < (k : Int) + l.length) := by
  induction l with
  | nil => intro k; exact .inl rfl
  | cons b l ih =>
    intro k
    unfold fidx
    cases Nat.beq b.toNat c.toNat with
    | true => right; simp only [cond_true, List.length_cons]; omega
    | false =>
      rcases ih (k + 1) with h | h
      · exact .inl h
      · right; simp only [cond_false, List.length_cons]; omega
theorem fidx_b (s : ByteArray) (c : UInt8) : fidx s.data.toList c 0 = -1 ∨ (0 ≤ fidx s.data.toList c 0 ∧ fidx s.data.toList c 0 < s.size) := by
  rcases fidx_rng s.data.toList c 0 with h | h
  · exact .inl h
  · have : s.data.toList.length = s.size := rfl
    right; omega
theorem numI_rng (s : ByteArray) : numI s = -1 ∨ (0 ≤ numI s ∧ numI s < 256) := by
  unfold numI
  split
  · split
    · right; assumption
    · exact .inl rfl
  · exact .inl rfl
/-- a word's two parts -/
def cutP (w : ByteArray) : ByteArray × ByteArray := if fidx w.data.toList 45 0 ≥ 0 then (w.extract 0 (fidx w.data.toList 45 0).toNat, w.extract ((fidx w.data.toList 45 0).toNat + 1) w.size) else (w, w)
/-- a mask with a word's cores, too; none: it is no word -/
def wordM (m : B256) (w : ByteArray) : Option B256 := if numI (cutP w).1 < 0 then none else if numI (cutP w).2 < 0 then none else some (fillR m (numI (cutP w).1).toNat ((numI (cutP w).2).toNat + 1 - (numI (cutP w).1).toNat))
theorem cutC_eval {α : Type} {w : ByteArray} (hw : w.size ≤ 1000000) (K : ByteArray → ByteArray → Option α) : cutC w K = K (cutP w).1 (cutP w).2 := by
  unfold cutC cutP
  rcases fidx_b w 45 with h | h
  · rw [h, decide_eq_false (by omega), if_neg (by omega)]; rfl
  · rw [if_pos h.1]
    obtain ⟨j, hj⟩ : ∃ j : Nat, fidx w.data.toList 45 0 = j := ⟨(fidx w.data.toList 45 0).toNat, by omega⟩
    rw [hj] at h ⊢
    have e : inc (j : Int) = ((j + 1 : Nat) : Int) := incN (by omega)
    rw [e, decide_eq_true (by omega : (j : Int) ≥ 0), decide_eq_true (by omega : (j : Int) ≤ (w.size : Int)), decide_eq_true (by omega : (0 : Int) ≤ ((j + 1 : Nat) : Int)), decide_eq_true (by omega : ((j + 1 : Nat) : Int) ≤ (w.size : Int)), Int.toNat_natCast, Int.toNat_natCast]
    rfl
theorem cutP_size {w : ByteArray} (hw : w.size ≤ 1000000) : (cutP w).1.size ≤ 1000000 ∧ (cutP w).2.size ≤ 1000000 := by
  unfold cutP
  split
  · simp only [ByteArray.size_extract]; omega
  · exact ⟨hw, hw⟩
theorem wordC_eval {α : Type} {w : ByteArray} (hw : w.size ≤ 1000000) (m : B256) (bad : Option α) (K : Int → Int → Int → Int → Option α) :
    wordC 299 (wd m 0) (wd m 1) (wd m 2) (wd m 3) w bad K = match wordM m w with | none => bad | some m' => K (wd m' 0) (wd m' 1) (wd m' 2) (wd m' 3) := by
  unfold wordC
  rw [cutC_eval hw]
  obtain ⟨z1, z2⟩ := cutP_size hw
  unfold numC wordM
  rw [decide_eq_true (by omega : (cutP w).1.size ≤ 281474976710656), decide_eq_true (by omega : (cutP w).2.size ≤ 281474976710656), cond_true, cond_true]
  by_cases h1 : numI (cutP w).1 < 0
  · rw [decide_eq_true h1, if_pos h1]; rfl
  · rw [decide_eq_false h1, if_neg h1, cond_false]
    by_cases h2 : numI (cutP w).2 < 0
    · rw [decide_eq_true h2, if_pos h2]; rfl
    · rw [decide_eq_false h2, if_neg h2, cond_false]
      have r1 := numI_rng (cutP w).1
      have r2 := numI_rng (cutP w).2
      obtain ⟨lo, hlo⟩ : ∃ lo : Nat, numI (cutP w).1 = lo := ⟨(numI (cutP w).1).toNat, by omega⟩
      obtain ⟨hi, hhi⟩ : ∃ hi : Nat, numI (cutP w).2 = hi := ⟨(numI (cutP w).2).toNat, by omega⟩
      rw [hlo] at r1 ⊢
      rw [hhi] at r2 ⊢
      rw [Int.toNat_natCast, Int.toNat_natCast]
      exact runC_eval K hi (by omega) (hi + 1 - lo) 299 m lo rfl (by omega) (by omega)
def hdP (s : ByteArray) : ByteArray := s.extract 0 (fi s).toNat
def tlP (s : ByteArray) : ByteArray := s.extract ((fi s).toNat + 1) s.size
/-- the mask that words tell -/
def parseG : Nat → B256 → ByteArray → B256
  | 0, _, _ => 0#256
  | n + 1, m, s => if fi s < 0 then (match wordM m s with | none => 0#256 | some m' => m') else (match wordM m (hdP s) with | none => 0#256 | some m' => parseG n m' (tlP s))
def sP (m : B256) (s : ByteArray) (st : LoopState) (pd : Option Code) : St := sL22 (wd m 0) (wd m 1) (wd m 2) (wd m 3) s st pd
theorem sP_zero (s : ByteArray) (st : LoopState) (pd : Option Code) : sL22 0 0 0 0 s st pd = sP 0#256 s st pd := by
  unfold sP
  rw [wd_zero, wd_zero, wd_zero, wd_zero]
theorem round60 (m : B256) {s : ByteArray} (hs : s.size ≤ 1000000) :
    (codeT cfX (callT cfX (tXo t0F) 300) 300 cz k60 fr60 (sP m s .ready none)).evalM (gcObs 0 0 sel60) = some (if fi s < 0 then (.exit 2, fr60, sP m s .ready none) else match wordM m (hdP s) with | none => (.ret, fr60, sP 0#256 s .done (some (.exit 0))) | some m' => (.normal, fr60, sP m' (tlP s) .ready none)) := by
  refine (r60s t0F ..).trans ?_
  by_cases h : fi s < 0
  · rw [decide_eq_true h, if_pos h]; rfl
  · have hb : 0 ≤ fi s ∧ fi s < s.size := by
      rcases fidx_b s 44 with hh | hh
      · exact absurd hh (by show ¬ fi s = -1; omega)
      · exact hh
    rw [decide_eq_false h, if_neg h, cond_false]
    unfold hdP tlP
    obtain ⟨j, hj⟩ : ∃ j : Nat, fi s = j := ⟨(fi s).toNat, by omega⟩
    rw [hj] at hb ⊢
    have e0 : hd0 (j : Int) = (j : Int) := by unfold hd0; rw [Int.add_zero, wrapI (by omega) (by omega)]
    have e1 : inc (j : Int) = ((j + 1 : Nat) : Int) := incN (by omega)
    rw [e0, e1, decide_eq_true (by omega : (0 : Int) ≤ j), decide_eq_true (by omega : (j : Int) ≤ (s.size : Int)), decide_eq_true (by omega : (0 : Int) ≤ ((j + 1 : Nat) : Int)), decide_eq_true (by omega : ((j + 1 : Nat) : Int) ≤ (s.size : Int)), Int.toNat_natCast, Int.toNat_natCast, Bool.and_self, cond_true, wordC_eval (by simp only [ByteArray.size_extract]; omega)]
    cases wordM m (s.extract 0 j) with
    | none => rw [sP_zero]
    | some m' => rfl
theorem end60 (m : B256) {s : ByteArray} (hs : s.size ≤ 1000000) :
    (codeT cfX (callT cfX (tXo t0F) 300) 300 cz (cR (cR b60)) fr60 (sP m s .ready none)).evalM (gcObs 0 0 sel60) = some (match wordM m s with | none => (.normal, fr60, sP 0#256 s .done (some (.exit 0))) | some m' => (.normal, fr60, sP m' s .ready none)) := by
  refine (e60s t0F ..).trans ?_
  rw [wordC_eval hs]
  cases wordM m s with
  | none => rw [sP_zero]
  | some m' => rfl
end
end Go.Proofs.YtmpokdnpkjcnbaaDoor
