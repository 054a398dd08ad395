import Derived.Test.YtmpokdnpkjcnbaaDoorFGH
import Derived.Test.YtmpokdnpkjcnbaaDoorN
/- One more core: the tree. -/
namespace Go.Proofs.YtmpokdnpkjcnbaaDoor
open Go.Am
noncomputable section
def offN (n : Int) : Nat := 0 + Int.toNat (IntKind.wrap .i64 (Int.tdiv n 64)) * 1
def shN (n : Int) : Int := IntKind.wrap .u64 (1 * 2 ^ (min (Int.toNat (Int.tmod n 64)) (IntKind.bits .u64)))
def addN (a b c d n : Int) : Int := or64 (toI (w4 a b c d n)) (shN n)
theorem with_t_k : (fun (a b c d n : Int) => (callT cfC tC 40 (.func (.func 35) #[] #[]) #[mk a b c d, .int .i64 n] (ctx0 0) st0).evalM seenOf) = fun (a b c d n : Int) => bif inI n then (bif isI .u64 (w4 a b c d n) then (bif decide (Int.tmod n 64 < 0) then none else (bif inI n then (bif decide (offN n = 0) then some (mk (addN a b c d n) b c d, st0) else bif decide (offN n = 1) then some (mk a (addN a b c d n) c d, st0) else bif decide (offN n = 2) then some (mk a b (addN a b c d n) d, st0) else bif decide (offN n = 3) then some (mk a b c (addN a b c d n), st0) else none) else none)) else none) else none := by kernel_rfl
theorem with_t (a b c d n : Int) : (callT cfC tC 40 (.func (.func 35) #[] #[]) #[mk a b c d, .int .i64 n] (ctx0 0) st0).evalM seenOf = bif inI n then (bif isI .u64 (w4 a b c d n) then (bif decide (Int.tmod n 64 < 0) then none else (bif inI n then (bif decide (offN n = 0) then some (mk (addN a b c d n) b c d, st0) else bif decide (offN n = 1) then some (mk a (addN a b c d n) c d, st0) else bif decide (offN n = 2) then some (mk a b (addN a b c d n) d, st0) else bif decide (offN n = 3) then some (mk a b c (addN a b c d n), st0) else none) else none)) else none) else none := congrFun (congrFun (congrFun (congrFun (congrFun with_t_k a) b) c) d) n
end
end Go.Proofs.YtmpokdnpkjcnbaaDoor

/- Masks as sets of 256; one more core, told. -/
namespace Go.Proofs.YtmpokdnpkjcnbaaDoor
open Go.Am
noncomputable section
abbrev B256 := BitVec 256
/-- a set's k-th word, as the program has it -/
def wd (m : B256) (k : Nat) : Int := U (m.extractLsb' (64 * k) 64)
def mkB (m : B256) : Value := mk (wd m 0) (wd m 1) (wd m 2) (wd m 3)
theorem u_inj {x y : B64} (h : U x = U y) : x = y := by
  unfold U at h
  exact BitVec.eq_of_toNat_eq (Int.ofNat.inj h)
theorem wd_inQ (m : B256) : inQ (wd m 0) (wd m 1) (wd m 2) (wd m 3) = true := u_inQ _ _ _ _
theorem wd_rep {a b c d : Int} (h : inQ a b c d = true) : ∃ m : B256, a = wd m 0 ∧ b = wd m 1 ∧ c = wd m 2 ∧ d = wd m 3 := by
  obtain ⟨q1, q2, q3, q4⟩ := inQ_iff.1 h
  obtain ⟨x0, rfl⟩ := u_rep q1
  obtain ⟨x1, rfl⟩ := u_rep q2
  obtain ⟨x2, rfl⟩ := u_rep q3
  obtain ⟨x3, rfl⟩ := u_rep q4
  have key : ∀ (k : Nat) (x : B64) (m : B256), (∀ i, i < 64 → m.getLsbD (64 * k + i) = x.getLsbD i) → U x = wd m k := by
    intro k x m hm
    refine congrArg U (BitVec.eq_of_getLsbD_eq fun i hi => ?_)
    rw [BitVec.getLsbD_extractLsb', decide_eq_true hi, Bool.true_and, hm i hi]
  refine ⟨x3 ++ (x2 ++ (x1 ++ x0)), key _ _ _ fun i hi => ?_, key _ _ _ fun i hi => ?_, key _ _ _ fun i hi => ?_, key _ _ _ fun i hi => ?_⟩
  · rw [BitVec.getLsbD_append, if_pos (by omega), BitVec.getLsbD_append, if_pos (by omega), BitVec.getLsbD_append, if_pos (by omega)]
    exact congrArg x0.getLsbD (by omega)
  · rw [BitVec.getLsbD_append, if_pos (by omega), BitVec.getLsbD_append, if_pos (by omega), BitVec.getLsbD_append, if_neg (by omega)]
    exact congrArg x1.getLsbD (by omega)
  · rw [BitVec.getLsbD_append, if_pos (by omega), BitVec.getLsbD_append, if_neg (by omega)]
    exact congrArg x2.getLsbD (by omega)
  · rw [BitVec.getLsbD_append, if_neg (by omega)]
    exact congrArg x3.getLsbD (by omega)
theorem wd_bit (m : B256) (k i : Nat) : Nat.testBit (wd m k).toNat i = (decide (i < 64) && m.getLsbD (64 * k + i)) := by
  unfold wd
  rw [u_bit, BitVec.getLsbD_extractLsb']
theorem cell_wd (m : B256) {k : Nat} (hk : k < 4) : cell4 (wd m 0) (wd m 1) (wd m 2) (wd m 3) k = wd m k := by
  rcases (by omega : k = 0 ∨ k = 1 ∨ k = 2 ∨ k = 3) with h | h | h | h <;> rw [h] <;> rfl
/-- has it a core? -/
theorem hasB_wd (m : B256) (n : Nat) : hasB (wd m 0) (wd m 1) (wd m 2) (wd m 3) (n : Int) = m.getLsbD n := by
  unfold hasB
  rw [decide_eq_true (by omega : (0 : Int) ≤ n), Bool.true_and, Int.toNat_natCast]
  by_cases h : n < 256
  · rw [decide_eq_true (by omega : (n : Int) < 256), Bool.true_and, cell_wd m (by omega), wd_bit, decide_eq_true (by omega), Bool.true_and]
    congr 1; omega
  · rw [decide_eq_false (by omega : ¬ (n : Int) < 256), Bool.false_and, BitVec.getLsbD_of_ge _ _ (by omega)]
theorem wd_ext {m m' : B256} (h : ∀ n, n < 256 → m.getLsbD n = m'.getLsbD n) : m = m' := BitVec.eq_of_getLsbD_eq fun i hi => h i hi
/-- a word with one more core -/
def W (k : Nat) (x n : Int) : Int := cond (Nat.beq (n.toNat / 64) k) (or64 x (2 ^ (n.toNat % 64))) x
theorem two_u {j : Nat} (hj : j < 64) : (2 : Int) ^ j = U (BitVec.twoPow 64 j) := by
  unfold U
  rw [BitVec.toNat_twoPow_of_lt hj]
  simp
def plus (m : B256) (n : Nat) : B256 := m ||| BitVec.twoPow 256 n
theorem plus_bit (m : B256) {n : Nat} (hn : n < 256) (i : Nat) : (plus m n).getLsbD i = (m.getLsbD i || decide (i = n)) := by
  unfold plus
  rw [BitVec.getLsbD_or, BitVec.getLsbD_twoPow, decide_eq_true hn, Bool.true_and]
  congr 1
  exact decide_eq_decide.2 ⟨Eq.symm, Eq.symm⟩
theorem W_wd (m : B256) {n : Nat} (hn : n < 256) (k : Nat) : W k (wd m k) (n : Int) = wd (plus m n) k := by
  unfold W
  rw [Int.toNat_natCast]
  have key : ∀ y : B64, (∀ i, i < 64 → y.getLsbD i = (m.getLsbD (64 * k + i) || decide (64 * k + i = n))) → U y = wd (plus m n) k := by
    intro y hy
    unfold wd
    congr 1
    apply BitVec.eq_of_getLsbD_eq
    intro i hi
    rw [BitVec.getLsbD_extractLsb', decide_eq_true hi, Bool.true_and, hy i hi, plus_bit m hn]
  cases hb : Nat.beq (n / 64) k with
  | true =>
    have hk := Nat.eq_of_beq_eq_true hb
    rw [cond_true, two_u (by omega)]
    unfold wd
    rw [u_or]
    refine key _ fun i hi => ?_
    rw [BitVec.getLsbD_or, BitVec.getLsbD_extractLsb', decide_eq_true hi, Bool.true_and, BitVec.getLsbD_twoPow, decide_eq_true (by omega), Bool.true_and]
    congr 1
    exact decide_eq_decide.2 ⟨fun h => by omega, fun h => by omega⟩
  | false =>
    have hk : n / 64 ≠ k := Nat.ne_of_beq_eq_false hb
    rw [cond_false]
    unfold wd
    refine key _ fun i hi => ?_
    rw [BitVec.getLsbD_extractLsb', decide_eq_true hi, Bool.true_and, decide_eq_false (by omega), Bool.or_false]
theorem with_tree {a b c d : Int} {m : Nat} (h : inQ a b c d = true) (hm : m < 256) : (callT cfC tC 40 (.func (.func 35) #[] #[]) #[mk a b c d, .int .i64 m] (ctx0 0) st0).evalM seenOf = some (mk (W 0 a m) (W 1 b m) (W 2 c m) (W 3 d m), st0) := by
  rw [with_t]
  have e1 : Int.tdiv (m : Int) 64 = ((m / 64 : Nat) : Int) := by
    rw [Int.tdiv_eq_ediv_of_nonneg (by omega)]
    rfl
  have hI : inI (m : Int) = true := by
    unfold inI
    rw [e1, wrapI (by omega) (by omega), decide_eq_true (by omega), decide_eq_true (by omega)]
    rfl
  have em : Int.tmod (m : Int) 64 = ((m % 64 : Nat) : Int) := by
    rw [Int.tmod_eq_emod_of_nonneg (by omega)]
    rfl
  have hof : offN (m : Int) = m / 64 := by
    unfold offN
    rw [e1, wrapI (by omega) (by omega), Int.toNat_natCast]
    omega
  have hsh : shN (m : Int) = 2 ^ (m % 64) := by
    unfold shN
    rw [em, Int.toNat_natCast, Int.one_mul]
    have : min (m % 64) (IntKind.bits .u64) = m % 64 := by
      show min (m % 64) 64 = _
      omega
    rw [this, two_u (by omega)]
    exact u_wrap _
  have ha : addN a b c d (m : Int) = or64 (cell4 a b c d (m / 64)) (2 ^ (m % 64)) := by
    unfold addN
    rw [w4_eq hm, hsh]
    rfl
  rw [hI, cond_true, w4_eq hm, show isI .u64 (some (.int .u64 (cell4 a b c d (m / 64)))) = true from rfl, cond_true, em, decide_eq_false (by omega), cond_false, cond_true, hof, ha]
  unfold W
  rw [Int.toNat_natCast]
  rcases (by omega : m / 64 = 0 ∨ m / 64 = 1 ∨ m / 64 = 2 ∨ m / 64 = 3) with h | h | h | h <;> rw [h] <;> rfl
def withD : Array Value → DT (Option (Value × St))
  | ⟨[.agg ⟨[.int .u64 a, .int .u64 b, .int .u64 c, .int .u64 d]⟩, .int .i64 n]⟩ => .must (inQ a b c d && (decide (0 ≤ n) && decide (n < 256))) (.leaf (some (mk (W 0 a n) (W 1 b n) (W 2 c n) (W 3 d n), st0))) (.leaf none)
  | _ => .leaf none
theorem with_apart : Apart cfC 35 withD := by
  intro args x h
  unfold withD at h
  split at h
  · rename_i a b c d n
    rw [DT.eval_must] at h
    cases hc : (inQ a b c d && (decide (0 ≤ n) && decide (n < 256))) with
    | false => rw [hc] at h; cases h
    | true =>
      rw [hc, cond_true, DT.eval_leaf] at h
      cases h
      simp only [Bool.and_eq_true, decide_eq_true_eq] at hc
      obtain ⟨hq, h0, h1⟩ := hc
      obtain ⟨m, rfl⟩ : ∃ m : Nat, n = m := ⟨n.toNat, by omega⟩
      exact ⟨by simp [freeN], tree_call tC_ok (with_tree hq (by omega))⟩
  · cases h
def TQ : FuncId → Option (Array Value → DT (Option (Value × St)))
  | 35 => some withD
  | _ => none
def cfQ : Cfg := cfC.told TQ
theorem goodQ [Z : Zone] [T : Tab] (B : Base) : Go.Am.Good cfQ B := told_good (fun B => goodC B) rfl (fun f F h => by
  unfold TQ at h
  split at h
  · cases h; exact ⟨rfl, ⟨_, rfl⟩, with_apart⟩
  · cases h) B
def tQ : FuncId → Option HandT := treeT TQ tC
theorem tQ_ok : ∀ f k hd, tQ f = some k → cfQ.hand f = some hd → ∀ a c s, (k a c s).eval = hd a c s := treeT_ok tC_ok
end
end Go.Proofs.YtmpokdnpkjcnbaaDoor

/- The least cores: trees. -/
namespace Go.Proofs.YtmpokdnpkjcnbaaDoor
open Go.Am
noncomputable section
def tR (p : Fs) : FuncId → Option HandT
  | 18 => some (apartT (cntO p))
  | f => tQ f
def b26 : Code := bodyOf 26
def rng26 : Code := cB (cR (cL (cN 3 b26)))
theorem b26_eq : b26 = nest [cL b26, cL (cN 1 b26), cL (cN 2 b26)] (.seq (.seq (cL (cL (cN 3 b26))) (.block 1 (.rangeFunc (.tmp 19) #[20] (assignOf rng26) (rbodyOf rng26)))) (cN 4 b26)) := by kernel_rfl
def frI26 (a b c d : Int) : Fr := { fn := 26, nt := ntOf 26, tm := tmS [(3, pt' 0), (6, pt' 1)] .nil, pt := (Tr.nil.put 2 (2, 0)).put 4 (4, 0), loc := (Tr.nil.put 2 (mkC a b c d)).put 4 (mkC 0 0 0 0), round := none }
def frE26 (a b c d e : Int) : Fr := { fn := 26, nt := ntOf 26, tm := tmS [(5, .int .i64 e)] .nil, pt := Tr.nil.put 4 (4, 0), loc := Tr.nil.put 4 (mkC a b c d), round := none }
def frA26 : Fr := { fn := 26, nt := ntOf 26, tm := tmS [(3, pt' 0), (6, pt' 1), (19, .func (.func 52) #[] #[pt' 2])] .nil, pt := Tr.nil.put 4 (4, 0), loc := Tr.nil.put 4 (mkC 0 0 0 0), round := none }
def sI26 (n : Int) : St := stS [(0, .cells #[.int .i64 n] 1 false), (1, .cells (mkC 0 0 0 0) 1 false)] 2
def hp26 (a b c d n p q r s : Int) : List (Nat × AObj) := [(0, .cells #[.int .i64 n] 1 false), (1, .cells (mkC p q r s) 1 false), (2, .cells (mkC a b c d) 1 false)]
def sA26 (a b c d n : Int) : St := stS (hp26 a b c d n 0 0 0 0) 3
def loop26 (tm : Tr Value) (st : LoopState) (pd : Option Code) : LoopRec := { fn := 26, nt := ntOf 26, tm := tm, params := #[20], assign := assignOf rng26, body := rbodyOf rng26, state := st, pending := pd }
def tmL26 : Tr Value := tmS [(3, pt' 0), (6, pt' 1)] .nil
def sL26 (a b c d n p q r s : Int) (st : LoopState) (pd : Option Code) : St := stS (hp26 a b c d n p q r s ++ [(3, .loop (loop26 tmL26 st pd))]) 4
def fr52m (y q : Nat) (i : Int) : Fr := frS 52 [(0, .func (.yield y) #[] #[]), (1, pt' q), (4, .int .i64 i)]
def sel26a : Ex → List Tmp × List Kept
  | .normal => ([2, 3, 4, 6], [.cells 0, .cells 1])
  | _ => ([4, 5], [])
def sel26r : Ex → List Tmp × List Kept := fun _ => ([0, 1, 4], [.cells 0, .cells 1, .cells 2, .loop 3 [3, 6]])
def dec (i : Int) : Int := IntKind.wrap .i64 (i - 1)
theorem s26a_k : (fun (p : Fs) (a b c d n : Int) => (codeT cfQ (callT cfQ (tR p) 60) 60 cz (seqOf [cL b26, cL (cN 1 b26), cL (cN 2 b26)]) (frame0 26 (ntOf 26) #[mk a b c d, .int .i64 n]) st0).evalM (gcObs 0 0 sel26a)) = fun (p : Fs) (a b c d n : Int) => bif decide (n < 0) then some (.ret, frE26 0 0 0 0 1, st0) else (bif p.Q a b c d then (bif decide (n > p.C a b c d) then some (.ret, frE26 0 0 0 0 12, st0) else some (.normal, frI26 a b c d, sI26 n)) else none) := by kernel_rfl
theorem s26a (p : Fs) (a b c d n : Int) : (codeT cfQ (callT cfQ (tR p) 60) 60 cz (seqOf [cL b26, cL (cN 1 b26), cL (cN 2 b26)]) (frame0 26 (ntOf 26) #[mk a b c d, .int .i64 n]) st0).evalM (gcObs 0 0 sel26a) = bif decide (n < 0) then some (.ret, frE26 0 0 0 0 1, st0) else (bif p.Q a b c d then (bif decide (n > p.C a b c d) then some (.ret, frE26 0 0 0 0 12, st0) else some (.normal, frI26 a b c d, sI26 n)) else none) := congrFun (congrFun (congrFun (congrFun (congrFun (congrFun s26a_k p) a) b) c) d) n
theorem s26b_k : (fun (p : Fs) (a b c d n : Int) => (codeT cfQ (callT cfQ (tR p) 60) 60 cz (cL (cL (cN 3 b26))) (frI26 a b c d) (sI26 n)).evalM (gcObs 0 0 (kp [3, 4, 6, 19] [.cells 0, .cells 1, .cells 2]))) = fun (_ : Fs) (a b c d n : Int) => some (.normal, frA26, sA26 a b c d n) := by kernel_rfl
theorem s26b (p : Fs) (a b c d n : Int) : (codeT cfQ (callT cfQ (tR p) 60) 60 cz (cL (cL (cN 3 b26))) (frI26 a b c d) (sI26 n)).evalM (gcObs 0 0 (kp [3, 4, 6, 19] [.cells 0, .cells 1, .cells 2])) = some (.normal, frA26, sA26 a b c d n) := congrFun (congrFun (congrFun (congrFun (congrFun (congrFun s26b_k p) a) b) c) d) n
theorem i52l_k : (fun (p : Fs) (a b c d n : Int) => (codeT cfQ (callT cfQ (tR p) 60) 60 cz (seqOf [cL b52]) (frame0 52 (ntOf 52) #[.func (.yield 3) #[] #[], pt' 2]) ((sA26 a b c d n).new (.loop (loop26 frA26.tm .ready none)))).evalM (gcObs 0 0 sel26r)) = fun (_ : Fs) (a b c d n : Int) => some (.normal, fr52m 3 2 0, sL26 a b c d n 0 0 0 0 .ready none) := by kernel_rfl
theorem i52l (p : Fs) (a b c d n : Int) : (codeT cfQ (callT cfQ (tR p) 60) 60 cz (seqOf [cL b52]) (frame0 52 (ntOf 52) #[.func (.yield 3) #[] #[], pt' 2]) ((sA26 a b c d n).new (.loop (loop26 frA26.tm .ready none)))).evalM (gcObs 0 0 sel26r) = some (.normal, fr52m 3 2 0, sL26 a b c d n 0 0 0 0 .ready none) := congrFun (congrFun (congrFun (congrFun (congrFun (congrFun i52l_k p) a) b) c) d) n
theorem r52l_k : (fun (p : Fs) (a b c d n q r s t i : Int) => (codeT cfQ (callT cfQ (tR p) 60) 60 cz k52 (fr52m 3 2 i) (sL26 a b c d n q r s t .ready none)).evalM (gcObs 0 0 sel26r)) = fun (_ : Fs) (a b c d n q r s t i : Int) => bif decide (i < 256) then (bif inQ a b c d then (bif hasB a b c d i then (bif (n == 0) then some (.ret, fr52m 3 2 i, sL26 a b c d n q r s t .done (some (.exit 1))) else (bif inQ q r s t && (decide (0 ≤ i) && decide (i < 256)) then some (.normal, fr52m 3 2 (inc i), sL26 a b c d (dec n) (W 0 q i) (W 1 r i) (W 2 s i) (W 3 t i) .ready none) else none)) else some (.normal, fr52m 3 2 (inc i), sL26 a b c d n q r s t .ready none)) else none) else some (.exit 0, fr52m 3 2 i, sL26 a b c d n q r s t .ready none) := by kernel_rfl
theorem r52l (p : Fs) (a b c d n q r s t i : Int) : (codeT cfQ (callT cfQ (tR p) 60) 60 cz k52 (fr52m 3 2 i) (sL26 a b c d n q r s t .ready none)).evalM (gcObs 0 0 sel26r) = bif decide (i < 256) then (bif inQ a b c d then (bif hasB a b c d i then (bif (n == 0) then some (.ret, fr52m 3 2 i, sL26 a b c d n q r s t .done (some (.exit 1))) else (bif inQ q r s t && (decide (0 ≤ i) && decide (i < 256)) then some (.normal, fr52m 3 2 (inc i), sL26 a b c d (dec n) (W 0 q i) (W 1 r i) (W 2 s i) (W 3 t i) .ready none) else none)) else some (.normal, fr52m 3 2 (inc i), sL26 a b c d n q r s t .ready none)) else none) else some (.exit 0, fr52m 3 2 i, sL26 a b c d n q r s t .ready none) := congrFun (congrFun (congrFun (congrFun (congrFun (congrFun (congrFun (congrFun (congrFun (congrFun (congrFun r52l_k p) a) b) c) d) n) q) r) s) t) i
theorem s26c_k : (fun (p : Fs) (a b c d n q r s t : Int) => (codeT cfQ (callT cfQ (tR p) 60) 60 cz (cN 4 b26) frA26 (unl 3 (sL26 a b c d n q r s t .ready none))).evalM (gcObs 0 0 (kp [4, 5] []))) = fun (_ : Fs) (_ _ _ _ _ q r s t : Int) => some (.ret, frE26 q r s t 0, st0) := by kernel_rfl
theorem s26c (p : Fs) (a b c d n q r s t : Int) : (codeT cfQ (callT cfQ (tR p) 60) 60 cz (cN 4 b26) frA26 (unl 3 (sL26 a b c d n q r s t .ready none))).evalM (gcObs 0 0 (kp [4, 5] [])) = some (.ret, frE26 q r s t 0, st0) := congrFun (congrFun (congrFun (congrFun (congrFun (congrFun (congrFun (congrFun (congrFun (congrFun s26c_k p) a) b) c) d) n) q) r) s) t
end
end Go.Proofs.YtmpokdnpkjcnbaaDoor

/- The least cores, told. -/
namespace Go.Proofs.YtmpokdnpkjcnbaaDoor
open Go.Am
noncomputable section
/-- four words as a set -/
def ofI (a b c d : Int) : B256 := BitVec.ofInt (IntKind.bits .u64) d ++ (BitVec.ofInt (IntKind.bits .u64) c ++ (BitVec.ofInt (IntKind.bits .u64) b ++ BitVec.ofInt (IntKind.bits .u64) a))
theorem join_wd (m : B256) : (m.extractLsb' (64 * 3) 64 ++ (m.extractLsb' (64 * 2) 64 ++ (m.extractLsb' (64 * 1) 64 ++ m.extractLsb' (64 * 0) 64)) : BitVec (64 + (64 + (64 + 64)))) = m := by
  apply BitVec.eq_of_getLsbD_eq
  intro i hi
  rw [BitVec.getLsbD_append]
  split
  · rw [BitVec.getLsbD_append]
    split
    · rw [BitVec.getLsbD_append]
      split
      · rw [BitVec.getLsbD_extractLsb', decide_eq_true (by omega), Bool.true_and]
        exact congrArg m.getLsbD (by omega)
      · rw [BitVec.getLsbD_extractLsb', decide_eq_true (by omega), Bool.true_and]
        exact congrArg m.getLsbD (by omega)
    · rw [BitVec.getLsbD_extractLsb', decide_eq_true (by omega), Bool.true_and]
      exact congrArg m.getLsbD (by omega)
  · rw [BitVec.getLsbD_extractLsb', decide_eq_true (by omega), Bool.true_and]
    exact congrArg m.getLsbD (by omega)
theorem ofI_wd (m : B256) : ofI (wd m 0) (wd m 1) (wd m 2) (wd m 3) = m := by
  unfold ofI wd
  rw [u_of, u_of, u_of, u_of]
  exact join_wd m
/-- how many of the first numbers are in it -/
def cntB (m : B256) : Nat → Nat
  | 0 => 0
  | i + 1 => cond (m.getLsbD i) (cntB m i + 1) (cntB m i)
theorem cntN_wd (m : B256) (i : Nat) : cntN (wd m 0) (wd m 1) (wd m 2) (wd m 3) i = cntB m i := by
  induction i with
  | zero => rfl
  | succ i ih =>
    unfold cntN cntB
    rw [hasB_wd, ih]
theorem cntB_le (m : B256) (i : Nat) : cntB m i ≤ i := by rw [← cntN_wd]; exact cntN_le _ _ _ _ _
theorem cntB_step (m : B256) (i : Nat) : cntB m i ≤ cntB m (i + 1) := by
  show _ ≤ cond (m.getLsbD i) (cntB m i + 1) (cntB m i)
  cases m.getLsbD i <;> simp
theorem cntB_mono (m : B256) {i j : Nat} (h : i ≤ j) : cntB m i ≤ cntB m j := by
  induction j with
  | zero => have : i = 0 := by omega
            subst this; exact Nat.le_refl _
  | succ j ih =>
    by_cases e : i = j + 1
    · subst e; exact Nat.le_refl _
    · exact Nat.le_trans (ih (by omega)) (cntB_step m j)
/-- the least n of its numbers, of those below i -/
def lowB (m : B256) (n : Nat) : Nat → B256
  | 0 => 0#256
  | i + 1 => cond (m.getLsbD i && decide (cntB m i < n)) (plus (lowB m n i) i) (lowB m n i)
theorem lowB_stop (m : B256) {n i : Nat} (h : n ≤ cntB m i) : ∀ j, i ≤ j → lowB m n j = lowB m n i := by
  intro j
  induction j with
  | zero => intro hj; have : i = 0 := by omega
            subst this; rfl
  | succ j ih =>
    intro hj
    by_cases e : i = j + 1
    · subst e; rfl
    · have hle := cntB_mono m (by omega : i ≤ j)
      show cond (m.getLsbD j && decide (cntB m j < n)) (plus (lowB m n j) j) (lowB m n j) = _
      rw [decide_eq_false (by omega), Bool.and_false, cond_false]
      exact ih (by omega)
def lowW (a b c d n : Int) (k : Nat) : Int := wd (lowB (ofI a b c d) n.toNat 256) k
def lowD : Array Value → DT (Option (Value × St))
  | ⟨[.agg ⟨[.int .u64 a, .int .u64 b, .int .u64 c, .int .u64 d]⟩, .int .i64 n]⟩ => .must (inQ a b c d) (.node (decide (n < 0)) (.leaf (some (.tuple #[mk 0 0 0 0, .int .i64 1], st0)))
      (.node (decide (n > ((cntN a b c d 256 : Nat) : Int))) (.leaf (some (.tuple #[mk 0 0 0 0, .int .i64 12], st0))) (.leaf (some (.tuple #[mk (lowW a b c d n 0) (lowW a b c d n 1) (lowW a b c d n 2) (lowW a b c d n 3), .int .i64 0], st0))))) (.leaf none)
  | _ => .leaf none
theorem tR_eq : tR p0 = tQ := by
  funext f
  unfold tR
  split <;> rfl
theorem tR_ok : ∀ f k hd, tR p0 f = some k → cfQ.hand f = some hd → ∀ a c s, (k a c s).eval = hd a c s := by rw [tR_eq]; exact tQ_ok
theorem sel26r_pin (ex : Ex) : pinned 4 (sel26r ex).2 := ⟨by show 4 ≤ 4; omega, fun j hj => by
  match j, hj with
  | 0, _ => rfl
  | 1, _ => rfl
  | 2, _ => rfl
  | 3, _ => rfl⟩
theorem get26 (a b c d n q r s t : Int) (st : LoopState) (pd : Option Code) : (sL26 a b c d n q r s t st pd).heap.get 3 = some (.loop (loop26 tmL26 st pd)) := by
  simp [sL26, stS, hpS, hp26, Tr.get_put]
/-- the state in the loop -/
def sm26 (m : B256) (n : Nat) (i : Nat) (st : LoopState) (pd : Option Code) : St := sL26 (wd m 0) (wd m 1) (wd m 2) (wd m 3) ((n - cntB m i : Nat) : Int) (wd (lowB m n i) 0) (wd (lowB m n i) 1) (wd (lowB m n i) 2) (wd (lowB m n i) 3) st pd
theorem dec_nat {k : Nat} (h1 : 1 ≤ k) (h2 : k ≤ 4294967296) : dec (k : Int) = ((k - 1 : Nat) : Int) := by
  unfold dec
  rw [wrapI (by omega) (by omega)]
  omega
theorem round26 (m : B256) (n i : Nat) (hn : n ≤ 256) (hi : i < 256) (hc : cntB m i ≤ n) :
    (codeT cfQ (callT cfQ (tR p0) 60) 60 cz k52 (fr52m 3 2 i) (sm26 m n i .ready none)).evalM (gcObs 0 0 sel26r) =
      some (bif m.getLsbD i && (cntB m i == n) then (.ret, fr52m 3 2 i, sm26 m n i .done (some (.exit 1))) else (.normal, fr52m 3 2 ((i + 1 : Nat) : Int), sm26 m n (i + 1) .ready none)) := by
  refine (r52l p0 _ _ _ _ _ _ _ _ _ _).trans ?_
  rw [decide_eq_true (by omega : (i : Int) < 256), cond_true, wd_inQ, cond_true, hasB_wd]
  have hinc : inc (i : Int) = ((i + 1 : Nat) : Int) := incN (by omega)
  cases hb : m.getLsbD i with
  | true =>
    rw [cond_true, Bool.true_and]
    by_cases he : cntB m i = n
    · have e0 : (((n - cntB m i : Nat) : Int) == 0) = true := by rw [he, Nat.sub_self]; rfl
      have e1 : (cntB m i == n) = true := by rw [he]; exact beq_self_eq_true _
      rw [e0, e1]; rfl
    · have e0 : (((n - cntB m i : Nat) : Int) == 0) = false := by
        cases h : (((n - cntB m i : Nat) : Int) == 0) with
        | false => rfl
        | true => rw [beq_iff_eq] at h; omega
      have e1 : (cntB m i == n) = false := by simpa using he
      have e2 : lowB m n (i + 1) = plus (lowB m n i) i := by
        show cond (m.getLsbD i && decide (cntB m i < n)) (plus (lowB m n i) i) (lowB m n i) = _
        rw [hb, decide_eq_true (by omega)]; rfl
      have e3 : cntB m (i + 1) = cntB m i + 1 := by
        show cond (m.getLsbD i) (cntB m i + 1) (cntB m i) = _
        rw [hb]; rfl
      rw [e0, e1, cond_false, cond_false, wd_inQ, decide_eq_true (by omega : (0 : Int) ≤ i), Bool.true_and, Bool.true_and, cond_true, hinc, dec_nat (by omega) (by omega), W_wd _ hi, W_wd _ hi, W_wd _ hi, W_wd _ hi]
      unfold sm26
      rw [e2, e3]
      rfl
  | false =>
    rw [cond_false, Bool.false_and, cond_false, hinc]
    have e2 : lowB m n (i + 1) = lowB m n i := by
      show cond (m.getLsbD i && decide (cntB m i < n)) (plus (lowB m n i) i) (lowB m n i) = _
      rw [hb]; rfl
    have e3 : cntB m (i + 1) = cntB m i := by
      show cond (m.getLsbD i) (cntB m i + 1) (cntB m i) = _
      rw [hb]; rfl
    unfold sm26
    rw [e2, e3]
def stop26 (m : B256) (n : Nat) (i : Nat) : Option (Ex × Fr × St) :=
  if i < 256 then (bif m.getLsbD i && (cntB m i == n) then some (.ret, fr52m 3 2 i, sm26 m n i .done (some (.exit 1))) else none) else some (.exit 0, fr52m 3 2 i, sm26 m n i .ready none)
theorem stop26_cnt (m : B256) (n : Nat) : ∀ i, i ≤ 256 → (∀ j, j < i → stop26 m n j = none) → cntB m i ≤ n := by
  intro i
  induction i with
  | zero => intro _ _; exact Nat.zero_le _
  | succ i ih =>
    intro hi hno
    have h1 := ih (by omega) fun j hj => hno j (by omega)
    have h2 := hno i (by omega)
    unfold stop26 at h2
    rw [if_pos (by omega)] at h2
    show cond (m.getLsbD i) (cntB m i + 1) (cntB m i) ≤ n
    cases hb : m.getLsbD i with
    | false => exact h1
    | true =>
      rw [hb, Bool.true_and] at h2
      cases he : (cntB m i == n) with
      | true => rw [he] at h2; cases h2
      | false =>
        have : cntB m i ≠ n := by simpa using he
        show cntB m i + 1 ≤ n
        omega
theorem unl_k : (fun (a b c d n q r s t : Int) (st : LoopState) (pd : Option Code) => unl 3 (sL26 a b c d n q r s t st pd)) = fun (a b c d n q r s t : Int) (_ : LoopState) (_ : Option Code) => unl 3 (sL26 a b c d n q r s t .ready none) := by kernel_rfl
theorem unl_e (a b c d n q r s t : Int) (st : LoopState) (pd : Option Code) : unl 3 (sL26 a b c d n q r s t st pd) = unl 3 (sL26 a b c d n q r s t .ready none) := congrFun (congrFun (congrFun (congrFun (congrFun (congrFun (congrFun (congrFun (congrFun (congrFun (congrFun unl_k a) b) c) d) n) q) r) s) t) st) pd
theorem unl26 (m : B256) (n i : Nat) (st : LoopState) (pd : Option Code) (h : lowB m n i = lowB m n 256) : ∃ x, unl 3 (sm26 m n i st pd) = unl 3 (sL26 (wd m 0) (wd m 1) (wd m 2) (wd m 3) x (wd (lowB m n 256) 0) (wd (lowB m n 256) 1) (wd (lowB m n 256) 2) (wd (lowB m n 256) 3) .ready none) :=
  ⟨((n - cntB m i : Nat) : Int), by unfold sm26; rw [h]; exact unl_e ..⟩
theorem it26 [Z : Zone] [T : Tab] {B : Nat} {m : B256} {n : Nat} (hn : n ≤ 256) :
    AWp cfQ ⟨0, B⟩ cz b52 (frame0 52 (ntOf 52) #[.func (.yield 3) #[] #[], pt' 2]) ((sA26 (wd m 0) (wd m 1) (wd m 2) (wd m 3) n).new (.loop (loop26 frA26.tm .ready none)))
      fun ex fr1 s1 => Grow cz (sA26 (wd m 0) (wd m 1) (wd m 2) (wd m 3) n) s1 ∧ (ex = .normal ∨ ex = .ret) ∧ (∃ v, resultsV cfQ cz fr1 s1 [] = some v) ∧ ∃ frX sX lX ee, SnP (3 + 1) ⟨0, B⟩ 0 0 cz frX sX fr1 s1 ∧ sX.heap.get 3 = some (.loop lX) ∧ exitOf lX.pending = some ee ∧ (lX.state != .busy) = true ∧
        ((ee = .normal ∨ ee = .exit 1) ∧ ∃ x, unl 3 sX = unl 3 (sL26 (wd m 0) (wd m 1) (wd m 2) (wd m 3) x (wd (lowB m n 256) 0) (wd (lowB m n 256) 1) (wd (lowB m n 256) 2) (wd (lowB m n 256) 3) .ready none)) := by
  rw [b52_eq]
  have hgn : Grow cz (sA26 (wd m 0) (wd m 1) (wd m 2) (wd m 3) n) ((sA26 (wd m 0) (wd m 1) (wd m 2) (wd m 3) n).new (.loop (loop26 frA26.tm .ready none))) := Grow.new _ _ _
  refine AWp.nestP (n := 60) (lim := 60) (m := 4) (ps := [cL b52]) (rest := .block 0 (.loop k52)) (sel := sel26r) (frj := fr52m 3 2 0) (sj := sm26 m n 0 .ready none) goodQ (of_treeM tR_ok ((i52l p0 _ _ _ _ _).trans ?_)) trivial (sel26r_pin _) (Nat.zero_le _) fun fr1 s1 hS1 hG1 => ?_
  · have e0 : ∀ k, wd 0#256 k = 0 := fun k => by unfold wd U; simp
    unfold sm26
    show _ = some (_, _, sL26 _ _ _ _ _ (wd 0#256 0) (wd 0#256 1) (wd 0#256 2) (wd 0#256 3) _ _)
    rw [e0, e0, e0, e0]
    rfl
  refine AWp.block ?_
  refine AWp.countP (n := 60) (lim := 60) (m := 4) (N := 256) (head := fun i => fr52m 3 2 i) (sh := fun i => sm26 m n i .ready none) (sel := sel26r)
    (stop := stop26 m n) goodQ rfl (fun _ => Nat.zero_le _) (fun _ => Nat.le_refl 4) (fun i hi hno => of_treeM tR_ok ?_) (fun i hi => ?_) sel26r_pin
    ⟨256, Nat.le_refl _, by simp [stop26]⟩ (fun i r hr => ?_) (fun i r hi hno hr fr' s' hS hG => ?_) hS1 (hgn.trans hG1)
  · have hc := stop26_cnt m n i hi hno
    unfold stop26
    by_cases hlt : i < 256
    · rw [if_pos hlt, round26 m n i hn hlt hc]
      cases (m.getLsbD i && (cntB m i == n)) <;> rfl
    · rw [if_neg hlt]
      refine (r52l p0 _ _ _ _ _ _ _ _ _ _).trans ?_
      rw [decide_eq_false (by omega)]
      rfl
  · split <;> trivial
  · unfold stop26 at hr
    split at hr
    · cases hb : (m.getLsbD i && (cntB m i == n)) with
      | true => rw [hb] at hr; cases hr; intro e; cases e
      | false => rw [hb] at hr; cases hr
    · cases hr; intro e; cases e
  · unfold stop26 at hr
    by_cases hlt : i < 256
    · rw [if_pos hlt] at hr
      cases hb : (m.getLsbD i && (cntB m i == n)) with
      | false => rw [hb] at hr; cases hr
      | true =>
        rw [hb] at hr; cases hr
        have he : cntB m i = n := by
          have := (Bool.and_eq_true_iff.1 hb).2
          simpa using this
        exact ⟨hG, .inr rfl, ⟨_, rfl⟩, _, _, _, .exit 1, hS, get26 .., rfl, rfl, .inr rfl, unl26 m n i _ _ (lowB_stop m (by omega) 256 hi).symm⟩
    · rw [if_neg hlt] at hr
      cases hr
      have e : i = 256 := by omega
      subst e
      exact ⟨hG, .inl rfl, ⟨_, rfl⟩, _, _, _, .normal, hS, get26 .., rfl, rfl, .inl rfl, unl26 m n 256 _ _ rfl⟩
theorem i52_fnQ : cfQ.fns 52 = some { body := b52, nt := ntOf 52, results := [], pure := false } := by kernel_rfl
theorem i26_fn : cfQ.fns 26 = some { body := b26, nt := ntOf 26, results := [.cell 4 27, .tmp 5], pure := false } := by kernel_rfl
theorem ev26 : frA26.gev cfQ (.tmp 19) = some (.func (.func 52) #[] #[pt' 2]) := by kernel_rfl
theorem nt26 : ntOf 26 = 29 := by kernel_rfl
theorem res26_k : (fun a b c d e : Int => resultsV cfQ cz (frE26 a b c d e) st0 [.cell 4 27, .tmp 5]) = fun a b c d e => some (.tuple #[mk a b c d, .int .i64 e]) := by kernel_rfl
theorem res26 (a b c d e : Int) : resultsV cfQ cz (frE26 a b c d e) st0 [.cell 4 27, .tmp 5] = some (.tuple #[mk a b c d, .int .i64 e]) := congrFun (congrFun (congrFun (congrFun (congrFun res26_k a) b) c) d) e
/-- what it answers -/
def lowV (m : B256) (n : Int) : Value := if n < 0 then .tuple #[mk 0 0 0 0, .int .i64 1] else if n > ((cntB m 256 : Nat) : Int) then .tuple #[mk 0 0 0 0, .int .i64 12] else .tuple #[mkB (lowB m n.toNat 256), .int .i64 0]
theorem p0C (m : B256) : p0.C (wd m 0) (wd m 1) (wd m 2) (wd m 3) = ((cntB m 256 : Nat) : Int) := by
  unfold p0
  dsimp only
  rw [cntN_wd]
theorem p0Q (m : B256) : p0.Q (wd m 0) (wd m 1) (wd m 2) (wd m 3) = true := by
  unfold p0
  dsimp only
  exact wd_inQ m
theorem ok26 [Z : Zone] [T : Tab] {B : Nat} {m : B256} {n : Int} :
    AWp cfQ ⟨0, B⟩ cz b26 (frame0 26 (ntOf 26) #[mkB m, .int .i64 n]) st0 fun ex fr' s' => (ex = .normal ∨ ex = .ret) ∧ ∃ frj sj, Sn ⟨0, B⟩ 0 0 cz frj sj fr' s' ∧ resultsV cfQ cz frj sj [.cell 4 27, .tmp 5] = some (lowV m n) := by
  rw [b26_eq]
  have h := s26a p0 (wd m 0) (wd m 1) (wd m 2) (wd m 3) n
  rw [p0Q, p0C, cond_true] at h
  unfold lowV
  by_cases h0 : n < 0
  · rw [decide_eq_true h0, cond_true] at h
    rw [if_pos h0]
    exact AWp.nestFirst (n := 60) (lim := 60) goodQ (of_treeM tR_ok h) trivial (Nat.zero_le _) fun fr1 s1 hS1 => ⟨.inr rfl, _, _, hS1, res26 ..⟩
  · rw [decide_eq_false h0, cond_false] at h
    rw [if_neg h0]
    by_cases h1 : n > ((cntB m 256 : Nat) : Int)
    · rw [decide_eq_true h1, cond_true] at h
      rw [if_pos h1]
      exact AWp.nestFirst (n := 60) (lim := 60) goodQ (of_treeM tR_ok h) trivial (Nat.zero_le _) fun fr1 s1 hS1 => ⟨.inr rfl, _, _, hS1, res26 ..⟩
    · rw [decide_eq_false h1, cond_false] at h
      rw [if_neg h1]
      obtain ⟨k, rfl⟩ : ∃ k : Nat, n = k := ⟨n.toNat, by omega⟩
      have hk : k ≤ 256 := by have := cntB_le m 256; omega
      refine AWp.nestFirst (n := 60) (lim := 60) goodQ (of_treeM tR_ok h) trivial (Nat.zero_le _) fun fr1 s1 hS1 => ?_
      refine AWp.seq (AWp.seq (AWp.seen goodQ rfl hS1 (Nat.zero_le _) (of_treeM tR_ok (s26b p0 ..)) trivial fun fr2 s2 hS2 hG2 => ⟨hG2, ?_⟩))
      refine AWp.block (AWp.rangeSn goodQ rfl hS2 rfl ev26 i52_fnQ (by rw [nt52]; show 2 ≤ 17; omega) (Q := fun ee sY => (ee = .normal ∨ ee = .exit 1) ∧ ∃ x, sY = unl 3 (sL26 (wd m 0) (wd m 1) (wd m 2) (wd m 3) x (wd (lowB m k 256) 0) (wd (lowB m k 256) 1) (wd (lowB m k 256) 2) (wd (lowB m k 256) 3) .ready none)) (it26 hk) fun ex sY fr3 s3 hQ hS3 hG3 => ?_)
      obtain ⟨he, x, rfl⟩ := hQ
      have key : AWp cfQ ⟨0, B⟩ cz (cN 4 b26) fr3 s3 fun ex fr' s' => (ex = .normal ∨ ex = .ret) ∧ ∃ frj sj, Sn ⟨0, B⟩ 0 0 cz frj sj fr' s' ∧ resultsV cfQ cz frj sj [.cell 4 27, .tmp 5] = some (.tuple #[mkB (lowB m k 256), .int .i64 0]) :=
        AWp.seen goodQ rfl hS3 (Nat.zero_le _) (of_treeM tR_ok (s26c p0 ..)) trivial fun fr4 s4 hS4 _ => ⟨.inr rfl, _, _, hS4, res26 ..⟩
      rcases he with rfl | rfl
      · exact ⟨hG2.trans hG3, key⟩
      · exact ⟨hG2.trans hG3, key⟩
theorem tells26 [Z : Zone] [T : Tab] : Tells cfQ 26 fun a => (lowD a).eval := by
  refine tells_seen goodQ rfl i26_fn fun args x hx => ?_
  unfold lowD at hx
  split at hx
  · rename_i a b c d n
    rw [DT.eval_must] at hx
    cases h : inQ a b c d with
    | false => rw [h] at hx; cases hx
    | true =>
      obtain ⟨m, rfl, rfl, rfl, rfl⟩ := wd_rep h
      rw [h, cond_true, DT.eval_node, DT.eval_node, DT.eval_leaf, DT.eval_leaf, DT.eval_leaf, cntN_wd] at hx
      have hv : x = (lowV m n, st0) := by
        unfold lowV
        by_cases h0 : n < 0
        · rw [decide_eq_true h0] at hx; cases hx; rw [if_pos h0]
        · rw [decide_eq_false h0, cond_false] at hx
          rw [if_neg h0]
          by_cases h1 : n > ((cntB m 256 : Nat) : Int)
          · rw [decide_eq_true h1] at hx; cases hx; rw [if_pos h1]
          · rw [decide_eq_false h1] at hx; cases hx; rw [if_neg h1]
            unfold lowW
            rw [ofI_wd]
            rfl
      subst hv
      refine ⟨by simp [freeN], by rw [nt26]; show 2 ≤ 29; omega, _, rfl, ?_, fun b => ok26⟩
      unfold lowV
      split
      · simp [freeN, mk]
      · split <;> simp [freeN, mk, mkB]
  · cases hx
def TS2 : FuncId → Option (Array Value → DT (Option (Value × St)))
  | 26 => some lowD
  | _ => none
def cfS : Cfg := cfQ.told TS2
theorem goodS [Z : Zone] [T : Tab] (B : Base) : Go.Am.Good cfS B := tells_good (fun B => goodQ B) (fun f F h => by
  unfold TS2 at h
  split at h
  · cases h; exact ⟨⟨_, i26_fn⟩, tells26⟩
  · cases h) B
def tS : FuncId → Option HandT := treeT TS2 tQ
theorem tS_ok : ∀ f k hd, tS f = some k → cfS.hand f = some hd → ∀ a c s, (k a c s).eval = hd a c s := treeT_ok tQ_ok
end
end Go.Proofs.YtmpokdnpkjcnbaaDoor
