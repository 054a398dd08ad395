import Derived.Test.YtmpokdnpkjcnbaaDoorY
/- The document's masks: has it a core; is a number in a row: trees. -/
namespace Go.Proofs.YtmpokdnpkjcnbaaDoor
open Go.Am
noncomputable section
def kpR (L R : List Tmp) : Ex → List Tmp × List Kept
  | .ret => (R, [])
  | _ => (L, [])
def b20 : Code := bodyOf 20
def k20 : Code := cB (cB (cR (cL (cN 3 b20))))
theorem b20_eq : b20 = nest [cL b20, cL (cN 1 b20), cL (cN 2 b20)] (.seq (.seq (cL (cL (cN 3 b20))) (.block 0 (.loop k20))) (cN 4 b20)) := by kernel_rfl
def frB20 (v : Bool) : Fr := frS 20 [(4, .bool v)]
def frA20 (n x : Int) : Fr := frS 20 [(1, .int .i64 n), (5, .int .u64 x)]
def fr20 (n x i : Int) : Fr := frS 20 [(1, .int .i64 n), (5, .int .u64 x), (6, .int .i64 i)]
def hlf (x : Int) : Int := IntKind.wrap .u64 (Int.tdiv x 2)
theorem s20a_k : (fun (a b c d n : Int) => (codeT cfU (callT cfU tU 60) 60 cz (seqOf [cL b20, cL (cN 1 b20), cL (cN 2 b20)]) (frame0 20 (ntOf 20) #[mk a b c d, .int .i64 n]) st0).evalM (gcObs 0 0 (kpR [1, 5] [4]))) = fun (a b c d n : Int) => bif decide (n < 0) then some (.ret, frB20 false, st0) else bif decide (n > 255) then some (.ret, frB20 false, st0) else bif inI n then (bif isI .u64 (w4 a b c d n) then some (.normal, frA20 n (toI (w4 a b c d n)), st0) else none) else none := by kernel_rfl
theorem s20a (a b c d n : Int) : (codeT cfU (callT cfU tU 60) 60 cz (seqOf [cL b20, cL (cN 1 b20), cL (cN 2 b20)]) (frame0 20 (ntOf 20) #[mk a b c d, .int .i64 n]) st0).evalM (gcObs 0 0 (kpR [1, 5] [4])) = bif decide (n < 0) then some (.ret, frB20 false, st0) else bif decide (n > 255) then some (.ret, frB20 false, st0) else bif inI n then (bif isI .u64 (w4 a b c d n) then some (.normal, frA20 n (toI (w4 a b c d n)), st0) else none) else none := congrFun (congrFun (congrFun (congrFun (congrFun s20a_k a) b) c) d) n
theorem i20_k : (fun (n x : Int) => (codeT cfU (callT cfU tU 60) 60 cz (cL (cL (cN 3 b20))) (frA20 n x) st0).evalM (gcObs 0 0 (kpR [1, 5, 6] [4]))) = fun (n x : Int) => some (.normal, fr20 n x 0, st0) := by kernel_rfl
theorem i20 (n x : Int) : (codeT cfU (callT cfU tU 60) 60 cz (cL (cL (cN 3 b20))) (frA20 n x) st0).evalM (gcObs 0 0 (kpR [1, 5, 6] [4])) = some (.normal, fr20 n x 0, st0) := congrFun (congrFun i20_k n) x
theorem r20_k : (fun (n x i : Int) => (codeT cfU (callT cfU tU 60) 60 cz k20 (fr20 n x i) st0).evalM (gcObs 0 0 (kpR [1, 5, 6] [4]))) = fun (n x i : Int) => bif decide (i < Int.tmod n 64) then some (.normal, fr20 n (hlf x) (inc i), st0) else some (.exit 0, fr20 n x i, st0) := by kernel_rfl
theorem r20 (n x i : Int) : (codeT cfU (callT cfU tU 60) 60 cz k20 (fr20 n x i) st0).evalM (gcObs 0 0 (kpR [1, 5, 6] [4])) = bif decide (i < Int.tmod n 64) then some (.normal, fr20 n (hlf x) (inc i), st0) else some (.exit 0, fr20 n x i, st0) := congrFun (congrFun (congrFun r20_k n) x) i
theorem e20_k : (fun (n x i : Int) => (codeT cfU (callT cfU tU 60) 60 cz (cN 4 b20) (fr20 n x i) st0).evalM (gcObs 0 0 (kpR [] [4]))) = fun (_ x _ : Int) => some (.ret, frB20 (Int.tmod x 2 == 1), st0) := by kernel_rfl
theorem e20 (n x i : Int) : (codeT cfU (callT cfU tU 60) 60 cz (cN 4 b20) (fr20 n x i) st0).evalM (gcObs 0 0 (kpR [] [4])) = some (.ret, frB20 (Int.tmod x 2 == 1), st0) := congrFun (congrFun (congrFun e20_k n) x) i
def b36 : Code := bodyOf 36
def k36 : Code := cB (cB (cR (cL (cN 1 b36))))
theorem b36_eq : b36 = nest [cL b36] (.seq (.seq (cL (cL (cN 1 b36))) (.block 0 (.loop k36))) (cN 2 b36)) := by kernel_rfl
def frA36 (X : Array Value) (o n : Nat) (x : Int) : Fr := frS 36 [(0, VS X o n), (1, .int .i64 x)]
def fr36 (X : Array Value) (o n : Nat) (x i : Int) : Fr := frS 36 [(0, VS X o n), (1, .int .i64 x), (5, .int .i64 i)]
def frB36 (v : Bool) : Fr := frS 36 [(4, .bool v)]
theorem s36a_k : (fun (X : Array Value) (o n : Nat) (x : Int) => (codeT cfU (callT cfU tU 60) 60 cz (seqOf [cL b36]) (frame0 36 (ntOf 36) #[VS X o n, .int .i64 x]) st0).evalM (gcObs 0 0 (kpR [0, 1] [4]))) = fun (X : Array Value) (o n : Nat) (x : Int) => some (.normal, frA36 X o n x, st0) := by kernel_rfl
theorem s36a (X : Array Value) (o n : Nat) (x : Int) : (codeT cfU (callT cfU tU 60) 60 cz (seqOf [cL b36]) (frame0 36 (ntOf 36) #[VS X o n, .int .i64 x]) st0).evalM (gcObs 0 0 (kpR [0, 1] [4])) = some (.normal, frA36 X o n x, st0) := congrFun (congrFun (congrFun (congrFun s36a_k X) o) n) x
theorem i36_k : (fun (X : Array Value) (o n : Nat) (x : Int) => (codeT cfU (callT cfU tU 60) 60 cz (cL (cL (cN 1 b36))) (frA36 X o n x) st0).evalM (gcObs 0 0 (kpR [0, 1, 5] [4]))) = fun (X : Array Value) (o n : Nat) (x : Int) => some (.normal, fr36 X o n x 0, st0) := by kernel_rfl
theorem i36 (X : Array Value) (o n : Nat) (x : Int) : (codeT cfU (callT cfU tU 60) 60 cz (cL (cL (cN 1 b36))) (frA36 X o n x) st0).evalM (gcObs 0 0 (kpR [0, 1, 5] [4])) = some (.normal, fr36 X o n x 0, st0) := congrFun (congrFun (congrFun (congrFun i36_k X) o) n) x
theorem r36_k : (fun (X : Array Value) (o n : Nat) (x i : Int) => (codeT cfU (callT cfU tU 60) 60 cz k36 (fr36 X o n x i) st0).evalM (gcObs 0 0 (kpR [0, 1, 5] [4]))) = fun (X : Array Value) (o n : Nat) (x i : Int) => bif decide (i < (n : Int)) then (bif decide (0 ≤ i) && decide (i < (n : Int)) then (bif isI .i64 X[o + Int.toNat i * 1]? then (bif toI X[o + Int.toNat i * 1]? == x then some (.ret, frB36 true, st0) else some (.normal, fr36 X o n x (inc i), st0)) else none) else none) else some (.exit 0, fr36 X o n x i, st0) := by kernel_rfl
theorem r36 (X : Array Value) (o n : Nat) (x i : Int) : (codeT cfU (callT cfU tU 60) 60 cz k36 (fr36 X o n x i) st0).evalM (gcObs 0 0 (kpR [0, 1, 5] [4])) = bif decide (i < (n : Int)) then (bif decide (0 ≤ i) && decide (i < (n : Int)) then (bif isI .i64 X[o + Int.toNat i * 1]? then (bif toI X[o + Int.toNat i * 1]? == x then some (.ret, frB36 true, st0) else some (.normal, fr36 X o n x (inc i), st0)) else none) else none) else some (.exit 0, fr36 X o n x i, st0) := congrFun (congrFun (congrFun (congrFun (congrFun r36_k X) o) n) x) i
theorem e36_k : (fun (X : Array Value) (o n : Nat) (x i : Int) => (codeT cfU (callT cfU tU 60) 60 cz (cN 2 b36) (fr36 X o n x i) st0).evalM (gcObs 0 0 (kpR [] [4]))) = fun (_ : Array Value) (_ _ : Nat) (_ _ : Int) => some (.ret, frB36 false, st0) := by kernel_rfl
theorem e36 (X : Array Value) (o n : Nat) (x i : Int) : (codeT cfU (callT cfU tU 60) 60 cz (cN 2 b36) (fr36 X o n x i) st0).evalM (gcObs 0 0 (kpR [] [4])) = some (.ret, frB36 false, st0) := congrFun (congrFun (congrFun (congrFun (congrFun e36_k X) o) n) x) i
end
end Go.Proofs.YtmpokdnpkjcnbaaDoor

/- The document's masks: has it a core; is a number in a row: told. -/
namespace Go.Proofs.YtmpokdnpkjcnbaaDoor
open Go.Am
noncomputable section
def maxI : Nat := 9223372036854775807
theorem hlf_nat {y : Nat} (h : y < 18446744073709551616) : hlf (y : Int) = ((y / 2 : Nat) : Int) := by
  unfold hlf
  have e : Int.tdiv (y : Int) 2 = ((y / 2 : Nat) : Int) := by
    rw [Int.tdiv_eq_ediv_of_nonneg (by omega)]; rfl
  rw [e, wrapU (by omega) (by omega)]
theorem incI {i : Nat} (h : i < maxI) : inc (i : Int) = ((i + 1 : Nat) : Int) := by
  unfold maxI at h
  unfold inc
  rw [wrapI (by omega) (by omega)]
  push_cast
  rfl
theorem kpR_plain (L R : List Tmp) (ex : Ex) (s : St) : plainJ s (kpR L R ex).2 0 := by cases ex <;> trivial
theorem pl1 {t : Tmp} {v : Value} (h : plainN 9 v = true) : plainL [(t, v)] := fun p hp => by
  simp only [List.mem_singleton] at hp; subst hp; exact h
theorem ret20 (v : Bool) : ∀ p ∈ [((4 : Tmp), Value.bool v)], (frB20 v).tm.get p.1 = some p.2 := fun p hp => by
  simp only [List.mem_singleton] at hp; subst hp
  simp [frB20, frS, tmS, Tr.get_put]
theorem ret36 (v : Bool) : ∀ p ∈ [((4 : Tmp), Value.bool v)], (frB36 v).tm.get p.1 = some p.2 := fun p hp => by
  simp only [List.mem_singleton] at hp; subst hp
  simp [frB36, frS, tmS, Tr.get_put]
theorem wd_lt (m : B256) (k : Nat) : 0 ≤ wd m k ∧ wd m k < 18446744073709551616 := by
  have := (m.extractLsb' (64 * k) 64).isLt
  unfold wd U
  omega
theorem bit_half (x i : Nat) : (Int.tmod ((x / 2 ^ i : Nat) : Int) 2 == 1) = Nat.testBit x i := by
  rw [Nat.testBit_eq_decide_div_mod_eq, Int.tmod_eq_emod_of_nonneg (Int.natCast_nonneg _)]
  have : ((x / 2 ^ i : Nat) : Int) % 2 = ((x / 2 ^ i % 2 : Nat) : Int) := by omega
  rw [this]
  by_cases h : x / 2 ^ i % 2 = 1
  · rw [h]; rfl
  · have h0 : x / 2 ^ i % 2 = 0 := by omega
    rw [h0]; rfl
theorem ok20 [Z : Zone] [T : Tab] {B : Nat} {m : B256} {n : Int} :
    AWp cfU ⟨0, B⟩ cz b20 (frame0 20 (ntOf 20) #[mkB m, .int .i64 n]) st0 (RetL [(4, .bool (hasB (wd m 0) (wd m 1) (wd m 2) (wd m 3) n))]) := by
  rw [b20_eq]
  have h := s20a (wd m 0) (wd m 1) (wd m 2) (wd m 3) n
  by_cases h0 : n < 0
  · rw [decide_eq_true h0, cond_true] at h
    have e : hasB (wd m 0) (wd m 1) (wd m 2) (wd m 3) n = false := by
      unfold hasB; rw [decide_eq_false (by omega)]; rfl
    rw [e]
    exact AWp.nestEarly goodU (pl1 rfl) (of_treeM tU_ok h) trivial (ret20 false)
  rw [decide_eq_false h0, cond_false] at h
  by_cases h1 : n > 255
  · rw [decide_eq_true h1, cond_true] at h
    have e : hasB (wd m 0) (wd m 1) (wd m 2) (wd m 3) n = false := by
      unfold hasB; rw [decide_eq_false (by omega : ¬ n < 256)]; simp
    rw [e]
    exact AWp.nestEarly goodU (pl1 rfl) (of_treeM tU_ok h) trivial (ret20 false)
  rw [decide_eq_false h1, cond_false] at h
  obtain ⟨k, rfl⟩ : ∃ k : Nat, n = k := ⟨n.toNat, by omega⟩
  have hk : k < 256 := by omega
  have e1 : Int.tdiv (k : Int) 64 = ((k / 64 : Nat) : Int) := by
    rw [Int.tdiv_eq_ediv_of_nonneg (by omega)]
    rfl
  have hI : inI (k : Int) = true := by
    unfold inI
    rw [e1, wrapI (by omega) (by omega), decide_eq_true (by omega), decide_eq_true (by omega)]
    rfl
  have em : Int.tmod (k : Int) 64 = ((k % 64 : Nat) : Int) := by
    rw [Int.tmod_eq_emod_of_nonneg (by omega)]
    rfl
  rw [hI, cond_true, w4_eq hk, cell_wd m (by omega), show isI .u64 (some (.int .u64 (wd m (k / 64)))) = true from rfl, cond_true] at h
  obtain ⟨hx0, hx1⟩ := wd_lt m (k / 64)
  obtain ⟨x, hx⟩ : ∃ x : Nat, wd m (k / 64) = x := ⟨(wd m (k / 64)).toNat, by omega⟩
  have hxl : x < 18446744073709551616 := by omega
  have hh : hasB (wd m 0) (wd m 1) (wd m 2) (wd m 3) (k : Int) = Nat.testBit x (k % 64) := by
    unfold hasB
    rw [Int.toNat_natCast, cell_wd m (by omega), hx, Int.toNat_natCast, decide_eq_true (by omega), decide_eq_true (by omega)]
    rfl
  rw [show toI (some (.int .u64 (wd m (k / 64)))) = (x : Int) from hx] at h
  rw [hh]
  have hd : ∀ i, x / 2 ^ i < 18446744073709551616 := fun i => Nat.lt_of_le_of_lt (Nat.div_le_self _ _) hxl
  refine AWp.nestFirst goodU (of_treeM tU_ok h) trivial (Nat.zero_le _) fun fr1 s1 hS1 => ?_
  refine AWp.forSn (N := k % 64) (head := fun i => fr20 k ((x / 2 ^ i : Nat) : Int) i) (sh := fun _ => st0) (stop := fun i => if i < k % 64 then none else some (.exit 0, fr20 k ((x / 2 ^ i : Nat) : Int) i, st0))
    goodU rfl hS1 (of_treeM tU_ok ((i20 ..).trans (by simp))) trivial (sel2 := fun _ => kpR [1, 5, 6] [4]) (fun i hi _ => of_treeM tU_ok ((r20 ..).trans ?_)) (fun i hi => ?_) ⟨k % 64, Nat.le_refl _, by simp⟩ (fun i r hi hno hr fr2 s2 hS2 => ?_)
  · rw [em]
    by_cases hlt : i < k % 64
    · have e2 : x / 2 ^ i / 2 = x / 2 ^ (i + 1) := by rw [Nat.div_div_eq_div_mul, Nat.pow_succ]
      rw [decide_eq_true (by omega), cond_true, if_pos hlt, hlf_nat (hd i), incI (by unfold maxI; omega), e2]
    · rw [decide_eq_false (by omega), cond_false, if_neg hlt]
  · split <;> exact kpR_plain _ _ _ _
  · by_cases hlt : i < k % 64
    · rw [if_pos hlt] at hr; cases hr
    · rw [if_neg hlt] at hr; cases hr
      have e : i = k % 64 := by omega
      subst e
      refine ⟨rfl, ?_⟩
      have he := e20 k ((x / 2 ^ (k % 64) : Nat) : Int) ((k % 64 : Nat) : Int)
      rw [bit_half] at he
      exact AWp.seen goodU rfl hS2 (Nat.zero_le _) (of_treeM tU_ok he) trivial fun fr4 s4 hS4 _ => ⟨.inr rfl, hS4.plains (pl1 rfl) (ret20 _)⟩
/-- is a number among the first n of a row? -/
def inB (X : Array Value) (o : Nat) (x : Int) : Nat → Bool
  | 0 => false
  | n + 1 => inB X o x n || toI X[o + n]? == x
theorem inB_at {X : Array Value} {o : Nat} {x : Int} : ∀ {n i : Nat}, i < n → (toI X[o + i]? == x) = true → inB X o x n = true := by
  intro n
  induction n with
  | zero => intro i h; exact absurd h (Nat.not_lt_zero _)
  | succ n ih =>
    intro i h he
    unfold inB
    by_cases hl : i < n
    · rw [ih hl he]; rfl
    · have : i = n := by omega
      subst this
      rw [he, Bool.or_true]
theorem inB_no {X : Array Value} {o : Nat} {x : Int} : ∀ {n : Nat}, (∀ i, i < n → (toI X[o + i]? == x) = false) → inB X o x n = false := by
  intro n
  induction n with
  | zero => intro _; rfl
  | succ n ih =>
    intro h
    unfold inB
    rw [ih fun i hi => h i (by omega), h n (by omega)]; rfl
/-- A row of numbers. -/
def intsOk (X : Array Value) (o n : Nat) : Bool := decide (n ≤ maxI) && (List.range n).all fun i => isI .i64 X[o + i]?
theorem intsOk_get {X : Array Value} {o n i : Nat} (h : intsOk X o n = true) (hi : i < n) : isI .i64 X[o + i]? = true := by
  simp only [intsOk, Bool.and_eq_true, List.all_eq_true, List.mem_range] at h
  exact h.2 i hi
theorem intsOk_n {X : Array Value} {o n : Nat} (h : intsOk X o n = true) : n ≤ maxI := by
  simp only [intsOk, Bool.and_eq_true, decide_eq_true_eq] at h
  exact h.1
theorem ok36 [Z : Zone] [T : Tab] {B : Nat} {X : Array Value} {o n : Nat} {x : Int} (h : intsOk X o n = true) :
    AWp cfU ⟨0, B⟩ cz b36 (frame0 36 (ntOf 36) #[VS X o n, .int .i64 x]) st0 (RetL [(4, .bool (inB X o x n))]) := by
  rw [b36_eq]
  have hn := intsOk_n h
  refine AWp.nestFirst goodU (of_treeM tU_ok (s36a ..)) trivial (Nat.zero_le _) fun fr1 s1 hS1 => ?_
  refine AWp.forSn (N := n) (head := fun i => fr36 X o n x i) (sh := fun _ => st0) (stop := fun i => if i < n then (bif toI X[o + i]? == x then some (.ret, frB36 true, st0) else none) else some (.exit 0, fr36 X o n x i, st0))
    goodU rfl hS1 (of_treeM tU_ok (i36 ..)) trivial (sel2 := fun _ => kpR [0, 1, 5] [4]) (fun i hi _ => of_treeM tU_ok ((r36 ..).trans ?_)) (fun i hi => ?_) ⟨n, Nat.le_refl _, by simp⟩ (fun i r hi hno hr fr2 s2 hS2 => ?_)
  · by_cases hlt : i < n
    · have hg := intsOk_get h hlt
      have e0 : o + Int.toNat (i : Int) * 1 = o + i := by rw [Int.toNat_natCast, Nat.mul_one]
      rw [decide_eq_true (by omega : (i : Int) < (n : Int)), cond_true, decide_eq_true (by omega : (0 : Int) ≤ i), Bool.true_and, cond_true, e0, hg, cond_true, if_pos hlt]
      cases hq : toI X[o + i]? == x with
      | true => rfl
      | false => rw [cond_false, cond_false, incI (by omega)]
    · rw [decide_eq_false (by omega), cond_false, if_neg hlt]
  · split <;> exact kpR_plain _ _ _ _
  · by_cases hlt : i < n
    · rw [if_pos hlt] at hr
      cases hq : toI X[o + i]? == x with
      | false => rw [hq] at hr; cases hr
      | true =>
        rw [hq] at hr; cases hr
        rw [inB_at hlt hq]
        exact ⟨.inr rfl, hS2.plains (pl1 rfl) (ret36 _)⟩
    · rw [if_neg hlt] at hr; cases hr
      have e : i = n := by omega
      subst e
      have hno2 : inB X o x i = false := inB_no fun j hj => by
        have := hno j hj
        rw [if_pos hj] at this
        cases hq : toI X[o + j]? == x with
        | false => rfl
        | true => rw [hq] at this; cases this
      rw [hno2]
      exact ⟨rfl, AWp.seen goodU rfl hS2 (Nat.zero_le _) (of_treeM tU_ok (e36 X o i x i)) trivial fun fr4 s4 hS4 _ => ⟨.inr rfl, hS4.plains (pl1 rfl) (ret36 _)⟩⟩
theorem i20_fn : cfU.fns 20 = some { body := b20, nt := ntOf 20, results := [.tmp 4], pure := false } := by kernel_rfl
theorem i36_fn : cfU.fns 36 = some { body := b36, nt := ntOf 36, results := [.tmp 4], pure := false } := by kernel_rfl
theorem nt20 : ntOf 20 = 28 := by kernel_rfl
theorem nt36 : ntOf 36 = 18 := by kernel_rfl
def inD : Array Value → DT (Option (Value × St))
  | ⟨[.func (.method nm) X ⟨[.slice none o n]⟩, .int .i64 x]⟩ => .must (decide (nm = "") && intsOk X o n) (.leaf (some (.bool (inB X o x n), st0))) (.leaf none)
  | _ => .leaf none
theorem tells20 [Z : Zone] [T : Tab] : Tells cfU 20 fun a => (hasD a).eval := by
  refine tells_one goodU rfl i20_fn (t := 4) rfl fun args x hx => ?_
  unfold hasD at hx
  split at hx
  · rename_i a b c d n
    rw [DT.eval_must] at hx
    cases h : inQ a b c d with
    | false => rw [h] at hx; cases hx
    | true =>
      obtain ⟨m, rfl, rfl, rfl, rfl⟩ := wd_rep h
      rw [h, cond_true, DT.eval_leaf] at hx
      cases hx
      exact ⟨by simp [freeN], by rw [nt20]; show 2 ≤ 28; omega, _, rfl, rfl, fun b => ok20⟩
  · cases hx
theorem tells36 [Z : Zone] [T : Tab] : Tells cfU 36 fun a => (inD a).eval := by
  refine tells_one goodU rfl i36_fn (t := 4) rfl fun args x hx => ?_
  unfold inD at hx
  split at hx
  · rename_i nm X o n x
    rw [DT.eval_must] at hx
    cases h : (decide (nm = "") && intsOk X o n) with
    | false => rw [h] at hx; cases hx
    | true =>
      rw [h, cond_true, DT.eval_leaf] at hx
      cases hx
      rw [Bool.and_eq_true, decide_eq_true_eq] at h
      obtain ⟨rfl, h⟩ := h
      exact ⟨by simp [freeN], by rw [nt36]; show 2 ≤ 18; omega, _, rfl, rfl, fun b => ok36 h⟩
  · cases hx
def TVa : FuncId → Option (Array Value → DT (Option (Value × St)))
  | 20 => some hasD
  | 36 => some inD
  | _ => none
def cfVa : Cfg := cfU.told TVa
theorem goodVa [Z : Zone] [T : Tab] (B : Base) : Go.Am.Good cfVa B := tells_good (fun B => goodU B) (fun f F h => by
  unfold TVa at h
  split at h
  · cases h; exact ⟨⟨_, i20_fn⟩, tells20⟩
  · cases h; exact ⟨⟨_, i36_fn⟩, tells36⟩
  · cases h) B
def tVa : FuncId → Option HandT := treeT TVa tU
theorem tVa_ok : ∀ f k hd, tVa f = some k → cfVa.hand f = some hd → ∀ a c s, (k a c s).eval = hd a c s := treeT_ok tU_ok
end
end Go.Proofs.YtmpokdnpkjcnbaaDoor

/- The document's masks: the mask of a row of numbers: trees. -/
namespace Go.Proofs.YtmpokdnpkjcnbaaDoor
open Go.Am
noncomputable section
def b37 : Code := bodyOf 37
def k37 : Code := cB (cB (cR (cL (cN 2 b37))))
def bb37 : Code := cB (cL (cR k37))
def ki37 : Code := cB (cB (cR (cL (cR bb37))))
theorem b37_eq : b37 = nest [cL b37, cL (cN 1 b37)] (.seq (.seq (cL (cL (cN 2 b37))) (.block 0 (.loop k37))) (cN 3 b37)) := by kernel_rfl
theorem k37_eq : k37 = .seq (cL k37) (.seq (.block 1 (.seq (cL bb37) (.seq (.seq (cL (cL (cR bb37))) (.block 2 (.loop ki37))) (cR (cR bb37))))) (cR (cR k37))) := by kernel_rfl
def fr37 (L : List (Nat × Value)) (p q r s : Int) : Fr := { fn := 37, nt := ntOf 37, tm := tmS L .nil, pt := (Tr.nil.put 2 (2, 0)).put 3 (3, 0), loc := (Tr.nil.put 2 (mkC 0 0 0 0)).put 3 (mkC p q r s), round := none }
def frZ37 (X : Array Value) (o n : Nat) : Fr := fr37 [(0, VS X o n)] 0 0 0 0
def frO37 (X : Array Value) (o n : Nat) (p q r s k : Int) : Fr := fr37 [(0, VS X o n), (4, .int .i64 k)] p q r s
def frP37 (X : Array Value) (o n : Nat) (p q r s k x : Int) : Fr := fr37 [(0, VS X o n), (4, .int .i64 k), (5, .int .u64 x)] p q r s
def frQ37 (X : Array Value) (o n : Nat) (p q r s k x c : Int) : Fr := fr37 [(0, VS X o n), (4, .int .i64 k), (5, .int .u64 x), (6, .int .i64 c)] p q r s
def frE37 (p q r s : Int) : Fr := { fn := 37, nt := ntOf 37, tm := .nil, pt := Tr.nil.put 2 (2, 0), loc := Tr.nil.put 2 (mkC p q r s), round := none }
def dbl (x : Int) : Int := IntKind.wrap .u64 (x * 2)
def add1 (x : Int) : Int := IntKind.wrap .u64 (x + 1)
def kc (k c : Int) : Int := IntKind.wrap .i64 (IntKind.wrap .i64 (64 * k) + c)
theorem s37a_k : (fun (X : Array Value) (o n : Nat) => (codeT cfVa (callT cfVa tVa 60) 60 cz (seqOf [cL b37, cL (cN 1 b37)]) (frame0 37 (ntOf 37) #[VS X o n]) st0).evalM (gcObs 0 0 (kp [0, 2, 3] []))) = fun (X : Array Value) (o n : Nat) => some (.normal, frZ37 X o n, st0) := by kernel_rfl
theorem s37a (X : Array Value) (o n : Nat) : (codeT cfVa (callT cfVa tVa 60) 60 cz (seqOf [cL b37, cL (cN 1 b37)]) (frame0 37 (ntOf 37) #[VS X o n]) st0).evalM (gcObs 0 0 (kp [0, 2, 3] [])) = some (.normal, frZ37 X o n, st0) := congrFun (congrFun (congrFun s37a_k X) o) n
theorem s37b_k : (fun (X : Array Value) (o n : Nat) => (codeT cfVa (callT cfVa tVa 60) 60 cz (cL (cL (cN 2 b37))) (frZ37 X o n) st0).evalM (gcObs 0 0 (kp [0, 2, 3, 4] []))) = fun (X : Array Value) (o n : Nat) => some (.normal, frO37 X o n 0 0 0 0 0, st0) := by kernel_rfl
theorem s37b (X : Array Value) (o n : Nat) : (codeT cfVa (callT cfVa tVa 60) 60 cz (cL (cL (cN 2 b37))) (frZ37 X o n) st0).evalM (gcObs 0 0 (kp [0, 2, 3, 4] [])) = some (.normal, frO37 X o n 0 0 0 0 0, st0) := congrFun (congrFun (congrFun s37b_k X) o) n
theorem c37_k : (fun (X : Array Value) (o n : Nat) (p q r s k : Int) => (codeT cfVa (callT cfVa tVa 60) 60 cz (cL k37) (frO37 X o n p q r s k) st0).evalM (gcObs 0 0 (kp [0, 2, 3, 4] []))) = fun (X : Array Value) (o n : Nat) (p q r s k : Int) => bif decide (k < 4) then some (.normal, frO37 X o n p q r s k, st0) else some (.exit 0, frO37 X o n p q r s k, st0) := by kernel_rfl
theorem c37 (X : Array Value) (o n : Nat) (p q r s k : Int) : (codeT cfVa (callT cfVa tVa 60) 60 cz (cL k37) (frO37 X o n p q r s k) st0).evalM (gcObs 0 0 (kp [0, 2, 3, 4] [])) = bif decide (k < 4) then some (.normal, frO37 X o n p q r s k, st0) else some (.exit 0, frO37 X o n p q r s k, st0) := congrFun (congrFun (congrFun (congrFun (congrFun (congrFun (congrFun (congrFun c37_k X) o) n) p) q) r) s) k
theorem d37_k : (fun (X : Array Value) (o n : Nat) (p q r s k : Int) => (codeT cfVa (callT cfVa tVa 60) 60 cz (cL bb37) (frO37 X o n p q r s k) st0).evalM (gcObs 0 0 (kp [0, 2, 3, 4, 5] []))) = fun (X : Array Value) (o n : Nat) (p q r s k : Int) => some (.normal, frP37 X o n p q r s k 0, st0) := by kernel_rfl
theorem d37 (X : Array Value) (o n : Nat) (p q r s k : Int) : (codeT cfVa (callT cfVa tVa 60) 60 cz (cL bb37) (frO37 X o n p q r s k) st0).evalM (gcObs 0 0 (kp [0, 2, 3, 4, 5] [])) = some (.normal, frP37 X o n p q r s k 0, st0) := congrFun (congrFun (congrFun (congrFun (congrFun (congrFun (congrFun (congrFun d37_k X) o) n) p) q) r) s) k
theorem i37_k : (fun (X : Array Value) (o n : Nat) (p q r s k : Int) => (codeT cfVa (callT cfVa tVa 60) 60 cz (cL (cL (cR bb37))) (frP37 X o n p q r s k 0) st0).evalM (gcObs 0 0 (kp [0, 2, 3, 4, 5, 6] []))) = fun (X : Array Value) (o n : Nat) (p q r s k : Int) => some (.normal, frQ37 X o n p q r s k 0 63, st0) := by kernel_rfl
theorem i37 (X : Array Value) (o n : Nat) (p q r s k : Int) : (codeT cfVa (callT cfVa tVa 60) 60 cz (cL (cL (cR bb37))) (frP37 X o n p q r s k 0) st0).evalM (gcObs 0 0 (kp [0, 2, 3, 4, 5, 6] [])) = some (.normal, frQ37 X o n p q r s k 0 63, st0) := congrFun (congrFun (congrFun (congrFun (congrFun (congrFun (congrFun (congrFun i37_k X) o) n) p) q) r) s) k
theorem r37_k : (fun (X : Array Value) (o n : Nat) (p q r s k x c : Int) => (codeT cfVa (callT cfVa tVa 60) 60 cz ki37 (frQ37 X o n p q r s k x c) st0).evalM (gcObs 0 0 (kp [0, 2, 3, 4, 5, 6] []))) = fun (X : Array Value) (o n : Nat) (p q r s k x c : Int) => bif decide (c ≥ 0) then (bif intsOk X o n then (bif inB X o (kc k c) n then some (.normal, frQ37 X o n p q r s k (add1 (dbl x)) (dec c), st0) else some (.normal, frQ37 X o n p q r s k (dbl x) (dec c), st0)) else none) else some (.exit 2, frQ37 X o n p q r s k x c, st0) := by kernel_rfl
theorem r37 (X : Array Value) (o n : Nat) (p q r s k x c : Int) : (codeT cfVa (callT cfVa tVa 60) 60 cz ki37 (frQ37 X o n p q r s k x c) st0).evalM (gcObs 0 0 (kp [0, 2, 3, 4, 5, 6] [])) = bif decide (c ≥ 0) then (bif intsOk X o n then (bif inB X o (kc k c) n then some (.normal, frQ37 X o n p q r s k (add1 (dbl x)) (dec c), st0) else some (.normal, frQ37 X o n p q r s k (dbl x) (dec c), st0)) else none) else some (.exit 2, frQ37 X o n p q r s k x c, st0) := congrFun (congrFun (congrFun (congrFun (congrFun (congrFun (congrFun (congrFun (congrFun (congrFun r37_k X) o) n) p) q) r) s) k) x) c
theorem e37_k : (fun (X : Array Value) (o n : Nat) (p q r s k x c : Int) => (codeT cfVa (callT cfVa tVa 60) 60 cz (cR (cR bb37)) (frQ37 X o n p q r s k x c) st0).evalM (gcObs 0 0 (kp [0, 2, 3, 4] []))) = fun (X : Array Value) (o n : Nat) (p q r s k x _ : Int) => bif decide (0 ≤ k) && decide (k < ((4 : Nat) : Int)) then (bif decide (0 + Int.toNat k * 1 = 0) then some (.normal, frO37 X o n x q r s k, st0) else bif decide (0 + Int.toNat k * 1 = 1) then some (.normal, frO37 X o n p x r s k, st0) else bif decide (0 + Int.toNat k * 1 = 2) then some (.normal, frO37 X o n p q x s k, st0) else bif decide (0 + Int.toNat k * 1 = 3) then some (.normal, frO37 X o n p q r x k, st0) else none) else none := by kernel_rfl
theorem e37 (X : Array Value) (o n : Nat) (p q r s k x c : Int) : (codeT cfVa (callT cfVa tVa 60) 60 cz (cR (cR bb37)) (frQ37 X o n p q r s k x c) st0).evalM (gcObs 0 0 (kp [0, 2, 3, 4] [])) = bif decide (0 ≤ k) && decide (k < ((4 : Nat) : Int)) then (bif decide (0 + Int.toNat k * 1 = 0) then some (.normal, frO37 X o n x q r s k, st0) else bif decide (0 + Int.toNat k * 1 = 1) then some (.normal, frO37 X o n p x r s k, st0) else bif decide (0 + Int.toNat k * 1 = 2) then some (.normal, frO37 X o n p q x s k, st0) else bif decide (0 + Int.toNat k * 1 = 3) then some (.normal, frO37 X o n p q r x k, st0) else none) else none := congrFun (congrFun (congrFun (congrFun (congrFun (congrFun (congrFun (congrFun (congrFun (congrFun e37_k X) o) n) p) q) r) s) k) x) c
theorem f37_k : (fun (X : Array Value) (o n : Nat) (p q r s k : Int) => (codeT cfVa (callT cfVa tVa 60) 60 cz (cR (cR k37)) (frO37 X o n p q r s k) st0).evalM (gcObs 0 0 (kp [0, 2, 3, 4] []))) = fun (X : Array Value) (o n : Nat) (p q r s k : Int) => some (.normal, frO37 X o n p q r s (inc k), st0) := by kernel_rfl
theorem f37 (X : Array Value) (o n : Nat) (p q r s k : Int) : (codeT cfVa (callT cfVa tVa 60) 60 cz (cR (cR k37)) (frO37 X o n p q r s k) st0).evalM (gcObs 0 0 (kp [0, 2, 3, 4] [])) = some (.normal, frO37 X o n p q r s (inc k), st0) := congrFun (congrFun (congrFun (congrFun (congrFun (congrFun (congrFun (congrFun f37_k X) o) n) p) q) r) s) k
theorem g37_k : (fun (X : Array Value) (o n : Nat) (p q r s k : Int) => (codeT cfVa (callT cfVa tVa 60) 60 cz (cN 3 b37) (frO37 X o n p q r s k) st0).evalM (gcObs 0 0 (kp [2] []))) = fun (_ : Array Value) (_ _ : Nat) (p q r s _ : Int) => some (.ret, frE37 p q r s, st0) := by kernel_rfl
theorem g37 (X : Array Value) (o n : Nat) (p q r s k : Int) : (codeT cfVa (callT cfVa tVa 60) 60 cz (cN 3 b37) (frO37 X o n p q r s k) st0).evalM (gcObs 0 0 (kp [2] [])) = some (.ret, frE37 p q r s, st0) := congrFun (congrFun (congrFun (congrFun (congrFun (congrFun (congrFun (congrFun g37_k X) o) n) p) q) r) s) k
end
end Go.Proofs.YtmpokdnpkjcnbaaDoor

/- The document's masks: the mask of a row of numbers: told. -/
namespace Go.Proofs.YtmpokdnpkjcnbaaDoor
open Go.Am
noncomputable section
/-- the set of those for which it holds -/
def setB (f : Nat → Bool) : Nat → B256
  | 0 => 0#256
  | i + 1 => cond (f i) (plus (setB f i) i) (setB f i)
theorem setB_bit (f : Nat → Bool) : ∀ i, i ≤ 256 → ∀ j, (setB f i).getLsbD j = (decide (j < i) && f j) := by
  intro i
  induction i with
  | zero => intro _ j; simp [setB]
  | succ i ih =>
    intro hi j
    have h := ih (by omega) j
    have e : setB f (i + 1) = cond (f i) (plus (setB f i) i) (setB f i) := rfl
    rw [e]
    by_cases hj : j = i
    · subst hj
      rw [decide_eq_true (by omega : j < j + 1), Bool.true_and]
      rw [decide_eq_false (by omega : ¬ j < j), Bool.false_and] at h
      cases hc : f j with
      | true => rw [cond_true, plus_bit _ (by omega), h, decide_eq_true rfl]; rfl
      | false => rw [cond_false, h]
    · have e2 : decide (j < i + 1) = decide (j < i) := decide_eq_decide.2 ⟨fun h => by omega, fun h => by omega⟩
      rw [e2, ← h]
      cases hc : f i with
      | true => rw [cond_true, plus_bit _ (by omega), decide_eq_false hj, Bool.or_false]
      | false => rw [cond_false]
def setI (X : Array Value) (o n : Nat) : B256 := setB (fun j => inB X o (j : Int) n) 256
theorem setI_bit (X : Array Value) (o n j : Nat) (hj : j < 256) : (setI X o n).getLsbD j = inB X o (j : Int) n := by
  unfold setI
  rw [setB_bit _ 256 (Nat.le_refl _), decide_eq_true hj, Bool.true_and]
/-- a set's word, as a number -/
def wn (s : B256) (k : Nat) : Nat := (s.extractLsb' (64 * k) 64).toNat
theorem wn_wd (s : B256) (k : Nat) : wd s k = ((wn s k : Nat) : Int) := rfl
theorem wn_lt (s : B256) (k : Nat) : wn s k < 18446744073709551616 := (s.extractLsb' (64 * k) 64).isLt
theorem wn_bit (s : B256) (k : Nat) {c : Nat} (hc : c < 64) : wn s k / 2 ^ c % 2 = (if s.getLsbD (64 * k + c) then 1 else 0) := by
  have h : Nat.testBit (wn s k) c = s.getLsbD (64 * k + c) := by
    show Nat.testBit (s.extractLsb' (64 * k) 64).toNat c = _
    rw [BitVec.testBit_toNat, BitVec.getLsbD_extractLsb', decide_eq_true hc, Bool.true_and]
  rw [Nat.testBit_eq_decide_div_mod_eq] at h
  by_cases hb : s.getLsbD (64 * k + c) = true
  · rw [hb] at h ⊢
    simpa using h
  · have hb' : s.getLsbD (64 * k + c) = false := by simpa using hb
    rw [hb'] at h ⊢
    have := of_decide_eq_false h
    simp; omega
theorem dbl_nat {x : Nat} (h : x * 2 < 18446744073709551616) : dbl (x : Int) = ((x * 2 : Nat) : Int) := by
  unfold dbl
  rw [wrapU (by omega) (by omega)]
  push_cast; rfl
theorem add1_nat {x : Nat} (h : x + 1 < 18446744073709551616) : add1 (x : Int) = ((x + 1 : Nat) : Int) := by
  unfold add1
  rw [wrapU (by omega) (by omega)]
  push_cast; rfl
/-- the words up to the k-th -/
def upto (s : B256) (k j : Nat) : Int := if j < k then wd s j else 0
def hd37 (X : Array Value) (o n k : Nat) : Fr := frO37 X o n (upto (setI X o n) k 0) (upto (setI X o n) k 1) (upto (setI X o n) k 2) (upto (setI X o n) k 3) k
def in37 (X : Array Value) (o n k i : Nat) : Fr := frQ37 X o n (upto (setI X o n) k 0) (upto (setI X o n) k 1) (upto (setI X o n) k 2) (upto (setI X o n) k 3) k ((wn (setI X o n) k / 2 ^ (64 - i) : Nat) : Int) (63 - (i : Int))
theorem round37 {X : Array Value} {o n k i : Nat} (h : intsOk X o n = true) (hk : k < 4) (hi : i < 64) :
    (codeT cfVa (callT cfVa tVa 60) 60 cz ki37 (in37 X o n k i) st0).evalM (gcObs 0 0 (kp [0, 2, 3, 4, 5, 6] [])) = some (.normal, in37 X o n k (i + 1), st0) := by
  refine (r37 ..).trans ?_
  have ekc : kc (k : Int) (63 - (i : Int)) = ((64 * k + (63 - i) : Nat) : Int) := by
    unfold kc
    rw [wrapI (x := 64 * (k : Int)) (by omega) (by omega), wrapI (by omega) (by omega)]
    omega
  have edec : dec (63 - (i : Int)) = 63 - ((i + 1 : Nat) : Int) := by
    unfold dec
    rw [wrapI (by omega) (by omega)]
    omega
  have e64 : 64 - i = (63 - i) + 1 := by omega
  have hw := wn_lt (setI X o n) k
  have hdiv : wn (setI X o n) k / 2 ^ (64 - i) = wn (setI X o n) k / 2 ^ (63 - i) / 2 := by
    rw [e64, Nat.pow_succ, Nat.div_div_eq_div_mul]
  have hmod := Nat.div_add_mod (wn (setI X o n) k / 2 ^ (63 - i)) 2
  have hbit := wn_bit (setI X o n) k (c := 63 - i) (by omega)
  rw [setI_bit X o n (64 * k + (63 - i)) (by omega)] at hbit
  have hle : wn (setI X o n) k / 2 ^ (63 - i) ≤ wn (setI X o n) k := Nat.div_le_self _ _
  have e63 : 64 - (i + 1) = 63 - i := by omega
  unfold in37
  rw [decide_eq_true (by omega : 63 - (i : Int) ≥ 0), cond_true, h, cond_true, ekc, edec, hdiv, e63]
  cases hb : inB X o ((64 * k + (63 - i) : Nat) : Int) n with
  | true =>
    rw [hb, if_pos rfl] at hbit
    rw [cond_true, dbl_nat (by omega), add1_nat (by omega)]
    have : wn (setI X o n) k / 2 ^ (63 - i) / 2 * 2 + 1 = wn (setI X o n) k / 2 ^ (63 - i) := by omega
    rw [this]
  | false =>
    rw [hb] at hbit
    simp only [Bool.false_eq_true, if_false] at hbit
    rw [cond_false, dbl_nat (by omega)]
    have : wn (setI X o n) k / 2 ^ (63 - i) / 2 * 2 = wn (setI X o n) k / 2 ^ (63 - i) := by omega
    rw [this]
theorem i37_fn : cfVa.fns 37 = some { body := b37, nt := ntOf 37, results := [.cell 2 24], pure := false } := by kernel_rfl
theorem nt37 : ntOf 37 = 29 := by kernel_rfl
theorem res37_k : (fun a b c d : Int => resultsV cfVa cz (frE37 a b c d) st0 [.cell 2 24]) = fun a b c d => some (mk a b c d) := by kernel_rfl
theorem res37 (a b c d : Int) : resultsV cfVa cz (frE37 a b c d) st0 [.cell 2 24] = some (mk a b c d) := congrFun (congrFun (congrFun (congrFun res37_k a) b) c) d
theorem store37 (X : Array Value) (o n : Nat) {k : Nat} (hk : k < 4) :
    (codeT cfVa (callT cfVa tVa 60) 60 cz (cR (cR bb37)) (in37 X o n k 64) st0).evalM (gcObs 0 0 (kp [0, 2, 3, 4] [])) = some (.normal, frO37 X o n (upto (setI X o n) (k + 1) 0) (upto (setI X o n) (k + 1) 1) (upto (setI X o n) (k + 1) 2) (upto (setI X o n) (k + 1) 3) k, st0) := by
  refine (e37 ..).trans ?_
  have ex : ((wn (setI X o n) k / 2 ^ (64 - 64) : Nat) : Int) = wd (setI X o n) k := by
    rw [Nat.sub_self, Nat.pow_zero, Nat.div_one]; rfl
  rw [ex, decide_eq_true (by omega : (0 : Int) ≤ k), decide_eq_true (by omega : (k : Int) < ((4 : Nat) : Int))]
  rcases (by omega : k = 0 ∨ k = 1 ∨ k = 2 ∨ k = 3) with h | h | h | h <;> subst h <;> rfl
theorem ok37 [Z : Zone] [T : Tab] {B : Nat} {X : Array Value} {o n : Nat} (h : intsOk X o n = true) :
    AWp cfVa ⟨0, B⟩ cz b37 (frame0 37 (ntOf 37) #[VS X o n]) st0 fun ex fr' s' => (ex = .normal ∨ ex = .ret) ∧ ∃ frj sj, Sn ⟨0, B⟩ 0 0 cz frj sj fr' s' ∧ resultsV cfVa cz frj sj [.cell 2 24] = some (mkB (setI X o n)) := by
  rw [b37_eq]
  refine AWp.nestFirst (n := 60) (lim := 60) goodVa (of_treeM tVa_ok (s37a ..)) trivial (Nat.zero_le _) fun fr1 s1 hS1 => ?_
  refine AWp.seq (AWp.seq (AWp.seen goodVa rfl hS1 (Nat.zero_le _) (of_treeM tVa_ok (s37b ..)) trivial fun fr2 s2 hS2 hG2 => ⟨hG2, ?_⟩))
  refine AWp.block ?_
  refine AWp.loop (I := fun (p : Nat) fr' s' => p ≤ 4 ∧ Sn ⟨0, B⟩ 0 0 cz (hd37 X o n p) st0 fr' s' ∧ Grow cz s1 s') (fun p => 4 - p) (fun p fr' s' hI => ?_) 0 fr2 s2 ⟨by omega, hS2, hG2⟩
  obtain ⟨hp, hS, hG⟩ := hI
  rw [k37_eq]
  by_cases hlt : p < 4
  · refine AWp.seq (AWp.seen goodVa rfl hS (Nat.zero_le _) (of_treeM tVa_ok ((c37 ..).trans (by rw [decide_eq_true (by omega : (p : Int) < 4)]; rfl))) trivial fun fr3 s3 hS3 hG3 => ⟨hG3, ?_⟩)
    refine AWp.seq (AWp.block (AWp.seq (AWp.seen goodVa rfl hS3 (Nat.zero_le _) (of_treeM tVa_ok (d37 ..)) trivial fun fr4 s4 hS4 hG4 => ⟨hG4, ?_⟩)))
    obtain ⟨e4, V4, F4⟩ := hS4
    refine AWp.forP (m := 0) (s0 := s4) (N := 64) (sel2 := fun _ => kp [0, 2, 3, 4, 5, 6] []) (head := fun i => in37 X o n p i) (sh := fun _ => st0) (stop := fun i => if i < 64 then none else some (.exit 2, in37 X o n p i, st0)) (n2 := 60) (lim2 := 60)
      goodVa rfl ⟨e4, fun j hj => absurd hj (Nat.not_lt_zero _), V4, F4⟩ (Grow.refl _ _) (Nat.zero_le _) (of_treeM tVa_ok ((i37 ..).trans ?_)) trivial ⟨Nat.zero_le _, fun j hj => absurd hj (Nat.not_lt_zero _)⟩ (fun _ _ => Nat.zero_le _)
      (fun i hi _ => of_treeM tVa_ok ?_) (fun i hi => ?_) (fun _ _ _ => ⟨Nat.zero_le _, fun j hj => absurd hj (Nat.not_lt_zero _)⟩) ⟨64, Nat.le_refl _, by simp⟩ (fun i r hi hno hr fr5 s5 hS5 hG5 => ?_)
    · unfold in37
      rw [show 64 - 0 = 64 from rfl, Nat.div_eq_of_lt (wn_lt (setI X o n) p)]
      rfl
    · by_cases hl : i < 64
      · rw [if_pos hl]; exact round37 h hlt hl
      · have e : i = 64 := by omega
        subst e
        rw [if_neg hl]
        refine (r37 ..).trans ?_
        rw [decide_eq_false (by omega)]; rfl
    · split <;> trivial
    · by_cases hl : i < 64
      · rw [if_pos hl] at hr; cases hr
      · rw [if_neg hl] at hr; cases hr
        have e : i = 64 := by omega
        subst e
        obtain ⟨e5, _, V5, F5⟩ := hS5
        refine ⟨rfl, ?_⟩
        refine AWp.seen goodVa rfl ⟨e5, V5, F5⟩ (Nat.zero_le _) (of_treeM tVa_ok (store37 X o n hlt)) trivial fun fr6 s6 hS6 hG6 => ?_
        refine ⟨(hG4.trans hG5).trans hG6, ?_⟩
        refine AWp.seen goodVa rfl hS6 (Nat.zero_le _) (of_treeM tVa_ok (f37 ..)) trivial fun fr7 s7 hS7 hG7 => ?_
        have hinc : inc (p : Int) = ((p + 1 : Nat) : Int) := incN (by omega)
        rw [hinc] at hS7
        have hG37 : Grow cz s3 s7 := ((hG4.trans hG5).trans hG6).trans hG7
        exact ⟨hG3.trans hG37, p + 1, by omega, by omega, hS7, (hG.trans hG3).trans hG37⟩
  · refine AWp.seq (AWp.seen (ex := .exit 0) goodVa rfl hS (Nat.zero_le _) (of_treeM tVa_ok ((c37 ..).trans (by rw [decide_eq_false (by omega : ¬ (p : Int) < 4)]; rfl))) trivial fun fr3 s3 hS3 hG3 => ⟨hG3, hG3, ?_⟩)
    have e : p = 4 := by omega
    subst e
    refine ⟨hG.trans hG3, ?_⟩
    exact AWp.seen goodVa rfl hS3 (Nat.zero_le _) (of_treeM tVa_ok (g37 ..)) trivial fun fr4 s4 hS4 _ => ⟨.inr rfl, _, _, hS4, res37 ..⟩
def makeD : Array Value → DT (Option (Value × St))
  | ⟨[.func (.method nm) X ⟨[.slice none o n]⟩]⟩ => .must (decide (nm = "") && intsOk X o n) (.leaf (some (mkB (setI X o n), st0))) (.leaf none)
  | _ => .leaf none
theorem tells37 [Z : Zone] [T : Tab] : Tells cfVa 37 fun a => (makeD a).eval := by
  refine tells_seen goodVa rfl i37_fn fun args x hx => ?_
  unfold makeD at hx
  split at hx
  · rename_i nm X o n
    rw [DT.eval_must] at hx
    cases h : (decide (nm = "") && intsOk X o n) with
    | false => rw [h] at hx; cases hx
    | true =>
      rw [h, cond_true, DT.eval_leaf] at hx
      cases hx
      rw [Bool.and_eq_true, decide_eq_true_eq] at h
      obtain ⟨rfl, h⟩ := h
      exact ⟨by simp [freeN], by rw [nt37]; show 1 ≤ 29; omega, _, rfl, by simp [freeN, mkB, mk], fun b => ok37 h⟩
  · cases hx
def TVd : FuncId → Option (Array Value → DT (Option (Value × St)))
  | 37 => some makeD
  | _ => none
def cfVd : Cfg := cfVa.frzM TVd
theorem goodVd [Z : Zone] [T : Tab] (B : Base) : Go.Am.Good cfVd B := frzM_good (fun B => goodVa B) rfl (fun f F h => by
  unfold TVd at h
  split at h
  · cases h; exact ⟨⟨_, i37_fn⟩, fun φ c s => @tells37 (zAll Z φ c s) (tabAll φ c s)⟩
  · cases h) B
def tVd : FuncId → Option HandT := treeFM TVd tVa
theorem tVd_ok : ∀ f k hd, tVd f = some k → cfVd.hand f = some hd → ∀ a c s, (k a c s).eval = hd a c s := treeFM_ok tVa_ok
def sl0 (k : Nat) : Value := .slice (some ⟨0, 0, none⟩) k k
def sRow (E : Array Value) : St := stS [(0, .cells E 1 true)] 1
def selR (L : List Tmp) (r : Option Nat) : Ex → List Tmp × List Kept := fun _ => (L, match r with | some r => [.plain r] | none => [])
theorem inB_iff {X : Array Value} {o : Nat} {x : Int} : ∀ {n : Nat}, inB X o x n = true ↔ ∃ t, t < n ∧ toI X[o + t]? = x := by
  intro n
  constructor
  · induction n with
    | zero => intro h; cases h
    | succ n ih =>
      intro h
      unfold inB at h
      rw [Bool.or_eq_true, beq_iff_eq] at h
      rcases h with h | h
      · obtain ⟨t, h1, h2⟩ := ih h; exact ⟨t, by omega, h2⟩
      · exact ⟨n, by omega, h⟩
  · rintro ⟨t, h1, h2⟩
    exact inB_at h1 (by rw [h2]; exact beq_self_eq_true _)
theorem i_lt {i : Nat} (h : i < 256) : decide ((i : Int) < 256) = true := decide_eq_true (by omega)
theorem app_c {n : Nat} {E : Array Value} (hE : E.size = n) (hn : n ≤ 256) : (decide (n ≤ n) && decide (n + 1 ≤ nLim) && true && true && true && true && true) = true ∧ decide (n + 1 ≤ n) = false ∧ decide (0 + n * 1 ≤ E.size) = true ∧ ((n == n) && (0 + n * 1 == E.size)) = true := by
  refine ⟨?_, decide_eq_false (by omega), decide_eq_true (by omega), ?_⟩
  · rw [decide_eq_true (Nat.le_refl n), decide_eq_true (by unfold nLim; omega : n + 1 ≤ nLim)]; rfl
  · rw [beq_self_eq_true, hE]; simp
end
end Go.Proofs.YtmpokdnpkjcnbaaDoor
