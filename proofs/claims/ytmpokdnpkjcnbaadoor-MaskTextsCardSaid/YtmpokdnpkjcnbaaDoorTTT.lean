import Derived.Test.YtmpokdnpkjcnbaaDoorQRS
import Derived.Test.YtmpokdnpkjcnbaaDoorAmFlow
/- A mask's cores in a row: paths. -/
namespace Go.Proofs.YtmpokdnpkjcnbaaDoor
open Go.Am
noncomputable section
def b51 : Code := bodyOf 51
def rng51 : Code := cB (cR (cL (cN 1 b51)))
theorem b51_eq : b51 = nest [cL b51] (.seq (.seq (cL (cL (cN 1 b51))) (.block 0 (.rangeFunc (.tmp 6) #[7] (assignOf rng51) (rbodyOf rng51)))) (cN 2 b51)) := by kernel_rfl
def seqV (a b c d : Int) : Value := .func (.func 52) #[] #[VP (mkC a b c d) 0]
def nilS : Value := .slice none 0 0
def slS (k : Nat) : Value := .slice (some ⟨2, 0, none⟩) k k
def frI51 (a b c d : Int) : Fr := frS 51 [(1, seqV a b c d), (2, pt' 0)]
def frA51 (a b c d : Int) : Fr := frS 51 [(2, pt' 0), (6, seqV a b c d)]
def sA51 : St := stS [(0, .cells #[nilS] 1 false)] 1
def loop51 (tm : Tr Value) (st : LoopState) (pd : Option Code) : LoopRec := { fn := 51, nt := ntOf 51, tm := tm, params := #[7], assign := assignOf rng51, body := rbodyOf rng51, state := st, pending := pd }
def tmL51 : Tr Value := tmS [(2, pt' 0)] .nil
/-- in the loop: nothing yet; a row -/
def sN51 : St := stS [(0, .cells #[nilS] 1 false), (1, .loop (loop51 tmL51 .ready none))] 2
def sE51 (k : Nat) (E : Array Value) : St := stS [(0, .cells #[slS k] 1 false), (1, .loop (loop51 tmL51 .ready none)), (2, .cells E 1 true)] 3
def fr52v (a b c d i : Int) : Fr := frS 52 [(0, .func (.yield 1) #[] #[]), (1, VP (mkC a b c d) 0), (4, .int .i64 i)]
def selT (r : Option Nat) : Ex → List Tmp × List Kept := fun _ => ([0, 1, 4], [.cells 0, .loop 1 [2]] ++ (match r with | some r => [.plain r] | none => []))
def aE (E : Array Value) (k : Nat) (i : Int) : Array Value := E.extract 0 (0 + k * 1) ++ ⟨[.int .i64 i]⟩
theorem s51a_k : (fun (a b c d : Int) => (codeT cfS (callT cfS tS 60) 60 cz (seqOf [cL b51]) (frame0 51 (ntOf 51) #[nilS, seqV a b c d]) st0).evalM (gcObs 0 0 (kp [1, 2] [.cells 0]))) = fun (a b c d : Int) => some (.normal, frI51 a b c d, sA51) := by kernel_rfl
theorem s51a (a b c d : Int) : (codeT cfS (callT cfS tS 60) 60 cz (seqOf [cL b51]) (frame0 51 (ntOf 51) #[nilS, seqV a b c d]) st0).evalM (gcObs 0 0 (kp [1, 2] [.cells 0])) = some (.normal, frI51 a b c d, sA51) := congrFun (congrFun (congrFun (congrFun s51a_k a) b) c) d
theorem s51b_k : (fun (a b c d : Int) => (codeT cfS (callT cfS tS 60) 60 cz (cL (cL (cN 1 b51))) (frI51 a b c d) sA51).evalM (gcObs 0 0 (kp [2, 6] [.cells 0]))) = fun (a b c d : Int) => some (.normal, frA51 a b c d, sA51) := by kernel_rfl
theorem s51b (a b c d : Int) : (codeT cfS (callT cfS tS 60) 60 cz (cL (cL (cN 1 b51))) (frI51 a b c d) sA51).evalM (gcObs 0 0 (kp [2, 6] [.cells 0])) = some (.normal, frA51 a b c d, sA51) := congrFun (congrFun (congrFun (congrFun s51b_k a) b) c) d
theorem i52v_k : (fun (a b c d : Int) => (codeT cfS (callT cfS tS 60) 60 cz (seqOf [cL b52]) (frame0 52 (ntOf 52) #[.func (.yield 1) #[] #[], VP (mkC a b c d) 0]) (sA51.new (.loop (loop51 (frA51 a b c d).tm .ready none)))).evalM (gcObs 0 0 (selT none))) = fun (a b c d : Int) => some (.normal, fr52v a b c d 0, sN51) := by kernel_rfl
theorem i52v (a b c d : Int) : (codeT cfS (callT cfS tS 60) 60 cz (seqOf [cL b52]) (frame0 52 (ntOf 52) #[.func (.yield 1) #[] #[], VP (mkC a b c d) 0]) (sA51.new (.loop (loop51 (frA51 a b c d).tm .ready none)))).evalM (gcObs 0 0 (selT none)) = some (.normal, fr52v a b c d 0, sN51) := congrFun (congrFun (congrFun (congrFun i52v_k a) b) c) d
def pa_bits : List Bool := [true, true, true, true, true, true, true, true, true, true, false, true, false, true, true, true, true, true, true, false]
def pa_c (a b c d i : Int) : Bool :=
  (decide (i < 256))
   && ((inQ a b c d)
   && ((hasB a b c d i)
   && true))
theorem pa_cond_k : (fun (a b c d i : Int) => (followT pa_bits (codeT cfS (callT cfS tS 60) 60 cz k52 (fr52v a b c d i) sN51)).1) = fun (a b c d i : Int) => pa_c a b c d i := by kernel_rfl
theorem pa_cond (a b c d i : Int) : (followT pa_bits (codeT cfS (callT cfS tS 60) 60 cz k52 (fr52v a b c d i) sN51)).1 = pa_c a b c d i := congrFun (congrFun (congrFun (congrFun (congrFun pa_cond_k a) b) c) d) i
theorem pa_leaf_k : (fun (a b c d i : Int) => pathObs (gcObs 0 0 (selT (some 3))) pa_bits (codeT cfS (callT cfS tS 60) 60 cz k52 (fr52v a b c d i) sN51)) = fun (a b c d i : Int) => some (.normal, fr52v a b c d (inc i), sE51 1 ⟨[.int .i64 i]⟩) := by kernel_rfl
theorem pa_leaf (a b c d i : Int) : pathObs (gcObs 0 0 (selT (some 3))) pa_bits (codeT cfS (callT cfS tS 60) 60 cz k52 (fr52v a b c d i) sN51) = some (.normal, fr52v a b c d (inc i), sE51 1 ⟨[.int .i64 i]⟩) := congrFun (congrFun (congrFun (congrFun (congrFun pa_leaf_k a) b) c) d) i
def pb_bits : List Bool := [true, true, true, true, true, true, true, true, true, true, false, true, false, true, true, true, false, true, true, true, true, true, true, false]
def pb_c (a b c d i : Int) (k : Nat) (E : Array Value) : Bool :=
  (decide (i < 256))
   && ((inQ a b c d)
   && ((hasB a b c d i)
   && ((decide (k ≤ k) && decide (k + 1 ≤ nLim) && true && true && true && true && true)
   && (!(decide (k + 1 ≤ k))
   && ((decide (0 + k * 1 ≤ E.size))
   && (((k == k) && (0 + k * 1 == E.size))
   && true))))))
theorem pb_cond_k : (fun (a b c d i : Int) (k : Nat) (E : Array Value) => (followT pb_bits (codeT cfS (callT cfS tS 60) 60 cz k52 (fr52v a b c d i) (sE51 k E))).1) = fun (a b c d i : Int) (k : Nat) (E : Array Value) => pb_c a b c d i k E := by kernel_rfl
theorem pb_cond (a b c d i : Int) (k : Nat) (E : Array Value) : (followT pb_bits (codeT cfS (callT cfS tS 60) 60 cz k52 (fr52v a b c d i) (sE51 k E))).1 = pb_c a b c d i k E := congrFun (congrFun (congrFun (congrFun (congrFun (congrFun (congrFun pb_cond_k a) b) c) d) i) k) E
theorem pb_leaf_k : (fun (a b c d i : Int) (k : Nat) (E : Array Value) => pathObs (gcObs 0 0 (selT (some 4))) pb_bits (codeT cfS (callT cfS tS 60) 60 cz k52 (fr52v a b c d i) (sE51 k E))) = fun (a b c d i : Int) (k : Nat) (E : Array Value) => some (.normal, fr52v a b c d (inc i), sE51 (k + 1) (aE E k i)) := by kernel_rfl
theorem pb_leaf (a b c d i : Int) (k : Nat) (E : Array Value) : pathObs (gcObs 0 0 (selT (some 4))) pb_bits (codeT cfS (callT cfS tS 60) 60 cz k52 (fr52v a b c d i) (sE51 k E)) = some (.normal, fr52v a b c d (inc i), sE51 (k + 1) (aE E k i)) := congrFun (congrFun (congrFun (congrFun (congrFun (congrFun (congrFun pb_leaf_k a) b) c) d) i) k) E
def pc_bits : List Bool := [true, true, true, true, false, false, false, false, false, false, false, false, false, false]
def pc_c (a b c d i : Int) : Bool :=
  (decide (i < 256))
   && ((inQ a b c d)
   && (!(hasB a b c d i)
   && true))
theorem pc_cond_k : (fun (a b c d i : Int) => (followT pc_bits (codeT cfS (callT cfS tS 60) 60 cz k52 (fr52v a b c d i) sN51)).1) = fun (a b c d i : Int) => pc_c a b c d i := by kernel_rfl
theorem pc_cond (a b c d i : Int) : (followT pc_bits (codeT cfS (callT cfS tS 60) 60 cz k52 (fr52v a b c d i) sN51)).1 = pc_c a b c d i := congrFun (congrFun (congrFun (congrFun (congrFun pc_cond_k a) b) c) d) i
theorem pc_leaf_k : (fun (a b c d i : Int) => pathObs (gcObs 0 0 (selT none)) pc_bits (codeT cfS (callT cfS tS 60) 60 cz k52 (fr52v a b c d i) sN51)) = fun (a b c d i : Int) => some (.normal, fr52v a b c d (inc i), sN51) := by kernel_rfl
theorem pc_leaf (a b c d i : Int) : pathObs (gcObs 0 0 (selT none)) pc_bits (codeT cfS (callT cfS tS 60) 60 cz k52 (fr52v a b c d i) sN51) = some (.normal, fr52v a b c d (inc i), sN51) := congrFun (congrFun (congrFun (congrFun (congrFun pc_leaf_k a) b) c) d) i
def pd_bits : List Bool := [true, true, true, true, false, false, false, false, false, false, false, false, false, false]
def pd_c (a b c d i : Int) (_ : Nat) (_ : Array Value) : Bool :=
  (decide (i < 256))
   && ((inQ a b c d)
   && (!(hasB a b c d i)
   && true))
theorem pd_cond_k : (fun (a b c d i : Int) (k : Nat) (E : Array Value) => (followT pd_bits (codeT cfS (callT cfS tS 60) 60 cz k52 (fr52v a b c d i) (sE51 k E))).1) = fun (a b c d i : Int) (k : Nat) (E : Array Value) => pd_c a b c d i k E := by kernel_rfl
theorem pd_cond (a b c d i : Int) (k : Nat) (E : Array Value) : (followT pd_bits (codeT cfS (callT cfS tS 60) 60 cz k52 (fr52v a b c d i) (sE51 k E))).1 = pd_c a b c d i k E := congrFun (congrFun (congrFun (congrFun (congrFun (congrFun (congrFun pd_cond_k a) b) c) d) i) k) E
theorem pd_leaf_k : (fun (a b c d i : Int) (k : Nat) (E : Array Value) => pathObs (gcObs 0 0 (selT (some 2))) pd_bits (codeT cfS (callT cfS tS 60) 60 cz k52 (fr52v a b c d i) (sE51 k E))) = fun (a b c d i : Int) (k : Nat) (E : Array Value) => some (.normal, fr52v a b c d (inc i), sE51 k E) := by kernel_rfl
theorem pd_leaf (a b c d i : Int) (k : Nat) (E : Array Value) : pathObs (gcObs 0 0 (selT (some 2))) pd_bits (codeT cfS (callT cfS tS 60) 60 cz k52 (fr52v a b c d i) (sE51 k E)) = some (.normal, fr52v a b c d (inc i), sE51 k E) := congrFun (congrFun (congrFun (congrFun (congrFun (congrFun (congrFun pd_leaf_k a) b) c) d) i) k) E
def pe_bits : List Bool := [false]
def pe_c (_ _ _ _ i : Int) : Bool :=
  !(decide (i < 256))
   && true
theorem pe_cond_k : (fun (a b c d i : Int) => (followT pe_bits (codeT cfS (callT cfS tS 60) 60 cz k52 (fr52v a b c d i) sN51)).1) = fun (a b c d i : Int) => pe_c a b c d i := by kernel_rfl
theorem pe_cond (a b c d i : Int) : (followT pe_bits (codeT cfS (callT cfS tS 60) 60 cz k52 (fr52v a b c d i) sN51)).1 = pe_c a b c d i := congrFun (congrFun (congrFun (congrFun (congrFun pe_cond_k a) b) c) d) i
theorem pe_leaf_k : (fun (a b c d i : Int) => pathObs (gcObs 0 0 (selT none)) pe_bits (codeT cfS (callT cfS tS 60) 60 cz k52 (fr52v a b c d i) sN51)) = fun (a b c d i : Int) => some (.exit 0, fr52v a b c d i, sN51) := by kernel_rfl
theorem pe_leaf (a b c d i : Int) : pathObs (gcObs 0 0 (selT none)) pe_bits (codeT cfS (callT cfS tS 60) 60 cz k52 (fr52v a b c d i) sN51) = some (.exit 0, fr52v a b c d i, sN51) := congrFun (congrFun (congrFun (congrFun (congrFun pe_leaf_k a) b) c) d) i
def pf_bits : List Bool := [false]
def pf_c (_ _ _ _ i : Int) (_ : Nat) (_ : Array Value) : Bool :=
  !(decide (i < 256))
   && true
theorem pf_cond_k : (fun (a b c d i : Int) (k : Nat) (E : Array Value) => (followT pf_bits (codeT cfS (callT cfS tS 60) 60 cz k52 (fr52v a b c d i) (sE51 k E))).1) = fun (a b c d i : Int) (k : Nat) (E : Array Value) => pf_c a b c d i k E := by kernel_rfl
theorem pf_cond (a b c d i : Int) (k : Nat) (E : Array Value) : (followT pf_bits (codeT cfS (callT cfS tS 60) 60 cz k52 (fr52v a b c d i) (sE51 k E))).1 = pf_c a b c d i k E := congrFun (congrFun (congrFun (congrFun (congrFun (congrFun (congrFun pf_cond_k a) b) c) d) i) k) E
theorem pf_leaf_k : (fun (a b c d i : Int) (k : Nat) (E : Array Value) => pathObs (gcObs 0 0 (selT (some 2))) pf_bits (codeT cfS (callT cfS tS 60) 60 cz k52 (fr52v a b c d i) (sE51 k E))) = fun (a b c d i : Int) (k : Nat) (E : Array Value) => some (.exit 0, fr52v a b c d i, sE51 k E) := by kernel_rfl
theorem pf_leaf (a b c d i : Int) (k : Nat) (E : Array Value) : pathObs (gcObs 0 0 (selT (some 2))) pf_bits (codeT cfS (callT cfS tS 60) 60 cz k52 (fr52v a b c d i) (sE51 k E)) = some (.exit 0, fr52v a b c d i, sE51 k E) := congrFun (congrFun (congrFun (congrFun (congrFun (congrFun (congrFun pf_leaf_k a) b) c) d) i) k) E
theorem s51c_k : (fun (a b c d : Int) => (codeT cfS (callT cfS tS 60) 60 cz (cN 2 b51) (frA51 a b c d) (unl 1 sN51)).evalM (gcObs 0 0 (kp [4] []))) = fun (_ _ _ _ : Int) => some (.ret, frS 51 [(4, nilS)], st0) := by kernel_rfl
theorem s51c (a b c d : Int) : (codeT cfS (callT cfS tS 60) 60 cz (cN 2 b51) (frA51 a b c d) (unl 1 sN51)).evalM (gcObs 0 0 (kp [4] [])) = some (.ret, frS 51 [(4, nilS)], st0) := congrFun (congrFun (congrFun (congrFun s51c_k a) b) c) d
theorem s51d_k : (fun (a b c d : Int) (k : Nat) (E : Array Value) => (codeT cfS (callT cfS tS 60) 60 cz (cN 2 b51) (frA51 a b c d) (unl 1 (sE51 k E))).evalM (gcObs 0 0 (kp [4] [.plain 2]))) = fun (_ _ _ _ : Int) (k : Nat) (E : Array Value) => some (.ret, frS 51 [(4, .slice (some ⟨0, 0, none⟩) k k)], stS [(0, .cells E 1 true)] 1) := by kernel_rfl
theorem s51d (a b c d : Int) (k : Nat) (E : Array Value) : (codeT cfS (callT cfS tS 60) 60 cz (cN 2 b51) (frA51 a b c d) (unl 1 (sE51 k E))).evalM (gcObs 0 0 (kp [4] [.plain 2])) = some (.ret, frS 51 [(4, .slice (some ⟨0, 0, none⟩) k k)], stS [(0, .cells E 1 true)] 1) := congrFun (congrFun (congrFun (congrFun (congrFun (congrFun s51d_k a) b) c) d) k) E
end
end Go.Proofs.YtmpokdnpkjcnbaaDoor

/- A mask's cores in a row, told. -/
namespace Go.Proofs.YtmpokdnpkjcnbaaDoor
open Go.Am
noncomputable section
theorem path_eval {g : Cfg} {o : FuncId → Option HandT} (ho : ∀ f k hd, o f = some k → g.hand f = some hd → ∀ a c s, (k a c s).eval = hd a c s) {n lim : Nat} {c : Ctx} {k : Code} {fr : Fr} {s : St} {bs : List Bool} {β : Type} {p : Option (Ex × Fr × St) → Option β} {y : β}
    (h1 : (followT bs (codeT g (callT g o n) lim c k fr s)).1 = true) (h2 : pathObs p bs (codeT g (callT g o n) lim c k fr s) = some y) : p (code g (call g n) lim c k fr s) = some y := by
  unfold pathObs at h2
  split at h2
  · rename_i a ha
    have := followT_eval _ _ h1 ha
    rw [codeT_eval g _ _ (callT_eval g o ho n)] at this
    rw [this]; exact h2
  · cases h2
/-- its numbers below i -/
def lstE (m : B256) : Nat → Array Value
  | 0 => #[]
  | i + 1 => cond (m.getLsbD i) (lstE m i ++ #[.int .i64 i]) (lstE m i)
theorem lstE_size (m : B256) (i : Nat) : (lstE m i).size = cntB m i := by
  induction i with
  | zero => rfl
  | succ i ih =>
    unfold lstE cntB
    cases m.getLsbD i
    · exact ih
    · simp [ih]
theorem lstE_plain (m : B256) (i : Nat) : (lstE m i).all (plainN 6) = true ∧ (lstE m i).all (freeN 6) = true ∧ (lstE m i).all (freeN 9) = true := by
  induction i with
  | zero => simp [lstE]
  | succ i ih =>
    unfold lstE
    cases m.getLsbD i
    · exact ih
    · simp only [cond_true, Array.all_append, ih.1, ih.2.1, ih.2.2, Bool.true_and]
      simp [plainN, freeN]
def fr51 (m : B256) (i : Int) : Fr := fr52v (wd m 0) (wd m 1) (wd m 2) (wd m 3) i
def st51 (m : B256) (i : Nat) : St := bif Nat.beq (cntB m i) 0 then sN51 else sE51 (cntB m i) (lstE m i)
def sel51 (m : B256) (i : Nat) : Ex → List Tmp × List Kept := selT (bif Nat.blt i 256 && m.getLsbD i then (bif Nat.beq (cntB m i) 0 then some 3 else some 4) else (bif Nat.beq (cntB m i) 0 then none else some 2))
theorem sel51_pin (m : B256) (i : Nat) (ex : Ex) : pinned 2 (sel51 m i ex).2 := by
  have key : ∀ r, pinned 2 (selT r ex).2 := fun r => by
    cases r with
    | none => exact ⟨by show 2 ≤ 2; omega, fun j hj => by
        match j, hj with
        | 0, _ => rfl
        | 1, _ => rfl⟩
    | some r => exact ⟨by show 2 ≤ 3; omega, fun j hj => by
        match j, hj with
        | 0, _ => rfl
        | 1, _ => rfl⟩
  exact key _
theorem plain51 (m : B256) (i : Nat) (r : Option Nat) (ex : Ex) : plainJ (st51 m i) (selT r ex).2 0 := by
  cases r with
  | none => trivial
  | some r =>
    refine ⟨?_, trivial⟩
    unfold st51
    cases Nat.beq (cntB m i) 0 with
    | true => trivial
    | false =>
      have e : (sE51 (cntB m i) (lstE m i)).heap.get 2 = some (.cells (lstE m i) 1 true) := by simp [sE51, stS, hpS, Tr.get_put]
      rw [cond_false]
      show match (sE51 (cntB m i) (lstE m i)).heap.get 2 with | some (.cells cs _ _) => cs.all (freeN 9) = true | _ => True
      rw [e]
      exact (lstE_plain m i).2.2
def stop51 (m : B256) (i : Nat) : Option (Ex × Fr × St) := if i < 256 then none else some (.exit 0, fr51 m i, st51 m i)
theorem p0Q' (m : B256) : inQ (wd m 0) (wd m 1) (wd m 2) (wd m 3) = true := wd_inQ m
theorem round51 (m : B256) (i : Nat) (hi : i ≤ 256) :
    gcObs 0 0 (sel51 m i) (code cfS (call cfS 60) 60 cz k52 (fr51 m i) (st51 m i)) = some (match stop51 m i with | some r => r | none => (.normal, fr51 m ((i + 1 : Nat) : Int), st51 m (i + 1))) := by
  unfold stop51
  have hinc : i < 256 → inc (i : Int) = ((i + 1 : Nat) : Int) := fun h => incN (by omega)
  have hk := cntB_le m i
  by_cases hlt : i < 256
  · have hli : decide ((i : Int) < 256) = true := decide_eq_true (by omega)
    rw [if_pos hlt]
    simp only
    have hb1 : Nat.blt i 256 = true := Nat.ble_eq_true_of_le (by omega)
    cases hb : m.getLsbD i with
    | true =>
      have e2 : lstE m (i + 1) = lstE m i ++ #[.int .i64 i] := by
        show cond (m.getLsbD i) _ _ = _
        rw [hb]; rfl
      have e3 : cntB m (i + 1) = cntB m i + 1 := by
        show cond (m.getLsbD i) _ _ = _
        rw [hb]; rfl
      have e4 : st51 m (i + 1) = sE51 (cntB m i + 1) (lstE m i ++ #[.int .i64 i]) := by
        unfold st51
        rw [e2, e3]; rfl
      unfold sel51
      rw [hb1, hb, e4]
      cases hz : Nat.beq (cntB m i) 0 with
      | true =>
        have h0 := Nat.eq_of_beq_eq_true hz
        have h1 : lstE m i = #[] := Array.eq_empty_of_size_eq_zero (by rw [lstE_size]; exact h0)
        have e5 : st51 m i = sN51 := by unfold st51; rw [hz]; rfl
        rw [e5, h0, h1]
        refine path_eval tS_ok ((pa_cond ..).trans ?_) ((pa_leaf ..).trans ?_)
        · unfold pa_c
          rw [hli, wd_inQ, hasB_wd, hb]; rfl
        · rw [hinc hlt]; rfl
      | false =>
        have e5 : st51 m i = sE51 (cntB m i) (lstE m i) := by unfold st51; rw [hz]; rfl
        rw [e5]
        refine path_eval tS_ok ((pb_cond ..).trans ?_) ((pb_leaf ..).trans ?_)
        · unfold pb_c
          have c1 : decide (cntB m i + 1 ≤ nLim) = true := decide_eq_true (by unfold nLim; omega)
          have c2 : decide (cntB m i + 1 ≤ cntB m i) = false := decide_eq_false (by omega)
          rw [hli, wd_inQ, hasB_wd, hb, c1, c2, lstE_size, decide_eq_true (Nat.le_refl _), decide_eq_true (by omega)]
          simp
        · have : aE (lstE m i) (cntB m i) i = lstE m i ++ #[.int .i64 i] := by
            unfold aE
            rw [← lstE_size m i]
            simp
          rw [hinc hlt, this]; rfl
    | false =>
      have e2 : lstE m (i + 1) = lstE m i := by
        show cond (m.getLsbD i) _ _ = _
        rw [hb]; rfl
      have e3 : cntB m (i + 1) = cntB m i := by
        show cond (m.getLsbD i) _ _ = _
        rw [hb]; rfl
      have e4 : st51 m (i + 1) = st51 m i := by
        unfold st51
        rw [e2, e3]
      unfold sel51
      rw [hb1, hb, e4]
      cases hz : Nat.beq (cntB m i) 0 with
      | true =>
        have e5 : st51 m i = sN51 := by unfold st51; rw [hz]; rfl
        rw [e5]
        refine path_eval tS_ok ((pc_cond ..).trans ?_) ((pc_leaf ..).trans ?_)
        · unfold pc_c
          rw [hli, wd_inQ, hasB_wd, hb]; rfl
        · rw [hinc hlt]; rfl
      | false =>
        have e5 : st51 m i = sE51 (cntB m i) (lstE m i) := by unfold st51; rw [hz]; rfl
        rw [e5]
        refine path_eval tS_ok ((pd_cond ..).trans ?_) ((pd_leaf ..).trans ?_)
        · unfold pd_c
          rw [hli, wd_inQ, hasB_wd, hb]; rfl
        · rw [hinc hlt]; rfl
  · have hli : decide ((i : Int) < 256) = false := decide_eq_false (by omega)
    rw [if_neg hlt]
    simp only
    have hb1 : Nat.blt i 256 = false := by
      cases h : Nat.blt i 256 with
      | false => rfl
      | true => exact absurd (Nat.le_of_ble_eq_true h) (by omega)
    unfold sel51
    rw [hb1]
    cases hz : Nat.beq (cntB m i) 0 with
    | true =>
      have e5 : st51 m i = sN51 := by unfold st51; rw [hz]; rfl
      rw [e5]
      refine path_eval tS_ok ((pe_cond ..).trans ?_) (pe_leaf ..)
      unfold pe_c
      rw [hli]; rfl
    | false =>
      have e5 : st51 m i = sE51 (cntB m i) (lstE m i) := by unfold st51; rw [hz]; rfl
      rw [e5]
      refine path_eval tS_ok ((pf_cond ..).trans ?_) (pf_leaf ..)
      unfold pf_c
      rw [hli]; rfl
theorem get51 (m : B256) (i : Nat) : (st51 m i).heap.get 1 = some (.loop (loop51 tmL51 .ready none)) := by
  unfold st51
  cases Nat.beq (cntB m i) 0 <;> simp [sN51, sE51, stS, hpS, Tr.get_put]
theorem next51 (m : B256) (i : Nat) : 2 ≤ (st51 m i).next := by
  unfold st51
  cases Nat.beq (cntB m i) 0
  · show 2 ≤ 3; omega
  · show 2 ≤ 2; omega
theorem it51 [Z : Zone] [T : Tab] {B : Nat} {m : B256} :
    AWp cfS ⟨0, B⟩ cz b52 (frame0 52 (ntOf 52) #[.func (.yield 1) #[] #[], VP (mkC (wd m 0) (wd m 1) (wd m 2) (wd m 3)) 0]) (sA51.new (.loop (loop51 (frA51 (wd m 0) (wd m 1) (wd m 2) (wd m 3)).tm .ready none)))
      fun ex fr1 s1 => Grow cz sA51 s1 ∧ (ex = .normal ∨ ex = .ret) ∧ (∃ v, resultsV cfS cz fr1 s1 [] = some v) ∧ ∃ frX sX lX ee, SnP (1 + 1) ⟨0, B⟩ 0 0 cz frX sX fr1 s1 ∧ sX.heap.get 1 = some (.loop lX) ∧ exitOf lX.pending = some ee ∧ (lX.state != .busy) = true ∧
        (ee = .normal ∧ unl 1 sX = unl 1 (st51 m 256)) := by
  rw [b52_eq]
  have hgn : Grow cz sA51 (sA51.new (.loop (loop51 (frA51 (wd m 0) (wd m 1) (wd m 2) (wd m 3)).tm .ready none))) := Grow.new _ _ _
  refine AWp.nestP (n := 60) (lim := 60) (m := 2) (ps := [cL b52]) (rest := .block 0 (.loop k52)) (sel := selT none) (frj := fr51 m 0) (sj := st51 m 0) goodS (of_treeM tS_ok (i52v ..)) trivial ⟨by show 2 ≤ 2; omega, fun j hj => by
    match j, hj with
    | 0, _ => rfl
    | 1, _ => rfl⟩ (Nat.zero_le _) fun fr1 s1 hS1 hG1 => ?_
  refine AWp.block ?_
  refine AWp.countPI (n := 60) (lim := 60) (m := 2) (N := 256) (head := fun i => fr51 m i) (sh := fun i => st51 m i) (sel := sel51 m)
    (stop := stop51 m) goodS rfl (fun _ => Nat.zero_le _) (fun i => next51 m i) (fun i hi hno => round51 m i hi) (fun i hi => ?_) (sel51_pin m)
    ⟨256, Nat.le_refl _, by simp [stop51]⟩ (fun i r hr => ?_) (fun i r hi hno hr fr' s' hS hG => ?_) hS1 (hgn.trans hG1)
  · unfold stop51
    by_cases hlt : i < 256
    · rw [if_pos hlt]; exact plain51 m (i + 1) _ _
    · rw [if_neg hlt]; exact plain51 m i _ _
  · unfold stop51 at hr
    split at hr
    · cases hr
    · cases hr; intro e; cases e
  · unfold stop51 at hr
    by_cases hlt : i < 256
    · rw [if_pos hlt] at hr; cases hr
    · rw [if_neg hlt] at hr
      cases hr
      have e : i = 256 := by omega
      subst e
      exact ⟨hG, .inl rfl, ⟨_, rfl⟩, _, _, _, .normal, hS, get51 m 256, rfl, rfl, rfl, rfl⟩
theorem i52_fnS : cfS.fns 52 = some { body := b52, nt := ntOf 52, results := [], pure := false } := by kernel_rfl
theorem i51_fn : cfS.fns 51 = some { body := b51, nt := ntOf 51, results := [.tmp 4], pure := false } := by kernel_rfl
theorem ev51_k : (fun a b c d : Int => (frA51 a b c d).gev cfS (.tmp 6)) = fun a b c d => some (seqV a b c d) := by kernel_rfl
theorem ev51 (a b c d : Int) : (frA51 a b c d).gev cfS (.tmp 6) = some (seqV a b c d) := congrFun (congrFun (congrFun (congrFun ev51_k a) b) c) d
theorem nt51 : ntOf 51 = 13 := by kernel_rfl
/-- what it answers -/
def xLst (m : B256) : Value × St := bif Nat.beq (cntB m 256) 0 then (nilS, st0) else (.slice (some ⟨0, 0, none⟩) (cntB m 256) (cntB m 256), st0.new (.cells (lstE m 256) 1 true))
theorem ok51 [Z : Zone] [T : Tab] {B : Nat} {m : B256} :
    AWp cfS ⟨0, B⟩ cz b51 (frame0 51 (ntOf 51) #[nilS, seqV (wd m 0) (wd m 1) (wd m 2) (wd m 3)]) st0 (RowL B 4 (xLst m)) := by
  rw [b51_eq]
  refine AWp.nestFirst (n := 60) (lim := 60) goodS (of_treeM tS_ok (s51a ..)) trivial (Nat.zero_le _) fun fr1 s1 hS1 => ?_
  refine AWp.seq (AWp.seq (AWp.seen goodS rfl hS1 (Nat.zero_le _) (of_treeM tS_ok (s51b ..)) trivial fun fr2 s2 hS2 hG2 => ⟨hG2, ?_⟩))
  refine AWp.block (AWp.rangeSn goodS rfl hS2 rfl (ev51 ..) i52_fnS (by rw [nt52]; show 2 ≤ 17; omega) (Q := fun ee sY => ee = .normal ∧ sY = unl 1 (st51 m 256)) it51 fun ex sY fr3 s3 hQ hS3 hG3 => ?_)
  obtain ⟨rfl, rfl⟩ := hQ
  refine ⟨hG2.trans hG3, ?_⟩
  unfold st51 at hS3
  unfold xLst
  cases hz : Nat.beq (cntB m 256) 0 with
  | true =>
    rw [hz] at hS3
    exact AWp.row goodS rfl hS3 (.inr rfl) (of_treeM tS_ok (s51c ..)) trivial (by simp [frS, tmS, Tr.get_put]) (.inr ⟨rfl, rfl⟩)
  | false =>
    rw [hz] at hS3
    refine AWp.row goodS rfl hS3 (.inr rfl) (of_treeM tS_ok (s51d _ _ _ _ (cntB m 256) (lstE m 256))) ⟨(lstE_plain m 256).2.2, trivial⟩ (by simp [frS, tmS, Tr.get_put]) (.inl ⟨_, _, lstE m 256, 1, true, rfl, ?_, (lstE_plain m 256).1, (lstE_plain m 256).2.1⟩)
    simp [stS, hpS, Tr.get_put]
end
end Go.Proofs.YtmpokdnpkjcnbaaDoor

/- List: told. -/
namespace Go.Proofs.YtmpokdnpkjcnbaaDoor
open Go.Am
noncomputable section
/-- a row of numbers, left open -/
structure Gs where
  L : Int → Int → Int → Int → Nat
  E : Int → Int → Int → Int → Array Value
def rowD (p : Gs) (a b c d : Int) : DT (Option (Value × St)) := .must (inQ a b c d) (.node (Nat.beq (p.L a b c d) 0) (.leaf (some (nilS, st0))) (.leaf (some (.slice (some ⟨0, 0, none⟩) (p.L a b c d) (p.L a b c d), st0.new (.cells (p.E a b c d) 1 true))))) (.leaf none)
def seqD (p : Gs) : Array Value → DT (Option (Value × St))
  | ⟨[.slice none 0 0, .func (.func 52) ⟨[]⟩ ⟨[.func (.methodOf 0 nm) ⟨[.int .u64 a, .int .u64 b, .int .u64 c, .int .u64 d]⟩ ⟨[.slice none 0 0]⟩]⟩]⟩ => .must (decide (nm = "")) (rowD p a b c d) (.leaf none)
  | _ => .leaf none
def g0 : Gs := ⟨fun a b c d => cntN a b c d 256, fun a b c d => lstE (ofI a b c d) 256⟩
theorem g0_wd (m : B256) : g0.L (wd m 0) (wd m 1) (wd m 2) (wd m 3) = cntB m 256 ∧ g0.E (wd m 0) (wd m 1) (wd m 2) (wd m 3) = lstE m 256 := by
  unfold g0
  dsimp only
  rw [cntN_wd, ofI_wd]
  exact ⟨rfl, rfl⟩
theorem rowD_eval (m : B256) : (rowD g0 (wd m 0) (wd m 1) (wd m 2) (wd m 3)).eval = some (xLst m) := by
  unfold rowD xLst
  rw [DT.eval_must, wd_inQ, cond_true, DT.eval_node, (g0_wd m).1, (g0_wd m).2]
  cases Nat.beq (cntB m 256) 0 <;> rfl
theorem tells51 [Z : Zone] [T : Tab] : Tells cfS 51 fun a => (seqD g0 a).eval := by
  refine tells_row goodS rfl i51_fn (t := 4) rfl fun args x hx => ?_
  unfold seqD at hx
  split at hx
  · rename_i nm a b c d
    rw [DT.eval_must] at hx
    cases hnm : decide (nm = "") with
    | false => rw [hnm] at hx; cases hx
    | true =>
    rw [hnm, cond_true] at hx
    have hnm := of_decide_eq_true hnm
    subst hnm
    cases h : inQ a b c d with
    | false => unfold rowD at hx; rw [DT.eval_must, h] at hx; cases hx
    | true =>
      obtain ⟨m, rfl, rfl, rfl, rfl⟩ := wd_rep h
      rw [rowD_eval] at hx
      cases hx
      exact ⟨by simp [freeN], by rw [nt51]; show 2 ≤ 13; omega, fun b => ok51⟩
  · cases hx
def TT : FuncId → Option (Array Value → DT (Option (Value × St)))
  | 51 => some (seqD g0)
  | _ => none
def cfT : Cfg := cfS.frzRN TT
instance tabAll [Z : Zone] [T : Tab] (φ : Nat → Pl) (c : Ctx) (s : St) : @Tab (zAll Z φ c s) := @Tab.mk (zAll Z φ c s) T.row T.size T.syn T.synV T.rng T.rngV
theorem goodT [Z : Zone] [T : Tab] (B : Base) : Go.Am.Good cfT B := frzRN_good (fun B => goodS B) rfl (fun f F h => by
  unfold TT at h
  split at h
  · cases h; exact ⟨⟨_, i51_fn⟩, fun φ c s => @tells51 (zAll Z φ c s) (tabAll φ c s)⟩
  · cases h) B
def tT : FuncId → Option HandT := treeFN TT tS
theorem tT_ok : ∀ f k hd, tT f = some k → cfT.hand f = some hd → ∀ a c s, (k a c s).eval = hd a c s := treeFN_ok tS_ok
def tTo (p : Gs) : FuncId → Option HandT
  | 51 => some (frzRTN (seqD p))
  | f => tT f
theorem tTo_eq : tTo g0 = tT := by
  funext f
  unfold tTo
  split <;> rfl
theorem tTo_ok : ∀ f k hd, tTo g0 f = some k → cfT.hand f = some hd → ∀ a c s, (k a c s).eval = hd a c s := by rw [tTo_eq]; exact tT_ok
def b17 : Code := bodyOf 17
theorem b17_eq : b17 = nest [cL b17] (cR b17) := by kernel_rfl
def frA17 (a b c d : Int) : Fr := { fn := 17, nt := ntOf 17, tm := .nil, pt := Tr.nil.put 1 (1, 0), loc := Tr.nil.put 1 (mkC a b c d), round := none }
theorem s17a_k : (fun (p : Gs) (a b c d : Int) => (codeT cfT (callT cfT (tTo p) 60) 60 cz (seqOf [cL b17]) (frame0 17 (ntOf 17) #[mk a b c d]) st0).evalM (gcObs 0 0 (kp [1] []))) = fun (_ : Gs) (a b c d : Int) => some (.normal, frA17 a b c d, st0) := by kernel_rfl
theorem s17a (p : Gs) (a b c d : Int) : (codeT cfT (callT cfT (tTo p) 60) 60 cz (seqOf [cL b17]) (frame0 17 (ntOf 17) #[mk a b c d]) st0).evalM (gcObs 0 0 (kp [1] [])) = some (.normal, frA17 a b c d, st0) := congrFun (congrFun (congrFun (congrFun (congrFun s17a_k p) a) b) c) d
def s17b_bits : List Bool := [true, true, true, true, true, true, true]
def s17b_c (p : Gs) (a b c d : Int) : Bool :=
  (inQ a b c d)
   && ((Nat.beq (p.L a b c d) 0)
   && true)
theorem s17b_cond_k : (fun (p : Gs) (a b c d : Int) => (followT s17b_bits (codeT cfT (callT cfT (tTo p) 60) 60 cz (cR b17) (frA17 a b c d) st0)).1) = fun (p : Gs) (a b c d : Int) => s17b_c p a b c d := by kernel_rfl
theorem s17b_cond (p : Gs) (a b c d : Int) : (followT s17b_bits (codeT cfT (callT cfT (tTo p) 60) 60 cz (cR b17) (frA17 a b c d) st0)).1 = s17b_c p a b c d := congrFun (congrFun (congrFun (congrFun (congrFun s17b_cond_k p) a) b) c) d
theorem s17b_leaf_k : (fun (p : Gs) (a b c d : Int) => pathObs (gcObs 0 0 (kp [2] [])) s17b_bits (codeT cfT (callT cfT (tTo p) 60) 60 cz (cR b17) (frA17 a b c d) st0)) = fun (_ : Gs) (_ _ _ _ : Int) => some (.ret, frS 17 [(2, nilS)], st0) := by kernel_rfl
theorem s17b_leaf (p : Gs) (a b c d : Int) : pathObs (gcObs 0 0 (kp [2] [])) s17b_bits (codeT cfT (callT cfT (tTo p) 60) 60 cz (cR b17) (frA17 a b c d) st0) = some (.ret, frS 17 [(2, nilS)], st0) := congrFun (congrFun (congrFun (congrFun (congrFun s17b_leaf_k p) a) b) c) d
def s17c_bits : List Bool := [true, true, true, true, true, true, false, true]
def s17c_c (p : Gs) (a b c d : Int) : Bool :=
  (inQ a b c d)
   && (!(Nat.beq (p.L a b c d) 0)
   && ((Array.all (p.E a b c d) (plainN 6) && Array.all (p.E a b c d) (freeN 6))
   && true))
theorem s17c_cond_k : (fun (p : Gs) (a b c d : Int) => (followT s17c_bits (codeT cfT (callT cfT (tTo p) 60) 60 cz (cR b17) (frA17 a b c d) st0)).1) = fun (p : Gs) (a b c d : Int) => s17c_c p a b c d := by kernel_rfl
theorem s17c_cond (p : Gs) (a b c d : Int) : (followT s17c_bits (codeT cfT (callT cfT (tTo p) 60) 60 cz (cR b17) (frA17 a b c d) st0)).1 = s17c_c p a b c d := congrFun (congrFun (congrFun (congrFun (congrFun s17c_cond_k p) a) b) c) d
theorem s17c_leaf_k : (fun (p : Gs) (a b c d : Int) => pathObs (gcObs 0 0 (kp [2] [.plain 1])) s17c_bits (codeT cfT (callT cfT (tTo p) 60) 60 cz (cR b17) (frA17 a b c d) st0)) = fun (p : Gs) (a b c d : Int) => some (.ret, frS 17 [(2, .slice (some ⟨0, 0, none⟩) (p.L a b c d) (p.L a b c d))], stS [(0, .cells (p.E a b c d) 1 true)] 1) := by kernel_rfl
theorem s17c_leaf (p : Gs) (a b c d : Int) : pathObs (gcObs 0 0 (kp [2] [.plain 1])) s17c_bits (codeT cfT (callT cfT (tTo p) 60) 60 cz (cR b17) (frA17 a b c d) st0) = some (.ret, frS 17 [(2, .slice (some ⟨0, 0, none⟩) (p.L a b c d) (p.L a b c d))], stS [(0, .cells (p.E a b c d) 1 true)] 1) := congrFun (congrFun (congrFun (congrFun (congrFun s17c_leaf_k p) a) b) c) d
end
end Go.Proofs.YtmpokdnpkjcnbaaDoor
