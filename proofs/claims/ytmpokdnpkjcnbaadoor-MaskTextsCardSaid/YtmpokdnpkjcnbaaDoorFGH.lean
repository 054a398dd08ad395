import Derived.Test.YtmpokdnpkjcnbaaDoorCDE
import Derived.Test.YtmpokdnpkjcnbaaDoorAmEff
/- How many cores has a mask? -/
namespace Go.Proofs.YtmpokdnpkjcnbaaDoor
open Go.Am
noncomputable section
def bodyOf (f : FuncId) : Code := match cfg.fns f with | some i => i.body | none => .skip
def ntOf (f : FuncId) : Nat := match cfg.fns f with | some i => i.nt | none => 0
def tmS : List (Nat × Value) → Tr Value → Tr Value
  | [], t => t
  | x :: r, t => tmS r (t.put x.1 x.2)
def frS (f : FuncId) (L : List (Nat × Value)) : Fr := { fn := f, nt := ntOf f, tm := tmS L .nil, pt := .nil, loc := .nil, round := none }
def hpS : List (Nat × AObj) → Tr AObj → Tr AObj
  | [], t => t
  | x :: r, t => hpS r (t.put x.1 x.2)
def stS (L : List (Nat × AObj)) (n : Nat) : St := ⟨hpS L .nil, n⟩
def cN : Nat → Code → Code
  | 0, c => c
  | n + 1, c => cN n (cR c)
def pt' (i : Nat) : Value := .pointer (some ⟨i, 0, none⟩)
def kp (L : List Tmp) (ks : List Kept) : Ex → List Tmp × List Kept := fun _ => (L, ks)
def showH (L : List Nat) (K : List Nat) : Option (Ex × Fr × St) → Option (Ex × (FuncId × Nat × Option Nat) × List (Option Value) × List (Option (Nat × Nat)) × List (Option AObj) × Nat)
  | some (ex, fr, s) => some (ex, (fr.fn, fr.nt, fr.round), L.map fr.tm.get, L.map fr.pt.get, K.map s.heap.get, s.next)
  | none => none
def assignOf : Code → Code
  | .rangeFunc _ _ a _ => a
  | c => c
def rbodyOf : Code → Code
  | .rangeFunc _ _ _ b => b
  | c => c
def b18 : Code := bodyOf 18
def b52 : Code := bodyOf 52
def rng18 : Code := cB (cR (cL (cN 2 b18)))
def k52 : Code := cB (cB (cR b52))
theorem b18_eq : b18 = nest [cL b18, cL (cN 1 b18)] (.seq (.seq (cL (cL (cN 2 b18))) (.block 0 (.rangeFunc (.tmp 5) #[6] (assignOf rng18) (rbodyOf rng18)))) (cN 3 b18)) := by kernel_rfl
theorem b52_eq : b52 = .seq (cL b52) (.block 0 (.loop k52)) := by kernel_rfl
def mkC (a b c d : Int) : Array Value := ⟨[.int .u64 a, .int .u64 b, .int .u64 c, .int .u64 d]⟩
def frZ18 (a b c d : Int) : Fr := { fn := 18, nt := ntOf 18, tm := tmS [(3, pt' 0)] .nil, pt := Tr.nil.put 1 (1, 0), loc := Tr.nil.put 1 (mkC a b c d), round := none }
def sZ18 : St := stS [(0, .cells #[.int .i64 0] 1 false)] 1
def frA18 : Fr := frS 18 [(3, pt' 0), (5, .func (.func 52) #[] #[pt' 1])]
def hp18 (a b c d n : Int) : List (Nat × AObj) := [(0, .cells #[.int .i64 n] 1 false), (1, .cells (mkC a b c d) 1 false)]
def sA18 (a b c d n : Int) : St := stS (hp18 a b c d n) 2
def loop18 (tm : Tr Value) (st : LoopState) (pd : Option Code) : LoopRec := { fn := 18, nt := ntOf 18, tm := tm, params := #[6], assign := assignOf rng18, body := rbodyOf rng18, state := st, pending := pd }
def tmL18 : Tr Value := tmS [(3, pt' 0)] .nil
def sL18 (a b c d n : Int) : St := stS (hp18 a b c d n ++ [(2, .loop (loop18 tmL18 .ready none))]) 3
def fr52 (y : Nat) (i : Int) : Fr := frS 52 [(0, .func (.yield y) #[] #[]), (1, pt' 1), (4, .int .i64 i)]
def sel52 : Ex → List Tmp × List Kept := fun _ => ([0, 1, 4], [.cells 0, .cells 1, .loop 2 [3]])
def inc (i : Int) : Int := IntKind.wrap .i64 (i + 1)
def unl (y : Nat) (s : St) : St := { s with heap := s.heap.set y none }
theorem s18a_k : (fun (a b c d : Int) => (codeT cfB (callT cfB tB 60) 60 cz (seqOf [cL b18, cL (cN 1 b18)]) (frame0 18 (ntOf 18) #[mk a b c d]) st0).evalM (gcObs 0 0 (kp [1, 3] [.cells 0]))) = fun (a b c d : Int) => some (.normal, frZ18 a b c d, sZ18) := by kernel_rfl
theorem s18a (a b c d : Int) : (codeT cfB (callT cfB tB 60) 60 cz (seqOf [cL b18, cL (cN 1 b18)]) (frame0 18 (ntOf 18) #[mk a b c d]) st0).evalM (gcObs 0 0 (kp [1, 3] [.cells 0])) = some (.normal, frZ18 a b c d, sZ18) := congrFun (congrFun (congrFun (congrFun s18a_k a) b) c) d
theorem s18b_k : (fun (a b c d : Int) => (codeT cfB (callT cfB tB 60) 60 cz (cL (cL (cN 2 b18))) (frZ18 a b c d) sZ18).evalM (gcObs 0 0 (kp [3, 5] [.cells 0, .cells 1]))) = fun (a b c d : Int) => some (.normal, frA18, sA18 a b c d 0) := by kernel_rfl
theorem s18b (a b c d : Int) : (codeT cfB (callT cfB tB 60) 60 cz (cL (cL (cN 2 b18))) (frZ18 a b c d) sZ18).evalM (gcObs 0 0 (kp [3, 5] [.cells 0, .cells 1])) = some (.normal, frA18, sA18 a b c d 0) := congrFun (congrFun (congrFun (congrFun s18b_k a) b) c) d
theorem i52_k : (fun (a b c d : Int) => (codeT cfB (callT cfB tB 60) 60 cz (seqOf [cL b52]) (frame0 52 (ntOf 52) #[.func (.yield 2) #[] #[], pt' 1]) ((sA18 a b c d 0).new (.loop (loop18 frA18.tm .ready none)))).evalM (gcObs 0 0 sel52)) = fun (a b c d : Int) => some (.normal, fr52 2 0, sL18 a b c d 0) := by kernel_rfl
theorem i52 (a b c d : Int) : (codeT cfB (callT cfB tB 60) 60 cz (seqOf [cL b52]) (frame0 52 (ntOf 52) #[.func (.yield 2) #[] #[], pt' 1]) ((sA18 a b c d 0).new (.loop (loop18 frA18.tm .ready none)))).evalM (gcObs 0 0 sel52) = some (.normal, fr52 2 0, sL18 a b c d 0) := congrFun (congrFun (congrFun (congrFun i52_k a) b) c) d
theorem r52_k : (fun (a b c d n i : Int) => (codeT cfB (callT cfB tB 60) 60 cz k52 (fr52 2 i) (sL18 a b c d n)).evalM (gcObs 0 0 sel52)) = fun (a b c d n i : Int) => bif decide (i < 256) then (bif inQ a b c d then (bif hasB a b c d i then some (.normal, fr52 2 (inc i), sL18 a b c d (inc n)) else some (.normal, fr52 2 (inc i), sL18 a b c d n)) else none) else some (.exit 0, fr52 2 i, sL18 a b c d n) := by kernel_rfl
theorem r52 (a b c d n i : Int) : (codeT cfB (callT cfB tB 60) 60 cz k52 (fr52 2 i) (sL18 a b c d n)).evalM (gcObs 0 0 sel52) = bif decide (i < 256) then (bif inQ a b c d then (bif hasB a b c d i then some (.normal, fr52 2 (inc i), sL18 a b c d (inc n)) else some (.normal, fr52 2 (inc i), sL18 a b c d n)) else none) else some (.exit 0, fr52 2 i, sL18 a b c d n) := congrFun (congrFun (congrFun (congrFun (congrFun (congrFun r52_k a) b) c) d) n) i
theorem s18c_k : (fun (a b c d n : Int) => (codeT cfB (callT cfB tB 60) 60 cz (cN 3 b18) frA18 (unl 2 (sL18 a b c d n))).evalM (gcObs 0 0 (kp [2] []))) = fun (_ _ _ _ n : Int) => some (.ret, frS 18 [(2, .int .i64 n)], st0) := by kernel_rfl
theorem s18c (a b c d n : Int) : (codeT cfB (callT cfB tB 60) 60 cz (cN 3 b18) frA18 (unl 2 (sL18 a b c d n))).evalM (gcObs 0 0 (kp [2] [])) = some (.ret, frS 18 [(2, .int .i64 n)], st0) := congrFun (congrFun (congrFun (congrFun (congrFun s18c_k a) b) c) d) n
end
end Go.Proofs.YtmpokdnpkjcnbaaDoor

/- How many cores has a mask? Told. -/
namespace Go.Proofs.YtmpokdnpkjcnbaaDoor
open Go.Am
noncomputable section
/-- how many of the first numbers are cores of a mask -/
def cntN (a b c d : Int) : Nat → Nat
  | 0 => 0
  | i + 1 => cond (hasB a b c d (i : Nat)) (cntN a b c d i + 1) (cntN a b c d i)
theorem cntN_le (a b c d : Int) (i : Nat) : cntN a b c d i ≤ i := by
  induction i with
  | zero => exact Nat.le_refl _
  | succ i ih =>
    unfold cntN
    cases hasB a b c d (i : Nat) <;> simp <;> omega
theorem incN {i : Nat} (h : i ≤ 4294967296) : inc (i : Int) = ((i + 1 : Nat) : Int) := by
  unfold inc
  rw [wrapI (by omega) (by omega)]
  push_cast
  rfl
theorem sel52_pin (ex : Ex) : pinned 3 (sel52 ex).2 := ⟨by show 3 ≤ 3; omega, fun j hj => by
  match j, hj with
  | 0, _ => rfl
  | 1, _ => rfl
  | 2, _ => rfl⟩
theorem get2 (a b c d n : Int) : (sL18 a b c d n).heap.get 2 = some (.loop (loop18 tmL18 .ready none)) := by
  simp [sL18, stS, hpS, hp18, Tr.get_put]
theorem it52 [Z : Zone] [T : Tab] {B : Nat} {a b c d : Int} (h : inQ a b c d = true) :
    AWp cfB ⟨0, B⟩ cz b52 (frame0 52 (ntOf 52) #[.func (.yield 2) #[] #[], pt' 1]) ((sA18 a b c d 0).new (.loop (loop18 frA18.tm .ready none)))
      fun ex fr1 s1 => Grow cz (sA18 a b c d 0) s1 ∧ (ex = .normal ∨ ex = .ret) ∧ (∃ v, resultsV cfB cz fr1 s1 [] = some v) ∧ ∃ frX sX lX ee, SnP (2 + 1) ⟨0, B⟩ 0 0 cz frX sX fr1 s1 ∧ sX.heap.get 2 = some (.loop lX) ∧ exitOf lX.pending = some ee ∧ (lX.state != .busy) = true ∧
        (ee = .normal ∧ unl 2 sX = unl 2 (sL18 a b c d (cntN a b c d 256 : Nat))) := by
  rw [b52_eq]
  have hgn : Grow cz (sA18 a b c d 0) ((sA18 a b c d 0).new (.loop (loop18 frA18.tm .ready none))) := Grow.new _ _ _
  refine AWp.nestP (n := 60) (lim := 60) (m := 3) (ps := [cL b52]) (rest := .block 0 (.loop k52)) (sel := sel52) (frj := fr52 2 0) (sj := sL18 a b c d 0) goodB (of_treeM tB_ok (i52 a b c d)) trivial (sel52_pin _) (Nat.zero_le _) fun fr1 s1 hS1 hG1 => ?_
  refine AWp.block ?_
  refine AWp.countP (m := 3) (N := 256) (head := fun i => fr52 2 i) (sh := fun i => sL18 a b c d (cntN a b c d i : Nat)) (sel := sel52)
    (stop := fun i => if i < 256 then none else some (.exit 0, fr52 2 i, sL18 a b c d (cntN a b c d i : Nat))) goodB rfl (fun _ => Nat.zero_le _) (fun _ => Nat.le_refl 3) (fun i hi _ => of_treeM tB_ok ((r52 a b c d _ i).trans ?_)) (fun i hi => ?_) sel52_pin
    ⟨256, Nat.le_refl _, by simp⟩ (fun i r hr => ?_) (fun i r hi hno hr fr' s' hS hG => ?_) hS1 (hgn.trans hG1)
  · by_cases hlt : i < 256
    · have hli : ((i : Nat) : Int) < 256 := by omega
      rw [decide_eq_true hli, cond_true, h, cond_true, if_pos hlt, incN (by omega)]
      have hc := cntN_le a b c d i
      have e : cntN a b c d (i + 1) = cond (hasB a b c d (i : Nat)) (cntN a b c d i + 1) (cntN a b c d i) := rfl
      cases hh : hasB a b c d (i : Nat) with
      | true => rw [hh, cond_true] at e; rw [cond_true, incN (by omega), e]
      | false => rw [hh, cond_false] at e; rw [cond_false, e]
    · have hli : ¬ ((i : Nat) : Int) < 256 := by omega
      rw [decide_eq_false hli, cond_false, if_neg hlt]
  · split <;> trivial
  · split at hr
    · cases hr
    · cases hr; intro e; cases e
  · by_cases hlt : i < 256
    · simp only [hlt, if_true] at hr; cases hr
    · simp only [hlt, if_false] at hr
      cases hr
      have e : i = 256 := by omega
      subst e
      exact ⟨hG, .inl rfl, ⟨_, rfl⟩, _, _, _, .normal, hS, get2 _ _ _ _ _, rfl, rfl, rfl, rfl⟩
theorem i52_fn : cfB.fns 52 = some { body := b52, nt := ntOf 52, results := [], pure := false } := by kernel_rfl
theorem i18_fn : cfB.fns 18 = some { body := b18, nt := ntOf 18, results := [.tmp 2], pure := false } := by kernel_rfl
theorem ev18 : frA18.gev cfB (.tmp 5) = some (.func (.func 52) #[] #[pt' 1]) := by kernel_rfl
theorem nt52 : ntOf 52 = 17 := by kernel_rfl
theorem nt18 : ntOf 18 = 10 := by kernel_rfl
theorem res18 : (fun n : Int => resultsV cfB cz (frS 18 [(2, .int .i64 n)]) st0 [.tmp 2]) = fun n => some (.int .i64 n) := by kernel_rfl
theorem ok18 [Z : Zone] [T : Tab] {B : Nat} {a b c d : Int} (h : inQ a b c d = true) :
    AWp cfB ⟨0, B⟩ cz b18 (frame0 18 (ntOf 18) #[mk a b c d]) st0 fun ex fr' s' => (ex = .normal ∨ ex = .ret) ∧ ∃ frj sj, Sn ⟨0, B⟩ 0 0 cz frj sj fr' s' ∧ resultsV cfB cz frj sj [.tmp 2] = some (.int .i64 (cntN a b c d 256 : Nat)) := by
  rw [b18_eq]
  refine AWp.nestFirst (n := 60) (lim := 60) goodB (of_treeM tB_ok (s18a a b c d)) trivial (Nat.zero_le _) fun fr1 s1 hS1 => ?_
  refine AWp.seq (AWp.seq (AWp.seen goodB rfl hS1 (Nat.zero_le _) (of_treeM tB_ok (s18b a b c d)) trivial fun fr2 s2 hS2 hG2 => ⟨hG2, ?_⟩))
  refine AWp.block (AWp.rangeSn goodB rfl hS2 rfl ev18 i52_fn (by rw [nt52]; show 2 ≤ 17; omega) (Q := fun ee sY => ee = .normal ∧ sY = unl 2 (sL18 a b c d (cntN a b c d 256 : Nat))) (it52 h) fun ex sY fr3 s3 hQ hS3 hG3 => ?_)
  obtain ⟨rfl, rfl⟩ := hQ
  refine ⟨hG2.trans hG3, ?_⟩
  exact AWp.seen goodB rfl hS3 (Nat.zero_le _) (of_treeM tB_ok (s18c a b c d _)) trivial fun fr4 s4 hS4 _ => ⟨.inr rfl, _, _, hS4, congrFun res18 _⟩
def cntD : Array Value → DT (Option (Value × St))
  | ⟨[.agg ⟨[.int .u64 a, .int .u64 b, .int .u64 c, .int .u64 d]⟩]⟩ => .must (inQ a b c d) (.leaf (some (.int .i64 (cntN a b c d 256 : Nat), st0))) (.leaf none)
  | _ => .leaf none
theorem tells18 [Z : Zone] [T : Tab] : Tells cfB 18 fun a => (cntD a).eval := by
  refine tells_seen goodB rfl i18_fn fun args x hx => ?_
  unfold cntD at hx
  split at hx
  · rename_i a b c d
    rw [DT.eval_must] at hx
    cases h : inQ a b c d with
    | false => rw [h] at hx; cases hx
    | true =>
      rw [h, cond_true, DT.eval_leaf] at hx
      cases hx
      exact ⟨by simp [freeN], by rw [nt18]; show 1 ≤ 10; omega, _, rfl, by simp [freeN], fun b => ok18 h⟩
  · cases hx
end
end Go.Proofs.YtmpokdnpkjcnbaaDoor

/- Some answers that the document gives. -/
namespace Go.Proofs.YtmpokdnpkjcnbaaDoor
open Go.Am
noncomputable section
def TC : FuncId → Option (Array Value → DT (Option (Value × St)))
  | 18 => some cntD
  | _ => none
def cfC : Cfg := cfB.told TC
theorem goodC [Z : Zone] [T : Tab] (B : Base) : Go.Am.Good cfC B := tells_good (fun B => goodB B) (fun f F h => by
  unfold TC at h
  split at h
  · cases h; exact ⟨⟨_, i18_fn⟩, tells18⟩
  · cases h) B
def tC : FuncId → Option HandT := treeT TC tB
theorem tC_ok : ∀ f k hd, tC f = some k → cfC.hand f = some hd → ∀ a c s, (k a c s).eval = hd a c s := treeT_ok tB_ok
end
end Go.Proofs.YtmpokdnpkjcnbaaDoor
