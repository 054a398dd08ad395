/- How many cores has a mask? Told. -/
import Derived.Test.YtmpokdnpkjcnbaaDoorF
namespace Go.Proofs.YtmpokdnpkjcnbaaDoor
open Go.Am
noncomputable section
/-- how many of the first numbers are cores of a mask -/
def cntN (a b c d : Int) : Nat → Nat
  | 0 => 0
  | i + 1 => cond (hasB a b c d (i : Nat)) (cntN a b c d i + 1) (cntN a b c d i)
theorem cntN_le (a b c d : Int) (i : Nat) : cntN a b c d i ≤ i := by
  induction i with
  | zero => exact Nat.le_refl _
  | succ i ih =>
    unfold cntN
    cases hasB a b c d (i : Nat) <;> simp <;> omega
theorem incN {i : Nat} (h : i ≤ 4294967296) : inc (i : Int) = ((i + 1 : Nat) : Int) := by
  unfold inc
  rw [wrapI (by omega) (by omega)]
  push_cast
  rfl
theorem sel52_pin (ex : Ex) : pinned 3 (sel52 ex).2 := ⟨by show 3 ≤ 3; omega, fun j hj => by
  match j, hj with
  | 0, _ => rfl
  | 1, _ => rfl
  | 2, _ => rfl⟩
theorem get2 (a b c d n : Int) : (sL18 a b c d n).heap.get 2 = some (.loop (loop18 tmL18 .ready none)) := by
  simp [sL18, stS, hpS, hp18, Tr.get_put]
theorem it52 [Z : Zone] [T : Tab] {B : Nat} {a b c d : Int} (h : inQ a b c d = true) :
    AWp cfB ⟨0, B⟩ cz b52 (frame0 52 (ntOf 52) #[.func (.yield 2) #[] #[], pt' 1]) ((sA18 a b c d 0).new (.loop (loop18 frA18.tm .ready none)))
      fun ex fr1 s1 => Grow cz (sA18 a b c d 0) s1 ∧ (ex = .normal ∨ ex = .ret) ∧ (∃ v, resultsV cfB cz fr1 s1 [] = some v) ∧ ∃ frX sX lX ee, SnP (2 + 1) ⟨0, B⟩ 0 0 cz frX sX fr1 s1 ∧ sX.heap.get 2 = some (.loop lX) ∧ exitOf lX.pending = some ee ∧ (lX.state != .busy) = true ∧
        (ee = .normal ∧ unl 2 sX = unl 2 (sL18 a b c d (cntN a b c d 256 : Nat))) := by
  rw [b52_eq]
  have hgn : Grow cz (sA18 a b c d 0) ((sA18 a b c d 0).new (.loop (loop18 frA18.tm .ready none))) := Grow.new _ _ _
  refine AWp.nestP (n := 60) (lim := 60) (m := 3) (ps := [cL b52]) (rest := .block 0 (.loop k52)) (sel := sel52) (frj := fr52 2 0) (sj := sL18 a b c d 0) goodB (of_treeM tB_ok (i52 a b c d)) trivial (sel52_pin _) (Nat.zero_le _) fun fr1 s1 hS1 hG1 => ?_
  refine AWp.block ?_
  refine AWp.countP (m := 3) (N := 256) (head := fun i => fr52 2 i) (sh := fun i => sL18 a b c d (cntN a b c d i : Nat)) (sel := sel52)
    (stop := fun i => if i < 256 then none else some (.exit 0, fr52 2 i, sL18 a b c d (cntN a b c d i : Nat))) goodB rfl (fun _ => Nat.zero_le _) (fun _ => Nat.le_refl 3) (fun i hi _ => of_treeM tB_ok ((r52 a b c d _ i).trans ?_)) (fun i hi => ?_) sel52_pin
    ⟨256, Nat.le_refl _, by simp⟩ (fun i r hr => ?_) (fun i r hi hno hr fr' s' hS hG => ?_) hS1 (hgn.trans hG1)
  · by_cases hlt : i < 256
    · have hli : ((i : Nat) : Int) < 256 := by omega
      rw [decide_eq_true hli, cond_true, h, cond_true, if_pos hlt, incN (by omega)]
      have hc := cntN_le a b c d i
      have e : cntN a b c d (i + 1) = cond (hasB a b c d (i : Nat)) (cntN a b c d i + 1) (cntN a b c d i) := rfl
      cases hh : hasB a b c d (i : Nat) with
      | true => rw [hh, cond_true] at e; rw [cond_true, incN (by omega), e]
      | false => rw [hh, cond_false] at e; rw [cond_false, e]
    · have hli : ¬ ((i : Nat) : Int) < 256 := by omega
      rw [decide_eq_false hli, cond_false, if_neg hlt]
  · split <;> trivial
  · split at hr
    · cases hr
    · cases hr; intro e; cases e
  · by_cases hlt : i < 256
    · simp only [hlt, if_true] at hr; cases hr
    · simp only [hlt, if_false] at hr
      cases hr
      have e : i = 256 := by omega
      subst e
      exact ⟨hG, .inl rfl, ⟨_, rfl⟩, _, _, _, .normal, hS, get2 _ _ _ _ _, rfl, rfl, rfl, rfl⟩
theorem i52_fn : cfB.fns 52 = some { body := b52, nt := ntOf 52, results := [], pure := false } := by kernel_rfl
theorem i18_fn : cfB.fns 18 = some { body := b18, nt := ntOf 18, results := [.tmp 2], pure := false } := by kernel_rfl
theorem ev18 : frA18.gev cfB (.tmp 5) = some (.func (.func 52) #[] #[pt' 1]) := by kernel_rfl
theorem nt52 : ntOf 52 = 17 := by kernel_rfl
theorem nt18 : ntOf 18 = 10 := by kernel_rfl
theorem res18 : (fun n : Int => resultsV cfB cz (frS 18 [(2, .int .i64 n)]) st0 [.tmp 2]) = fun n => some (.int .i64 n) := by kernel_rfl
theorem ok18 [Z : Zone] [T : Tab] {B : Nat} {a b c d : Int} (h : inQ a b c d = true) :
    AWp cfB ⟨0, B⟩ cz b18 (frame0 18 (ntOf 18) #[mk a b c d]) st0 fun ex fr' s' => (ex = .normal ∨ ex = .ret) ∧ ∃ frj sj, Sn ⟨0, B⟩ 0 0 cz frj sj fr' s' ∧ resultsV cfB cz frj sj [.tmp 2] = some (.int .i64 (cntN a b c d 256 : Nat)) := by
  rw [b18_eq]
  refine AWp.nestFirst (n := 60) (lim := 60) goodB (of_treeM tB_ok (s18a a b c d)) trivial (Nat.zero_le _) fun fr1 s1 hS1 => ?_
  refine AWp.seq (AWp.seq (AWp.seen goodB rfl hS1 (Nat.zero_le _) (of_treeM tB_ok (s18b a b c d)) trivial fun fr2 s2 hS2 hG2 => ⟨hG2, ?_⟩))
  refine AWp.block (AWp.rangeSn goodB rfl hS2 rfl ev18 i52_fn (by rw [nt52]; show 2 ≤ 17; omega) (Q := fun ee sY => ee = .normal ∧ sY = unl 2 (sL18 a b c d (cntN a b c d 256 : Nat))) (it52 h) fun ex sY fr3 s3 hQ hS3 hG3 => ?_)
  obtain ⟨rfl, rfl⟩ := hQ
  refine ⟨hG2.trans hG3, ?_⟩
  exact AWp.seen goodB rfl hS3 (Nat.zero_le _) (of_treeM tB_ok (s18c a b c d _)) trivial fun fr4 s4 hS4 _ => ⟨.inr rfl, _, _, hS4, congrFun res18 _⟩
def cntD : Array Value → DT (Option (Value × St))
  | ⟨[.agg ⟨[.int .u64 a, .int .u64 b, .int .u64 c, .int .u64 d]⟩]⟩ => .must (inQ a b c d) (.leaf (some (.int .i64 (cntN a b c d 256 : Nat), st0))) (.leaf none)
  | _ => .leaf none
theorem tells18 [Z : Zone] [T : Tab] : Tells cfB 18 fun a => (cntD a).eval := by
  refine tells_seen goodB rfl i18_fn fun args x hx => ?_
  unfold cntD at hx
  split at hx
  · rename_i a b c d
    rw [DT.eval_must] at hx
    cases h : inQ a b c d with
    | false => rw [h] at hx; cases hx
    | true =>
      rw [h, cond_true, DT.eval_leaf] at hx
      cases hx
      exact ⟨by simp [freeN], by rw [nt18]; show 1 ≤ 10; omega, _, rfl, by simp [freeN], fun b => ok18 h⟩
  · cases hx
end
end Go.Proofs.YtmpokdnpkjcnbaaDoor
