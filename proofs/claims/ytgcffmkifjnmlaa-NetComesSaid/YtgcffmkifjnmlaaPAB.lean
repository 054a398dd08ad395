import Derived.Test.YtgcffmkifjnmlaaNX
/- How often is a text in a list? -/
namespace Go.Proofs.Ytgcffmkifjnmlaa
open Go.Am
noncomputable section
def b18 : Code := bodyOf 18
def k18 : Code := cB (cB (cR (cL (cN 2 b18))))
theorem b18_eq : b18 = nest [cL b18, cL (cN 1 b18)] (.seq (.seq (cL (cL (cN 2 b18))) (.block 0 (.loop k18))) (cN 3 b18)) := by kernel_rfl
def fr18a (X : Array Value) (t : ByteArray) : Fr := frS 18 [(0, VS X 0 X.size), (1, .string t), (5, .int .i64 0)]
def fr18 (X : Array Value) (t : ByteArray) (c i : Int) : Fr := frS 18 [(0, VS X 0 X.size), (1, .string t), (5, .int .i64 c), (6, .int .i64 i)]
def qaa_bits : List Bool := []
def qaa_c (X : Array Value) (t : ByteArray) : Bool :=
  true
theorem qaa_cond_k : (fun (X : Array Value) (t : ByteArray) => (followT qaa_bits (codeT cfg (callT cfg noT 60) 60 cz (seqOf [cL b18, cL (cN 1 b18)]) (frame0 18 (ntOf 18) #[VS X 0 X.size, .string t]) st0)).1) = fun (X : Array Value) (t : ByteArray) => qaa_c X t := by kernel_rfl
theorem qaa_cond (X : Array Value) (t : ByteArray) : (followT qaa_bits (codeT cfg (callT cfg noT 60) 60 cz (seqOf [cL b18, cL (cN 1 b18)]) (frame0 18 (ntOf 18) #[VS X 0 X.size, .string t]) st0)).1 = qaa_c X t := congrFun (congrFun qaa_cond_k X) t
theorem qaa_leaf_k : (fun (X : Array Value) (t : ByteArray) => pathObs (gcObs 0 0 (kp [0, 1, 5] [])) qaa_bits (codeT cfg (callT cfg noT 60) 60 cz (seqOf [cL b18, cL (cN 1 b18)]) (frame0 18 (ntOf 18) #[VS X 0 X.size, .string t]) st0)) = fun (X : Array Value) (t : ByteArray) => some (.normal, fr18a X t, st0) := by kernel_rfl
theorem qaa_leaf (X : Array Value) (t : ByteArray) : pathObs (gcObs 0 0 (kp [0, 1, 5] [])) qaa_bits (codeT cfg (callT cfg noT 60) 60 cz (seqOf [cL b18, cL (cN 1 b18)]) (frame0 18 (ntOf 18) #[VS X 0 X.size, .string t]) st0) = some (.normal, fr18a X t, st0) := congrFun (congrFun qaa_leaf_k X) t
def qab_bits : List Bool := []
def qab_c (X : Array Value) (t : ByteArray) : Bool :=
  true
theorem qab_cond_k : (fun (X : Array Value) (t : ByteArray) => (followT qab_bits (codeT cfg (callT cfg noT 60) 60 cz (cL (cL (cN 2 b18))) (fr18a X t) st0)).1) = fun (X : Array Value) (t : ByteArray) => qab_c X t := by kernel_rfl
theorem qab_cond (X : Array Value) (t : ByteArray) : (followT qab_bits (codeT cfg (callT cfg noT 60) 60 cz (cL (cL (cN 2 b18))) (fr18a X t) st0)).1 = qab_c X t := congrFun (congrFun qab_cond_k X) t
theorem qab_leaf_k : (fun (X : Array Value) (t : ByteArray) => pathObs (gcObs 0 0 (kp [0, 1, 5, 6] [])) qab_bits (codeT cfg (callT cfg noT 60) 60 cz (cL (cL (cN 2 b18))) (fr18a X t) st0)) = fun (X : Array Value) (t : ByteArray) => some (.normal, fr18 X t 0 0, st0) := by kernel_rfl
theorem qab_leaf (X : Array Value) (t : ByteArray) : pathObs (gcObs 0 0 (kp [0, 1, 5, 6] [])) qab_bits (codeT cfg (callT cfg noT 60) 60 cz (cL (cL (cN 2 b18))) (fr18a X t) st0) = some (.normal, fr18 X t 0 0, st0) := congrFun (congrFun qab_leaf_k X) t
def qac_bits : List Bool := [false, false]
def qac_c (X : Array Value) (t : ByteArray) (c i : Int) : Bool :=
  !(decide (i < ((Array.size X : Nat) : Int)))
   && true
theorem qac_cond_k : (fun (X : Array Value) (t : ByteArray) (c i : Int) => (followT qac_bits (codeT cfg (callT cfg noT 60) 60 cz k18 (fr18 X t c i) st0)).1) = fun (X : Array Value) (t : ByteArray) (c i : Int) => qac_c X t c i := by kernel_rfl
theorem qac_cond (X : Array Value) (t : ByteArray) (c i : Int) : (followT qac_bits (codeT cfg (callT cfg noT 60) 60 cz k18 (fr18 X t c i) st0)).1 = qac_c X t c i := congrFun (congrFun (congrFun (congrFun qac_cond_k X) t) c) i
theorem qac_leaf_k : (fun (X : Array Value) (t : ByteArray) (c i : Int) => pathObs (gcObs 0 0 (kp [0, 1, 5, 6] [])) qac_bits (codeT cfg (callT cfg noT 60) 60 cz k18 (fr18 X t c i) st0)) = fun (X : Array Value) (t : ByteArray) (c i : Int) => some (.exit 0, fr18 X t c i, st0) := by kernel_rfl
theorem qac_leaf (X : Array Value) (t : ByteArray) (c i : Int) : pathObs (gcObs 0 0 (kp [0, 1, 5, 6] [])) qac_bits (codeT cfg (callT cfg noT 60) 60 cz k18 (fr18 X t c i) st0) = some (.exit 0, fr18 X t c i, st0) := congrFun (congrFun (congrFun (congrFun qac_leaf_k X) t) c) i
def qad_bits : List Bool := [false, true, true, true, true]
def qad_c (X : Array Value) (t : ByteArray) (c i : Int) : Bool :=
  (decide (i < ((Array.size X : Nat) : Int)))
   && ((decide (0 ≤ i) && decide (i < ((Array.size X : Nat) : Int)))
   && ((isStr X[0 + Int.toNat i * 1]?)
   && ((ByteArray.toList (toStr X[0 + Int.toNat i * 1]?) == ByteArray.toList t)
   && true)))
theorem qad_cond_k : (fun (X : Array Value) (t : ByteArray) (c i : Int) => (followT qad_bits (codeT cfg (callT cfg noT 60) 60 cz k18 (fr18 X t c i) st0)).1) = fun (X : Array Value) (t : ByteArray) (c i : Int) => qad_c X t c i := by kernel_rfl
theorem qad_cond (X : Array Value) (t : ByteArray) (c i : Int) : (followT qad_bits (codeT cfg (callT cfg noT 60) 60 cz k18 (fr18 X t c i) st0)).1 = qad_c X t c i := congrFun (congrFun (congrFun (congrFun qad_cond_k X) t) c) i
theorem qad_leaf_k : (fun (X : Array Value) (t : ByteArray) (c i : Int) => pathObs (gcObs 0 0 (kp [0, 1, 5, 6] [])) qad_bits (codeT cfg (callT cfg noT 60) 60 cz k18 (fr18 X t c i) st0)) = fun (X : Array Value) (t : ByteArray) (c i : Int) => some (.normal, fr18 X t (inc c) (inc i), st0) := by kernel_rfl
theorem qad_leaf (X : Array Value) (t : ByteArray) (c i : Int) : pathObs (gcObs 0 0 (kp [0, 1, 5, 6] [])) qad_bits (codeT cfg (callT cfg noT 60) 60 cz k18 (fr18 X t c i) st0) = some (.normal, fr18 X t (inc c) (inc i), st0) := congrFun (congrFun (congrFun (congrFun qad_leaf_k X) t) c) i
def qae_bits : List Bool := [false, true, true, true, false]
def qae_c (X : Array Value) (t : ByteArray) (c i : Int) : Bool :=
  (decide (i < ((Array.size X : Nat) : Int)))
   && ((decide (0 ≤ i) && decide (i < ((Array.size X : Nat) : Int)))
   && ((isStr X[0 + Int.toNat i * 1]?)
   && (!(ByteArray.toList (toStr X[0 + Int.toNat i * 1]?) == ByteArray.toList t)
   && true)))
theorem qae_cond_k : (fun (X : Array Value) (t : ByteArray) (c i : Int) => (followT qae_bits (codeT cfg (callT cfg noT 60) 60 cz k18 (fr18 X t c i) st0)).1) = fun (X : Array Value) (t : ByteArray) (c i : Int) => qae_c X t c i := by kernel_rfl
theorem qae_cond (X : Array Value) (t : ByteArray) (c i : Int) : (followT qae_bits (codeT cfg (callT cfg noT 60) 60 cz k18 (fr18 X t c i) st0)).1 = qae_c X t c i := congrFun (congrFun (congrFun (congrFun qae_cond_k X) t) c) i
theorem qae_leaf_k : (fun (X : Array Value) (t : ByteArray) (c i : Int) => pathObs (gcObs 0 0 (kp [0, 1, 5, 6] [])) qae_bits (codeT cfg (callT cfg noT 60) 60 cz k18 (fr18 X t c i) st0)) = fun (X : Array Value) (t : ByteArray) (c i : Int) => some (.normal, fr18 X t c (inc i), st0) := by kernel_rfl
theorem qae_leaf (X : Array Value) (t : ByteArray) (c i : Int) : pathObs (gcObs 0 0 (kp [0, 1, 5, 6] [])) qae_bits (codeT cfg (callT cfg noT 60) 60 cz k18 (fr18 X t c i) st0) = some (.normal, fr18 X t c (inc i), st0) := congrFun (congrFun (congrFun (congrFun qae_leaf_k X) t) c) i
def qaf_bits : List Bool := []
def qaf_c (X : Array Value) (t : ByteArray) (c i : Int) : Bool :=
  true
theorem qaf_cond_k : (fun (X : Array Value) (t : ByteArray) (c i : Int) => (followT qaf_bits (codeT cfg (callT cfg noT 60) 60 cz (cN 3 b18) (fr18 X t c i) st0)).1) = fun (X : Array Value) (t : ByteArray) (c i : Int) => qaf_c X t c i := by kernel_rfl
theorem qaf_cond (X : Array Value) (t : ByteArray) (c i : Int) : (followT qaf_bits (codeT cfg (callT cfg noT 60) 60 cz (cN 3 b18) (fr18 X t c i) st0)).1 = qaf_c X t c i := congrFun (congrFun (congrFun (congrFun qaf_cond_k X) t) c) i
theorem qaf_leaf_k : (fun (X : Array Value) (t : ByteArray) (c i : Int) => pathObs (gcObs 0 0 (kp [4] [])) qaf_bits (codeT cfg (callT cfg noT 60) 60 cz (cN 3 b18) (fr18 X t c i) st0)) = fun (X : Array Value) (t : ByteArray) (c i : Int) => some (.ret, frS 18 [(4, .int .i64 c)], st0) := by kernel_rfl
theorem qaf_leaf (X : Array Value) (t : ByteArray) (c i : Int) : pathObs (gcObs 0 0 (kp [4] [])) qaf_bits (codeT cfg (callT cfg noT 60) 60 cz (cN 3 b18) (fr18 X t c i) st0) = some (.ret, frS 18 [(4, .int .i64 c)], st0) := congrFun (congrFun (congrFun (congrFun qaf_leaf_k X) t) c) i
end
end Go.Proofs.Ytgcffmkifjnmlaa

/- How often is a text in a list, told. -/
namespace Go.Proofs.Ytgcffmkifjnmlaa
open Go.Am
noncomputable section
theorem i18 : cfg.fns 18 = some (fnOf 18 [.tmp 4]) := by kernel_rfl
theorem nt18 : 2 ≤ ntOf 18 := of_decide_eq_true (by kernel_rfl)
def hit (X : Array Value) (t : ByteArray) (i : Nat) : Bool := (toStr X[i]?).toList == t.toList
def cnt (X : Array Value) (t : ByteArray) : Nat → Nat
  | 0 => 0
  | i + 1 => cnt X t i + (if hit X t i then 1 else 0)
theorem cnt_le (X : Array Value) (t : ByteArray) (i : Nat) : cnt X t i ≤ i := by
  induction i with
  | zero => exact Nat.le_refl _
  | succ i ih => unfold cnt; split <;> omega
theorem cnt_mono (X : Array Value) (t : ByteArray) {i j : Nat} (h : i ≤ j) : cnt X t i ≤ cnt X t j := by
  induction j with
  | zero => rw [show i = 0 by omega]; exact Nat.le_refl _
  | succ j ih =>
    by_cases e : i = j + 1
    · subst e; exact Nat.le_refl _
    · have := ih (by omega)
      have e2 : cnt X t (j + 1) = cnt X t j + (if hit X t j then 1 else 0) := rfl
      rw [e2]; omega
theorem cnt_pos {X : Array Value} {t : ByteArray} {i n : Nat} (hi : i < n) (h : hit X t i = true) : 0 < cnt X t n := by
  have h1 : cnt X t (i + 1) = cnt X t i + (if hit X t i then 1 else 0) := rfl
  rw [if_pos h] at h1
  have := cnt_mono X t (show i + 1 ≤ n by omega)
  omega
def cntOk (X : Array Value) : Bool := strs X && decide (X.size ≤ 1048576)
def cntD : Array Value → DT (Option (Value × St))
  | ⟨[.func (.method nm) X ⟨[.slice none o k]⟩, .string t]⟩ => .must (decide (nm = "") && (decide (o = 0) && decide (k = X.size)) && cntOk X) (.leaf (some (.int .i64 ((cnt X t k : Nat) : Int), st0))) (.leaf none)
  | _ => .leaf none
theorem cntD_some {args : Array Value} {x : Value × St} (h : (cntD args).eval = some x) : ∃ X t, args = #[VS X 0 X.size, .string t] ∧ cntOk X = true ∧ x = (.int .i64 ((cnt X t X.size : Nat) : Int), st0) := by
  unfold cntD at h
  split at h
  · rename_i nm X o k t
    rw [DT.eval_must] at h
    cases hc : (decide (nm = "") && (decide (o = 0) && decide (k = X.size)) && cntOk X) with
    | false => rw [hc] at h; cases h
    | true =>
      rw [hc, cond_true, DT.eval_leaf] at h
      simp only [Bool.and_eq_true, decide_eq_true_eq] at hc
      obtain ⟨⟨rfl, rfl, rfl⟩, h2⟩ := hc
      cases h
      exact ⟨X, t, rfl, h2, rfl⟩
  · cases h
theorem count_ok [Z : Zone] {X : Array Value} {t : ByteArray} (h : cntOk X = true) {B : Nat} : AWp cfg ⟨0, B⟩ cz b18 (frame0 18 (ntOf 18) #[VS X 0 X.size, .string t]) st0 (RetL [(4, .int .i64 ((cnt X t X.size : Nat) : Int))]) := by
  simp only [cntOk, Bool.and_eq_true, decide_eq_true_eq] at h
  obtain ⟨hX, hsz⟩ := h
  have hpl : plainL [((4 : Tmp), Value.int .i64 ((cnt X t X.size : Nat) : Int))] := fun p hp => by simp only [List.mem_singleton] at hp; subst hp; rfl
  rw [b18_eq]
  refine AWp.nestRet good rfl hpl (sel := kp [0, 1, 5] []) (path_eval noT_ok (qaa_cond X t) (qaa_leaf X t)) trivial ?_
  refine AWp.forStmt (n2 := 60) (lim2 := 60) (N := X.size) (head := fun i => fr18 X t (cnt X t i : Nat) i) (sh := fun _ => st0) (stop := fun i => if i < X.size then none else some (.exit 0, fr18 X t (cnt X t i : Nat) i, st0)) good rfl hpl (sel := kp [0, 1, 5, 6] []) (path_eval noT_ok (qab_cond X t) (qab_leaf X t)) trivial (sel2 := kp [0, 1, 5, 6] []) (fun i hi _ => ?_) (fun i hi => ?_) ⟨X.size, Nat.le_refl _, by simp⟩ (fun i r hi hno hr => ?_)
  · by_cases hik : i < X.size
    · rw [if_pos hik]
      have h1 := isStr_at hX hik
      have h2 : isStr (some X[i]) = true := by rw [← Array.getElem?_eq_getElem hik]; exact h1
      have hc := cnt_le X t i
      have e2 : cnt X t (i + 1) = cnt X t i + (if hit X t i then 1 else 0) := rfl
      cases hh : hit X t i with
      | true =>
        rw [hh, if_pos rfl] at e2
        unfold hit at hh
        refine path_eval noT_ok ((qad_cond X t _ i).trans ?_) ((qad_leaf X t _ i).trans (by rw [incN (by omega), incN (by omega), e2]))
        simp only [qad_c, Nat.zero_add, Nat.mul_one, Int.toNat_natCast, h1, hh, Bool.and_true]
        simp [hik]
      | false =>
        rw [hh] at e2
        simp only [Bool.false_eq_true, if_false, Nat.add_zero] at e2
        unfold hit at hh
        refine path_eval noT_ok ((qae_cond X t _ i).trans ?_) ((qae_leaf X t _ i).trans (by rw [incN (by omega), e2]))
        simp only [qae_c, Nat.zero_add, Nat.mul_one, Int.toNat_natCast, h1, hh, Bool.not_false, Bool.and_true]
        simp [hik]
    · rw [if_neg hik]
      have hni : ¬ ((i : Int) < (X.size : Int)) := by omega
      exact path_eval noT_ok ((qac_cond X t _ i).trans (by simp only [qac_c, hni, decide_false, Bool.not_false, Bool.true_and])) (qac_leaf X t _ i)
  · split <;> trivial
  · by_cases hik : i < X.size
    · rw [if_pos hik] at hr; cases hr
    · rw [if_neg hik] at hr
      cases hr
      have e : i = X.size := by omega
      subst e
      refine ⟨rfl, fun Z' => ?_⟩
      exact AWp.done (fun B => @good Z' B) hpl (.inr rfl) (sel := kp [4] []) (path_eval noT_ok (qaf_cond X t _ _) (qaf_leaf X t _ _)) trivial fun p hp => by simp only [List.mem_singleton] at hp; subst hp; exact frS_one 18 4 _
def TF : FuncId → Option (Array Value → DT (Option (Value × St)))
  | 18 => some cntD
  | _ => none
theorem TF_ok : ∀ f F, TF f = some F → (∃ i, cfS.fns f = some i) ∧ ∀ Z' : Zone, @Tells Z' cfS f fun a => (F a).eval := by
  intro f F h
  unfold TF at h
  split at h
  · cases h
    refine ⟨⟨_, i18⟩, fun Z' => ?_⟩
    refine @Tells.cfg Z' cfg cfS rfl rfl 18 _ (@tells_one Z' cfg (fun B => @good Z' B) rfl 18 _ i18 4 rfl _ fun args x hx => ?_)
    obtain ⟨X, t, rfl, h1, rfl⟩ := cntD_some hx
    exact ⟨by simp [freeN], nt18, _, rfl, rfl, fun b => @count_ok Z' _ _ h1 b⟩
  · cases h
def cfC : Cfg := cfS.frz TF
theorem goodC [Z : Zone] (B : Base) : Go.Am.Good cfC B := frz_good (fun Z' B => @goodS Z' B) rfl TF_ok B
def tC : FuncId → Option HandT := treeF TF tS
theorem tC_ok : ∀ f k hd, tC f = some k → cfC.hand f = some hd → ∀ a c s, (k a c s).eval = hd a c s := treeF_ok tS_ok
end
end Go.Proofs.Ytgcffmkifjnmlaa
