import Derived.Test.YtmpokdnpkjcnbaaDoorVEG
/- The document's masks: the least cores: paths. -/
namespace Go.Proofs.YtmpokdnpkjcnbaaDoor
open Go.Am
noncomputable section
def tH (q : Gs) : FuncId → Option HandT
  | 15 => some (apartT (lstD q))
  | f => tVg f
theorem tH_eq : tH g0 = tVg := by
  funext f
  unfold tH
  split <;> rfl
theorem tH_ok : ∀ f k hd, tH g0 f = some k → cfVg.hand f = some hd → ∀ a c s, (k a c s).eval = hd a c s := by rw [tH_eq]; exact tVg_ok
def ha_bits : List Bool := [true, true, true, true, true]
def ha_c (q : Gs) (a b c d n : Int) : Bool :=
  (inQ a b c d)
   && ((Nat.beq (q.L a b c d) 0)
   && ((decide (n < 0))
   && true))
theorem ha_cond_k : (fun (q : Gs) (a b c d n : Int) => (followT ha_bits (callT cfVg (tH q) 60 (.func (.func 28) #[] #[]) #[mk a b c d, .int .i64 n] (ctx0 0) st0)).1) = fun (q : Gs) (a b c d n : Int) => ha_c q a b c d n := by kernel_rfl
theorem ha_cond (q : Gs) (a b c d n : Int) : (followT ha_bits (callT cfVg (tH q) 60 (.func (.func 28) #[] #[]) #[mk a b c d, .int .i64 n] (ctx0 0) st0)).1 = ha_c q a b c d n := congrFun (congrFun (congrFun (congrFun (congrFun (congrFun ha_cond_k q) a) b) c) d) n
theorem ha_leaf_k : (fun (q : Gs) (a b c d n : Int) => pathObs seenOf ha_bits (callT cfVg (tH q) 60 (.func (.func 28) #[] #[]) #[mk a b c d, .int .i64 n] (ctx0 0) st0)) = fun (_ : Gs) (_ _ _ _ _ : Int) => some (.tuple #[mk 0 0 0 0, .int .i64 1], st0) := by kernel_rfl
theorem ha_leaf (q : Gs) (a b c d n : Int) : pathObs seenOf ha_bits (callT cfVg (tH q) 60 (.func (.func 28) #[] #[]) #[mk a b c d, .int .i64 n] (ctx0 0) st0) = some (.tuple #[mk 0 0 0 0, .int .i64 1], st0) := congrFun (congrFun (congrFun (congrFun (congrFun (congrFun ha_leaf_k q) a) b) c) d) n
def hb_bits : List Bool := [true, true, true, false, true]
def hb_c (q : Gs) (a b c d n : Int) : Bool :=
  (inQ a b c d)
   && (!(Nat.beq (q.L a b c d) 0)
   && ((decide (n < 0))
   && true))
theorem hb_cond_k : (fun (q : Gs) (a b c d n : Int) => (followT hb_bits (callT cfVg (tH q) 60 (.func (.func 28) #[] #[]) #[mk a b c d, .int .i64 n] (ctx0 0) st0)).1) = fun (q : Gs) (a b c d n : Int) => hb_c q a b c d n := by kernel_rfl
theorem hb_cond (q : Gs) (a b c d n : Int) : (followT hb_bits (callT cfVg (tH q) 60 (.func (.func 28) #[] #[]) #[mk a b c d, .int .i64 n] (ctx0 0) st0)).1 = hb_c q a b c d n := congrFun (congrFun (congrFun (congrFun (congrFun (congrFun hb_cond_k q) a) b) c) d) n
theorem hb_leaf_k : (fun (q : Gs) (a b c d n : Int) => pathObs seenOf hb_bits (callT cfVg (tH q) 60 (.func (.func 28) #[] #[]) #[mk a b c d, .int .i64 n] (ctx0 0) st0)) = fun (_ : Gs) (_ _ _ _ _ : Int) => some (.tuple #[mk 0 0 0 0, .int .i64 1], st0) := by kernel_rfl
theorem hb_leaf (q : Gs) (a b c d n : Int) : pathObs seenOf hb_bits (callT cfVg (tH q) 60 (.func (.func 28) #[] #[]) #[mk a b c d, .int .i64 n] (ctx0 0) st0) = some (.tuple #[mk 0 0 0 0, .int .i64 1], st0) := congrFun (congrFun (congrFun (congrFun (congrFun (congrFun hb_leaf_k q) a) b) c) d) n
def hc_bits : List Bool := [true, true, true, true, false, true, true]
def hc_c (q : Gs) (a b c d n : Int) : Bool :=
  (inQ a b c d)
   && ((Nat.beq (q.L a b c d) 0)
   && (!(decide (n < 0))
   && ((decide (n > ((0 : Nat) : Int)))
   && true)))
theorem hc_cond_k : (fun (q : Gs) (a b c d n : Int) => (followT hc_bits (callT cfVg (tH q) 60 (.func (.func 28) #[] #[]) #[mk a b c d, .int .i64 n] (ctx0 0) st0)).1) = fun (q : Gs) (a b c d n : Int) => hc_c q a b c d n := by kernel_rfl
theorem hc_cond (q : Gs) (a b c d n : Int) : (followT hc_bits (callT cfVg (tH q) 60 (.func (.func 28) #[] #[]) #[mk a b c d, .int .i64 n] (ctx0 0) st0)).1 = hc_c q a b c d n := congrFun (congrFun (congrFun (congrFun (congrFun (congrFun hc_cond_k q) a) b) c) d) n
theorem hc_leaf_k : (fun (q : Gs) (a b c d n : Int) => pathObs seenOf hc_bits (callT cfVg (tH q) 60 (.func (.func 28) #[] #[]) #[mk a b c d, .int .i64 n] (ctx0 0) st0)) = fun (_ : Gs) (_ _ _ _ _ : Int) => some (.tuple #[mk 0 0 0 0, .int .i64 12], st0) := by kernel_rfl
theorem hc_leaf (q : Gs) (a b c d n : Int) : pathObs seenOf hc_bits (callT cfVg (tH q) 60 (.func (.func 28) #[] #[]) #[mk a b c d, .int .i64 n] (ctx0 0) st0) = some (.tuple #[mk 0 0 0 0, .int .i64 12], st0) := congrFun (congrFun (congrFun (congrFun (congrFun (congrFun hc_leaf_k q) a) b) c) d) n
def hd_bits : List Bool := [true, true, true, false, false, false, true]
def hd_c (q : Gs) (a b c d n : Int) : Bool :=
  (inQ a b c d)
   && (!(Nat.beq (q.L a b c d) 0)
   && (!(decide (n < 0))
   && ((decide (n > ((q.L a b c d : Nat) : Int)))
   && true)))
theorem hd_cond_k : (fun (q : Gs) (a b c d n : Int) => (followT hd_bits (callT cfVg (tH q) 60 (.func (.func 28) #[] #[]) #[mk a b c d, .int .i64 n] (ctx0 0) st0)).1) = fun (q : Gs) (a b c d n : Int) => hd_c q a b c d n := by kernel_rfl
theorem hd_cond (q : Gs) (a b c d n : Int) : (followT hd_bits (callT cfVg (tH q) 60 (.func (.func 28) #[] #[]) #[mk a b c d, .int .i64 n] (ctx0 0) st0)).1 = hd_c q a b c d n := congrFun (congrFun (congrFun (congrFun (congrFun (congrFun hd_cond_k q) a) b) c) d) n
theorem hd_leaf_k : (fun (q : Gs) (a b c d n : Int) => pathObs seenOf hd_bits (callT cfVg (tH q) 60 (.func (.func 28) #[] #[]) #[mk a b c d, .int .i64 n] (ctx0 0) st0)) = fun (_ : Gs) (_ _ _ _ _ : Int) => some (.tuple #[mk 0 0 0 0, .int .i64 12], st0) := by kernel_rfl
theorem hd_leaf (q : Gs) (a b c d n : Int) : pathObs seenOf hd_bits (callT cfVg (tH q) 60 (.func (.func 28) #[] #[]) #[mk a b c d, .int .i64 n] (ctx0 0) st0) = some (.tuple #[mk 0 0 0 0, .int .i64 12], st0) := congrFun (congrFun (congrFun (congrFun (congrFun (congrFun hd_leaf_k q) a) b) c) d) n
def he_bits : List Bool := [true, true, true, true, false, true, false, true, true, true, true]
def he_c (q : Gs) (a b c d n : Int) : Bool :=
  (inQ a b c d)
   && ((Nat.beq (q.L a b c d) 0)
   && (!(decide (n < 0))
   && (!(decide (n > ((0 : Nat) : Int)))
   && ((decide (n = 0))
   && true))))
theorem he_cond_k : (fun (q : Gs) (a b c d n : Int) => (followT he_bits (callT cfVg (tH q) 60 (.func (.func 28) #[] #[]) #[mk a b c d, .int .i64 n] (ctx0 0) st0)).1) = fun (q : Gs) (a b c d n : Int) => he_c q a b c d n := by kernel_rfl
theorem he_cond (q : Gs) (a b c d n : Int) : (followT he_bits (callT cfVg (tH q) 60 (.func (.func 28) #[] #[]) #[mk a b c d, .int .i64 n] (ctx0 0) st0)).1 = he_c q a b c d n := congrFun (congrFun (congrFun (congrFun (congrFun (congrFun he_cond_k q) a) b) c) d) n
theorem he_leaf_k : (fun (q : Gs) (a b c d n : Int) => pathObs seenOf he_bits (callT cfVg (tH q) 60 (.func (.func 28) #[] #[]) #[mk a b c d, .int .i64 n] (ctx0 0) st0)) = fun (_ : Gs) (_ _ _ _ _ : Int) => some (.tuple #[mk 0 0 0 0, .int .i64 0], st0) := by kernel_rfl
theorem he_leaf (q : Gs) (a b c d n : Int) : pathObs seenOf he_bits (callT cfVg (tH q) 60 (.func (.func 28) #[] #[]) #[mk a b c d, .int .i64 n] (ctx0 0) st0) = some (.tuple #[mk 0 0 0 0, .int .i64 0], st0) := congrFun (congrFun (congrFun (congrFun (congrFun (congrFun he_leaf_k q) a) b) c) d) n
def hf_bits : List Bool := [true, true, true, false, false, false, false, false, true, true, true, true, true, true]
def hf_c (q : Gs) (a b c d n : Int) : Bool :=
  (inQ a b c d)
   && (!(Nat.beq (q.L a b c d) 0)
   && (!(decide (n < 0))
   && (!(decide (n > ((q.L a b c d : Nat) : Int)))
   && ((decide (0 ≤ n))
   && ((decide (Int.toNat n ≤ q.L a b c d))
   && ((decide (0 < q.L a b c d))
   && ((decide (Int.toNat n - 0 ≤ q.L a b c d - 0) && (decide (Array.size (q.E a b c d) ≠ 0) && Array.all (q.E a b c d) (freeN 9)))
   && ((intsOk (q.E a b c d) 0 (Int.toNat n - 0))
   && true))))))))
theorem hf_cond_k : (fun (q : Gs) (a b c d n : Int) => (followT hf_bits (callT cfVg (tH q) 60 (.func (.func 28) #[] #[]) #[mk a b c d, .int .i64 n] (ctx0 0) st0)).1) = fun (q : Gs) (a b c d n : Int) => hf_c q a b c d n := by kernel_rfl
theorem hf_cond (q : Gs) (a b c d n : Int) : (followT hf_bits (callT cfVg (tH q) 60 (.func (.func 28) #[] #[]) #[mk a b c d, .int .i64 n] (ctx0 0) st0)).1 = hf_c q a b c d n := congrFun (congrFun (congrFun (congrFun (congrFun (congrFun hf_cond_k q) a) b) c) d) n
theorem hf_leaf_k : (fun (q : Gs) (a b c d n : Int) => pathObs seenOf hf_bits (callT cfVg (tH q) 60 (.func (.func 28) #[] #[]) #[mk a b c d, .int .i64 n] (ctx0 0) st0)) = fun (q : Gs) (a b c d n : Int) => some (.tuple #[mk (wd (setI (q.E a b c d) 0 (Int.toNat n - 0)) 0) (wd (setI (q.E a b c d) 0 (Int.toNat n - 0)) 1) (wd (setI (q.E a b c d) 0 (Int.toNat n - 0)) 2) (wd (setI (q.E a b c d) 0 (Int.toNat n - 0)) 3), .int .i64 0], st0) := by kernel_rfl
theorem hf_leaf (q : Gs) (a b c d n : Int) : pathObs seenOf hf_bits (callT cfVg (tH q) 60 (.func (.func 28) #[] #[]) #[mk a b c d, .int .i64 n] (ctx0 0) st0) = some (.tuple #[mk (wd (setI (q.E a b c d) 0 (Int.toNat n - 0)) 0) (wd (setI (q.E a b c d) 0 (Int.toNat n - 0)) 1) (wd (setI (q.E a b c d) 0 (Int.toNat n - 0)) 2) (wd (setI (q.E a b c d) 0 (Int.toNat n - 0)) 3), .int .i64 0], st0) := congrFun (congrFun (congrFun (congrFun (congrFun (congrFun hf_leaf_k q) a) b) c) d) n
end
end Go.Proofs.YtmpokdnpkjcnbaaDoor

/- The document's masks: the least cores: told. -/
namespace Go.Proofs.YtmpokdnpkjcnbaaDoor
open Go.Am
noncomputable section
theorem call28 (m : B256) (n : Int) : ∃ v s', call cfVg 60 (.func (.func 28) #[] #[]) #[mkB m, .int .i64 n] (ctx0 0) st0 = some (.ret v, s') ∧ shed st0 s' v = some (lowV m n, st0) := by
  obtain ⟨gL, gE⟩ := g0_wd m
  unfold lowV
  cases hz : Nat.beq (cntB m 256) 0 with
  | true =>
    have h0 := Nat.eq_of_beq_eq_true hz
    by_cases hn : n < 0
    · rw [if_pos hn]
      refine path_call tH_ok ((ha_cond g0 ..).trans ?_) (ha_leaf g0 ..)
      unfold ha_c
      simp only [wd_inQ, gL, hz, decide_eq_true hn]; rfl
    rw [if_neg hn]
    by_cases hc : n > ((cntB m 256 : Nat) : Int)
    · rw [if_pos hc]
      refine path_call tH_ok ((hc_cond g0 ..).trans ?_) (hc_leaf g0 ..)
      rw [h0] at hc
      unfold hc_c
      simp only [wd_inQ, gL, hz, decide_eq_false hn, decide_eq_true hc]; rfl
    · rw [if_neg hc]
      have e : mkB (lowB m n.toNat 256) = mk 0 0 0 0 := by
        have h1 : lowB m n.toNat 256 = 0#256 := by
          apply wd_ext
          intro j hj
          rw [lowB_bit m _ 256 (Nat.le_refl _), decide_eq_false (by omega : ¬ cntB m j < n.toNat), Bool.and_false, Bool.and_false]
          simp
        rw [h1]
        unfold mkB
        rw [wd_zero, wd_zero, wd_zero, wd_zero]
      rw [e]
      refine path_call tH_ok ((he_cond g0 ..).trans ?_) (he_leaf g0 ..)
      rw [h0] at hc
      unfold he_c
      simp only [wd_inQ, gL, hz, decide_eq_false hn, decide_eq_false hc, decide_eq_true (by omega : n = 0)]; rfl
  | false =>
    have h0 : cntB m 256 ≠ 0 := Nat.ne_of_beq_eq_false hz
    by_cases hn : n < 0
    · rw [if_pos hn]
      refine path_call tH_ok ((hb_cond g0 ..).trans ?_) (hb_leaf g0 ..)
      unfold hb_c
      simp only [wd_inQ, gL, hz, decide_eq_true hn]; rfl
    rw [if_neg hn]
    by_cases hc : n > ((cntB m 256 : Nat) : Int)
    · rw [if_pos hc]
      refine path_call tH_ok ((hd_cond g0 ..).trans ?_) (hd_leaf g0 ..)
      unfold hd_c
      simp only [wd_inQ, gL, hz, decide_eq_false hn, decide_eq_true hc]; rfl
    · rw [if_neg hc]
      obtain ⟨k, rfl⟩ : ∃ k : Nat, n = k := ⟨n.toNat, by omega⟩
      have hk : k ≤ cntB m 256 := by omega
      have hleaf := hf_leaf g0 (wd m 0) (wd m 1) (wd m 2) (wd m 3) (k : Int)
      rw [gE, Int.toNat_natCast, Nat.sub_zero, set_lst m hk] at hleaf
      refine path_call tH_ok ((hf_cond g0 ..).trans ?_) hleaf
      unfold hf_c
      simp only [wd_inQ, gL, gE, hz, decide_eq_false hn, decide_eq_false hc, Int.toNat_natCast, Nat.sub_zero, (lstE_plain m 256).2.2]
      rw [decide_eq_true (by omega : (0 : Int) ≤ k), decide_eq_true hk, decide_eq_true (by omega : 0 < cntB m 256), decide_eq_true (by rw [lstE_size]; exact h0), lst_ints m hk]
      rfl
theorem low_val {a b c d n : Int} {x : Value × St} (hx : (lowD #[mk a b c d, .int .i64 n]).eval = some x) : ∃ m, a = wd m 0 ∧ b = wd m 1 ∧ c = wd m 2 ∧ d = wd m 3 ∧ x = (lowV m n, st0) := by
  have e : lowD #[mk a b c d, .int .i64 n] = .must (inQ a b c d) (.node (decide (n < 0)) (.leaf (some (.tuple #[mk 0 0 0 0, .int .i64 1], st0)))
      (.node (decide (n > ((cntN a b c d 256 : Nat) : Int))) (.leaf (some (.tuple #[mk 0 0 0 0, .int .i64 12], st0))) (.leaf (some (.tuple #[mk (lowW a b c d n 0) (lowW a b c d n 1) (lowW a b c d n 2) (lowW a b c d n 3), .int .i64 0], st0))))) (.leaf none) := rfl
  rw [e, DT.eval_must] at hx
  cases h : inQ a b c d with
  | false => rw [h] at hx; cases hx
  | true =>
    obtain ⟨m, rfl, rfl, rfl, rfl⟩ := wd_rep h
    refine ⟨m, rfl, rfl, rfl, rfl, ?_⟩
    rw [h, cond_true, DT.eval_node, DT.eval_node, DT.eval_leaf, DT.eval_leaf, DT.eval_leaf, cntN_wd] at hx
    unfold lowV
    by_cases h0 : n < 0
    · rw [decide_eq_true h0] at hx; cases hx; rw [if_pos h0]
    · rw [decide_eq_false h0, cond_false] at hx
      rw [if_neg h0]
      by_cases h1 : n > ((cntB m 256 : Nat) : Int)
      · rw [decide_eq_true h1] at hx; cases hx; rw [if_pos h1]
      · rw [decide_eq_false h1] at hx; cases hx; rw [if_neg h1]
        unfold lowW
        rw [ofI_wd]
        rfl
theorem tells28 [Z : Zone] [T : Tab] : Tells cfVg 28 fun a => (lowD a).eval := by
  refine tells_call (i := _) (fun B => goodVg B) rfl (rfl : cfVg.fns 28 = some _) fun args x hx => ?_
  have hx' := hx
  try simp only at hx'
  unfold lowD at hx'
  split at hx'
  · rename_i a b c d n
    obtain ⟨m, rfl, rfl, rfl, rfl, rfl⟩ := low_val hx
    obtain ⟨v, s', h1, h2⟩ := call28 m n
    exact ⟨by simp [freeN], 60, v, s', h1, h2⟩
  · cases hx'
def TVi : FuncId → Option (Array Value → DT (Option (Value × St)))
  | 28 => some lowD
  | _ => none
def cfVi : Cfg := cfVg.told TVi
theorem goodVi [Z : Zone] [T : Tab] (B : Base) : Go.Am.Good cfVi B := tells_good (fun B => goodVg B) (fun f F h => by
  unfold TVi at h
  split at h
  · cases h; exact ⟨⟨_, rfl⟩, tells28⟩
  · cases h) B
def tVi : FuncId → Option HandT := treeT TVi tVg
theorem tVi_ok : ∀ f k hd, tVi f = some k → cfVi.hand f = some hd → ∀ a c s, (k a c s).eval = hd a c s := treeT_ok tVg_ok
end
end Go.Proofs.YtmpokdnpkjcnbaaDoor
