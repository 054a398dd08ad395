/- NetTurns: the body. -/
import Derived.Test.YtgcffmkifjnmlaaU8
namespace Go.Proofs.Ytgcffmkifjnmlaa
open Go.Am
noncomputable section

theorem rowD_eq (P : Array Value) (m : Nat) : rowD P m = P.extract 0 m := by unfold rowD; simp

theorem same_cut {S R1 R2 : Array Value} {n k : Nat} (h1 : Cut S n k R1) (h2 : Cut S n k R2) : sameB (rowD R1 (n - 1)) (rowD R2 (n - 1)) 0 0 (0 + (n - 1)) (0 + (n - 1)) = true := by
  unfold sameB
  rw [Bool.and_eq_true]
  refine ⟨decide_eq_true rfl, List.all_eq_true.2 fun j hj => ?_⟩
  rw [List.mem_range] at hj
  unfold eqAt
  have hs1 := h1.size
  have hs2 := h2.size
  rw [rowD_eq, rowD_eq, Array.getElem?_extract, Array.getElem?_extract, if_pos (by omega), if_pos (by omega)]
  simp only [Nat.zero_add]
  rw [h1.get j (by omega), h2.get j (by omega)]
  simp

theorem end_ok {A S R1 R2 : Array Value} {n cp k : Nat} {la lb : Int} {x : ByteArray} (hn : n ≤ 50) (h1 : Cut S n k R1) (h2 : Cut S n k R2) :
    gcObs 1 1 selE (code cfg2 (call cfg2 60) 60 c1 (cR (cR rest7)) (frX n cp x x) (sU A R1 R2 la lb (n - 1) n (n - 1) n)) = some (.ret, frV, heap1 A) := by
  by_cases h0 : n - 1 = 0
  · rw [h0]
    exact path_ok t2_ok ((congrFun (congrFun (congrFun (congrFun (congrFun (congrFun (congrFun (congrFun (congrFun (congrFun (congrFun e0_cond A) R1) R2) n) cp) la) lb) n) n) x) x).trans (by simp [e0_c])) (congrFun (congrFun (congrFun (congrFun (congrFun (congrFun (congrFun (congrFun (congrFun (congrFun (congrFun e0_leaf A) R1) R2) n) cp) la) lb) n) n) x) x)
  · refine path_ok t2_ok ((congrFun (congrFun (congrFun (congrFun (congrFun (congrFun (congrFun (congrFun (congrFun (congrFun (congrFun (congrFun (congrFun e1_cond A) R1) R2) n) cp) la) lb) (n - 1)) n) (n - 1)) n) x) x).trans ?_) (congrFun (congrFun (congrFun (congrFun (congrFun (congrFun (congrFun (congrFun (congrFun (congrFun (congrFun (congrFun (congrFun e1_leaf A) R1) R2) n) cp) la) lb) (n - 1)) n) (n - 1)) n) x) x)
    have z1 := h1.size
    have z2 := h2.size
    have a1 : (R1.extract 0 (0 + (n - 1) * 1)).toList.all Value.oneCell' = true := (h1.str.extract _ _).all
    have a2 : (R2.extract 0 (0 + (n - 1) * 1)).toList.all Value.oneCell' = true := (h2.str.extract _ _).all
    have b1 : strB (rowD R1 (n - 1)) = true := by rw [rowD_eq]; exact strB_of (h1.str.extract _ _)
    have b2 : strB (rowD R2 (n - 1)) = true := by rw [rowD_eq]; exact strB_of (h2.str.extract _ _)
    have c1' : (rowD R1 (n - 1)).size = n - 1 := by rw [rowD_eq]; simp; omega
    have c2' : (rowD R2 (n - 1)).size = n - 1 := by rw [rowD_eq]; simp; omega
    have hsame := same_cut h1 h2
    simp only [e1_c, a1, a2, b1, b2, c1', c2', hsame, Bool.and_true, Bool.true_and, beq_self_eq_true]
    simp only [Bool.and_eq_true, Bool.not_eq_true', decide_eq_true_eq, decide_eq_false_iff_not]
    unfold nLim
    omega

theorem rest7_eq : rest7 = .seq (cL rest7) (.seq (cL (cR rest7)) (cR (cR rest7))) := by kernel_rfl
def Rg (c : Ctx) : Ex → Fr → St → Prop := fun ex fr' s' => (ex = .normal ∨ ex = .ret) ∧ resultsV cfg2 c fr' s' [.tmp 4] = some (.bool true)
theorem retV_ok {base : Base} {k0 fl : Nat} {c : Ctx} {sj : St} {fr : Fr} {s : St} (h : Sn base k0 fl c frV sj fr s) : Rg c .ret fr s := by
  have h4 : fr.tm.get 4 = some (.bool true) := h.slot (t := 4) (v := .bool true) (by kernel_rfl) rfl
  refine ⟨.inr rfl, ?_⟩
  simp only [resultsV, resultsL, resultOf, h4]
  rfl
theorem plainU {A P Q : Array Value} (hA : Str A) (hP : Str P) (hQ : Str Q) (la lb : Int) (n1 c1 n2 c2 i j : Nat) : plainJ (sU A P Q la lb n1 c1 n2 c2) [.plain 0, .cells 1, .cells 2, .plain i, .plain j] 0 := ⟨hA.plain, hP.plain, hQ.plain, trivial⟩

theorem turns_main {b : Nat} {A : Array Value} (hA : Str A) {n cp : Nat} {I : Int} (hn : n ≤ A.size) (hcp : n ≤ cp) (h1 : 1 ≤ n) (h2 : n ≤ 50) (h3 : ¬ I < -1099511627776) (h4 : ¬ I > 1099511627776) : AWp cfg2 ⟨1, b⟩ c1 b7 (fr7 n cp I) (heap1 A) (Rg c1) := by
  have hl : Int.toNat (lE n 50) - 0 = n := by rw [lE50 h2]; omega
  have hS : Str (A.extract 0 n) := hA.extract 0 n
  have hsz : (A.extract 0 n).size = n := by simp; omega
  have hua := path_ok t2_ok ((congrFun (congrFun (congrFun (congrFun ua_cond A) n) cp) I).trans (ua_true hA hn hcp h1 h2 h3 h4)) (congrFun (congrFun (congrFun (congrFun ua_leaf A) n) cp) I)
  rw [hl, sent_eq A h2] at hua
  rw [b7_eq]
  refine AWp.nestFirst good2 hua (plainU hA hS hS _ _ _ _ _ _ 3 4) (Nat.le_refl 1) fun fr1 s1 hS1 => ?_
  show AWp cfg2 ⟨1, b⟩ c1 rest7 fr1 s1 (Rg c1)
  rw [rest7_eq]
  obtain ⟨R1, x, t1, t1x, t1c⟩ := take_a (A := A) (P := A.extract 0 n) (Q := A.extract 0 n) hS (n := n) (cp := cp) (I := I) (la := lostE n) (lb := lostE n) (n1 := n) (k1 := n) (n2 := n) (k2 := n) h1 (by omega) (by omega)
  refine AWp.seq (AWp.seen good2 rfl hS1 (show 1 ≤ 5 by omega) t1 (plainU hA t1c.str hS _ _ _ _ _ _ 6 4) fun fr2 s2 hS2 hG2 => ⟨hG2, ?_⟩)
  have hJ : Jof I n = I - 3 * (n : Int) := by
    unfold Jof
    rw [wrap_id (n := 3 * (n : Int)) (by omega) (by omega), wrap_id (by omega) (by omega)]
  have hmod : (I - 3 * (n : Int)) % (n : Int) = I % (n : Int) := Int.sub_mul_emod_self_right I 3 n
  obtain ⟨R2, y, t2', t2x, t2c⟩ := take_b (A := A) (P := R1) (Q := A.extract 0 n) hS (n := n) (cp := cp) (I := I) (la := lostE n) (lb := lostE n) (n1 := n - 1) (k1 := n) (n2 := n) (k2 := n) (x := x) rfl h1 (by omega) (by omega)
  rw [hJ, hmod] at t2x t2c
  have hxy : y = x := by rw [t1x] at t2x; cases t2x; rfl
  subst hxy
  refine AWp.seq (AWp.seen good2 rfl hS2 (show 1 ≤ 5 by omega) t2' (plainU hA t1c.str t2c.str _ _ _ _ _ _ 3 6) fun fr3 s3 hS3 hG3 => ⟨hG3, ?_⟩)
  exact AWp.seen good2 rfl hS3 (show 1 ≤ 5 by omega) (end_ok h2 t1c t2c) ⟨hA.plain, trivial⟩ fun fr' s' hS' _ => retV_ok hS'

theorem turns_ok {b : Nat} {A : Array Value} (hA : Str A) {n cp : Nat} {I : Int} (hn : n ≤ A.size) (hcp : n ≤ cp) : AWp cfg2 ⟨1, b⟩ c1 b7 (fr7 n cp I) (heap1 A) (Rg c1) := by
  have fin : ∀ {h : gcObs 1 1 selV (code cfg2 (call cfg2 60) 60 c1 b7 (fr7 n cp I) (heap1 A)) = some (.ret, frV, heap1 A)}, AWp cfg2 ⟨1, b⟩ c1 b7 (fr7 n cp I) (heap1 A) (Rg c1) := fun {h} =>
    AWp.first good2 h ⟨hA.plain, trivial⟩ (Nat.le_refl 1) fun fr' s' hS _ => retV_ok hS
  by_cases h1 : (n : Int) < 1
  · exact fin (h := path_ok t2_ok ((congrFun (congrFun (congrFun (congrFun ub_cond A) n) cp) I).trans (by simp only [ub_c, decide_eq_true h1]; rfl)) (congrFun (congrFun (congrFun (congrFun ub_leaf A) n) cp) I))
  by_cases h2 : (n : Int) > 50
  · exact fin (h := path_ok t2_ok ((congrFun (congrFun (congrFun (congrFun uc_cond A) n) cp) I).trans (by simp only [uc_c, decide_eq_false h1, decide_eq_true h2]; rfl)) (congrFun (congrFun (congrFun (congrFun uc_leaf A) n) cp) I))
  by_cases h3 : I < -1099511627776
  · exact fin (h := path_ok t2_ok ((congrFun (congrFun (congrFun (congrFun ud_cond A) n) cp) I).trans (by simp only [ud_c, decide_eq_false h1, decide_eq_false h2, decide_eq_true h3]; rfl)) (congrFun (congrFun (congrFun (congrFun ud_leaf A) n) cp) I))
  by_cases h4 : I > 1099511627776
  · exact fin (h := path_ok t2_ok ((congrFun (congrFun (congrFun (congrFun ue_cond A) n) cp) I).trans (by simp only [ue_c, decide_eq_false h1, decide_eq_false h2, decide_eq_false h3, decide_eq_true h4]; rfl)) (congrFun (congrFun (congrFun (congrFun ue_leaf A) n) cp) I))
  exact turns_main hA hn hcp (by omega) (by omega) h3 h4
theorem turns_nil {b : Nat} {I : Int} : AWp cfg2 ⟨0, b⟩ c0 b7 (fr7n I) st0 (Rg c0) :=
  AWp.first good2 (path_ok t2_ok (congrFun un_cond I) (congrFun un_leaf I)) trivial (Nat.le_refl 0) fun fr' s' hS _ => retV_ok hS
end
end Go.Proofs.Ytgcffmkifjnmlaa
