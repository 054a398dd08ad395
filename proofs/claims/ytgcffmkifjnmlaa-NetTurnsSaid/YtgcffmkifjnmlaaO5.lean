/- NetOrder: the body. -/
import Derived.Test.YtgcffmkifjnmlaaO4
namespace Go.Proofs.Ytgcffmkifjnmlaa
open Go.Am
noncomputable section

def Rf (c : Ctx) : Ex → Fr → St → Prop := fun ex fr' s' => (ex = .normal ∨ ex = .ret) ∧ resultsV cfg1 c fr' s' [.tmp 4] = some (.bool true)
theorem ret_ok {base : Base} {k0 fl : Nat} {c : Ctx} {sj : St} {fr : Fr} {s : St} (h : Sn base k0 fl c frR sj fr s) : Rf c .ret fr s := by
  have h4 : fr.tm.get 4 = some (.bool true) := h.slot (t := 4) (v := .bool true) (by kernel_rfl) rfl
  refine ⟨.inr rfl, ?_⟩
  simp only [resultsV, resultsL, resultOf, h4]
  rfl

theorem wrap_id {n : Int} (h : -9223372036854775808 ≤ n) (h' : n < 9223372036854775808) : IntKind.wrap .i64 n = n := by
  simp [IntKind.wrap, IntKind.bits, IntKind.signed]
  split <;> omega
theorem lE_eq {n : Nat} {M : Int} (h1 : 1 ≤ M) (h2 : M ≤ 1000) : lE n M = ((min n M.toNat : Nat) : Int) := by
  unfold lE
  rw [wrap_id (by omega) (by omega)]
  split <;> omega

theorem pd_true {A : Array Value} (hA : Str A) {n cp : Nat} {M : Int} (hn : n ≤ A.size) (hcp : n ≤ cp) (h1 : 1 ≤ M) (h2 : M ≤ 1000) (h3 : n ≤ 100) (h4 : 0 < n) : pd_c A n cp M = true := by
  have hl : (if IntKind.wrap IntKind.i64 (M - ((0 : Nat) : Int)) < (n : Int) then IntKind.wrap IntKind.i64 (M - ((0 : Nat) : Int)) else (n : Int)) = ((min n M.toNat : Nat) : Int) := lE_eq h1 h2
  have hm : (if M < (n : Int) then M else (n : Int)) = ((min n M.toNat : Nat) : Int) := by split <;> omega
  have e0 : (A.extract (0 + 0 * 1) (0 + 0 * 1 + (Int.toNat ((min n M.toNat : Nat) : Int) - 0) * 1)).toList.all Value.oneCell' = true := (hA.extract _ _).all
  simp only [pd_c, hl, hm]
  generalize hL : min n M.toNat = L at e0 ⊢
  simp only [Bool.and_eq_true, Bool.not_eq_true', decide_eq_true_eq, decide_eq_false_iff_not, bne_eq_false_iff_eq]
  refine ⟨by omega, by omega, by omega, by omega, by omega, by omega, ?_, by omega, ⟨by omega, by omega⟩, e0, trivial, ?_, trivial⟩
  · unfold nLim; simp; omega
  · rw [wrap_id (n := (n : Int) - L) (by omega) (by omega), wrap_id (by omega) (by omega)]; omega

theorem body_main {b : Nat} {A : Array Value} (hA : Str A) {n cp : Nat} {M : Int} (hn : n ≤ A.size) (hcp : n ≤ cp) (h1 : 1 ≤ M) (h2 : M ≤ 1000) (h3 : n ≤ 100) (h4 : 0 < n) : AWp cfg1 ⟨1, b⟩ c1 b6 (fr6 n cp M) (heap1 A) (Rf c1) := by
  have hl := lE_eq (n := n) h1 h2
  have hpd := path_ok t1_ok ((congrFun (congrFun (congrFun (congrFun pd_cond A) n) cp) M).trans (pd_true hA hn hcp h1 h2 h3 h4)) (congrFun (congrFun (congrFun (congrFun pd_leaf A) n) cp) M)
  rw [hl] at hpd
  rw [b6_eq]
  generalize hL : min n M.toNat = L at hpd
  have hB : Str (A.extract (0 + 0 * 1) (0 + 0 * 1 + (Int.toNat (L : Int) - 0) * 1)) := hA.extract _ _
  refine AWp.nestFirst good1 hpd (plainC hA hB M _ _ _ 2) (Nat.le_refl 1) fun fr1 s1 hS1 => ?_
  show AWp cfg1 ⟨1, b⟩ c1 rest6 fr1 s1 (Rf c1)
  rw [rest6_eq]
  have h7 := congrFun (congrFun (congrFun (congrFun (congrFun (congrFun (congrFun (congrFun (congrFun p7 A) (A.extract (0 + 0 * 1) (0 + 0 * 1 + (Int.toNat (L : Int) - 0) * 1))) n) cp) (L : Int)) M) (IntKind.wrap .i64 (0 + IntKind.wrap .i64 ((n : Int) - (L : Int))))) (Int.toNat (L : Int) - 0)) (Int.toNat (L : Int) - 0)
  rw [gcObs_tree t1_ok] at h7
  refine AWp.seq (AWp.seq (AWp.seen good1 rfl hS1 (show 1 ≤ 3 by omega) h7 (plainC hA hB M _ _ _ 2) fun fr2 s2 hS2 hG2 => ⟨hG2, ?_⟩))
  refine AWp.block ?_
  refine loop_ok hA (laid := L) (s0 := s1) (by omega) hn (by omega) (fun p fr s hI hk hG => ?_) ⟨0, A.extract (0 + 0 * 1) (0 + 0 * 1 + (Int.toNat (L : Int) - 0) * 1), Int.toNat (L : Int) - 0, Int.toNat (L : Int) - 0⟩ fr2 s2 ⟨⟨⟨hB, Nat.zero_le _, by simp, by simp; omega, fun j hj => ?_⟩, hS2⟩, hG2⟩
  · obtain ⟨hp, hS⟩ := hI
    have hlen : p.len = 0 := by have := hp.len; omega
    rw [hlen] at hS
    refine ⟨hG, ?_⟩
    have ht := path_ok t1_ok (congrFun (congrFun (congrFun (congrFun (congrFun (congrFun (congrFun (congrFun (congrFun pt_cond A) p.B) n) cp) (L : Int)) (p.k : Int)) M) (IntKind.wrap .i64 (0 + IntKind.wrap .i64 ((n : Int) - (L : Int))))) p.cap) (congrFun (congrFun (congrFun (congrFun (congrFun (congrFun (congrFun (congrFun (congrFun pt_leaf A) p.B) n) cp) (L : Int)) (p.k : Int)) M) (IntKind.wrap .i64 (0 + IntKind.wrap .i64 ((n : Int) - (L : Int))))) p.cap)
    exact AWp.seen good1 rfl hS (show 1 ≤ 3 by omega) ht ⟨hA.plain, trivial⟩ fun fr' s' hS' _ => ret_ok hS'
  · simp only at hj ⊢
    rw [Array.getElem?_extract, if_pos (by omega)]

theorem body_ok {b : Nat} {A : Array Value} (hA : Str A) {n cp : Nat} {M : Int} (hn : n ≤ A.size) (hcp : n ≤ cp) : AWp cfg1 ⟨1, b⟩ c1 b6 (fr6 n cp M) (heap1 A) (Rf c1) := by
  have fin : ∀ {h : gcObs 1 1 sel6 (code cfg1 (call cfg1 60) 60 c1 b6 (fr6 n cp M) (heap1 A)) = some (.ret, frR, heap1 A)}, AWp cfg1 ⟨1, b⟩ c1 b6 (fr6 n cp M) (heap1 A) (Rf c1) := fun {h} =>
    AWp.first good1 h ⟨hA.plain, trivial⟩ (Nat.le_refl 1) fun fr' s' hS _ => ret_ok hS
  by_cases h1 : M < 1
  · exact fin (h := path_ok t1_ok ((congrFun (congrFun (congrFun (congrFun pa_cond A) n) cp) M).trans (by simp [pa_c, h1])) (congrFun (congrFun (congrFun (congrFun pa_leaf A) n) cp) M))
  by_cases h2 : M > 1000
  · exact fin (h := path_ok t1_ok ((congrFun (congrFun (congrFun (congrFun pb_cond A) n) cp) M).trans (by simp [pb_c, h1, h2])) (congrFun (congrFun (congrFun (congrFun pb_leaf A) n) cp) M))
  by_cases h3 : (n : Int) > 100
  · exact fin (h := path_ok t1_ok ((congrFun (congrFun (congrFun (congrFun pc_cond A) n) cp) M).trans (by simp only [pc_c, decide_eq_false h1, decide_eq_false h2, decide_eq_true h3]; rfl)) (congrFun (congrFun (congrFun (congrFun pc_leaf A) n) cp) M))
  by_cases h4 : 0 < n
  · exact body_main hA hn hcp (by omega) (by omega) (by omega) h4
  · have h0 : n = 0 := by omega
    subst h0
    have hl : (if IntKind.wrap IntKind.i64 (M - ((0 : Nat) : Int)) < ((0 : Nat) : Int) then IntKind.wrap IntKind.i64 (M - ((0 : Nat) : Int)) else ((0 : Nat) : Int)) = 0 := by
      rw [wrap_id (by omega) (by omega)]; split <;> omega
    have hm : (if M < ((0 : Nat) : Int) then M else ((0 : Nat) : Int)) = 0 := by split <;> omega
    by_cases h5 : 0 < cp
    · refine fin (h := path_ok t1_ok ((congrFun (congrFun (congrFun pe_cond A) cp) M).trans ?_) (congrFun (congrFun (congrFun pe_leaf A) cp) M))
      simp only [pe_c, hl, hm, decide_eq_false h1, decide_eq_false h2, decide_eq_true h5]
      rw [show decide (Int.toNat 0 ≤ cp) = true from decide_eq_true (Nat.zero_le _)]
      decide +kernel
    · refine fin (h := path_ok t1_ok ((congrFun (congrFun (congrFun pg_cond A) cp) M).trans ?_) (congrFun (congrFun (congrFun pg_leaf A) cp) M))
      have h6 : cp = 0 := by omega
      subst h6
      simp only [pg_c, hl, hm, decide_eq_false h1, decide_eq_false h2]
      decide +kernel

theorem body_nil {b : Nat} {M : Int} : AWp cfg1 ⟨0, b⟩ c0 b6 (frNil M) st0 (Rf c0) := by
  have fin : ∀ {h : gcObs 0 0 selN (code cfg1 (call cfg1 60) 60 c0 b6 (frNil M) st0) = some (.ret, frR, st0)}, AWp cfg1 ⟨0, b⟩ c0 b6 (frNil M) st0 (Rf c0) := fun {h} =>
    AWp.first good1 h trivial (Nat.le_refl 0) fun fr' s' hS _ => ret_ok hS
  by_cases h1 : M < 1
  · exact fin (h := path_ok t1_ok ((congrFun na_cond M).trans (by simp [na_c, h1])) (congrFun na_leaf M))
  by_cases h2 : M > 1000
  · exact fin (h := path_ok t1_ok ((congrFun nb_cond M).trans (by simp [nb_c, h1, h2])) (congrFun nb_leaf M))
  have hl : (if IntKind.wrap IntKind.i64 (M - ((0 : Nat) : Int)) < ((0 : Nat) : Int) then IntKind.wrap IntKind.i64 (M - ((0 : Nat) : Int)) else ((0 : Nat) : Int)) = 0 := by
    rw [wrap_id (by omega) (by omega)]; split <;> omega
  have hm : (if M < ((0 : Nat) : Int) then M else ((0 : Nat) : Int)) = 0 := by split <;> omega
  refine fin (h := path_ok t1_ok ((congrFun nf_cond M).trans ?_) (congrFun nf_leaf M))
  simp only [nf_c, hl, hm, decide_eq_false h1, decide_eq_false h2]
  decide +kernel
end
end Go.Proofs.Ytgcffmkifjnmlaa
