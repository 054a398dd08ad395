/- NetScripts: each call makes the same of both. -/
import Derived.Test.YtgcffmkifjnmlaaNU
namespace Go.Proofs.Ytgcffmkifjnmlaa
open Go.Am
noncomputable section
section
variable {a b : Int} {nl : Bool} {M : Array Value}
theorem nx_send {Y : Array Value} {q k : Nat} (h : netOk ⟨a, b, nl, M⟩ = true) (hS : strs (Y.extract q (q + k)) = true) (hb : b + (k : Int) ≤ 1099511627776) :
    netOk (nxt sendE ⟨a, b, nl, M⟩ [VS Y q k]) = true ∧ (nxt sendE ⟨a, b, nl, M⟩ [VS Y q k]).a = a ∧ (nxt sendE ⟨a, b, nl, M⟩ [VS Y q k]).b = b + ((k - min k (a.toNat - M.size) : Nat) : Int) ∧
      (nxt sendE ⟨a, b, nl, M⟩ [VS Y q k]).M = if min k (a.toNat - M.size) = 0 then M else M ++ Y.extract q (q + min k (a.toNat - M.size)) := by
  obtain ⟨h1, h2, h3, h4, h5, h6, h7⟩ := netOk_iff.1 h
  simp only at h1 h2 h3 h4 h5 h6 h7
  have hrow : sendE.row ⟨a, b, nl, M⟩ [VS Y q k] = if min k (a.toNat - M.size) = 0 then none else some (false, M ++ Y.extract q (q + min k (a.toNat - M.size))) := rfl
  have ha : sendE.a ⟨a, b, nl, M⟩ [VS Y q k] = a := rfl
  have hbb : sendE.b ⟨a, b, nl, M⟩ [VS Y q k] = b + ((k - min k (a.toNat - M.size) : Nat) : Int) := rfl
  generalize hL : min k (a.toNat - M.size) = L at *
  by_cases h0 : L = 0
  · have e : nxt sendE ⟨a, b, nl, M⟩ [VS Y q k] = ⟨a, b + ((k - L : Nat) : Int), nl, M⟩ := by unfold nxt; rw [hrow, if_pos h0, ha, hbb]
    rw [e, if_pos h0]
    exact ⟨netOk_iff.2 ⟨h1, h2, h3, by simp only; omega, by simp only; omega, h6, h7⟩, rfl, rfl, rfl⟩
  · have e : nxt sendE ⟨a, b, nl, M⟩ [VS Y q k] = ⟨a, b + ((k - L : Nat) : Int), false, M ++ Y.extract q (q + L)⟩ := by unfold nxt; rw [hrow, if_neg h0, ha, hbb]
    rw [e, if_neg h0]
    refine ⟨netOk_iff.2 ⟨h1, h2, ?_, by simp only; omega, by simp only; omega, strs_app h6 ?_, fun h => nomatch h⟩, rfl, rfl, rfl⟩
    · simp only [Array.size_append, Array.size_extract]; omega
    · rw [ext_ext (k := k) (by omega)]; exact strs_ext hS _ _
theorem cutM_size {p : Nat} (h : p < M.size) : (cutM M p).size = M.size - 1 := by
  unfold cutM; simp; omega
theorem nx_take {z : Bool} {i : Int} (h : netOk ⟨a, b, nl, M⟩ = true) :
    netOk (nxt (takeE z) ⟨a, b, nl, M⟩ [.int .i64 i]) = true ∧ (nxt (takeE z) ⟨a, b, nl, M⟩ [.int .i64 i]).a = a ∧ (nxt (takeE z) ⟨a, b, nl, M⟩ [.int .i64 i]).b = b ∧
      (nxt (takeE z) ⟨a, b, nl, M⟩ [.int .i64 i]).M = if M.size = 0 then M else cutM M (plI M.size i).toNat := by
  obtain ⟨h1, h2, h3, h4, h5, h6, h7⟩ := netOk_iff.1 h
  simp only at h1 h2 h3 h4 h5 h6 h7
  have hrow : (takeE z).row ⟨a, b, nl, M⟩ [.int .i64 i] = if M.size = 0 then none else some (z && decide (M.size = 1), cutM M (plI M.size i).toNat) := rfl
  by_cases h0 : M.size = 0
  · have e : nxt (takeE z) ⟨a, b, nl, M⟩ [.int .i64 i] = ⟨a, b, nl, M⟩ := by unfold nxt; rw [hrow, if_pos h0]; rfl
    rw [e, if_pos h0]
    exact ⟨h, rfl, rfl, rfl⟩
  · obtain ⟨p, hp, hpm⟩ := plI_nat (i := i) h0
    have e : nxt (takeE z) ⟨a, b, nl, M⟩ [.int .i64 i] = ⟨a, b, z && decide (M.size = 1), cutM M (plI M.size i).toNat⟩ := by unfold nxt; rw [hrow, if_neg h0]; rfl
    rw [e, if_neg h0, hp, Int.toNat_natCast]
    have hc := cutM_size hpm
    refine ⟨netOk_iff.2 ⟨h1, h2, by simp only; omega, h4, h5, cut_strs h6 _, fun hz => ?_⟩, rfl, rfl, rfl⟩
    simp only [Bool.and_eq_true, decide_eq_true_eq] at hz
    exact Array.eq_empty_of_size_eq_zero (by simp only; omega)
theorem nx_drop {z : Bool} {i : Int} (h : netOk ⟨a, b, nl, M⟩ = true) (hb : b + 1 ≤ 1099511627776) :
    netOk (nxt (dropE z) ⟨a, b, nl, M⟩ [.int .i64 i]) = true ∧ (nxt (dropE z) ⟨a, b, nl, M⟩ [.int .i64 i]).a = a ∧ (nxt (dropE z) ⟨a, b, nl, M⟩ [.int .i64 i]).b = (if M.size = 0 then b else b + 1) ∧
      (nxt (dropE z) ⟨a, b, nl, M⟩ [.int .i64 i]).M = if M.size = 0 then M else cutM M (plI M.size i).toNat := by
  obtain ⟨h1, h2, h3, h4, h5, h6, h7⟩ := netOk_iff.1 h
  simp only at h1 h2 h3 h4 h5 h6 h7
  have hrow : (dropE z).row ⟨a, b, nl, M⟩ [.int .i64 i] = if M.size = 0 then none else some (z && decide (M.size = 1), cutM M (plI M.size i).toNat) := rfl
  have hbb : (dropE z).b ⟨a, b, nl, M⟩ [.int .i64 i] = if M.size = 0 then b else b + 1 := rfl
  have haa : (dropE z).a ⟨a, b, nl, M⟩ [.int .i64 i] = a := rfl
  by_cases h0 : M.size = 0
  · have e : nxt (dropE z) ⟨a, b, nl, M⟩ [.int .i64 i] = ⟨a, b, nl, M⟩ := by unfold nxt; rw [hrow, if_pos h0, hbb, if_pos h0, haa]
    rw [e, if_pos h0, if_pos h0]
    exact ⟨h, rfl, rfl, rfl⟩
  · obtain ⟨p, hp, hpm⟩ := plI_nat (i := i) h0
    have e : nxt (dropE z) ⟨a, b, nl, M⟩ [.int .i64 i] = ⟨a, b + 1, z && decide (M.size = 1), cutM M (plI M.size i).toNat⟩ := by unfold nxt; rw [hrow, if_neg h0, hbb, if_neg h0, haa]
    rw [e, if_neg h0, if_neg h0, hp, Int.toNat_natCast]
    have hc := cutM_size hpm
    refine ⟨netOk_iff.2 ⟨h1, h2, by simp only; omega, by simp only; omega, hb, cut_strs h6 _, fun hz => ?_⟩, rfl, rfl, rfl⟩
    simp only [Bool.and_eq_true, decide_eq_true_eq] at hz
    exact Array.eq_empty_of_size_eq_zero (by simp only; omega)
theorem nx_twice {i : Int} (h : netOk ⟨a, b, nl, M⟩ = true) :
    netOk (nxt twiceE ⟨a, b, nl, M⟩ [.int .i64 i]) = true ∧ (nxt twiceE ⟨a, b, nl, M⟩ [.int .i64 i]).a = a ∧ (nxt twiceE ⟨a, b, nl, M⟩ [.int .i64 i]).b = b ∧
      (nxt twiceE ⟨a, b, nl, M⟩ [.int .i64 i]).M = if (decide (M.size = 0) || decide (a ≤ (M.size : Int))) then M else M ++ #[.string (toStr M[(plI M.size i).toNat]?)] := by
  obtain ⟨h1, h2, h3, h4, h5, h6, h7⟩ := netOk_iff.1 h
  simp only at h1 h2 h3 h4 h5 h6 h7
  have hrow : twiceE.row ⟨a, b, nl, M⟩ [.int .i64 i] = if (decide (M.size = 0) || decide (a ≤ (M.size : Int))) then none else some (false, M ++ #[.string (toStr M[(plI M.size i).toNat]?)]) := rfl
  by_cases h0 : (decide (M.size = 0) || decide (a ≤ (M.size : Int))) = true
  · have e : nxt twiceE ⟨a, b, nl, M⟩ [.int .i64 i] = ⟨a, b, nl, M⟩ := by unfold nxt; rw [hrow, if_pos h0]; rfl
    rw [e, if_pos h0]
    exact ⟨h, rfl, rfl, rfl⟩
  · have e : nxt twiceE ⟨a, b, nl, M⟩ [.int .i64 i] = ⟨a, b, false, M ++ #[.string (toStr M[(plI M.size i).toNat]?)]⟩ := by unfold nxt; rw [hrow, if_neg h0]; rfl
    rw [e, if_neg h0]
    have hlt : ¬ a ≤ (M.size : Int) := fun h => h0 (by rw [decide_eq_true h]; simp)
    exact ⟨netOk_iff.2 ⟨h1, h2, by simp; omega, h4, h5, strs_app h6 toStr_one, fun h => nomatch h⟩, rfl, rfl, rfl⟩
end

/-- What holds at the loop's head. -/
structure Inv (A B : Net) (i : Nat) : Prop where
  okA : netOk A = true
  okB : netOk B = true
  a : A.a = B.a
  b : A.b = B.b
  M : A.M = B.M
  le : A.b ≤ 100 * (i : Int)
/-- An op as it should be. -/
def opOk (X : Array Value) (o j : Nat) : Bool := decide (o + j * 3 + 3 ≤ X.size) && (cellsOk X [.int .i64, .sl, .int .i64] (o + j * 3) && (decide (vO X[o + j * 3 + 1]? + vL X[o + j * 3 + 1]? ≤ (vX X[o + j * 3 + 1]?).size) && (strs ((vX X[o + j * 3 + 1]?).extract (vO X[o + j * 3 + 1]?) (vO X[o + j * 3 + 1]? + vL X[o + j * 3 + 1]?)) && (decide (vL X[o + j * 3 + 1]? ≤ 50) && intOk (toI X[o + j * 3 + 2]?)))))
/-- Where a round ends. -/
structure EndOk (fr : Fr) (s : St) (X : Array Value) (o n : Nat) (i : Int) (A B : Net) : Prop where
  hfr : (fr.fn, fr.nt, fr.round) = (3, 59, none)
  htm : [1, 5, 6, 7].map fr.tm.get = [some (VS X o n), some (ptrV 0), some (ptrV 2), some (.int .i64 i)]
  hex : ∃ p q, p ≠ 0 ∧ p ≠ 2 ∧ q ≠ 0 ∧ q ≠ 2 ∧ p ≠ q ∧ p < s.next ∧ q < s.next ∧ 2 < s.next ∧ s.heap.get 0 = some (boxO false A.a A.b (netV p A.nl A.M)) ∧ s.heap.get p = netO A.nl A.M ∧ s.heap.get 2 = some (boxO true B.a B.b (netV q B.nl B.M)) ∧ s.heap.get q = netO B.nl B.M

def four (p q : Nat) : Nat → Nat := fun i => if i = 0 then 0 else if i = 1 then p else if i = 2 then 2 else q
theorem sB_get {A B : Net} {i : Nat} {o : AObj} (h : (sB A B).heap.get i = some o) : (i = 0 ∧ o = boxO false A.a A.b (netV 1 A.nl A.M)) ∨ (i = 1 ∧ netO A.nl A.M = some o) ∨ (i = 2 ∧ o = boxO true B.a B.b (netV 3 B.nl B.M)) ∨ (i = 3 ∧ netO B.nl B.M = some o) := by
  unfold sB at h
  simp only at h
  rw [Tr.get_set] at h
  split at h
  · rename_i e; exact .inr (.inr (.inr ⟨e, h⟩))
  · rw [Tr.get_put] at h
    split at h
    · rename_i e; cases h; exact .inr (.inr (.inl ⟨e, rfl⟩))
    · rw [Tr.get_set] at h
      split at h
      · rename_i e; exact .inr (.inl ⟨e, h⟩)
      · rw [Tr.get_put] at h
        split at h
        · rename_i e; cases h; exact .inl ⟨e, rfl⟩
        · rw [Tr.get_nil] at h; cases h
theorem netO_ren {e : Nat → Nat} {m : Nat} {A : Net} (h : netOk A = true) {o : AObj} (ho : netO A.nl A.M = some o) : ObRen e m o o := by
  unfold netO at ho
  cases hn : A.nl with
  | true => rw [hn] at ho; cases ho
  | false => rw [hn] at ho; cases ho; exact row_ren (net_free h)
theorem frH_get {X : Array Value} {o n : Nat} {i : Int} {t : Tmp} {v : Value} (h : (frH X o n i).tm.get t = some v) : (t = 1 ∧ v = VS X o n) ∨ (t = 5 ∧ v = ptrV 0) ∨ (t = 6 ∧ v = ptrV 2) ∨ (t = 7 ∧ v = .int .i64 i) := by
  simp only [frH, frS, tmS] at h
  rw [Tr.get_put] at h
  split at h
  · rename_i e; cases h; exact .inr (.inr (.inr ⟨e, rfl⟩))
  · rw [Tr.get_put] at h
    split at h
    · rename_i e; cases h; exact .inr (.inr (.inl ⟨e, rfl⟩))
    · rw [Tr.get_put] at h
      split at h
      · rename_i e; cases h; exact .inr (.inl ⟨e, rfl⟩)
      · rw [Tr.get_put] at h
        split at h
        · rename_i e; cases h; exact .inl ⟨e, rfl⟩
        · rw [Tr.get_nil] at h; cases h
theorem nt3 : ntOf 3 = 59 := by kernel_rfl
theorem end_view {fr : Fr} {s : St} {X : Array Value} {o n : Nat} {i : Int} {A B : Net} (h : EndOk fr s X o n i A B) (hA : netOk A = true) (hB : netOk B = true) : ∃ e2, (∀ b, View ⟨0, b⟩ 0 cz s cz (sB A B) e2) ∧ FView e2 (sB A B).next fr (frH X o n i) := by
  obtain ⟨p, q, hp0, hp2, hq0, hq2, hpq, hpn, hqn, h2n, g0, gp, g2, gq⟩ := h.hex
  refine ⟨four p q, fun b => ⟨rfl, Nat.zero_le _, fun i hi => ⟨?_, rfl⟩, fun i j hi hj he => ?_, fun i o ho => ?_, fun i hi _ => rfl, fun i hi => ⟨fun h => absurd h (Nat.not_lt_zero _), fun h => absurd h (Nat.not_lt_zero _)⟩, Nat.zero_le _⟩, ?_⟩
  · have hi : i < 4 := hi
    unfold four
    split
    · omega
    · split
      · exact hpn
      · split
        · exact h2n
        · exact hqn
  · have hi : i < 4 := hi
    have hj : j < 4 := hj
    rcases (by omega : i = 0 ∨ i = 1 ∨ i = 2 ∨ i = 3) with rfl | rfl | rfl | rfl <;> rcases (by omega : j = 0 ∨ j = 1 ∨ j = 2 ∨ j = 3) with rfl | rfl | rfl | rfl <;> simp [four] at he ⊢ <;> omega
  · rcases sB_get ho with ⟨rfl, rfl⟩ | ⟨rfl, ho1⟩ | ⟨rfl, rfl⟩ | ⟨rfl, ho1⟩
    · exact ⟨(by decide : 0 < 4), _, g0, box_ren (netV_ren (four p q) (by decide : 1 < 4) _ _)⟩
    · exact ⟨(by decide : 1 < 4), o, gp.trans ho1, netO_ren hA ho1⟩
    · exact ⟨(by decide : 2 < 4), _, g2, box_ren (netV_ren (four p q) (by decide : 3 < 4) _ _)⟩
    · exact ⟨(by decide : 3 < 4), o, gq.trans ho1, netO_ren hB ho1⟩
  · have hfr := h.hfr
    have htm := h.htm
    simp only [Prod.mk.injEq] at hfr
    simp only [List.map_cons, List.map_nil, List.cons.injEq, and_true] at htm
    obtain ⟨f1, f2, f3⟩ := hfr
    obtain ⟨t1, t5, t6, t7⟩ := htm
    refine ⟨f1.symm, ?_, fun t v hv => ?_, fun t p hp => ?_, fun d cs hd => ?_, f3⟩
    · rw [f2]; exact nt3
    · rcases frH_get hv with ⟨rfl, rfl⟩ | ⟨rfl, rfl⟩ | ⟨rfl, rfl⟩ | ⟨rfl, rfl⟩
      · exact ⟨_, t1, free_self _ _ _ 9 _ rfl⟩
      · exact ⟨_, t5, ptr_ren (four p q) (by decide : 0 < 4)⟩
      · exact ⟨_, t6, ptr_ren (four p q) (by decide : 2 < 4)⟩
      · exact ⟨_, t7, Vrel.int (Z := idZone) _ _⟩
    · have hp : (Tr.nil : Tr (Nat × Nat)).get t = some p := hp
      rw [Tr.get_nil] at hp; cases hp
    · have hd : (Tr.nil : Tr (Array Value)).get d = some cs := hd
      rw [Tr.get_nil] at hd; cases hd
end
end Go.Proofs.Ytgcffmkifjnmlaa
