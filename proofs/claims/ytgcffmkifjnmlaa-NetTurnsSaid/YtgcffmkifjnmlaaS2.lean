/- Are two lists of texts the same: what the function comes to. -/
import Derived.Test.YtgcffmkifjnmlaaS1
import Derived.Test.YtgcffmkifjnmlaaO2
namespace Go.Proofs.Ytgcffmkifjnmlaa
open Go.Am
noncomputable section

def eqAt (X Y : Array Value) (ox oy j : Nat) : Bool := ByteArray.toList (toStr X[ox + j]?) == ByteArray.toList (toStr Y[oy + j]?)
def sameB (X Y : Array Value) (ox oy la lb : Nat) : Bool := decide (la = lb) && (List.range la).all fun j => eqAt X Y ox oy j

def Rb (c : Ctx) (v : Bool) : Ex → Fr → St → Prop := fun ex fr' s' => (ex = .normal ∨ ex = .ret) ∧ resultsV cfg1 c fr' s' [.tmp 4] = some (.bool v)
theorem frT_get : (fun v => (frT v).tm.get 4) = fun v => some (.bool v) := by kernel_rfl
theorem retB_ok {base : Base} {k0 fl : Nat} {c : Ctx} {sj : St} {fr : Fr} {s : St} {v : Bool} (h : Sn base k0 fl c (frT v) sj fr s) : Rb c v .ret fr s := by
  have h4 : fr.tm.get 4 = some (.bool v) := h.slot (t := 4) (v := .bool v) (congrFun frT_get v) rfl
  refine ⟨.inr rfl, ?_⟩
  simp only [resultsV, resultsL, resultOf, h4]
  rfl

theorem plainS {X Y : Array Value} (hX : Str X) (hY : Str Y) (px py : Bool) : plainJ (sS X Y px py) [.plain 0, .plain 1] 0 := ⟨hX.plain, hY.plain, trivial⟩

theorem wk {k : Nat} (h : k < 9223372036854775807) : IntKind.wrap .i64 ((k : Int) + 1) = ((k + 1 : Nat) : Int) := by
  simp [IntKind.wrap, IntKind.bits, IntKind.signed]
  split <;> omega

theorem same_ok {b : Nat} {X Y : Array Value} (hX : Str X) (hY : Str Y) {px py : Bool} {ox la ca oy lb cb : Nat} (h1 : ox + la ≤ X.size) (h2 : oy + lb ≤ Y.size) (hm : la ≤ 4294967296) :
    AWp cfg1 ⟨0, b⟩ c2 b13 (frS0 ox la ca oy lb cb) (sS X Y px py) (Rb c2 (sameB X Y ox oy la lb)) := by
  by_cases hl : la = lb
  · rw [b13_eq]
    have hsb := path_ok t1_ok ((congrFun (congrFun (congrFun (congrFun (congrFun (congrFun (congrFun (congrFun (congrFun (congrFun sb_cond X) Y) px) py) ox) la) ca) oy) lb) cb).trans (by simp [sb_c, hl])) (congrFun (congrFun (congrFun (congrFun (congrFun (congrFun (congrFun (congrFun (congrFun (congrFun sb_leaf X) Y) px) py) ox) la) ca) oy) lb) cb)
    refine AWp.nestFirst good1 hsb (plainS hX hY px py) (Nat.le_refl 2) fun fr1 s1 hS1 => ?_
    show AWp cfg1 ⟨0, b⟩ c2 rest13 fr1 s1 _
    rw [rest13_eq]
    have hs3 := path_ok t1_ok (congrFun (congrFun (congrFun (congrFun (congrFun (congrFun (congrFun (congrFun (congrFun (congrFun s3_cond X) Y) px) py) ox) la) ca) oy) lb) cb) (congrFun (congrFun (congrFun (congrFun (congrFun (congrFun (congrFun (congrFun (congrFun (congrFun s3_leaf X) Y) px) py) ox) la) ca) oy) lb) cb)
    refine AWp.seq (AWp.seq (AWp.seen good1 rfl hS1 (show 2 ≤ 2 by omega) hs3 (plainS hX hY px py) fun fr2 s2 hS2 hG2 => ⟨hG2, ?_⟩))
    refine AWp.block ?_
    refine AWp.loop (I := fun (p : Nat) fr s => (p ≤ la ∧ ∀ j, j < p → eqAt X Y ox oy j = true) ∧ Sn ⟨0, b⟩ 0 2 c2 (frS ox la ca oy lb cb p) (sS X Y px py) fr s ∧ Grow c2 s1 s) (fun p => la - p) (fun p fr s hI => ?_) 0 fr2 s2 ⟨⟨Nat.zero_le _, fun j hj => by omega⟩, hS2, hG2⟩
    obtain ⟨⟨hp, he⟩, hS, hG⟩ := hI
    by_cases hk : p < la
    · obtain ⟨x, hx⟩ := hX.at (show ox + p < X.size by omega)
      obtain ⟨y, hy⟩ := hY.at (show oy + p < Y.size by omega)
      have ex : X[ox + Int.toNat (p : Int) * 1]? = some (.string x) := by rw [show ox + Int.toNat (p : Int) * 1 = ox + p from by simp]; exact hx
      have ey : Y[oy + Int.toNat (p : Int) * 1]? = some (.string y) := by rw [show oy + Int.toNat (p : Int) * 1 = oy + p from by simp]; exact hy
      by_cases hq : eqAt X Y ox oy p = true
      · have hc : sr2_c X Y px py ox la ca oy lb cb p = true := by
          simp only [sr2_c, Bool.and_eq_true, Bool.not_eq_true', decide_eq_true_eq, Bool.not_eq_false']
          refine ⟨by omega, ⟨by omega, by omega⟩, isStr_of ⟨x, ex⟩, ⟨by omega, by omega⟩, isStr_of ⟨y, ey⟩, ?_, trivial⟩
          rw [ex, ey]
          unfold eqAt at hq
          rw [hx, hy] at hq
          simpa using hq
        have hr := path_ok t1_ok ((congrFun (congrFun (congrFun (congrFun (congrFun (congrFun (congrFun (congrFun (congrFun (congrFun (congrFun sr2_cond X) Y) px) py) ox) la) ca) oy) lb) cb) (p : Int)).trans hc) (congrFun (congrFun (congrFun (congrFun (congrFun (congrFun (congrFun (congrFun (congrFun (congrFun (congrFun sr2_leaf X) Y) px) py) ox) la) ca) oy) lb) cb) (p : Int))
        rw [wk (by omega)] at hr
        refine AWp.seen good1 rfl hS (show 2 ≤ 2 by omega) hr (plainS hX hY px py) fun fr' s' hS' hG' => ⟨hG', p + 1, by omega, ⟨by omega, fun j hj => ?_⟩, hS', hG.trans hG'⟩
        by_cases e : j = p
        · subst e; exact hq
        · exact he j (by omega)
      · have hc : sr1_c X Y px py ox la ca oy lb cb p = true := by
          simp only [sr1_c, Bool.and_eq_true, Bool.not_eq_true', decide_eq_true_eq]
          refine ⟨by omega, ⟨by omega, by omega⟩, isStr_of ⟨x, ex⟩, ⟨by omega, by omega⟩, isStr_of ⟨y, ey⟩, ?_, trivial⟩
          rw [ex, ey]
          unfold eqAt at hq
          rw [hx, hy] at hq
          simpa using hq
        have hr := path_ok t1_ok ((congrFun (congrFun (congrFun (congrFun (congrFun (congrFun (congrFun (congrFun (congrFun (congrFun (congrFun sr1_cond X) Y) px) py) ox) la) ca) oy) lb) cb) (p : Int)).trans hc) (congrFun (congrFun (congrFun (congrFun (congrFun (congrFun (congrFun (congrFun (congrFun (congrFun (congrFun sr1_leaf X) Y) px) py) ox) la) ca) oy) lb) cb) (p : Int))
        refine AWp.seen good1 rfl hS (show 2 ≤ 2 by omega) hr trivial fun fr' s' hS' hG' => ⟨hG', hG.trans hG', ?_⟩
        have : sameB X Y ox oy la lb = false := by
          unfold sameB
          rw [Bool.and_eq_false_iff]
          right
          rw [List.all_eq_false]
          exact ⟨p, by simpa using hk, by simpa using hq⟩
        rw [this]
        exact retB_ok hS'
    · have hc : sr0_c X Y px py ox la ca oy lb cb p = true := by
        simp only [sr0_c, Bool.and_eq_true, Bool.not_eq_true', decide_eq_false_iff_not]
        exact ⟨by omega, trivial⟩
      have hr := path_ok t1_ok ((congrFun (congrFun (congrFun (congrFun (congrFun (congrFun (congrFun (congrFun (congrFun (congrFun (congrFun sr0_cond X) Y) px) py) ox) la) ca) oy) lb) cb) (p : Int)).trans hc) (congrFun (congrFun (congrFun (congrFun (congrFun (congrFun (congrFun (congrFun (congrFun (congrFun (congrFun sr0_leaf X) Y) px) py) ox) la) ca) oy) lb) cb) (p : Int))
      refine AWp.seen good1 rfl hS (show 2 ≤ 2 by omega) hr (plainS hX hY px py) fun fr' s' hS' hG' => ⟨hG', hG.trans hG', ?_⟩
      have ht := path_ok t1_ok (congrFun (congrFun (congrFun (congrFun (congrFun (congrFun (congrFun (congrFun (congrFun (congrFun (congrFun st_cond X) Y) px) py) ox) la) ca) oy) lb) cb) (p : Int)) (congrFun (congrFun (congrFun (congrFun (congrFun (congrFun (congrFun (congrFun (congrFun (congrFun (congrFun st_leaf X) Y) px) py) ox) la) ca) oy) lb) cb) (p : Int))
      have : sameB X Y ox oy la lb = true := by
        unfold sameB
        rw [Bool.and_eq_true]
        refine ⟨decide_eq_true hl, List.all_eq_true.2 fun j hj => he j ?_⟩
        rw [List.mem_range] at hj
        omega
      rw [this]
      exact AWp.seen good1 rfl hS' (show 2 ≤ 2 by omega) ht trivial fun fr3 s3 hS3 _ => retB_ok hS3
  · have hsa := path_ok t1_ok ((congrFun (congrFun (congrFun (congrFun (congrFun (congrFun (congrFun (congrFun (congrFun (congrFun sa_cond X) Y) px) py) ox) la) ca) oy) lb) cb).trans (by simp [sa_c]; omega)) (congrFun (congrFun (congrFun (congrFun (congrFun (congrFun (congrFun (congrFun (congrFun (congrFun sa_leaf X) Y) px) py) ox) la) ca) oy) lb) cb)
    rw [b13_eq]
    refine AWp.nestFirst good1 hsa trivial (Nat.le_refl 2) fun fr1 s1 hS1 => ?_
    have : sameB X Y ox oy la lb = false := by simp [sameB, hl]
    rw [this]
    exact retB_ok hS1
end
end Go.Proofs.Ytgcffmkifjnmlaa
