/- NetOrder: the loop. -/
import Derived.Test.YtgcffmkifjnmlaaO2
namespace Go.Proofs.Ytgcffmkifjnmlaa
open Go.Am
noncomputable section

def loopI (b : Nat) (A : Array Value) (n cp laid : Nat) (M lost : Int) (p : At) (fr : Fr) (s : St) : Prop :=
  p.Ok A laid ∧ Sn ⟨1, b⟩ 1 1 c1 (frC n cp laid p.k) (sC A p.B M lost p.len p.cap) fr s

theorem round_true {A : Array Value} (hA : Str A) {n cp laid : Nat} (hln : laid ≤ n) (hn : n ≤ A.size) (hm : laid ≤ 4294967296) {M lost : Int} {p : At} (hp : p.Ok A laid) (hk : p.k < laid) :
    ∃ p' : At, p'.k = p.k + 1 ∧ p'.Ok A laid ∧ gcObs 1 1 selL (code cfg1 (call cfg1 60) 60 c1 loop6 (frC n cp laid p.k) (sC A p.B M lost p.len p.cap)) = some (.normal, frC n cp laid p'.k, sC A p'.B M lost p'.len p'.cap) := by
  have hlen := hp.len
  have hkw : IntKind.wrap .i64 ((p.k : Int) + 1) = ((p.k + 1 : Nat) : Int) := by
    simp [IntKind.wrap, IntKind.bits, IntKind.signed]
    split <;> omega
  have h0 : p.B[0]? = A[p.k]? := hp.row 0 (by omega)
  by_cases h1 : p.len = 1
  · obtain ⟨a1, a2⟩ := row2_ok hp.str h1 hp.size
    refine ⟨⟨p.k + 1, row2 p.B p.len, 0, 0 + p.len - 0⟩, rfl, ⟨a2, by simp only; omega, by simp only; omega, Nat.zero_le _, fun j hj => by simp only at hj; omega⟩, ?_⟩
    have hc := congrFun (congrFun (congrFun (congrFun (congrFun (congrFun (congrFun (congrFun (congrFun (congrFun r2_cond A) p.B) n) cp) (laid : Int)) (p.k : Int)) M) lost) p.len) p.cap
    have hl := congrFun (congrFun (congrFun (congrFun (congrFun (congrFun (congrFun (congrFun (congrFun (congrFun r2_leaf A) p.B) n) cp) (laid : Int)) (p.k : Int)) M) lost) p.len) p.cap
    rw [hkw, z0_eq] at hl
    exact path_ok t1_ok (hc.trans (r2_true hA hp.str rfl (by omega) (by omega) hn h1 hp.size h0)) hl
  · obtain ⟨a1, a2, a3⟩ := row1_ok hp.str (show 1 ≤ p.len by omega) hp.size
    refine ⟨⟨p.k + 1, row1 p.B p.len, m0 p.len, 0 + p.len - 0⟩, rfl, ⟨a2, by simp only; omega, by simp only [m0_eq]; omega, by simp only [m0_eq]; rw [a1]; omega, fun j hj => ?_⟩, ?_⟩
    · simp only [m0_eq] at hj ⊢
      rw [a3 j hj, hp.row (j + 1) (by omega)]
      congr 1
      omega
    · have hc := congrFun (congrFun (congrFun (congrFun (congrFun (congrFun (congrFun (congrFun (congrFun (congrFun r1_cond A) p.B) n) cp) (laid : Int)) (p.k : Int)) M) lost) p.len) p.cap
      have hl := congrFun (congrFun (congrFun (congrFun (congrFun (congrFun (congrFun (congrFun (congrFun (congrFun r1_leaf A) p.B) n) cp) (laid : Int)) (p.k : Int)) M) lost) p.len) p.cap
      rw [hkw] at hl
      exact path_ok t1_ok (hc.trans (r1_true hA hp.str rfl (by omega) (by omega) hn (by omega) (by omega) hp.size h0)) hl

theorem out_true {A : Array Value} {n cp laid : Nat} {M lost : Int} {p : At} (hk : ¬ p.k < laid) :
    gcObs 1 1 selL (code cfg1 (call cfg1 60) 60 c1 loop6 (frC n cp laid p.k) (sC A p.B M lost p.len p.cap)) = some (.exit 0, frC n cp laid p.k, sC A p.B M lost p.len p.cap) := by
  have hc := congrFun (congrFun (congrFun (congrFun (congrFun (congrFun (congrFun (congrFun (congrFun (congrFun r0_cond A) p.B) n) cp) (laid : Int)) (p.k : Int)) M) lost) p.len) p.cap
  have hl := congrFun (congrFun (congrFun (congrFun (congrFun (congrFun (congrFun (congrFun (congrFun (congrFun r0_leaf A) p.B) n) cp) (laid : Int)) (p.k : Int)) M) lost) p.len) p.cap
  refine path_ok t1_ok (hc.trans ?_) hl
  simp only [r0_c, Bool.and_true, Bool.not_eq_true', decide_eq_false_iff_not]
  omega

theorem plainC {A B : Array Value} (hA : Str A) (hB : Str B) (M lost : Int) (len cap : Nat) (i : Nat) : plainJ (sC A B M lost len cap) [.plain 0, .cells 1, .plain i] 0 :=
  ⟨hA.plain, hB.plain, trivial⟩

theorem loop_ok {b : Nat} {A : Array Value} (hA : Str A) {n cp laid : Nat} (hln : laid ≤ n) (hn : n ≤ A.size) (hm : laid ≤ 4294967296) {M lost : Int} {s0 : St} {R : Ex → Fr → St → Prop}
    (hR : ∀ p fr s, loopI b A n cp laid M lost p fr s → p.k = laid → Grow c1 s0 s → R (.exit 0) fr s) : ∀ p fr s, (loopI b A n cp laid M lost p fr s ∧ Grow c1 s0 s) → AWp cfg1 ⟨1, b⟩ c1 (.loop loop6) fr s R := by
  refine AWp.loop (I := fun p fr s => loopI b A n cp laid M lost p fr s ∧ Grow c1 s0 s) (fun p => laid - p.k) fun p fr s hI => ?_
  obtain ⟨⟨hp, hS⟩, hG0⟩ := hI
  by_cases hk : p.k < laid
  · obtain ⟨p', h1, h2, h3⟩ := round_true hA hln hn hm hp hk
    refine AWp.seen good1 rfl hS (show 1 ≤ 3 by omega) h3 (plainC hA h2.str M lost _ _ 4) fun fr' s' hS' hG => ⟨hG, p', by omega, ⟨h2, hS'⟩, hG0.trans hG⟩
  · refine AWp.seen good1 rfl hS (show 1 ≤ 3 by omega) (out_true hk) (plainC hA hp.str M lost _ _ 2) fun fr' s' hS' hG => ⟨hG, hR p fr' s' ⟨hp, hS'⟩ (by have := hp.le; omega) (hG0.trans hG)⟩
end
end Go.Proofs.Ytgcffmkifjnmlaa
