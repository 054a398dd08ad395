/- From what is known behind a body to a call. -/
import Derived.Test.YtgcffmkifjnmlaaAmSeen
namespace Go.Am
open Go.RowKit Go.ChangeShapes Go.WideShapes
noncomputable section

section
variable {g : Cfg} {base : Base} {c : Ctx} {φ : Nat → Pl} {ω : Nat → Option Tag} {s : St} {w : World}

def frame0 (f : FuncId) (nt : Nat) (args : Array Value) : Fr := { fn := f, nt := nt, tm := args0 0 args.toList .nil, pt := .nil, loc := .nil, round := none }

theorem AWp.calls (hg : Good g base) {f : FuncId} {i : FnI} (hi : g.fns f = some i) {args args' : Array Value} (hle : args.size ≤ i.nt) {Fin : Value → St → Prop}
    (h : AWp g base c i.body (frame0 f i.nt args) s fun ex fr' s' => (ex = .normal ∨ ex = .ret) ∧ ∃ v, resultsV g c fr' s' i.results = some v ∧ Fin v s') (hs : SRel g base φ ω c s w) (ha : Arel φ c s.next args args') :
    CallsIn (FF none) 0 g.P f args' w fun e w' => ∃ v s', Fin v s' ∧ CallR g base c φ ω s s' w (.ret v) e w' := by
  obtain ⟨F, hF, hb, hn, hR, hname⟩ := hg.fns f i hi
  refine callsIn_of_wp_marks hF hb trivial ?_ rfl
  have hf : FRel φ c s.next (fun _ => 0) ω (frame0 f i.nt args) [] { tmps := args' ++ Array.replicate (F.ntmps - args'.size) undef, defers := [] } w := by
    unfold frame0
    refine ⟨?_, fun t v hv => ?_, fun t p hp => by simp [Tr.get_nil] at hp, fun d cs hd => by simp [Tr.get_nil] at hd, rfl, List.nodup_nil, fun r hr => by cases hr⟩
    · simp only [Array.size_append, Array.size_replicate]
      rw [hn, ← ha.1]; omega
    · rcases get_args0 _ _ _ _ _ hv with ⟨_, h2⟩ | h2
      · simp only [Nat.sub_zero, Array.getElem?_toList] at h2
        obtain ⟨x', hx', hr⟩ := ha.get h2
        obtain ⟨hlt, e⟩ := Array.getElem?_eq_some_iff.1 hx'
        rw [Array.getD_eq_getD_getElem?, Array.getElem?_append_left hlt, hx']; exact hr
      · simp [Tr.get_nil] at h2
  have hloc : ∀ d, (frame0 f i.nt args).loc.get d = none := fun d => Tr.get_nil d
  refine h φ ω _ [] _ w none _ hs hf rfl ?_
  intro ex fr1 s1 ⟨hex, v, hv, hfin⟩
  intro φ' ω' lam' rs' a' w' e hp he
  have fin : LeavesInM (FF none) 0 g.P F a'.tmps (fun e w' => ∃ v s', Fin v s' ∧ CallR g base c φ ω s s' w (.ret v) e w') a'.defers .returning w' := by
    rw [hp.frel.defers]
    refine leaves_marks (by simp) rs' w' hp.frel.nodup (fun r hr => (hp.frel.marks r hr).1) fun w'' hw => ?_
    have hs'' := hp.srel.shut (fun r hr => (hp.frel.marks r hr).2) hw
    have hf'' : FRel φ' c s1.next lam' ω' fr1 [] { a' with defers := [] } w'' := by
      refine ⟨hp.frel.size, hp.frel.tm, hp.frel.pt, fun d cs hd => ?_, rfl, List.nodup_nil, fun r hr => by cases hr⟩
      obtain ⟨ht, cs', el, hb, hA⟩ := hp.frel.own d cs hd
      refine ⟨ht, cs', el, ?_, hA⟩
      rw [hw.same _ fun hr => by have := (hp.frel.marks _ hr).2; rw [ht] at this; cases this]; exact hb
    rw [← hR] at hv
    obtain ⟨v', h1, h2⟩ := resultsV_run hs'' hf'' hv
    exact ⟨v', h1, v, s1, hfin, callR_of hp hloc hw (.ret v v' h2)⟩
  cases he with
  | normal => exact fin
  | ret => exact fin
  | exit j => rcases hex with e | e <;> cases e
  | pan v v' hv => rcases hex with e | e <;> cases e

/-- A law's call from outside: it answers true, and nothing that was there has turned. -/
theorem law_of (hg : ∀ B, Good g B) {n : Nat} {φ : Nat → Pl} {h : Tr AObj} {W : World} (L : Laid g n φ h W) {f : FuncId} {i : FnI} (hi : g.fns f = some i) {args args' : Array Value} (ha : Arel φ (ctx0 n) n args args') (hle : args.size ≤ i.nt)
    (hb : AWp g ⟨n, W.heap.size⟩ (ctx0 n) i.body (frame0 f i.nt args) ⟨h, n⟩ fun ex fr' s' => (ex = .normal ∨ ex = .ret) ∧ resultsV g (ctx0 n) fr' s' i.results = some (.bool true)) :
    Calls g.P f args' W fun e W' => e = .returned (.bool true) ∧ Below W.heap.size W W' := by
  have := AWp.calls (hg ⟨n, W.heap.size⟩) hi hle (Fin := fun v _ => v = .bool true) (hb.mono fun ex fr' s' ⟨h1, h2⟩ => ⟨h1, _, h2, rfl⟩) L.srel ha
  refine callsIn_wide.1 ((callsIn_FF (r' := none) this).mono ?_)
  rintro e W' ⟨v, s', rfl, φ', ω', _, _, _, hk, he⟩
  cases he with
  | ret v v' hv =>
    cases hv
    exact ⟨rfl, hk.os, hk.tape, hk.output, hk.size, fun b hb => (hk.same b hb (by rintro ⟨id, o, h, _⟩; cases h) (fun h => h)).1⟩
end
end
end Go.Am
