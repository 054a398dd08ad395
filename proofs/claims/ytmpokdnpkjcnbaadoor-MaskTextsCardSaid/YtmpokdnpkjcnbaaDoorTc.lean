/- List and the document's answers, told. -/
import Derived.Test.YtmpokdnpkjcnbaaDoorTTT
import Derived.Test.YtmpokdnpkjcnbaaDoorO
namespace Go.Proofs.YtmpokdnpkjcnbaaDoor
open Go.Am
noncomputable section
theorem i17_fn : cfT.fns 17 = some { body := b17, nt := ntOf 17, results := [.tmp 2], pure := false } := by kernel_rfl
theorem nt17 : ntOf 17 = 6 := by kernel_rfl
theorem ok17 [Z : Zone] [T : Tab] {B : Nat} {m : B256} : AWp cfT ⟨0, B⟩ cz b17 (frame0 17 (ntOf 17) #[mkB m]) st0 (RowL B 2 (xLst m)) := by
  rw [b17_eq]
  refine AWp.nestFirst (n := 60) (lim := 60) goodT (of_treeM tTo_ok (s17a g0 ..)) trivial (Nat.zero_le _) fun fr1 s1 hS1 => ?_
  unfold xLst
  cases hz : Nat.beq (cntB m 256) 0 with
  | true =>
    refine AWp.row goodT rfl hS1 (.inr rfl) (path_eval tTo_ok ((s17b_cond g0 ..).trans ?_) (s17b_leaf g0 ..)) trivial (by simp [frS, tmS, Tr.get_put]) (.inr ⟨rfl, rfl⟩)
    unfold s17b_c
    rw [wd_inQ, (g0_wd m).1, hz]; rfl
  | false =>
    have hleaf := s17c_leaf g0 (wd m 0) (wd m 1) (wd m 2) (wd m 3)
    rw [(g0_wd m).1, (g0_wd m).2] at hleaf
    refine AWp.row goodT rfl hS1 (.inr rfl) (path_eval tTo_ok ((s17c_cond g0 ..).trans ?_) hleaf) ⟨(lstE_plain m 256).2.2, trivial⟩ (by simp [frS, tmS, Tr.get_put]) (.inl ⟨_, _, lstE m 256, 1, true, rfl, ?_, (lstE_plain m 256).1, (lstE_plain m 256).2.1⟩)
    · unfold s17c_c
      rw [wd_inQ, (g0_wd m).1, (g0_wd m).2, hz, (lstE_plain m 256).1, (lstE_plain m 256).2.1]; rfl
    · simp [stS, hpS, Tr.get_put]
def lstD (p : Gs) : Array Value → DT (Option (Value × St))
  | ⟨[.agg ⟨[.int .u64 a, .int .u64 b, .int .u64 c, .int .u64 d]⟩]⟩ => rowD p a b c d
  | _ => .leaf none
theorem tells17' [Z : Zone] [T : Tab] : Tells cfT 17 fun a => (lstD g0 a).eval := by
  refine tells_row goodT rfl i17_fn (t := 2) rfl fun args x hx => ?_
  unfold lstD at hx
  split at hx
  · rename_i a b c d
    cases h : inQ a b c d with
    | false => unfold rowD at hx; rw [DT.eval_must, h] at hx; cases hx
    | true =>
      obtain ⟨m, rfl, rfl, rfl, rfl⟩ := wd_rep h
      rw [rowD_eval] at hx
      cases hx
      exact ⟨by simp [freeN], by rw [nt17]; show 1 ≤ 6; omega, fun b => ok17⟩
  · cases hx
def TU : FuncId → Option (Array Value → DT (Option (Value × St)))
  | 9 => some liveD
  | 17 => some (lstD g0)
  | _ => none
def cfU : Cfg := cfT.told TU
theorem tells9T [Z : Zone] [T : Tab] : Tells cfT 9 (fun a => (liveD a).eval) := Tells.cfg (g := cfC) (g' := cfT) rfl rfl tells9
theorem goodU [Z : Zone] [T : Tab] (B : Go.Am.Base) : Go.Am.Good cfU B := tells_good (fun B => goodT B) (fun f F h => by
  unfold TU at h
  split at h
  · cases h; exact ⟨⟨_, rfl⟩, tells9T⟩
  · cases h; exact ⟨⟨_, i17_fn⟩, tells17'⟩
  · cases h) B
def tU : FuncId → Option HandT := treeT TU tT
theorem tU_ok : ∀ f k hd, tU f = some k → cfU.hand f = some hd → ∀ a c s, (k a c s).eval = hd a c s := treeT_ok tT_ok
end
end Go.Proofs.YtmpokdnpkjcnbaaDoor
