/- Parse, told. -/
import Derived.Test.YtmpokdnpkjcnbaaDoorWFG
namespace Go.Proofs.YtmpokdnpkjcnbaaDoor
open Go.Am
noncomputable section
theorem sel60_pin (ex : Ex) : pinned 5 (sel60 ex).2 := ⟨by show 5 ≤ 5; omega, fun j hj => by
  match j, hj with
  | 0, _ => rfl
  | 1, _ => rfl
  | 2, _ => rfl
  | 3, _ => rfl
  | 4, _ => rfl⟩
theorem sel60_plain (ex : Ex) (s : St) : plainJ s (sel60 ex).2 0 := trivial
theorem get22 (m : B256) (s : ByteArray) (st : LoopState) (pd : Option Code) : (sP m s st pd).heap.get 4 = some (.loop (loop22 tmL22 st pd)) := by
  simp [sP, sL22, stS, hpS, hp22, Tr.get_put]
theorem unlP_k : (fun (a b c d : Int) (s : ByteArray) (st : LoopState) (pd : Option Code) => unl 4 (sL22 a b c d s st pd)) = fun (a b c d : Int) (s : ByteArray) (_ : LoopState) (_ : Option Code) => unl 4 (sL22 a b c d s .ready none) := by kernel_rfl
theorem unlP (m : B256) (s : ByteArray) (st : LoopState) (pd : Option Code) : unl 4 (sP m s st pd) = unl 4 (sP m s .ready none) := congrFun (congrFun (congrFun (congrFun (congrFun (congrFun (congrFun unlP_k (wd m 0)) (wd m 1)) (wd m 2)) (wd m 3)) s) st) pd
theorem tlP_size {s : ByteArray} (h : ¬ fi s < 0) : (tlP s).size < s.size := by
  have hb : 0 ≤ fi s ∧ fi s < s.size := by
    rcases fidx_b s 44 with hh | hh
    · exact absurd hh (by show ¬ fi s = -1; omega)
    · exact hh
  unfold tlP
  simp only [ByteArray.size_extract]
  omega
theorem it60 [Z : Zone] [T : Tab] {B : Nat} {s : ByteArray} (hs : s.size ≤ 1000000) :
    AWp cfX ⟨0, B⟩ cz b60 (frame0 60 (ntOf 60) #[.func (.yield 4) #[] #[], pt' 2, pt' 1, pt' 3]) ((sA22 s).new (.loop (loop22 (frT22 s [(16, seq22)]).tm .ready none)))
      fun ex fr1 s1 => Grow cz (sA22 s) s1 ∧ (ex = .normal ∨ ex = .ret) ∧ (∃ v, resultsV cfX cz fr1 s1 [] = some v) ∧ ∃ frX sX lX ee, SnP (4 + 1) ⟨0, B⟩ 0 0 cz frX sX fr1 s1 ∧ sX.heap.get 4 = some (.loop lX) ∧ exitOf lX.pending = some ee ∧ (lX.state != .busy) = true ∧
        ((ee = .normal ∨ ee = .exit 0) ∧ ∃ u, unl 4 sX = unl 4 (sP (parseG (s.size + 1) 0#256 s) u .ready none)) := by
  rw [b60_eq]
  have hgn : Grow cz (sA22 s) ((sA22 s).new (.loop (loop22 (frT22 s [(16, seq22)]).tm .ready none))) := Grow.new _ _ _
  have h0 := i60 t0F s
  rw [sP_zero] at h0
  refine AWp.nestP (n := 60) (lim := 60) (m := 5) (ps := [cL b60]) (rest := .seq (.block 2 (.loop k60)) (cR (cR b60))) (sel := sel60) (frj := fr60) (sj := sP 0#256 s .ready none) goodX (of_treeM tXo_ok h0) trivial (sel60_pin _) (Nat.zero_le _) fun fr1 s1 hS1 hG1 => ?_
  refine AWp.seq (AWp.block ?_)
  refine AWp.loop (I := fun (p : Nat × B256 × ByteArray) fr st => (p.2.2.size < p.1 ∧ p.2.2.size ≤ 1000000 ∧ parseG p.1 p.2.1 p.2.2 = parseG (s.size + 1) 0#256 s) ∧ SnP 5 ⟨0, B⟩ 0 0 cz fr60 (sP p.2.1 p.2.2 .ready none) fr st ∧ Grow cz s1 st) (fun p => p.2.2.size) (fun p fr st hI => ?_) (s.size + 1, 0#256, s) fr1 s1 ⟨⟨Nat.lt_succ_self _, hs, rfl⟩, hS1, Grow.refl _ _⟩
  obtain ⟨k, m, u⟩ := p
  obtain ⟨⟨hk, hu, hpar⟩, hS, hG⟩ := hI
  simp only at hk hu hpar hS
  cases k with
  | zero => omega
  | succ k =>
  have hr := round60 m hu
  by_cases hf : fi u < 0
  · rw [if_pos hf] at hr
    refine AWp.seenP goodX rfl hS (Nat.le_refl 5) (Nat.zero_le _) (of_treeM tXo_ok hr) (sel60_plain _ _) (sel60_pin _) fun fr2 s2 hS2 hG2 => ⟨hG2, ?_⟩
    refine ⟨hG.trans hG2, ?_⟩
    have he := end60 m hu
    have hpg : parseG (k + 1) m u = match wordM m u with | none => 0#256 | some m' => m' := by
      show (if fi u < 0 then _ else _) = _
      rw [if_pos hf]
      cases wordM m u <;> rfl
    have hgt : Grow cz (sA22 s) s2 := (hgn.trans hG1).trans (hG.trans hG2)
    cases hw : wordM m u with
    | none =>
      rw [hw] at he hpg
      refine AWp.seenP goodX rfl hS2 (Nat.le_refl 5) (Nat.zero_le _) (of_treeM tXo_ok he) (sel60_plain _ _) (sel60_pin _) fun fr3 s3 hS3 hG3 => ?_
      refine ⟨hgt.trans hG3, .inl rfl, ⟨_, rfl⟩, _, _, _, .exit 0, hS3, get22 .., rfl, rfl, .inr rfl, u, ?_⟩
      rw [← hpar, hpg]
      exact unlP _ _ _ _
    | some m' =>
      rw [hw] at he hpg
      refine AWp.seenP goodX rfl hS2 (Nat.le_refl 5) (Nat.zero_le _) (of_treeM tXo_ok he) (sel60_plain _ _) (sel60_pin _) fun fr3 s3 hS3 hG3 => ?_
      refine ⟨hgt.trans hG3, .inl rfl, ⟨_, rfl⟩, _, _, _, .normal, hS3, get22 .., rfl, rfl, .inl rfl, u, ?_⟩
      rw [← hpar, hpg]
  · rw [if_neg hf] at hr
    have hpg : parseG (k + 1) m u = match wordM m (hdP u) with | none => 0#256 | some m' => parseG k m' (tlP u) := by
      show (if fi u < 0 then _ else _) = _
      rw [if_neg hf]
      cases wordM m (hdP u) <;> rfl
    have hgt : Grow cz (sA22 s) st := (hgn.trans hG1).trans hG
    have htl := tlP_size hf
    cases hw : wordM m (hdP u) with
    | none =>
      rw [hw] at hr hpg
      refine AWp.seenP goodX rfl hS (Nat.le_refl 5) (Nat.zero_le _) (of_treeM tXo_ok hr) (sel60_plain _ _) (sel60_pin _) fun fr2 s2 hS2 hG2 => ⟨hG2, ?_⟩
      refine ⟨hG.trans hG2, hgt.trans hG2, .inr rfl, ⟨_, rfl⟩, _, _, _, .exit 0, hS2, get22 .., rfl, rfl, .inr rfl, u, ?_⟩
      rw [← hpar, hpg]
      exact unlP _ _ _ _
    | some m' =>
      rw [hw] at hr hpg
      refine AWp.seenP goodX rfl hS (Nat.le_refl 5) (Nat.zero_le _) (of_treeM tXo_ok hr) (sel60_plain _ _) (sel60_pin _) fun fr2 s2 hS2 hG2 => ⟨hG2, (k, m', tlP u), htl, ⟨?_, ?_, ?_⟩, hS2, hG.trans hG2⟩
      · show (tlP u).size < k; omega
      · show (tlP u).size ≤ 1000000; omega
      · show parseG k m' (tlP u) = _
        rw [← hpar, hpg]
theorem i60_fn : cfX.fns 60 = some { body := b60, nt := ntOf 60, results := [], pure := false } := by kernel_rfl
theorem i22_fnX : cfX.fns 22 = some { body := b22, nt := ntOf 22, results := [.cell 2 27, .tmp 3], pure := false } := by kernel_rfl
theorem ev22_k : (fun s : ByteArray => (frT22 s [(16, seq22)]).gev cfX (.tmp 16)) = fun _ => some seq22 := by kernel_rfl
theorem nt60_le : 4 ≤ ntOf 60 := by decide +kernel
theorem nt22_le : 1 ≤ ntOf 22 := by decide +kernel
theorem res22_k : (fun a b c d e : Int => resultsV cfX cz (frE22 a b c d e) st0 [.cell 2 27, .tmp 3]) = fun a b c d e => some (.tuple #[mk a b c d, .int .i64 e]) := by kernel_rfl
theorem res22 (a b c d e : Int) : resultsV cfX cz (frE22 a b c d e) st0 [.cell 2 27, .tmp 3] = some (.tuple #[mk a b c d, .int .i64 e]) := congrFun (congrFun (congrFun (congrFun (congrFun res22_k a) b) c) d) e
/-- the mask that a text tells, if its text is that -/
def parseM (s : ByteArray) : B256 := parseG (s.size + 1) 0#256 s
def isOk (s : ByteArray) : Bool := s.toList == (⟨#[]⟩ : ByteArray).toList || (textB (parseM s)).toList == s.toList
def parW (s : ByteArray) (k : Nat) : Int := bif s.toList == (⟨#[]⟩ : ByteArray).toList then 0 else bif (textB (parseM s)).toList == s.toList then wd (parseM s) k else 0
def parE (s : ByteArray) : Int := bif isOk s then 0 else 5
theorem t0F_wd (m : B256) : t0F (wd m 0) (wd m 1) (wd m 2) (wd m 3) = textB m := by
  unfold t0F
  rw [ofI_wd]
theorem ok22 [Z : Zone] [T : Tab] {B : Nat} {s : ByteArray} (hs : s.size ≤ 1000000) : AWp cfX ⟨0, B⟩ cz b22 (frame0 22 (ntOf 22) #[.string s]) st0
    fun ex fr' s' => (ex = .normal ∨ ex = .ret) ∧ ∃ frj sj, Sn ⟨0, B⟩ 0 0 cz frj sj fr' s' ∧ resultsV cfX cz frj sj [.cell 2 27, .tmp 3] = some (.tuple #[mk (parW s 0) (parW s 1) (parW s 2) (parW s 3), .int .i64 (parE s)]) := by
  rw [b22_eq]
  refine AWp.seq (AWp.first goodX (of_treeM tXo_ok (s22a t0F ..)) trivial (Nat.zero_le _) fun fr1 s1 hS1 hG1 => ⟨hG1, ?_⟩)
  refine AWp.scope ?_
  refine AWp.seq (AWp.seen goodX rfl hS1 (Nat.zero_le _) (of_treeM tXo_ok (s22b t0F ..)) trivial fun fr2 s2 hS2 hG2 => ⟨hG2, ?_⟩)
  have hc := s22c t0F s
  unfold parW parE isOk
  cases he : (s.toList == (⟨#[]⟩ : ByteArray).toList) with
  | true =>
    rw [he, cond_true] at hc
    exact AWp.seq (AWp.seen goodX rfl hS2 (Nat.zero_le _) (of_treeM tXo_ok hc) trivial fun fr3 s3 hS3 hG3 => ⟨hG3, .inr rfl, _, _, hS3, res22 ..⟩)
  | false =>
  rw [he, cond_false] at hc
  refine AWp.seq (AWp.seen goodX rfl hS2 (Nat.zero_le _) (of_treeM tXo_ok hc) trivial fun fr3 s3 hS3 hG3 => ⟨hG3, ?_⟩)
  refine AWp.seq (AWp.seen goodX rfl hS3 (Nat.zero_le _) (of_treeM tXo_ok (s22l t0F ..)) trivial fun fr4 s4 hS4 hG4 => ⟨hG4, ?_⟩)
  refine AWp.seq (AWp.seq (AWp.seen goodX rfl hS4 (Nat.zero_le _) (of_treeM tXo_ok (s22d t0F ..)) trivial fun fr5 s5 hS5 hG5 => ⟨hG5, ?_⟩))
  refine AWp.block (AWp.rangeSn goodX rfl hS5 rfl (congrFun ev22_k s) i60_fn (by show 4 ≤ ntOf 60; exact nt60_le) (Q := fun ee sY => (ee = .normal ∨ ee = .exit 0) ∧ ∃ u, sY = unl 4 (sP (parseG (s.size + 1) 0#256 s) u .ready none)) (it60 hs) fun ex sY fr6 s6 hQ hS6 hG6 => ?_)
  obtain ⟨hex, u, rfl⟩ := hQ
  have hend := s22e t0F s (wd (parseM s) 0) (wd (parseM s) 1) (wd (parseM s) 2) (wd (parseM s) 3) u
  rw [wd_inQ, cond_true, t0F_wd] at hend
  have key : AWp cfX ⟨0, B⟩ cz (cN 4 s22) fr6 s6 fun ex fr' s' => (ex = .normal ∨ ex = .ret) ∧ ∃ frj sj, Sn ⟨0, B⟩ 0 0 cz frj sj fr' s' ∧ resultsV cfX cz frj sj [.cell 2 27, .tmp 3] = some (.tuple #[mk (bif (textB (parseM s)).toList == s.toList then wd (parseM s) 0 else 0) (bif (textB (parseM s)).toList == s.toList then wd (parseM s) 1 else 0) (bif (textB (parseM s)).toList == s.toList then wd (parseM s) 2 else 0) (bif (textB (parseM s)).toList == s.toList then wd (parseM s) 3 else 0), .int .i64 (bif (false || (textB (parseM s)).toList == s.toList) then 0 else 5)]) := by
    cases ht : ((textB (parseM s)).toList == s.toList) with
    | true =>
      rw [ht] at hend
      exact AWp.seen goodX rfl hS6 (Nat.zero_le _) (of_treeM tXo_ok hend) trivial fun fr7 s7 hS7 _ => ⟨.inr rfl, _, _, hS7, res22 ..⟩
    | false =>
      rw [ht] at hend
      exact AWp.seen goodX rfl hS6 (Nat.zero_le _) (of_treeM tXo_ok hend) trivial fun fr7 s7 hS7 _ => ⟨.inr rfl, _, _, hS7, res22 ..⟩
  rcases hex with rfl | rfl
  · exact ⟨hG5.trans hG6, key⟩
  · exact ⟨hG5.trans hG6, key⟩
def parD : Array Value → DT (Option (Value × St))
  | ⟨[.string s]⟩ => .must (decide (s.size ≤ 1000000)) (.leaf (some (.tuple #[mk (parW s 0) (parW s 1) (parW s 2) (parW s 3), .int .i64 (parE s)], st0))) (.leaf none)
  | _ => .leaf none
theorem tells22X [Z : Zone] [T : Tab] : Tells cfX 22 fun a => (parD a).eval := by
  refine tells_seen goodX rfl i22_fnX fun args x hx => ?_
  unfold parD at hx
  split at hx
  · rename_i s
    rw [DT.eval_must] at hx
    cases h : decide (s.size ≤ 1000000) with
    | false => rw [h] at hx; cases hx
    | true =>
      rw [h, cond_true, DT.eval_leaf] at hx
      cases hx
      exact ⟨by simp [freeN], nt22_le, _, rfl, by simp [freeN, mk], fun b => ok22 (of_decide_eq_true h)⟩
  · cases hx
def TY : FuncId → Option (Array Value → DT (Option (Value × St)))
  | 22 => some parD
  | _ => none
def cfY : Cfg := cfX.told TY
theorem goodY [Z : Zone] [T : Tab] (B : Base) : Go.Am.Good cfY B := tells_good (fun B => goodX B) (fun f F h => by
  unfold TY at h
  split at h
  · cases h; exact ⟨⟨_, i22_fnX⟩, tells22X⟩
  · cases h) B
def tY : FuncId → Option HandT := treeT TY tXx
theorem tY_ok : ∀ f k hd, tY f = some k → cfY.hand f = some hd → ∀ a c s, (k a c s).eval = hd a c s := treeT_ok tXx_ok
end
end Go.Proofs.YtmpokdnpkjcnbaaDoor
