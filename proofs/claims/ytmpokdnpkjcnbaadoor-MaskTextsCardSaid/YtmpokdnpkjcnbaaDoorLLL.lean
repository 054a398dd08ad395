import Derived.Test.YtmpokdnpkjcnbaaDoorFGH
/- Some answers that the document gives: all as they are. -/
namespace Go.Proofs.YtmpokdnpkjcnbaaDoor
open Go.Am
noncomputable section
def mA : Value := mk 38 0 0 9223372036854775808
def mB : Value := mk 6 0 0 0
def sA : ByteArray := ⟨#[49, 45, 50, 44, 53, 44, 50, 53, 53]⟩
def sB : ByteArray := ⟨#[49, 45, 50]⟩
def sC : ByteArray := ⟨#[49, 44, 50]⟩
theorem text_a : seenOf (call cfC 400 (.func (.func 24) #[] #[]) #[mA] (ctx0 0) st0) = some (.string sA, st0) := by kernel_rfl
theorem text_b : seenOf (call cfC 400 (.func (.func 24) #[] #[]) #[mB] (ctx0 0) st0) = some (.string sB, st0) := by kernel_rfl
end
end Go.Proofs.YtmpokdnpkjcnbaaDoor

/- Some answers that the document gives: texts told. -/
namespace Go.Proofs.YtmpokdnpkjcnbaaDoor
open Go.Am
noncomputable section
def is4 (a b c d e f g h : Int) : Bool := a == e && (b == f && (c == g && d == h))
theorem is4_mk {a b c d e f g h : Int} (H : is4 a b c d e f g h = true) : mk a b c d = mk e f g h := by
  simp only [is4, Bool.and_eq_true, beq_iff_eq] at H
  obtain ⟨rfl, rfl, rfl, rfl⟩ := H; rfl
def textF (a b c d : Int) : Option (Value × St) := bif is4 a b c d 38 0 0 9223372036854775808 then some (.string sA, st0) else bif is4 a b c d 6 0 0 0 then some (.string sB, st0) else none
def textD : Array Value → DT (Option (Value × St))
  | ⟨[.agg ⟨[.int .u64 a, .int .u64 b, .int .u64 c, .int .u64 d]⟩]⟩ => .leaf (textF a b c d)
  | _ => .leaf none
theorem i24_fn : ∃ i, cfC.fns 24 = some i := ⟨_, rfl⟩
theorem tells24 [Z : Zone] [T : Tab] : Tells cfC 24 (fun a => (textD a).eval) := by
  obtain ⟨i, hi⟩ := i24_fn
  refine tells_call (fun B => goodC B) rfl hi fun args y hx => ?_
  try simp only at hx
  unfold textD at hx
  split at hx
  · rename_i a b c d
    rw [DT.eval_leaf] at hx
    unfold textF at hx
    cases h1 : is4 a b c d 38 0 0 9223372036854775808
    · rw [h1, cond_false] at hx
      cases h2 : is4 a b c d 6 0 0 0
      · rw [h2] at hx; cases hx
      · rw [h2] at hx; cases hx
        have e : (#[mk a b c d] : Array Value) = #[mB] := by rw [is4_mk h2]; rfl
        obtain ⟨v, s', h1, h2⟩ := of_seenOf text_b
        exact ⟨by simp [freeN], 400, v, s', (by show call cfC 400 _ #[mk a b c d] _ _ = _; rw [e]; exact h1), h2⟩
    · rw [h1] at hx; cases hx
      have e : (#[mk a b c d] : Array Value) = #[mA] := by rw [is4_mk h1]; rfl
      obtain ⟨v, s', h1, h2⟩ := of_seenOf text_a
      exact ⟨by simp [freeN], 400, v, s', (by show call cfC 400 _ #[mk a b c d] _ _ = _; rw [e]; exact h1), h2⟩
  · cases hx
def TL : FuncId → Option (Array Value → DT (Option (Value × St)))
  | 24 => some textD
  | _ => none
def cfL : Cfg := cfC.told TL
theorem goodL [Z : Zone] [T : Tab] (B : Base) : Go.Am.Good cfL B := tells_good (fun B => goodC B) (fun f F h => by
  unfold TL at h
  split at h
  · cases h; exact ⟨i24_fn, tells24⟩
  · cases h) B
end
end Go.Proofs.YtmpokdnpkjcnbaaDoor

/- Some answers that the document gives: words read, cores told. -/
namespace Go.Proofs.YtmpokdnpkjcnbaaDoor
open Go.Am
noncomputable section
def nI (n : Nat) : Value := .int .i64 n
def mW : Value := mk 18446744073709551615 18446744073709551615 18446744073709551615 18446744073709551615
theorem parse_a : seenOf (call cfL 400 (.func (.func 22) #[] #[]) #[.string sA] (ctx0 0) st0) = some (.tuple #[mA, .int .i64 0], st0) := by kernel_rfl
theorem parse_c : seenOf (call cfL 400 (.func (.func 22) #[] #[]) #[.string sC] (ctx0 0) st0) = some (.tuple #[mk 0 0 0 0, .int .i64 5], st0) := by kernel_rfl
end
end Go.Proofs.YtmpokdnpkjcnbaaDoor

/- Some answers that the document gives: all the cores. -/
namespace Go.Proofs.YtmpokdnpkjcnbaaDoor
open Go.Am
noncomputable section
theorem all_a : seenOf (call cfL 400 (.func (.func 13) #[] #[]) #[.int .i64 256] (ctx0 0) st0) = some (.tuple #[mk 18446744073709551615 18446744073709551615 18446744073709551615 18446744073709551615, .int .i64 0], st0) := by kernel_rfl
end
end Go.Proofs.YtmpokdnpkjcnbaaDoor

/- Some answers that the document gives: a list. -/
namespace Go.Proofs.YtmpokdnpkjcnbaaDoor
open Go.Am
noncomputable section
theorem list_a : seenOf (call cfL 400 (.func (.func 17) #[] #[]) #[mA] (ctx0 0) st0) = some (.slice (some ⟨0, 0, none⟩) 4 4, ⟨Tr.put .nil 0 (.cells #[.int .i64 1, .int .i64 2, .int .i64 5, .int .i64 255] 1 true), 1⟩) := by kernel_rfl
end
end Go.Proofs.YtmpokdnpkjcnbaaDoor

/- Some answers that the document gives: all as they are. -/
namespace Go.Proofs.YtmpokdnpkjcnbaaDoor
open Go.Am
noncomputable section
def parseF (b : ByteArray) : Option (Value × St) := bif b.data.toList == sA.data.toList then some (.tuple #[mA, .int .i64 0], st0) else bif b.data.toList == sC.data.toList then some (.tuple #[mk 0 0 0 0, .int .i64 5], st0) else none
theorem str_of {b c : ByteArray} (h : (b.data.toList == c.data.toList) = true) : b = c := by
  obtain ⟨⟨b⟩⟩ := b
  obtain ⟨⟨c⟩⟩ := c
  have : b = c := by simpa using h
  rw [this]
def parseD : Array Value → DT (Option (Value × St))
  | ⟨[.string b]⟩ => .leaf (parseF b)
  | _ => .leaf none
def allF (n : Int) : Option (Value × St) := bif n == 256 then some (.tuple #[mW, .int .i64 0], st0) else none
def allD : Array Value → DT (Option (Value × St))
  | ⟨[.int .i64 n]⟩ => .leaf (allF n)
  | _ => .leaf none
def listF (a b c d : Int) : Option (Value × St) := bif is4 a b c d 38 0 0 9223372036854775808 then some (.slice (some ⟨0, 0, none⟩) 4 4, ⟨Tr.put .nil 0 (.cells #[.int .i64 1, .int .i64 2, .int .i64 5, .int .i64 255] 1 true), 1⟩) else none
def listD : Array Value → DT (Option (Value × St))
  | ⟨[.agg ⟨[.int .u64 a, .int .u64 b, .int .u64 c, .int .u64 d]⟩]⟩ => .leaf (listF a b c d)
  | _ => .leaf none
def TL2 : FuncId → Option (Array Value → DT (Option (Value × St)))
  | 13 => some allD
  | 17 => some listD
  | 22 => some parseD
  | _ => none
theorem tells22 [Z : Zone] [T : Tab] : Tells cfL 22 (fun a => (parseD a).eval) := by
  refine tells_call (i := _) (fun B => goodL B) rfl (rfl : cfL.fns 22 = some _) fun args y hx => ?_
  try simp only at hx
  unfold parseD at hx
  split at hx
  · rename_i b
    rw [DT.eval_leaf] at hx
    unfold parseF at hx
    cases h1 : b.data.toList == sA.data.toList
    · rw [h1, cond_false] at hx
      cases h2 : b.data.toList == sC.data.toList
      · rw [h2] at hx; cases hx
      · rw [h2] at hx; cases hx
        obtain rfl := str_of h2
        obtain ⟨v, s', h1, h2⟩ := of_seenOf parse_c
        exact ⟨by simp [freeN], 400, v, s', h1, h2⟩
    · rw [h1] at hx; cases hx
      obtain rfl := str_of h1
      obtain ⟨v, s', h1, h2⟩ := of_seenOf parse_a
      exact ⟨by simp [freeN], 400, v, s', h1, h2⟩
  · cases hx
theorem tells13 [Z : Zone] [T : Tab] : Tells cfL 13 (fun a => (allD a).eval) := by
  refine tells_call (i := _) (fun B => goodL B) rfl (rfl : cfL.fns 13 = some _) fun args y hx => ?_
  try simp only at hx
  unfold allD at hx
  split at hx
  · rename_i n
    rw [DT.eval_leaf] at hx
    unfold allF at hx
    cases h1 : n == (256 : Int)
    · rw [h1] at hx; cases hx
    · rw [h1] at hx; cases hx
      obtain rfl : n = 256 := by simpa using h1
      obtain ⟨v, s', h1, h2⟩ := of_seenOf all_a
      exact ⟨by simp [freeN], 400, v, s', h1, h2⟩
  · cases hx
theorem tells17 [Z : Zone] [T : Tab] : Tells cfL 17 (fun a => (listD a).eval) := by
  refine tells_call (i := _) (fun B => goodL B) rfl (rfl : cfL.fns 17 = some _) fun args y hx => ?_
  try simp only at hx
  unfold listD at hx
  split at hx
  · rename_i a b c d
    rw [DT.eval_leaf] at hx
    unfold listF at hx
    cases h1 : is4 a b c d 38 0 0 9223372036854775808
    · rw [h1] at hx; cases hx
    · rw [h1] at hx; cases hx
      have e : (#[mk a b c d] : Array Value) = #[mA] := by rw [is4_mk h1]; rfl
      obtain ⟨v, s', h1, h2⟩ := of_seenOf list_a
      exact ⟨by simp [freeN], 400, v, s', (by show call cfL 400 _ #[mk a b c d] _ _ = _; rw [e]; exact h1), h2⟩
  · cases hx
def cfLL : Cfg := cfL.told TL2
theorem goodLL [Z : Zone] [T : Tab] (B : Base) : Go.Am.Good cfLL B := tells_good (fun B => goodL B) (fun f F h => by
  unfold TL2 at h
  split at h
  · cases h; exact ⟨⟨_, rfl⟩, tells13⟩
  · cases h; exact ⟨⟨_, rfl⟩, tells17⟩
  · cases h; exact ⟨⟨_, rfl⟩, tells22⟩
  · cases h) B
theorem live_true : seenOf (call cfLL 400 (.func (.func 9) #[] #[]) #[] (ctx0 0) st0) = some (.bool true, st0) := by kernel_rfl
end
end Go.Proofs.YtmpokdnpkjcnbaaDoor
