import Derived.Test.YtmpokdnpkjcnbaaDoorWIN
import Derived.Laws.BytesArg
import Derived.WalkKit
import Derived.BigCall
/- The document's digits of a number below 1000, walked, and told. -/
namespace Go.Proofs.YtmpokdnpkjcnbaaDoor
open Go.Shelf Go.RowKit
theorem dig_conv (w : World) (c : Int) : (Go.convert 81 9 (.slice (some ⟨w.heap.size, 0, none⟩) 1 1)).run Tryd.prog (w.alloc (.cells #[.int .u8 c] 5)) = .ok (.string (strOfNums [c])) (w.alloc (.cells #[.int .u8 c] 5)) := by
  refine run_convert_bytes_arg (P := Tryd.prog) _ 81 5 (by kernel_rfl) (by kernel_rfl) w.heap.size 0 1 1 [c] rfl (fun i hi => ?_) 9 (by kernel_rfl)
  have e : i = 0 := by omega
  subst e
  simp [World.cell?, World.alloc, -World.alloc_eq]
def dgB (n : Int) : ByteArray := ⟨⟨[dg (n.toNat % 10)]⟩⟩
theorem dig_one {n : Int} (h0 : 0 ≤ n) : strOfNums [48 + n % 10] = dgB n := by
  have e : (48 + n % 10).toNat = 48 + n.toNat % 10 := by omega
  show (⟨⟨[UInt8.ofNat (48 + n % 10).toNat]⟩⟩ : ByteArray) = _
  rw [e]; rfl
/-- the digits of n are l -/
def DigIs (n : Int) (l : ByteArray) : Prop := ∀ w : World, Calls Tryd.prog 46 #[.int .i64 n] w fun e w' => e = .returned (.string l) ∧ Below w.heap.size w w'
set_option maxRecDepth 100000 in
theorem dig_calls1 (n : Int) (h0 : 0 ≤ n) (h : n < 10) : DigIs n (dgB n) := by
  intro w
  have hg : ¬ n ≥ 10 := by omega
  have hc := dig_conv w (48 + n % 10)
  rw [← dig_one h0]
  go_enter Tryd.func46, Tryd.ntmps46
  go_wp2
  go_ret
  exact ⟨rfl, Below.alloc (Below.refl _ _) (Nat.le_refl _) _⟩
set_option maxRecDepth 100000 in
theorem dig_calls2 (n : Int) (h1 : 10 ≤ n) (hm : n < 1000) (l : ByteArray) (hl : l.size ≤ 3) (hr : DigIs (n / 10) l) : DigIs n (l ++ dgB n) := by
  intro w
  have hg : n ≥ 10 := h1
  have h0 : 0 ≤ n := by omega
  have hc := dig_conv w (48 + n % 10)
  rw [← dig_one h0]
  go_enter Tryd.func46, Tryd.ntmps46
  go_wp2_with (go_at_call 46; refine (hr _).mono ?_; rintro e w' ⟨rfl, hw⟩)
  · exfalso
    rename_i hbad
    rw [strOfNums_size] at hbad
    simp at hbad
    omega
  · go_ret
    exact ⟨rfl, (Below.alloc (Below.refl _ _) (Nat.le_refl _) _).trans (hw.mono (by simp))⟩
theorem dig_calls3 {n : Int} (h0 : 0 ≤ n) (h : n < 1000) : DigIs n ⟨⟨dig3 n.toNat⟩⟩ := by
  have hb : ∀ a b : Nat, Nat.blt a b = decide (a < b) := blt_eq
  by_cases h1 : n < 10
  · have e : (⟨⟨dig3 n.toNat⟩⟩ : ByteArray) = dgB n := by
      unfold dig3 dgB
      rw [hb, decide_eq_true (by omega), Nat.mod_eq_of_lt (by omega)]; rfl
    rw [e]; exact dig_calls1 n h0 h1
  · by_cases h2 : n < 100
    · have e : (⟨⟨dig3 n.toNat⟩⟩ : ByteArray) = dgB (n / 10) ++ dgB n := by
        unfold dig3 dgB
        have e1 : (n / 10).toNat % 10 = n.toNat / 10 := by omega
        rw [hb, hb, decide_eq_false (by omega), decide_eq_true (by omega), e1]; rfl
      rw [e]; exact dig_calls2 n (by omega) h _ (by show 1 ≤ 3; omega) (dig_calls1 (n / 10) (by omega) (by omega))
    · have e : (⟨⟨dig3 n.toNat⟩⟩ : ByteArray) = (dgB (n / 10 / 10) ++ dgB (n / 10)) ++ dgB n := by
        unfold dig3 dgB
        have e1 : (n / 10).toNat % 10 = n.toNat / 10 % 10 := by omega
        have e2 : (n / 10 / 10).toNat % 10 = n.toNat / 100 := by omega
        rw [hb, hb, decide_eq_false (by omega), decide_eq_false (by omega), e1, e2]; rfl
      rw [e]; exact dig_calls2 n (by omega) h _ (by show 2 ≤ 3; omega) (dig_calls2 (n / 10) (by omega) (by omega) _ (by show 1 ≤ 3; omega) (dig_calls1 (n / 10 / 10) (by omega) (by omega)))
end Go.Proofs.YtmpokdnpkjcnbaaDoor

/- The document's digits, told; has it a core, left open. -/
namespace Go.Proofs.YtmpokdnpkjcnbaaDoor
open Go.Am Go.RowKit
noncomputable section
theorem dig_ok [Z : Zone] [T : Tab] {g : Cfg} (hP : g.P = Tryd.prog) : ShelfOk g 46 itoaF := by
  intro args c s v h
  unfold itoaF at h
  split at h
  · rename_i n
    rw [DT.eval_must] at h
    cases hc : (decide (0 ≤ n) && decide (n < 1000)) with
    | false => rw [hc] at h; cases h
    | true =>
      rw [hc, cond_true, DT.eval_leaf] at h
      simp only [Bool.and_eq_true, decide_eq_true_eq] at hc
      cases h
      refine ⟨rfl, fun base φ ω w args' hs ha => ?_⟩
      rw [args_plain ha (by simp [plainN]), hP]
      exact dig_calls3 hc.1 hc.2 w
  · cases h
def TXb : FuncId → Option (Array Value → Ctx → St → DT (Option Value))
  | 46 => some itoaF
  | _ => none
def cfXb : Cfg := cfY.shelf TXb
theorem goodXb [Z : Zone] [T : Tab] (B : Base) : Go.Am.Good cfXb B := shelf_good (fun B => goodY B) (fun f F h => by
  unfold TXb at h
  split at h
  · cases h; exact ⟨⟨_, rfl⟩, dig_ok rfl⟩
  · cases h) B
def tXb : FuncId → Option HandT := treeS TXb tY
theorem tXb_ok : ∀ f k hd, tXb f = some k → cfXb.hand f = some hd → ∀ a c s, (k a c s).eval = hd a c s := treeS_ok tY_ok
def hasO (h : Int → Int → Int → Int → Int → Bool) : Array Value → DT (Option (Value × St))
  | ⟨[.agg ⟨[.int .u64 a, .int .u64 b, .int .u64 c, .int .u64 d]⟩, .int .i64 n]⟩ => .must (inQ a b c d) (.leaf (some (.bool (h a b c d n), st0))) (.leaf none)
  | _ => .leaf none
def tBo (h : Int → Int → Int → Int → Int → Bool) : FuncId → Option HandT
  | 20 => some (apartT (hasO h))
  | f => tXb f
theorem tBo_eq : tBo hasB = tXb := by
  funext f
  unfold tBo
  split <;> rfl
theorem tBo_ok : ∀ f k hd, tBo hasB f = some k → cfXb.hand f = some hd → ∀ a c s, (k a c s).eval = hd a c s := by
  rw [tBo_eq]; exact tXb_ok
end
end Go.Proofs.YtmpokdnpkjcnbaaDoor
