import Derived.Test.YtmpokdnpkjcnbaaDoorWIJ
import Derived.Test.YtmpokdnpkjcnbaaDoorVQR
/- MaskBack: paths. -/
namespace Go.Proofs.YtmpokdnpkjcnbaaDoor
open Go.Am
noncomputable section
def TZ : FuncId → Option (Array Value → DT (Option (Value × St)))
  | 11 => some ofDv
  | _ => none
def cfZ : Cfg := cfY.frzM TZ
theorem goodZ [Z : Zone] [T : Tab] (B : Base) : Go.Am.Good cfZ B := frzM_good (fun B => goodY B) rfl (fun f F h => by
  unfold TZ at h
  split at h
  · cases h; exact ⟨⟨_, rfl⟩, fun φ c s => @Tells.cfg (zAll Z φ c s) cfVi cfY rfl rfl 11 _ (@tells_of' (zAll Z φ c s) (tabAll φ c s) 11 _ _ i11_fn nts.1 fun B X o n h => @ok11 (zAll Z φ c s) (tabAll φ c s) B X o n h)⟩
  · cases h) B
def tZ : FuncId → Option HandT := treeFM TZ tY
theorem tZ_ok : ∀ f k hd, tZ f = some k → cfZ.hand f = some hd → ∀ a c s, (k a c s).eval = hd a c s := treeFM_ok tY_ok
/-- what Parse answers, left open -/
structure Ps where
  t : Int → Int → Int → Int → ByteArray
  w : ByteArray → Nat → Int
  e : ByteArray → Int
def parO (p : Ps) : Array Value → DT (Option (Value × St))
  | ⟨[.string s]⟩ => .must (decide (s.size ≤ 1000000)) (.leaf (some (.tuple #[mk (p.w s 0) (p.w s 1) (p.w s 2) (p.w s 3), .int .i64 (p.e s)], st0))) (.leaf none)
  | _ => .leaf none
def tZo (p : Ps) (q : Gs) (h : Hs) : FuncId → Option HandT
  | 11 => some (frzT (ofDw h))
  | 17 => some (apartT (lstD q))
  | 22 => some (apartT (parO p))
  | 24 => some (apartT (txtO p.t))
  | f => tZ f
def ps0 : Ps := ⟨t0F, parW, parE⟩
theorem frzT_eq {F F' : Array Value → DT (Option (Value × St))} (h : ∀ a, (F a).eval = (F' a).eval) (a : Array Value) (c : Ctx) (s : St) : (frzT F a c s).eval = (frzT F' a c s).eval := by
  unfold frzT
  rw [DT.eval_bind, DT.eval_bind, DT.eval_must, DT.eval_must]
  congr 1
  rw [DT.eval_bind, DT.eval_bind, h]
theorem tZo_ok : ∀ f k hd, tZo ps0 g0 h0 f = some k → cfZ.hand f = some hd → ∀ a c s, (k a c s).eval = hd a c s := by
  intro f k hd h1 h2 a c s
  unfold tZo at h1
  split at h1
  · cases h1
    rw [← tZ_ok 11 _ hd rfl h2 a c s]
    exact frzT_eq ofDw_eval a c s
  · cases h1; exact tZ_ok 17 _ hd rfl h2 a c s
  · cases h1; exact tZ_ok 22 _ hd rfl h2 a c s
  · cases h1; exact tZ_ok 24 _ hd rfl h2 a c s
  · exact tZ_ok _ _ _ h1 h2 a c s
def ya_bits : List Bool := [true, true]
def ya_c (_ : Ps) (_ : Gs) (_ : Hs) (_ _ _ _ : Int) (s : ByteArray) : Bool :=
  (decide (((ByteArray.size s : Nat) : Int) > 200))
   && true
theorem ya_cond_k : (fun (p : Ps) (q : Gs) (h : Hs) (a b c d : Int) (s : ByteArray) => (followT ya_bits (callT cfZ (tZo p q h) 60 (.func (.func 5) #[] #[]) #[mk a b c d, .string s] (ctx0 0) st0)).1) = fun (p : Ps) (q : Gs) (h : Hs) (a b c d : Int) (s : ByteArray) => ya_c p q h a b c d s := by kernel_rfl
theorem ya_cond (p : Ps) (q : Gs) (h : Hs) (a b c d : Int) (s : ByteArray) : (followT ya_bits (callT cfZ (tZo p q h) 60 (.func (.func 5) #[] #[]) #[mk a b c d, .string s] (ctx0 0) st0)).1 = ya_c p q h a b c d s := congrFun (congrFun (congrFun (congrFun (congrFun (congrFun (congrFun (congrFun ya_cond_k p) q) h) a) b) c) d) s
theorem ya_leaf_k : (fun (p : Ps) (q : Gs) (h : Hs) (a b c d : Int) (s : ByteArray) => pathObs seenOf ya_bits (callT cfZ (tZo p q h) 60 (.func (.func 5) #[] #[]) #[mk a b c d, .string s] (ctx0 0) st0)) = fun (_ : Ps) (_ : Gs) (_ : Hs) (_ _ _ _ : Int) (_ : ByteArray) => some (.bool true, st0) := by kernel_rfl
theorem ya_leaf (p : Ps) (q : Gs) (h : Hs) (a b c d : Int) (s : ByteArray) : pathObs seenOf ya_bits (callT cfZ (tZo p q h) 60 (.func (.func 5) #[] #[]) #[mk a b c d, .string s] (ctx0 0) st0) = some (.bool true, st0) := congrFun (congrFun (congrFun (congrFun (congrFun (congrFun (congrFun (congrFun ya_leaf_k p) q) h) a) b) c) d) s
def yb_bits : List Bool := [true, false, true, true, true, true, true, true, true, true, true, true, true, true, true, true, true, true, true, false, false, false, false, false, false, false, true, true, false, false, true, true, false, false, false, false, false, false, false, false, false, false, false, true, true, false, false, true, false, false, false, false, false, true, true, true, true, true, true, true, true, true, true, true, true, true, true, true, true, true, true, true]
def yb_c (p : Ps) (q : Gs) (h : Hs) (a b c d : Int) (s : ByteArray) : Bool :=
  !(decide (((ByteArray.size s : Nat) : Int) > 200))
   && ((inQ a b c d)
   && ((decide (ByteArray.size (p.t a b c d) ≤ 1000000))
   && ((inQ a b c d)
   && ((Nat.beq (q.L a b c d) 0)
   && ((decide (ByteArray.size s ≤ 1000000))
   && (!(!(p.w (p.t a b c d) 0 == a && p.w (p.t a b c d) 1 == b && p.w (p.t a b c d) 2 == c && p.w (p.t a b c d) 3 == d))
   && (!(p.e (p.t a b c d) != 0)
   && (!(!(h.w #[] 0 0 0 == a && h.w #[] 0 0 1 == b && h.w #[] 0 0 2 == c && h.w #[] 0 0 3 == d))
   && (!(h.e #[] 0 0 != 0)
   && (!(p.e s != 0)
   && ((inQ (p.w s 0) (p.w s 1) (p.w s 2) (p.w s 3))
   && ((ByteArray.toList (p.t (p.w s 0) (p.w s 1) (p.w s 2) (p.w s 3)) == ByteArray.toList s)
   && ((p.e s == 0)
   && true)))))))))))))
theorem yb_cond_k : (fun (p : Ps) (q : Gs) (h : Hs) (a b c d : Int) (s : ByteArray) => (followT yb_bits (callT cfZ (tZo p q h) 60 (.func (.func 5) #[] #[]) #[mk a b c d, .string s] (ctx0 0) st0)).1) = fun (p : Ps) (q : Gs) (h : Hs) (a b c d : Int) (s : ByteArray) => yb_c p q h a b c d s := by kernel_rfl
theorem yb_cond (p : Ps) (q : Gs) (h : Hs) (a b c d : Int) (s : ByteArray) : (followT yb_bits (callT cfZ (tZo p q h) 60 (.func (.func 5) #[] #[]) #[mk a b c d, .string s] (ctx0 0) st0)).1 = yb_c p q h a b c d s := congrFun (congrFun (congrFun (congrFun (congrFun (congrFun (congrFun (congrFun yb_cond_k p) q) h) a) b) c) d) s
theorem yb_leaf_k : (fun (p : Ps) (q : Gs) (h : Hs) (a b c d : Int) (s : ByteArray) => pathObs seenOf yb_bits (callT cfZ (tZo p q h) 60 (.func (.func 5) #[] #[]) #[mk a b c d, .string s] (ctx0 0) st0)) = fun (_ : Ps) (_ : Gs) (_ : Hs) (_ _ _ _ : Int) (_ : ByteArray) => some (.bool true, st0) := by kernel_rfl
theorem yb_leaf (p : Ps) (q : Gs) (h : Hs) (a b c d : Int) (s : ByteArray) : pathObs seenOf yb_bits (callT cfZ (tZo p q h) 60 (.func (.func 5) #[] #[]) #[mk a b c d, .string s] (ctx0 0) st0) = some (.bool true, st0) := congrFun (congrFun (congrFun (congrFun (congrFun (congrFun (congrFun (congrFun yb_leaf_k p) q) h) a) b) c) d) s
def yc_bits : List Bool := [true, false, true, true, true, true, true, true, true, true, true, true, true, true, true, true, true, true, true, false, false, false, false, false, false, false, true, true, false, false, true, true, false, false, false, false, false, false, false, false, false, true, true, true, true, true, true, true, true, true, true, true, true, true, true, true, false, false, true, true, false, false, false, false, true, false, true, true, true, true, true]
def yc_c (p : Ps) (q : Gs) (h : Hs) (a b c d : Int) (s : ByteArray) : Bool :=
  !(decide (((ByteArray.size s : Nat) : Int) > 200))
   && ((inQ a b c d)
   && ((decide (ByteArray.size (p.t a b c d) ≤ 1000000))
   && ((inQ a b c d)
   && ((Nat.beq (q.L a b c d) 0)
   && ((decide (ByteArray.size s ≤ 1000000))
   && (!(!(p.w (p.t a b c d) 0 == a && p.w (p.t a b c d) 1 == b && p.w (p.t a b c d) 2 == c && p.w (p.t a b c d) 3 == d))
   && (!(p.e (p.t a b c d) != 0)
   && (!(!(h.w #[] 0 0 0 == a && h.w #[] 0 0 1 == b && h.w #[] 0 0 2 == c && h.w #[] 0 0 3 == d))
   && (!(h.e #[] 0 0 != 0)
   && ((p.e s != 0)
   && (!(p.e s == 0)
   && ((p.w s 0 == 0 && p.w s 1 == 0 && p.w s 2 == 0 && p.w s 3 == 0)
   && true))))))))))))
theorem yc_cond_k : (fun (p : Ps) (q : Gs) (h : Hs) (a b c d : Int) (s : ByteArray) => (followT yc_bits (callT cfZ (tZo p q h) 60 (.func (.func 5) #[] #[]) #[mk a b c d, .string s] (ctx0 0) st0)).1) = fun (p : Ps) (q : Gs) (h : Hs) (a b c d : Int) (s : ByteArray) => yc_c p q h a b c d s := by kernel_rfl
theorem yc_cond (p : Ps) (q : Gs) (h : Hs) (a b c d : Int) (s : ByteArray) : (followT yc_bits (callT cfZ (tZo p q h) 60 (.func (.func 5) #[] #[]) #[mk a b c d, .string s] (ctx0 0) st0)).1 = yc_c p q h a b c d s := congrFun (congrFun (congrFun (congrFun (congrFun (congrFun (congrFun (congrFun yc_cond_k p) q) h) a) b) c) d) s
theorem yc_leaf_k : (fun (p : Ps) (q : Gs) (h : Hs) (a b c d : Int) (s : ByteArray) => pathObs seenOf yc_bits (callT cfZ (tZo p q h) 60 (.func (.func 5) #[] #[]) #[mk a b c d, .string s] (ctx0 0) st0)) = fun (_ : Ps) (_ : Gs) (_ : Hs) (_ _ _ _ : Int) (_ : ByteArray) => some (.bool true, st0) := by kernel_rfl
theorem yc_leaf (p : Ps) (q : Gs) (h : Hs) (a b c d : Int) (s : ByteArray) : pathObs seenOf yc_bits (callT cfZ (tZo p q h) 60 (.func (.func 5) #[] #[]) #[mk a b c d, .string s] (ctx0 0) st0) = some (.bool true, st0) := congrFun (congrFun (congrFun (congrFun (congrFun (congrFun (congrFun (congrFun yc_leaf_k p) q) h) a) b) c) d) s
def yd_bits : List Bool := [true, false, true, true, true, true, true, true, true, true, true, false, true, true, true, true, true, true, true, true, false, false, false, false, false, false, false, true, true, false, false, true, true, false, false, false, false, false, false, false, false, false, false, false, true, true, false, false, true, false, false, false, false, false, true, true, true, true, true, true, true, true, true, true, true, true, true, true, true, true, true, true, true]
def yd_c (p : Ps) (q : Gs) (h : Hs) (a b c d : Int) (s : ByteArray) : Bool :=
  !(decide (((ByteArray.size s : Nat) : Int) > 200))
   && ((inQ a b c d)
   && ((decide (ByteArray.size (p.t a b c d) ≤ 1000000))
   && ((inQ a b c d)
   && (!(Nat.beq (q.L a b c d) 0)
   && ((decide (q.L a b c d ≤ q.L a b c d) && (decide (Array.size (q.E a b c d) ≠ 0) && Array.all (q.E a b c d) (freeN 9)))
   && ((intsOk (q.E a b c d) 0 (q.L a b c d))
   && ((decide (ByteArray.size s ≤ 1000000))
   && (!(!(p.w (p.t a b c d) 0 == a && p.w (p.t a b c d) 1 == b && p.w (p.t a b c d) 2 == c && p.w (p.t a b c d) 3 == d))
   && (!(p.e (p.t a b c d) != 0)
   && (!(!(h.w (q.E a b c d) 0 (q.L a b c d) 0 == a && h.w (q.E a b c d) 0 (q.L a b c d) 1 == b && h.w (q.E a b c d) 0 (q.L a b c d) 2 == c && h.w (q.E a b c d) 0 (q.L a b c d) 3 == d))
   && (!(h.e (q.E a b c d) 0 (q.L a b c d) != 0)
   && (!(p.e s != 0)
   && ((inQ (p.w s 0) (p.w s 1) (p.w s 2) (p.w s 3))
   && ((ByteArray.toList (p.t (p.w s 0) (p.w s 1) (p.w s 2) (p.w s 3)) == ByteArray.toList s)
   && ((p.e s == 0)
   && true)))))))))))))))
theorem yd_cond_k : (fun (p : Ps) (q : Gs) (h : Hs) (a b c d : Int) (s : ByteArray) => (followT yd_bits (callT cfZ (tZo p q h) 60 (.func (.func 5) #[] #[]) #[mk a b c d, .string s] (ctx0 0) st0)).1) = fun (p : Ps) (q : Gs) (h : Hs) (a b c d : Int) (s : ByteArray) => yd_c p q h a b c d s := by kernel_rfl
theorem yd_cond (p : Ps) (q : Gs) (h : Hs) (a b c d : Int) (s : ByteArray) : (followT yd_bits (callT cfZ (tZo p q h) 60 (.func (.func 5) #[] #[]) #[mk a b c d, .string s] (ctx0 0) st0)).1 = yd_c p q h a b c d s := congrFun (congrFun (congrFun (congrFun (congrFun (congrFun (congrFun (congrFun yd_cond_k p) q) h) a) b) c) d) s
theorem yd_leaf_k : (fun (p : Ps) (q : Gs) (h : Hs) (a b c d : Int) (s : ByteArray) => pathObs seenOf yd_bits (callT cfZ (tZo p q h) 60 (.func (.func 5) #[] #[]) #[mk a b c d, .string s] (ctx0 0) st0)) = fun (_ : Ps) (_ : Gs) (_ : Hs) (_ _ _ _ : Int) (_ : ByteArray) => some (.bool true, st0) := by kernel_rfl
theorem yd_leaf (p : Ps) (q : Gs) (h : Hs) (a b c d : Int) (s : ByteArray) : pathObs seenOf yd_bits (callT cfZ (tZo p q h) 60 (.func (.func 5) #[] #[]) #[mk a b c d, .string s] (ctx0 0) st0) = some (.bool true, st0) := congrFun (congrFun (congrFun (congrFun (congrFun (congrFun (congrFun (congrFun yd_leaf_k p) q) h) a) b) c) d) s
def ye_bits : List Bool := [true, false, true, true, true, true, true, true, true, true, true, false, true, true, true, true, true, true, true, true, false, false, false, false, false, false, false, true, true, false, false, true, true, false, false, false, false, false, false, false, false, false, true, true, true, true, true, true, true, true, true, true, true, true, true, true, true, false, false, true, true, false, false, false, false, true, false, true, true, true, true, true]
def ye_c (p : Ps) (q : Gs) (h : Hs) (a b c d : Int) (s : ByteArray) : Bool :=
  !(decide (((ByteArray.size s : Nat) : Int) > 200))
   && ((inQ a b c d)
   && ((decide (ByteArray.size (p.t a b c d) ≤ 1000000))
   && ((inQ a b c d)
   && (!(Nat.beq (q.L a b c d) 0)
   && ((decide (q.L a b c d ≤ q.L a b c d) && (decide (Array.size (q.E a b c d) ≠ 0) && Array.all (q.E a b c d) (freeN 9)))
   && ((intsOk (q.E a b c d) 0 (q.L a b c d))
   && ((decide (ByteArray.size s ≤ 1000000))
   && (!(!(p.w (p.t a b c d) 0 == a && p.w (p.t a b c d) 1 == b && p.w (p.t a b c d) 2 == c && p.w (p.t a b c d) 3 == d))
   && (!(p.e (p.t a b c d) != 0)
   && (!(!(h.w (q.E a b c d) 0 (q.L a b c d) 0 == a && h.w (q.E a b c d) 0 (q.L a b c d) 1 == b && h.w (q.E a b c d) 0 (q.L a b c d) 2 == c && h.w (q.E a b c d) 0 (q.L a b c d) 3 == d))
   && (!(h.e (q.E a b c d) 0 (q.L a b c d) != 0)
   && ((p.e s != 0)
   && (!(p.e s == 0)
   && ((p.w s 0 == 0 && p.w s 1 == 0 && p.w s 2 == 0 && p.w s 3 == 0)
   && true))))))))))))))
theorem ye_cond_k : (fun (p : Ps) (q : Gs) (h : Hs) (a b c d : Int) (s : ByteArray) => (followT ye_bits (callT cfZ (tZo p q h) 60 (.func (.func 5) #[] #[]) #[mk a b c d, .string s] (ctx0 0) st0)).1) = fun (p : Ps) (q : Gs) (h : Hs) (a b c d : Int) (s : ByteArray) => ye_c p q h a b c d s := by kernel_rfl
theorem ye_cond (p : Ps) (q : Gs) (h : Hs) (a b c d : Int) (s : ByteArray) : (followT ye_bits (callT cfZ (tZo p q h) 60 (.func (.func 5) #[] #[]) #[mk a b c d, .string s] (ctx0 0) st0)).1 = ye_c p q h a b c d s := congrFun (congrFun (congrFun (congrFun (congrFun (congrFun (congrFun (congrFun ye_cond_k p) q) h) a) b) c) d) s
theorem ye_leaf_k : (fun (p : Ps) (q : Gs) (h : Hs) (a b c d : Int) (s : ByteArray) => pathObs seenOf ye_bits (callT cfZ (tZo p q h) 60 (.func (.func 5) #[] #[]) #[mk a b c d, .string s] (ctx0 0) st0)) = fun (_ : Ps) (_ : Gs) (_ : Hs) (_ _ _ _ : Int) (_ : ByteArray) => some (.bool true, st0) := by kernel_rfl
theorem ye_leaf (p : Ps) (q : Gs) (h : Hs) (a b c d : Int) (s : ByteArray) : pathObs seenOf ye_bits (callT cfZ (tZo p q h) 60 (.func (.func 5) #[] #[]) #[mk a b c d, .string s] (ctx0 0) st0) = some (.bool true, st0) := congrFun (congrFun (congrFun (congrFun (congrFun (congrFun (congrFun (congrFun ye_leaf_k p) q) h) a) b) c) d) s
end
end Go.Proofs.YtmpokdnpkjcnbaaDoor

/- MaskBack: the plain law. -/
namespace Go.Proofs.YtmpokdnpkjcnbaaDoor
open Go.Am
noncomputable section
theorem same_of {a b : ByteArray} (h : (a.toList == b.toList) = true) : a = b := by
  rw [ByteArray.toList_eq, ByteArray.toList_eq, beq_iff_eq] at h
  exact bext h
theorem size_of {a : ByteArray} (h : (a.toList == (⟨#[]⟩ : ByteArray).toList) = true) : a.size = 0 := by
  rw [same_of h]; rfl
theorem wT_zero : ∀ i, wT 0#256 i = [] := by
  intro i
  induction i with
  | zero => rfl
  | succ i ih =>
    have hs : ((0#256 : B256).getLsbD i && !(0#256 : B256).getLsbD (i + 1)) = false := by simp
    rw [wT_same hs, ih]
theorem text_zero : textB 0#256 = ⟨#[]⟩ := by
  unfold textB
  rw [wT_zero]; rfl
/-- Parse of a mask's text -/
theorem par_text (m : B256) : (∀ k, parW (textB m) k = wd m k) ∧ parE (textB m) = 0 := by
  cases he : isE (wT m 256) with
  | true =>
    have h0 := text_nil m he
    subst h0
    rw [text_zero]
    exact ⟨fun k => by unfold parW; rw [beq_self_eq_true, cond_true, wd_zero], by unfold parE isOk; rw [beq_self_eq_true]; rfl⟩
  | false =>
    obtain ⟨h1, h2⟩ := parse_text m he
    have h3 : ((textB m).toList == (⟨#[]⟩ : ByteArray).toList) = false := by
      cases h : ((textB m).toList == (⟨#[]⟩ : ByteArray).toList) with
      | false => rfl
      | true => have := size_of h; omega
    refine ⟨fun k => ?_, ?_⟩
    · unfold parW
      rw [h3, h1, beq_self_eq_true]; rfl
    · unfold parE isOk
      rw [h3, h1, beq_self_eq_true]; rfl
/-- Parse of any text -/
theorem par_any (s : ByteArray) : (parE s = 0 ∧ ∃ m, (∀ k, parW s k = wd m k) ∧ textB m = s) ∨ (parE s = 5 ∧ ∀ k, parW s k = 0) := by
  unfold parE isOk
  cases h1 : (s.toList == (⟨#[]⟩ : ByteArray).toList) with
  | true =>
    left
    refine ⟨rfl, 0#256, fun k => ?_, ?_⟩
    · unfold parW; rw [h1, wd_zero]; rfl
    · rw [text_zero]; exact (same_of h1).symm
  | false =>
    cases h2 : ((textB (parseM s)).toList == s.toList) with
    | true =>
      left
      refine ⟨rfl, parseM s, fun k => ?_, same_of h2⟩
      unfold parW; rw [h1, h2]; rfl
    | false =>
      right
      refine ⟨rfl, fun k => ?_⟩
      unfold parW; rw [h1, h2]; rfl
theorem of_list (m : B256) : anyBad (lstE m 256) 0 (cntB m 256) = false ∧ setI (lstE m 256) 0 (cntB m 256) = m := by
  refine ⟨anyBad_no fun t ht => ?_, ?_⟩
  · obtain ⟨j, h1, h2, h3, h4⟩ := lstE_num m 256 t ht
    unfold badAt
    rw [Nat.zero_add, h4]
    show (decide ((j : Int) < 0) || (decide ((j : Int) > 255) || inB (lstE m 256) 0 (j : Int) t)) = false
    rw [decide_eq_false (by omega), decide_eq_false (by omega), Bool.false_or, Bool.false_or]
    cases hi : inB (lstE m 256) 0 (j : Int) t with
    | false => rfl
    | true =>
      obtain ⟨t', k1, k2⟩ := inB_iff.1 hi
      obtain ⟨j', p1, p2, p3, p4⟩ := lstE_num m 256 t' (by omega)
      rw [Nat.zero_add, p4] at k2
      have e : (j' : Int) = (j : Int) := k2
      have e2 : j' = j := by omega
      subst e2
      omega
  · rw [set_lst m (Nat.le_refl _), low_all]
theorem of_nil (m : B256) (h : cntB m 256 = 0) : anyBad #[] 0 0 = false ∧ setI #[] 0 0 = m := ⟨rfl, set_nil m h⟩
theorem h0_ok {X : Array Value} {o n : Nat} {m : B256} (h : anyBad X o n = false ∧ setI X o n = m) : (∀ k, h0.w X o n k = wd m k) ∧ h0.e X o n = 0 := by
  unfold h0
  dsimp only
  rw [h.1, h.2]
  exact ⟨fun _ => rfl, rfl⟩
theorem ps0_t (m : B256) : ps0.t (wd m 0) (wd m 1) (wd m 2) (wd m 3) = textB m := t0F_wd m
theorem ps0_w : ps0.w = parW := rfl
theorem ps0_e : ps0.e = parE := rfl
theorem law5 (m : B256) (s : ByteArray) : ∃ v s', call cfZ 60 (.func (.func 5) #[] #[]) #[mkB m, .string s] (ctx0 0) st0 = some (.ret v, s') ∧ shed st0 s' v = some (.bool true, st0) := by
  obtain ⟨gL, gE⟩ := g0_wd m
  by_cases hl : ((ByteArray.size s : Nat) : Int) > 200
  · refine path_call tZo_ok ((ya_cond ps0 g0 h0 ..).trans ?_) (ya_leaf ps0 g0 h0 (wd m 0) (wd m 1) (wd m 2) (wd m 3) s)
    unfold ya_c
    rw [decide_eq_true hl]; rfl
  have hs : decide (s.size ≤ 1000000) = true := decide_eq_true (by omega)
  have ht : decide ((textB m).size ≤ 1000000) = true := decide_eq_true (by have := text_size m; omega)
  obtain ⟨p1, p2⟩ := par_text m
  cases hz : Nat.beq (cntB m 256) 0 with
  | true =>
    obtain ⟨k1, k2⟩ := h0_ok (of_nil m (Nat.eq_of_beq_eq_true hz))
    rcases par_any s with ⟨q1, m', q2, q3⟩ | ⟨q1, q2⟩
    · refine path_call tZo_ok ((yb_cond ps0 g0 h0 ..).trans ?_) (yb_leaf ps0 g0 h0 (wd m 0) (wd m 1) (wd m 2) (wd m 3) s)
      unfold yb_c
      simp only [decide_eq_false hl, wd_inQ, ps0_t, ps0_w, ps0_e, gL, hz, hs, ht, p1, p2, k1, k2, q1, q2, q3, beq_self_eq_true]
      rfl
    · refine path_call tZo_ok ((yc_cond ps0 g0 h0 ..).trans ?_) (yc_leaf ps0 g0 h0 (wd m 0) (wd m 1) (wd m 2) (wd m 3) s)
      unfold yc_c
      simp only [decide_eq_false hl, wd_inQ, ps0_t, ps0_w, ps0_e, gL, hz, hs, ht, p1, p2, k1, k2, q1, q2, beq_self_eq_true]
      rfl
  | false =>
    have hne : cntB m 256 ≠ 0 := Nat.ne_of_beq_eq_false hz
    have c1 : decide ((lstE m 256).size ≠ 0) = true := decide_eq_true (by rw [lstE_size]; exact hne)
    obtain ⟨k1, k2⟩ := h0_ok (of_list m)
    rcases par_any s with ⟨q1, m', q2, q3⟩ | ⟨q1, q2⟩
    · refine path_call tZo_ok ((yd_cond ps0 g0 h0 ..).trans ?_) (yd_leaf ps0 g0 h0 (wd m 0) (wd m 1) (wd m 2) (wd m 3) s)
      unfold yd_c
      simp only [decide_eq_false hl, wd_inQ, ps0_t, ps0_w, ps0_e, gL, gE, hz, hs, ht, p1, p2, k1, k2, q1, q2, q3, beq_self_eq_true, (lstE_plain m 256).2.2, lst_ints m (Nat.le_refl _), c1, decide_eq_true (Nat.le_refl (cntB m 256))]
      rfl
    · refine path_call tZo_ok ((ye_cond ps0 g0 h0 ..).trans ?_) (ye_leaf ps0 g0 h0 (wd m 0) (wd m 1) (wd m 2) (wd m 3) s)
      unfold ye_c
      simp only [decide_eq_false hl, wd_inQ, ps0_t, ps0_w, ps0_e, gL, gE, hz, hs, ht, p1, p2, k1, k2, q1, q2, beq_self_eq_true, (lstE_plain m 256).2.2, lst_ints m (Nat.le_refl _), c1, decide_eq_true (Nat.le_refl (cntB m 256))]
      rfl
end
end Go.Proofs.YtmpokdnpkjcnbaaDoor
