/- MaskLowest: paths. -/
import Derived.Test.YtmpokdnpkjcnbaaDoorTc
namespace Go.Proofs.YtmpokdnpkjcnbaaDoor
open Go.Am
noncomputable section
/-- the least cores, left open -/
abbrev Ws := Int → Int → Int → Int → Int → Nat → Int
def lowO (p : Fs) (w : Ws) : Array Value → DT (Option (Value × St))
  | ⟨[.agg ⟨[.int .u64 a, .int .u64 b, .int .u64 c, .int .u64 d]⟩, .int .i64 n]⟩ => .must (p.Q a b c d) (.node (decide (n < 0)) (.leaf (some (.tuple #[mk 0 0 0 0, .int .i64 1], st0)))
      (.node (decide (n > p.C a b c d)) (.leaf (some (.tuple #[mk 0 0 0 0, .int .i64 12], st0))) (.leaf (some (.tuple #[mk (w a b c d n 0) (w a b c d n 1) (w a b c d n 2) (w a b c d n 3), .int .i64 0], st0))))) (.leaf none)
  | _ => .leaf none
def tX (p : Fs) (q : Gs) (w : Ws) : FuncId → Option HandT
  | 17 => some (apartT (lstD q))
  | 18 => some (apartT (cntO p))
  | 26 => some (apartT (lowO p w))
  | 27 => some (apartT (binD p.N))
  | 29 => some (apartT (binD p.A))
  | 31 => some (apartT (binD p.O))
  | f => tU f
def w0 : Ws := lowW
theorem tX_eq : tX p0 g0 w0 = tU := by
  funext f
  unfold tX
  split <;> rfl
theorem tX_ok : ∀ f k hd, tX p0 g0 w0 f = some k → cfU.hand f = some hd → ∀ a c s, (k a c s).eval = hd a c s := by rw [tX_eq]; exact tU_ok
def lnA (q : Gs) (w : Ws) (a b c d n : Int) : Nat := q.L (w a b c d n 0) (w a b c d n 1) (w a b c d n 2) (w a b c d n 3)
def lnB (p : Fs) (q : Gs) (w : Ws) (a b c d n : Int) : Nat := q.L (p.N a (w a b c d n 0)) (p.N b (w a b c d n 1)) (p.N c (w a b c d n 2)) (p.N d (w a b c d n 3))
def rwA (q : Gs) (w : Ws) (a b c d n : Int) : Array Value := q.E (w a b c d n 0) (w a b c d n 1) (w a b c d n 2) (w a b c d n 3)
def rwB (p : Fs) (q : Gs) (w : Ws) (a b c d n : Int) : Array Value := q.E (p.N a (w a b c d n 0)) (p.N b (w a b c d n 1)) (p.N c (w a b c d n 2)) (p.N d (w a b c d n 3))
def la_bits : List Bool := [true, true, true, true, true, true, true, true, true, true, true, true, true, true, true, true, true, true, true, true, true, true, true, true, true, true, true, true]
def la_c (p : Fs) (_ : Gs) (_ : Ws) (a b c d n : Int) : Bool :=
  (p.Q a b c d)
   && ((decide (n < 0))
   && ((decide (n < 0))
   && true))
theorem la_cond_k : (fun (p : Fs) (q : Gs) (w : Ws) (a b c d n : Int) => (followT la_bits (callT cfU (tX p q w) 60 (.func (.func 6) #[] #[]) #[mk a b c d, .int .i64 n] (ctx0 0) st0)).1) = fun (p : Fs) (q : Gs) (w : Ws) (a b c d n : Int) => la_c p q w a b c d n := by kernel_rfl
theorem la_cond (p : Fs) (q : Gs) (w : Ws) (a b c d n : Int) : (followT la_bits (callT cfU (tX p q w) 60 (.func (.func 6) #[] #[]) #[mk a b c d, .int .i64 n] (ctx0 0) st0)).1 = la_c p q w a b c d n := congrFun (congrFun (congrFun (congrFun (congrFun (congrFun (congrFun (congrFun la_cond_k p) q) w) a) b) c) d) n
theorem la_leaf_k : (fun (p : Fs) (q : Gs) (w : Ws) (a b c d n : Int) => pathObs seenOf la_bits (callT cfU (tX p q w) 60 (.func (.func 6) #[] #[]) #[mk a b c d, .int .i64 n] (ctx0 0) st0)) = fun (_ : Fs) (_ : Gs) (_ : Ws) (_ _ _ _ _ : Int) => some (.bool true, st0) := by kernel_rfl
theorem la_leaf (p : Fs) (q : Gs) (w : Ws) (a b c d n : Int) : pathObs seenOf la_bits (callT cfU (tX p q w) 60 (.func (.func 6) #[] #[]) #[mk a b c d, .int .i64 n] (ctx0 0) st0) = some (.bool true, st0) := congrFun (congrFun (congrFun (congrFun (congrFun (congrFun (congrFun (congrFun la_leaf_k p) q) w) a) b) c) d) n
def lb_bits : List Bool := [true, true, true, true, true, false, true, true, false, false, false, false, true, true, false, false, true, false, false, false, true, true, true, true, true, true, true, true, true, true, true, true]
def lb_c (p : Fs) (_ : Gs) (_ : Ws) (a b c d n : Int) : Bool :=
  (p.Q a b c d)
   && (!(decide (n < 0))
   && ((decide (n > p.C a b c d))
   && (!(decide (n < 0))
   && ((p.Q a b c d)
   && ((decide (n > p.C a b c d))
   && true)))))
theorem lb_cond_k : (fun (p : Fs) (q : Gs) (w : Ws) (a b c d n : Int) => (followT lb_bits (callT cfU (tX p q w) 60 (.func (.func 6) #[] #[]) #[mk a b c d, .int .i64 n] (ctx0 0) st0)).1) = fun (p : Fs) (q : Gs) (w : Ws) (a b c d n : Int) => lb_c p q w a b c d n := by kernel_rfl
theorem lb_cond (p : Fs) (q : Gs) (w : Ws) (a b c d n : Int) : (followT lb_bits (callT cfU (tX p q w) 60 (.func (.func 6) #[] #[]) #[mk a b c d, .int .i64 n] (ctx0 0) st0)).1 = lb_c p q w a b c d n := congrFun (congrFun (congrFun (congrFun (congrFun (congrFun (congrFun (congrFun lb_cond_k p) q) w) a) b) c) d) n
theorem lb_leaf_k : (fun (p : Fs) (q : Gs) (w : Ws) (a b c d n : Int) => pathObs seenOf lb_bits (callT cfU (tX p q w) 60 (.func (.func 6) #[] #[]) #[mk a b c d, .int .i64 n] (ctx0 0) st0)) = fun (_ : Fs) (_ : Gs) (_ : Ws) (_ _ _ _ _ : Int) => some (.bool true, st0) := by kernel_rfl
theorem lb_leaf (p : Fs) (q : Gs) (w : Ws) (a b c d n : Int) : pathObs seenOf lb_bits (callT cfU (tX p q w) 60 (.func (.func 6) #[] #[]) #[mk a b c d, .int .i64 n] (ctx0 0) st0) = some (.bool true, st0) := congrFun (congrFun (congrFun (congrFun (congrFun (congrFun (congrFun (congrFun lb_leaf_k p) q) w) a) b) c) d) n
def lc_bits : List Bool := [true, true, true, true, true, false, false, false, true, true, true, true, true, true, true, true, true, true, true, true, true, true, true, true, true, true, true, true, true, true, true, true, true, true, true, true, true, true, true, true, true, true, true, true, true, true, true, true, true, true, true, true, true, true, true, true, true, true, true, true, true, true, true, true, true, true, true, true, true, true, true, true, true, true, true, true, true, true, true, true, true]
def lc_c (p : Fs) (q : Gs) (w : Ws) (a b c d n : Int) : Bool :=
  (p.Q a b c d)
   && (!(decide (n < 0))
   && (!(decide (n > p.C a b c d))
   && ((inQ (w a b c d n 0) (w a b c d n 1) (w a b c d n 2) (w a b c d n 3))
   && ((Nat.beq (q.L (w a b c d n 0) (w a b c d n 1) (w a b c d n 2) (w a b c d n 3)) 0)
   && ((inQ (p.N a (w a b c d n 0)) (p.N b (w a b c d n 1)) (p.N c (w a b c d n 2)) (p.N d (w a b c d n 3)))
   && ((Nat.beq (q.L (p.N a (w a b c d n 0)) (p.N b (w a b c d n 1)) (p.N c (w a b c d n 2)) (p.N d (w a b c d n 3))) 0)
   && ((((0 : Nat) : Int) == n)
   && ((p.N (w a b c d n 0) a == 0 && p.N (w a b c d n 1) b == 0 && p.N (w a b c d n 2) c == 0 && p.N (w a b c d n 3) d == 0)
   && true))))))))
theorem lc_cond_k : (fun (p : Fs) (q : Gs) (w : Ws) (a b c d n : Int) => (followT lc_bits (callT cfU (tX p q w) 60 (.func (.func 6) #[] #[]) #[mk a b c d, .int .i64 n] (ctx0 0) st0)).1) = fun (p : Fs) (q : Gs) (w : Ws) (a b c d n : Int) => lc_c p q w a b c d n := by kernel_rfl
theorem lc_cond (p : Fs) (q : Gs) (w : Ws) (a b c d n : Int) : (followT lc_bits (callT cfU (tX p q w) 60 (.func (.func 6) #[] #[]) #[mk a b c d, .int .i64 n] (ctx0 0) st0)).1 = lc_c p q w a b c d n := congrFun (congrFun (congrFun (congrFun (congrFun (congrFun (congrFun (congrFun lc_cond_k p) q) w) a) b) c) d) n
theorem lc_leaf_k : (fun (p : Fs) (q : Gs) (w : Ws) (a b c d n : Int) => pathObs seenOf lc_bits (callT cfU (tX p q w) 60 (.func (.func 6) #[] #[]) #[mk a b c d, .int .i64 n] (ctx0 0) st0)) = fun (_ : Fs) (_ : Gs) (_ : Ws) (_ _ _ _ _ : Int) => some (.bool true, st0) := by kernel_rfl
theorem lc_leaf (p : Fs) (q : Gs) (w : Ws) (a b c d n : Int) : pathObs seenOf lc_bits (callT cfU (tX p q w) 60 (.func (.func 6) #[] #[]) #[mk a b c d, .int .i64 n] (ctx0 0) st0) = some (.bool true, st0) := congrFun (congrFun (congrFun (congrFun (congrFun (congrFun (congrFun (congrFun lc_leaf_k p) q) w) a) b) c) d) n
def ld_bits : List Bool := [true, true, true, true, true, false, false, false, true, true, true, true, true, true, true, true, true, false, true, true, true, true, true, true, true, true, true, true, true, true, true, true, true, true, true, true, true, true, true, true, true, true, true, true, true, true, true, true, true, true, true, true, true, true, true, true, true, true, true, true, true, true, true, true, true, true, true, true, true, true, true, true, true, true, true, true, true, true, true, true, true]
def ld_c (p : Fs) (q : Gs) (w : Ws) (a b c d n : Int) : Bool :=
  (p.Q a b c d)
   && (!(decide (n < 0))
   && (!(decide (n > p.C a b c d))
   && ((inQ (w a b c d n 0) (w a b c d n 1) (w a b c d n 2) (w a b c d n 3))
   && ((Nat.beq (q.L (w a b c d n 0) (w a b c d n 1) (w a b c d n 2) (w a b c d n 3)) 0)
   && ((inQ (p.N a (w a b c d n 0)) (p.N b (w a b c d n 1)) (p.N c (w a b c d n 2)) (p.N d (w a b c d n 3)))
   && (!(Nat.beq (q.L (p.N a (w a b c d n 0)) (p.N b (w a b c d n 1)) (p.N c (w a b c d n 2)) (p.N d (w a b c d n 3))) 0)
   && ((((0 : Nat) : Int) == n)
   && ((p.N (w a b c d n 0) a == 0 && p.N (w a b c d n 1) b == 0 && p.N (w a b c d n 2) c == 0 && p.N (w a b c d n 3) d == 0)
   && true))))))))
theorem ld_cond_k : (fun (p : Fs) (q : Gs) (w : Ws) (a b c d n : Int) => (followT ld_bits (callT cfU (tX p q w) 60 (.func (.func 6) #[] #[]) #[mk a b c d, .int .i64 n] (ctx0 0) st0)).1) = fun (p : Fs) (q : Gs) (w : Ws) (a b c d n : Int) => ld_c p q w a b c d n := by kernel_rfl
theorem ld_cond (p : Fs) (q : Gs) (w : Ws) (a b c d n : Int) : (followT ld_bits (callT cfU (tX p q w) 60 (.func (.func 6) #[] #[]) #[mk a b c d, .int .i64 n] (ctx0 0) st0)).1 = ld_c p q w a b c d n := congrFun (congrFun (congrFun (congrFun (congrFun (congrFun (congrFun (congrFun ld_cond_k p) q) w) a) b) c) d) n
theorem ld_leaf_k : (fun (p : Fs) (q : Gs) (w : Ws) (a b c d n : Int) => pathObs seenOf ld_bits (callT cfU (tX p q w) 60 (.func (.func 6) #[] #[]) #[mk a b c d, .int .i64 n] (ctx0 0) st0)) = fun (_ : Fs) (_ : Gs) (_ : Ws) (_ _ _ _ _ : Int) => some (.bool true, st0) := by kernel_rfl
theorem ld_leaf (p : Fs) (q : Gs) (w : Ws) (a b c d n : Int) : pathObs seenOf ld_bits (callT cfU (tX p q w) 60 (.func (.func 6) #[] #[]) #[mk a b c d, .int .i64 n] (ctx0 0) st0) = some (.bool true, st0) := congrFun (congrFun (congrFun (congrFun (congrFun (congrFun (congrFun (congrFun ld_leaf_k p) q) w) a) b) c) d) n
def le_bits : List Bool := [true, true, true, true, true, false, false, false, true, true, true, false, true, true, true, true, true, true, false, true, true, true, true, true, true, true, true, true, true, true, true, true, true, true, true, true, true, true, false, true, true, true, true, false, false, false, false, true, false, false, true, false, true, true, true, true, true, true, true, true, true, true, true, true, true, true, true, true, true, true, true, true, true, true, true, true, true, true, true, true, true, true]
def le_c (p : Fs) (q : Gs) (w : Ws) (a b c d n : Int) : Bool :=
  (p.Q a b c d)
   && (!(decide (n < 0))
   && (!(decide (n > p.C a b c d))
   && ((inQ (w a b c d n 0) (w a b c d n 1) (w a b c d n 2) (w a b c d n 3))
   && (!(Nat.beq (q.L (w a b c d n 0) (w a b c d n 1) (w a b c d n 2) (w a b c d n 3)) 0)
   && ((inQ (p.N a (w a b c d n 0)) (p.N b (w a b c d n 1)) (p.N c (w a b c d n 2)) (p.N d (w a b c d n 3)))
   && ((Nat.beq (q.L (p.N a (w a b c d n 0)) (p.N b (w a b c d n 1)) (p.N c (w a b c d n 2)) (p.N d (w a b c d n 3))) 0)
   && ((((lnA q w a b c d n : Nat) : Int) == n)
   && ((p.N (w a b c d n 0) a == 0 && p.N (w a b c d n 1) b == 0 && p.N (w a b c d n 2) c == 0 && p.N (w a b c d n 3) d == 0)
   && (!(((lnA q w a b c d n : Nat) : Int) == 0)
   && true)))))))))
theorem le_cond_k : (fun (p : Fs) (q : Gs) (w : Ws) (a b c d n : Int) => (followT le_bits (callT cfU (tX p q w) 60 (.func (.func 6) #[] #[]) #[mk a b c d, .int .i64 n] (ctx0 0) st0)).1) = fun (p : Fs) (q : Gs) (w : Ws) (a b c d n : Int) => le_c p q w a b c d n := by kernel_rfl
theorem le_cond (p : Fs) (q : Gs) (w : Ws) (a b c d n : Int) : (followT le_bits (callT cfU (tX p q w) 60 (.func (.func 6) #[] #[]) #[mk a b c d, .int .i64 n] (ctx0 0) st0)).1 = le_c p q w a b c d n := congrFun (congrFun (congrFun (congrFun (congrFun (congrFun (congrFun (congrFun le_cond_k p) q) w) a) b) c) d) n
theorem le_leaf_k : (fun (p : Fs) (q : Gs) (w : Ws) (a b c d n : Int) => pathObs seenOf le_bits (callT cfU (tX p q w) 60 (.func (.func 6) #[] #[]) #[mk a b c d, .int .i64 n] (ctx0 0) st0)) = fun (_ : Fs) (_ : Gs) (_ : Ws) (_ _ _ _ _ : Int) => some (.bool true, st0) := by kernel_rfl
theorem le_leaf (p : Fs) (q : Gs) (w : Ws) (a b c d n : Int) : pathObs seenOf le_bits (callT cfU (tX p q w) 60 (.func (.func 6) #[] #[]) #[mk a b c d, .int .i64 n] (ctx0 0) st0) = some (.bool true, st0) := congrFun (congrFun (congrFun (congrFun (congrFun (congrFun (congrFun (congrFun le_leaf_k p) q) w) a) b) c) d) n
def lf_bits : List Bool := [true, true, true, true, true, false, false, false, true, true, true, false, true, true, true, true, true, false, false, true, true, true, true, true, true, true, true, true, true, true, true, true, true, true, true, true, true, true, false, true, true, true, true, false, false, false, false, false, false, false, true, false, true, true, true, false, false, false, false, false, false, false, false, false, false, false, true, false, false, true, false, false, false, false, true, false, false, true, false, false, true, false, true, true, true, true, true]
def lf_c (p : Fs) (q : Gs) (w : Ws) (a b c d n : Int) : Bool :=
  (p.Q a b c d)
   && (!(decide (n < 0))
   && (!(decide (n > p.C a b c d))
   && ((inQ (w a b c d n 0) (w a b c d n 1) (w a b c d n 2) (w a b c d n 3))
   && (!(Nat.beq (q.L (w a b c d n 0) (w a b c d n 1) (w a b c d n 2) (w a b c d n 3)) 0)
   && ((inQ (p.N a (w a b c d n 0)) (p.N b (w a b c d n 1)) (p.N c (w a b c d n 2)) (p.N d (w a b c d n 3)))
   && (!(Nat.beq (q.L (p.N a (w a b c d n 0)) (p.N b (w a b c d n 1)) (p.N c (w a b c d n 2)) (p.N d (w a b c d n 3))) 0)
   && ((((lnA q w a b c d n : Nat) : Int) == n)
   && ((p.N (w a b c d n 0) a == 0 && p.N (w a b c d n 1) b == 0 && p.N (w a b c d n 2) c == 0 && p.N (w a b c d n 3) d == 0)
   && (!(((lnA q w a b c d n : Nat) : Int) == 0)
   && (!(((lnB p q w a b c d n : Nat) : Int) == 0)
   && ((decide (0 ≤ IntKind.wrap .i64 (((lnA q w a b c d n : Nat) : Int) - 1)) && decide (IntKind.wrap .i64 (((lnA q w a b c d n : Nat) : Int) - 1) < ((lnA q w a b c d n : Nat) : Int)))
   && ((isI .i64 (rwA q w a b c d n)[0 + Int.toNat (IntKind.wrap .i64 (((lnA q w a b c d n : Nat) : Int) - 1)) * 1]?)
   && ((decide (0 < ((lnB p q w a b c d n : Nat) : Int)))
   && ((isI .i64 (rwB p q w a b c d n)[0]?)
   && ((decide (toI (rwA q w a b c d n)[0 + Int.toNat (IntKind.wrap .i64 (((lnA q w a b c d n : Nat) : Int) - 1)) * 1]? < toI (rwB p q w a b c d n)[0]?))
   && true)))))))))))))))
theorem lf_cond_k : (fun (p : Fs) (q : Gs) (w : Ws) (a b c d n : Int) => (followT lf_bits (callT cfU (tX p q w) 60 (.func (.func 6) #[] #[]) #[mk a b c d, .int .i64 n] (ctx0 0) st0)).1) = fun (p : Fs) (q : Gs) (w : Ws) (a b c d n : Int) => lf_c p q w a b c d n := by kernel_rfl
theorem lf_cond (p : Fs) (q : Gs) (w : Ws) (a b c d n : Int) : (followT lf_bits (callT cfU (tX p q w) 60 (.func (.func 6) #[] #[]) #[mk a b c d, .int .i64 n] (ctx0 0) st0)).1 = lf_c p q w a b c d n := congrFun (congrFun (congrFun (congrFun (congrFun (congrFun (congrFun (congrFun lf_cond_k p) q) w) a) b) c) d) n
theorem lf_leaf_k : (fun (p : Fs) (q : Gs) (w : Ws) (a b c d n : Int) => pathObs seenOf lf_bits (callT cfU (tX p q w) 60 (.func (.func 6) #[] #[]) #[mk a b c d, .int .i64 n] (ctx0 0) st0)) = fun (_ : Fs) (_ : Gs) (_ : Ws) (_ _ _ _ _ : Int) => some (.bool true, st0) := by kernel_rfl
theorem lf_leaf (p : Fs) (q : Gs) (w : Ws) (a b c d n : Int) : pathObs seenOf lf_bits (callT cfU (tX p q w) 60 (.func (.func 6) #[] #[]) #[mk a b c d, .int .i64 n] (ctx0 0) st0) = some (.bool true, st0) := congrFun (congrFun (congrFun (congrFun (congrFun (congrFun (congrFun (congrFun lf_leaf_k p) q) w) a) b) c) d) n
end
end Go.Proofs.YtmpokdnpkjcnbaaDoor
