/- MaskAlgebra, walked. -/
import Derived.Test.YtmpokdnpkjcnbaaDoorFGH
namespace Go.Proofs.YtmpokdnpkjcnbaaDoor
open Go.Am
noncomputable section
def liveD : Array Value → DT (Option (Value × St))
  | ⟨[]⟩ => .leaf (some (.bool true, st0))
  | _ => .leaf none
def TD : FuncId → Option (Array Value → DT (Option (Value × St)))
  | 9 => some liveD
  | _ => none
def cfD : Cfg := cfC.told TD
def tD : FuncId → Option HandT := treeT TD tC
/-- what masks' functions compute, left open -/
structure Fs where
  A : Int → Int → Int
  O : Int → Int → Int
  N : Int → Int → Int
  C : Int → Int → Int → Int → Int
  Q : Int → Int → Int → Int → Bool
def cntO (p : Fs) : Array Value → DT (Option (Value × St))
  | ⟨[.agg ⟨[.int .u64 a, .int .u64 b, .int .u64 c, .int .u64 d]⟩]⟩ => .must (p.Q a b c d) (.leaf (some (.int .i64 (p.C a b c d), st0))) (.leaf none)
  | _ => .leaf none
def tO (p : Fs) : FuncId → Option HandT
  | 18 => some (apartT (cntO p))
  | 27 => some (apartT (binD p.N))
  | 29 => some (apartT (binD p.A))
  | 31 => some (apartT (binD p.O))
  | f => tD f
def alg_bits : List Bool := [true, true, true, true, true, true, true, true, true, true, true, true, true, true, false, false, true, true, false, false, true, true, false, false, false, false, true, true, false, false, true, true, false, false, false, false, false, false, false, true, true, false, false, true, true, false, false, true, true, false, false, false, false, false, false, true, true, false, false, true, true, false, false, false, false, true, true, false, false, true, true, false, false, false, false, false, false, false, false, false, true, true, false, false, true, true, false, false, true, true, false, false, false, false, false, false, true, true, false, false, true, true, false, false, false, false, true, true, false, false, false, false, false, false, true, true, true, true, true, true, true, true, true, true, true, true, true, true, true, true, true, true, true, true, true, true, true, true, true, true, true, true, true, true, true, true, true, true, true, true, true, true, true, true, true, true, true, true, true, true, true, true, true, true, true, true, true, true, true, true, true, true, true, true, true, true, true, true, true, true, true, true, true]
def alg_c (p : Fs) (a b c d e f g h q r s t : Int) : Bool :=
  !(!(p.A a e == p.A e a && p.A b f == p.A f b && p.A c g == p.A g c && p.A d h == p.A h d))
   && (!(!(p.O a e == p.O e a && p.O b f == p.O f b && p.O c g == p.O g c && p.O d h == p.O h d))
   && (!(!(p.A a (p.O e q) == p.O (p.A a e) (p.A a q) && p.A b (p.O f r) == p.O (p.A b f) (p.A b r) && p.A c (p.O g s) == p.O (p.A c g) (p.A c s) && p.A d (p.O h t) == p.O (p.A d h) (p.A d t)))
   && (!(!(p.N a (p.O e q) == p.N (p.N a e) q && p.N b (p.O f r) == p.N (p.N b f) r && p.N c (p.O g s) == p.N (p.N c g) s && p.N d (p.O h t) == p.N (p.N d h) t))
   && ((p.Q (p.A a e) (p.A b f) (p.A c g) (p.A d h))
   && ((p.Q (p.O a e) (p.O b f) (p.O c g) (p.O d h))
   && ((p.Q a b c d)
   && ((p.Q e f g h)
   && ((IntKind.wrap .i64 (p.C (p.A a e) (p.A b f) (p.A c g) (p.A d h) + p.C (p.O a e) (p.O b f) (p.O c g) (p.O d h)) == IntKind.wrap .i64 (p.C a b c d + p.C e f g h))
   && ((p.O (p.N a e) (p.A a e) == a && p.O (p.N b f) (p.A b f) == b && p.O (p.N c g) (p.A c g) == c && p.O (p.N d h) (p.A d h) == d)
   && ((p.A (p.N a e) e == 0 && p.A (p.N b f) f == 0 && p.A (p.N c g) g == 0 && p.A (p.N d h) h == 0)
   && true))))))))))
theorem alg_cond_k : (fun (p : Fs) (a b c d e f g h q r s t : Int) => (followT alg_bits (callT cfD (tO p) 60 (.func (.func 8) #[] #[]) #[mk a b c d, mk e f g h, mk q r s t] (ctx0 0) st0)).1) = fun (p : Fs) (a b c d e f g h q r s t : Int) => alg_c p a b c d e f g h q r s t := by kernel_rfl
theorem alg_cond (p : Fs) (a b c d e f g h q r s t : Int) : (followT alg_bits (callT cfD (tO p) 60 (.func (.func 8) #[] #[]) #[mk a b c d, mk e f g h, mk q r s t] (ctx0 0) st0)).1 = alg_c p a b c d e f g h q r s t := congrFun (congrFun (congrFun (congrFun (congrFun (congrFun (congrFun (congrFun (congrFun (congrFun (congrFun (congrFun (congrFun alg_cond_k p) a) b) c) d) e) f) g) h) q) r) s) t
theorem alg_leaf_k : (fun (p : Fs) (a b c d e f g h q r s t : Int) => pathObs seenOf alg_bits (callT cfD (tO p) 60 (.func (.func 8) #[] #[]) #[mk a b c d, mk e f g h, mk q r s t] (ctx0 0) st0)) = fun (_ : Fs) (_ _ _ _ _ _ _ _ _ _ _ _ : Int) => some (.bool true, st0) := by kernel_rfl
theorem alg_leaf (p : Fs) (a b c d e f g h q r s t : Int) : pathObs seenOf alg_bits (callT cfD (tO p) 60 (.func (.func 8) #[] #[]) #[mk a b c d, mk e f g h, mk q r s t] (ctx0 0) st0) = some (.bool true, st0) := congrFun (congrFun (congrFun (congrFun (congrFun (congrFun (congrFun (congrFun (congrFun (congrFun (congrFun (congrFun (congrFun alg_leaf_k p) a) b) c) d) e) f) g) h) q) r) s) t
end
end Go.Proofs.YtmpokdnpkjcnbaaDoor
