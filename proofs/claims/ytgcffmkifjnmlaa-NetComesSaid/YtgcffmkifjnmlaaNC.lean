/- What is sent. -/
import Derived.Test.YtgcffmkifjnmlaaNB
namespace Go.Proofs.Ytgcffmkifjnmlaa
open Go.Am
noncomputable section
/-- how many are laid -/
def laid (a : Int) (m k : Nat) : Int := if IntKind.wrap .i64 (a - (m : Int)) < (k : Int) then IntKind.wrap .i64 (a - (m : Int)) else (k : Int)
def sa_bits : List Bool := [false, false, true, true, true, false, true, true, false, true, true, true, false]
def sa_c (a b : Int) (X : Array Value) (o k : Nat) : Bool :=
  (decide (0 ≤ laid a 0 k))
   && ((decide (Int.toNat (laid a 0 k) ≤ k))
   && ((decide (0 + (Int.toNat (laid a 0 k) - 0) ≤ nLim) && true && true && true && true && true)
   && ((decide (Int.toNat (laid a 0 k) - 0 = 0))
   && true)))
theorem sa_cond_k : (fun (a b : Int) (X : Array Value) (o k : Nat) => (followT sa_bits (codeT cfg (callT cfg noT 60) 60 cz (bodyOf 16) (frame0 16 (ntOf 16) #[p0, VS X o k]) (sN false a b))).1) = fun (a b : Int) (X : Array Value) (o k : Nat) => sa_c a b X o k := by kernel_rfl
theorem sa_cond (a b : Int) (X : Array Value) (o k : Nat) : (followT sa_bits (codeT cfg (callT cfg noT 60) 60 cz (bodyOf 16) (frame0 16 (ntOf 16) #[p0, VS X o k]) (sN false a b))).1 = sa_c a b X o k := congrFun (congrFun (congrFun (congrFun (congrFun sa_cond_k a) b) X) o) k
theorem sa_leaf_k : (fun (a b : Int) (X : Array Value) (o k : Nat) => pathObs (leaves [4]) sa_bits (codeT cfg (callT cfg noT 60) 60 cz (bodyOf 16) (frame0 16 (ntOf 16) #[p0, VS X o k]) (sN false a b))) = fun (a b : Int) (X : Array Value) (o k : Nat) => some (.ret, [some (.int .i64 (laid a 0 k))], some (boxO false a (IntKind.wrap .i64 (b + IntKind.wrap .i64 ((k : Int) - laid a 0 k))) (.slice none 0 0)), none, none, none) := by kernel_rfl
theorem sa_leaf (a b : Int) (X : Array Value) (o k : Nat) : pathObs (leaves [4]) sa_bits (codeT cfg (callT cfg noT 60) 60 cz (bodyOf 16) (frame0 16 (ntOf 16) #[p0, VS X o k]) (sN false a b)) = some (.ret, [some (.int .i64 (laid a 0 k))], some (boxO false a (IntKind.wrap .i64 (b + IntKind.wrap .i64 ((k : Int) - laid a 0 k))) (.slice none 0 0)), none, none, none) := congrFun (congrFun (congrFun (congrFun (congrFun sa_leaf_k a) b) X) o) k
def sb_bits : List Bool := [false, false, true, true, true, false, true, true, false, true, false, true, true, true, true, false]
def sb_c (a b : Int) (X : Array Value) (o k : Nat) : Bool :=
  (decide (0 ≤ laid a 0 k))
   && ((decide (Int.toNat (laid a 0 k) ≤ k))
   && ((decide (0 + (Int.toNat (laid a 0 k) - 0) ≤ nLim) && true && true && true && true && true)
   && (!(decide (Int.toNat (laid a 0 k) - 0 = 0))
   && ((decide (Int.toNat (laid a 0 k) - 0 ≤ Int.toNat (laid a 0 k) - 0) && decide (o + 0 * 1 + (Int.toNat (laid a 0 k) - 0) * 1 ≤ Array.size X))
   && ((List.all (Array.extract X (o + 0 * 1) (o + 0 * 1 + (Int.toNat (laid a 0 k) - 0) * 1)).toList Value.oneCell')
   && true)))))
theorem sb_cond_k : (fun (a b : Int) (X : Array Value) (o k : Nat) => (followT sb_bits (codeT cfg (callT cfg noT 60) 60 cz (bodyOf 16) (frame0 16 (ntOf 16) #[p0, VS X o k]) (sN false a b))).1) = fun (a b : Int) (X : Array Value) (o k : Nat) => sb_c a b X o k := by kernel_rfl
theorem sb_cond (a b : Int) (X : Array Value) (o k : Nat) : (followT sb_bits (codeT cfg (callT cfg noT 60) 60 cz (bodyOf 16) (frame0 16 (ntOf 16) #[p0, VS X o k]) (sN false a b))).1 = sb_c a b X o k := congrFun (congrFun (congrFun (congrFun (congrFun sb_cond_k a) b) X) o) k
theorem sb_leaf_k : (fun (a b : Int) (X : Array Value) (o k : Nat) => pathObs (leaves [4]) sb_bits (codeT cfg (callT cfg noT 60) 60 cz (bodyOf 16) (frame0 16 (ntOf 16) #[p0, VS X o k]) (sN false a b))) = fun (a b : Int) (X : Array Value) (o k : Nat) => some (.ret, [some (.int .i64 (laid a 0 k))], some (boxO false a (IntKind.wrap .i64 (b + IntKind.wrap .i64 ((k : Int) - laid a 0 k))) (.slice (some ⟨2, 0, none⟩) ((laid a 0 k).toNat - 0) ((laid a 0 k).toNat - 0))), none, some (.cells (X.extract (o + 0 * 1) (o + 0 * 1 + ((laid a 0 k).toNat - 0) * 1)) 1 true), none) := by kernel_rfl
theorem sb_leaf (a b : Int) (X : Array Value) (o k : Nat) : pathObs (leaves [4]) sb_bits (codeT cfg (callT cfg noT 60) 60 cz (bodyOf 16) (frame0 16 (ntOf 16) #[p0, VS X o k]) (sN false a b)) = some (.ret, [some (.int .i64 (laid a 0 k))], some (boxO false a (IntKind.wrap .i64 (b + IntKind.wrap .i64 ((k : Int) - laid a 0 k))) (.slice (some ⟨2, 0, none⟩) ((laid a 0 k).toNat - 0) ((laid a 0 k).toNat - 0))), none, some (.cells (X.extract (o + 0 * 1) (o + 0 * 1 + ((laid a 0 k).toNat - 0) * 1)) 1 true), none) := congrFun (congrFun (congrFun (congrFun (congrFun sb_leaf_k a) b) X) o) k
def sc_bits : List Bool := [false, false, true, false, true, false, true, true, false, true, true, true, false]
def sc_c (a b : Int) (M X : Array Value) (o k : Nat) : Bool :=
  (decide (0 ≤ laid a M.size k))
   && ((decide (Int.toNat (laid a M.size k) ≤ k))
   && ((decide (Array.size M ≤ Array.size M) && decide (Array.size M + (Int.toNat (laid a M.size k) - 0) ≤ nLim) && true && true && true && true && true)
   && ((decide (Int.toNat (laid a M.size k) - 0 = 0))
   && true)))
theorem sc_cond_k : (fun (a b : Int) (M X : Array Value) (o k : Nat) => (followT sc_bits (codeT cfg (callT cfg noT 60) 60 cz (bodyOf 16) (frame0 16 (ntOf 16) #[p0, VS X o k]) (sR false a b M))).1) = fun (a b : Int) (M X : Array Value) (o k : Nat) => sc_c a b M X o k := by kernel_rfl
theorem sc_cond (a b : Int) (M X : Array Value) (o k : Nat) : (followT sc_bits (codeT cfg (callT cfg noT 60) 60 cz (bodyOf 16) (frame0 16 (ntOf 16) #[p0, VS X o k]) (sR false a b M))).1 = sc_c a b M X o k := congrFun (congrFun (congrFun (congrFun (congrFun (congrFun sc_cond_k a) b) M) X) o) k
theorem sc_leaf_k : (fun (a b : Int) (M X : Array Value) (o k : Nat) => pathObs (leaves [4]) sc_bits (codeT cfg (callT cfg noT 60) 60 cz (bodyOf 16) (frame0 16 (ntOf 16) #[p0, VS X o k]) (sR false a b M))) = fun (a b : Int) (M X : Array Value) (o k : Nat) => some (.ret, [some (.int .i64 (laid a M.size k))], some (boxO false a (IntKind.wrap .i64 (b + IntKind.wrap .i64 ((k : Int) - laid a M.size k))) (.slice (some ⟨1, 0, none⟩) M.size M.size)), some (.cells M 1 true), none, none) := by kernel_rfl
theorem sc_leaf (a b : Int) (M X : Array Value) (o k : Nat) : pathObs (leaves [4]) sc_bits (codeT cfg (callT cfg noT 60) 60 cz (bodyOf 16) (frame0 16 (ntOf 16) #[p0, VS X o k]) (sR false a b M)) = some (.ret, [some (.int .i64 (laid a M.size k))], some (boxO false a (IntKind.wrap .i64 (b + IntKind.wrap .i64 ((k : Int) - laid a M.size k))) (.slice (some ⟨1, 0, none⟩) M.size M.size)), some (.cells M 1 true), none, none) := congrFun (congrFun (congrFun (congrFun (congrFun (congrFun sc_leaf_k a) b) M) X) o) k
def sd_bits : List Bool := [false, false, true, false, true, false, true, true, false, true, false, true, true, true, false, true, true, true, true, false]
def sd_c (a b : Int) (M X : Array Value) (o k : Nat) : Bool :=
  (decide (0 ≤ laid a M.size k))
   && ((decide (Int.toNat (laid a M.size k) ≤ k))
   && ((decide (Array.size M ≤ Array.size M) && decide (Array.size M + (Int.toNat (laid a M.size k) - 0) ≤ nLim) && true && true && true && true && true)
   && (!(decide (Int.toNat (laid a M.size k) - 0 = 0))
   && ((decide (Int.toNat (laid a M.size k) - 0 ≤ Int.toNat (laid a M.size k) - 0) && decide (o + 0 * 1 + (Int.toNat (laid a M.size k) - 0) * 1 ≤ Array.size X))
   && ((List.all (Array.extract X (o + 0 * 1) (o + 0 * 1 + (Int.toNat (laid a M.size k) - 0) * 1)).toList Value.oneCell')
   && (!(decide (Array.size M + (Int.toNat (laid a M.size k) - 0) ≤ Array.size M))
   && ((decide (0 + Array.size M * 1 ≤ Array.size M))
   && ((Array.size M == Array.size M && 0 + Array.size M * 1 == Array.size M)
   && true))))))))
theorem sd_cond_k : (fun (a b : Int) (M X : Array Value) (o k : Nat) => (followT sd_bits (codeT cfg (callT cfg noT 60) 60 cz (bodyOf 16) (frame0 16 (ntOf 16) #[p0, VS X o k]) (sR false a b M))).1) = fun (a b : Int) (M X : Array Value) (o k : Nat) => sd_c a b M X o k := by kernel_rfl
theorem sd_cond (a b : Int) (M X : Array Value) (o k : Nat) : (followT sd_bits (codeT cfg (callT cfg noT 60) 60 cz (bodyOf 16) (frame0 16 (ntOf 16) #[p0, VS X o k]) (sR false a b M))).1 = sd_c a b M X o k := congrFun (congrFun (congrFun (congrFun (congrFun (congrFun sd_cond_k a) b) M) X) o) k
theorem sd_leaf_k : (fun (a b : Int) (M X : Array Value) (o k : Nat) => pathObs (leaves [4]) sd_bits (codeT cfg (callT cfg noT 60) 60 cz (bodyOf 16) (frame0 16 (ntOf 16) #[p0, VS X o k]) (sR false a b M))) = fun (a b : Int) (M X : Array Value) (o k : Nat) => some (.ret, [some (.int .i64 (laid a M.size k))], some (boxO false a (IntKind.wrap .i64 (b + IntKind.wrap .i64 ((k : Int) - laid a M.size k))) (.slice (some ⟨2, 0, none⟩) (M.size + ((laid a M.size k).toNat - 0)) (M.size + ((laid a M.size k).toNat - 0)))), none, some (.cells (M.extract 0 (0 + M.size * 1) ++ X.extract (o + 0 * 1) (o + 0 * 1 + ((laid a M.size k).toNat - 0) * 1)) 1 true), none) := by kernel_rfl
theorem sd_leaf (a b : Int) (M X : Array Value) (o k : Nat) : pathObs (leaves [4]) sd_bits (codeT cfg (callT cfg noT 60) 60 cz (bodyOf 16) (frame0 16 (ntOf 16) #[p0, VS X o k]) (sR false a b M)) = some (.ret, [some (.int .i64 (laid a M.size k))], some (boxO false a (IntKind.wrap .i64 (b + IntKind.wrap .i64 ((k : Int) - laid a M.size k))) (.slice (some ⟨2, 0, none⟩) (M.size + ((laid a M.size k).toNat - 0)) (M.size + ((laid a M.size k).toNat - 0)))), none, some (.cells (M.extract 0 (0 + M.size * 1) ++ X.extract (o + 0 * 1) (o + 0 * 1 + ((laid a M.size k).toNat - 0) * 1)) 1 true), none) := congrFun (congrFun (congrFun (congrFun (congrFun (congrFun sd_leaf_k a) b) M) X) o) k
end
end Go.Proofs.Ytgcffmkifjnmlaa
