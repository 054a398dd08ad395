/- What the document takes: the walk. -/
import Derived.Test.YtgcffmkifjnmlaaNK
namespace Go.Proofs.Ytgcffmkifjnmlaa
open Go.Am
noncomputable section
def b22 : Code := bodyOf 22
def k22 : Code := cB (cB (cR (cL (cN 5 b22))))
theorem b22_eq : b22 = nest [cL b22, cL (cN 1 b22), cL (cN 2 b22), cL (cN 3 b22), cL (cN 4 b22)] (.seq (.seq (cL (cL (cN 5 b22))) (.block 0 (.loop k22))) (cN 6 b22)) := by kernel_rfl
def nilV : Value := .slice none 0 0
def sl2 (l : Nat) : Value := .slice (some ⟨2, 0, none⟩) l l
def fr22a (q : Int) (t : ByteArray) : Fr := frS 22 [(0, p0), (6, .int .i64 q), (7, .string t), (8, nilV)]
def fr22 (q : Int) (t : ByteArray) (v : Value) (i : Int) : Fr := frS 22 [(0, p0), (6, .int .i64 q), (7, .string t), (8, v), (9, .int .i64 i)]
def sL (a b : Int) (M L : Array Value) : St := ⟨((Tr.nil.put 0 (boxO true a b (.slice (some ⟨1, 0, none⟩) M.size M.size))).put 1 (.cells M 1 true)).put 2 (.cells L 1 true), 3⟩
def sZ (a b : Int) (M : Array Value) : St := ⟨(Tr.nil.put 0 (boxO true a b (.slice none 0 0))).put 1 (.cells M 1 true), 2⟩
def ga_bits : List Bool := [true, true, true]
def ga_c (a b i : Int) : Bool :=
  true
theorem ga_cond_k : (fun (a b i : Int) => (followT ga_bits (codeT cfg (callT cfg noT 60) 60 cz (bodyOf 22) (frame0 22 (ntOf 22) #[p0, .int .i64 i]) (sN true a b))).1) = fun (a b i : Int) => ga_c a b i := by kernel_rfl
theorem ga_cond (a b i : Int) : (followT ga_bits (codeT cfg (callT cfg noT 60) 60 cz (bodyOf 22) (frame0 22 (ntOf 22) #[p0, .int .i64 i]) (sN true a b))).1 = ga_c a b i := congrFun (congrFun (congrFun ga_cond_k a) b) i
theorem ga_leaf_k : (fun (a b i : Int) => pathObs (leaves [4, 5]) ga_bits (codeT cfg (callT cfg noT 60) 60 cz (bodyOf 22) (frame0 22 (ntOf 22) #[p0, .int .i64 i]) (sN true a b))) = fun (a b i : Int) => some (.ret, [some (.string ⟨#[]⟩), some (.bool false)], some (boxO true a b (.slice none 0 0)), none, none, none) := by kernel_rfl
theorem ga_leaf (a b i : Int) : pathObs (leaves [4, 5]) ga_bits (codeT cfg (callT cfg noT 60) 60 cz (bodyOf 22) (frame0 22 (ntOf 22) #[p0, .int .i64 i]) (sN true a b)) = some (.ret, [some (.string ⟨#[]⟩), some (.bool false)], some (boxO true a b (.slice none 0 0)), none, none, none) := congrFun (congrFun (congrFun ga_leaf_k a) b) i
def gb_bits : List Bool := [false, true, true]
def gb_c (a b i : Int) (M : Array Value) : Bool :=
  ((M.size : Int) == 0)
   && true
theorem gb_cond_k : (fun (a b i : Int) (M : Array Value) => (followT gb_bits (codeT cfg (callT cfg noT 60) 60 cz (bodyOf 22) (frame0 22 (ntOf 22) #[p0, .int .i64 i]) (sR true a b M))).1) = fun (a b i : Int) (M : Array Value) => gb_c a b i M := by kernel_rfl
theorem gb_cond (a b i : Int) (M : Array Value) : (followT gb_bits (codeT cfg (callT cfg noT 60) 60 cz (bodyOf 22) (frame0 22 (ntOf 22) #[p0, .int .i64 i]) (sR true a b M))).1 = gb_c a b i M := congrFun (congrFun (congrFun (congrFun gb_cond_k a) b) i) M
theorem gb_leaf_k : (fun (a b i : Int) (M : Array Value) => pathObs (leaves [4, 5]) gb_bits (codeT cfg (callT cfg noT 60) 60 cz (bodyOf 22) (frame0 22 (ntOf 22) #[p0, .int .i64 i]) (sR true a b M))) = fun (a b i : Int) (M : Array Value) => some (.ret, [some (.string ⟨#[]⟩), some (.bool false)], some (boxO true a b (.slice (some ⟨1, 0, none⟩) M.size M.size)), some (.cells M 1 true), none, none) := by kernel_rfl
theorem gb_leaf (a b i : Int) (M : Array Value) : pathObs (leaves [4, 5]) gb_bits (codeT cfg (callT cfg noT 60) 60 cz (bodyOf 22) (frame0 22 (ntOf 22) #[p0, .int .i64 i]) (sR true a b M)) = some (.ret, [some (.string ⟨#[]⟩), some (.bool false)], some (boxO true a b (.slice (some ⟨1, 0, none⟩) M.size M.size)), some (.cells M 1 true), none, none) := congrFun (congrFun (congrFun (congrFun gb_leaf_k a) b) i) M
def gc_bits : List Bool := [false, false, false, true, false, true, false, true, true]
def gc_c (a b i : Int) (M : Array Value) : Bool :=
  !((M.size : Int) == 0)
   && (!(decide ((M.size : Int) = 0))
   && (!(decide ((M.size : Int) = 0))
   && (!(decide (qr i M.size < 0))
   && ((decide (0 ≤ qr i M.size) && decide (qr i M.size < (M.size : Int)))
   && ((isStr M[(0 + Int.toNat (qr i M.size) * 1)]?)
   && true)))))
theorem gc_cond_k : (fun (a b i : Int) (M : Array Value) => (followT gc_bits (codeT cfg (callT cfg noT 60) 60 cz (seqOf [cL b22, cL (cN 1 b22), cL (cN 2 b22), cL (cN 3 b22), cL (cN 4 b22)]) (frame0 22 (ntOf 22) #[p0, .int .i64 i]) (sR true a b M))).1) = fun (a b i : Int) (M : Array Value) => gc_c a b i M := by kernel_rfl
theorem gc_cond (a b i : Int) (M : Array Value) : (followT gc_bits (codeT cfg (callT cfg noT 60) 60 cz (seqOf [cL b22, cL (cN 1 b22), cL (cN 2 b22), cL (cN 3 b22), cL (cN 4 b22)]) (frame0 22 (ntOf 22) #[p0, .int .i64 i]) (sR true a b M))).1 = gc_c a b i M := congrFun (congrFun (congrFun (congrFun gc_cond_k a) b) i) M
theorem gc_leaf_k : (fun (a b i : Int) (M : Array Value) => pathObs (gcObs 0 0 (kp [0, 6, 7, 8] kR)) gc_bits (codeT cfg (callT cfg noT 60) 60 cz (seqOf [cL b22, cL (cN 1 b22), cL (cN 2 b22), cL (cN 3 b22), cL (cN 4 b22)]) (frame0 22 (ntOf 22) #[p0, .int .i64 i]) (sR true a b M))) = fun (a b i : Int) (M : Array Value) => some (.normal, fr22a (qr i M.size) (toStr M[0 + (qr i M.size).toNat * 1]?), sR true a b M) := by kernel_rfl
theorem gc_leaf (a b i : Int) (M : Array Value) : pathObs (gcObs 0 0 (kp [0, 6, 7, 8] kR)) gc_bits (codeT cfg (callT cfg noT 60) 60 cz (seqOf [cL b22, cL (cN 1 b22), cL (cN 2 b22), cL (cN 3 b22), cL (cN 4 b22)]) (frame0 22 (ntOf 22) #[p0, .int .i64 i]) (sR true a b M)) = some (.normal, fr22a (qr i M.size) (toStr M[0 + (qr i M.size).toNat * 1]?), sR true a b M) := congrFun (congrFun (congrFun (congrFun gc_leaf_k a) b) i) M
def gd_bits : List Bool := []
def gd_c (a b q : Int) (t : ByteArray) (M : Array Value) : Bool :=
  true
theorem gd_cond_k : (fun (a b q : Int) (t : ByteArray) (M : Array Value) => (followT gd_bits (codeT cfg (callT cfg noT 60) 60 cz (cL (cL (cN 5 b22))) (fr22a q t) (sR true a b M))).1) = fun (a b q : Int) (t : ByteArray) (M : Array Value) => gd_c a b q t M := by kernel_rfl
theorem gd_cond (a b q : Int) (t : ByteArray) (M : Array Value) : (followT gd_bits (codeT cfg (callT cfg noT 60) 60 cz (cL (cL (cN 5 b22))) (fr22a q t) (sR true a b M))).1 = gd_c a b q t M := congrFun (congrFun (congrFun (congrFun (congrFun gd_cond_k a) b) q) t) M
theorem gd_leaf_k : (fun (a b q : Int) (t : ByteArray) (M : Array Value) => pathObs (gcObs 0 0 (kp [0, 6, 7, 8, 9] kR)) gd_bits (codeT cfg (callT cfg noT 60) 60 cz (cL (cL (cN 5 b22))) (fr22a q t) (sR true a b M))) = fun (a b q : Int) (t : ByteArray) (M : Array Value) => some (.normal, fr22 q t nilV 0, sR true a b M) := by kernel_rfl
theorem gd_leaf (a b q : Int) (t : ByteArray) (M : Array Value) : pathObs (gcObs 0 0 (kp [0, 6, 7, 8, 9] kR)) gd_bits (codeT cfg (callT cfg noT 60) 60 cz (cL (cL (cN 5 b22))) (fr22a q t) (sR true a b M)) = some (.normal, fr22 q t nilV 0, sR true a b M) := congrFun (congrFun (congrFun (congrFun (congrFun gd_leaf_k a) b) q) t) M
def ha_bits : List Bool := [false, true, true, true, true, false, true, false, true, true, true]
def ha_c (a b q i : Int) (t : ByteArray) (M : Array Value) : Bool :=
  (decide (i < (M.size : Int)))
   && ((i != q)
   && ((decide (0 ≤ i) && decide (i < (M.size : Int)))
   && ((isStr M[(0 + Int.toNat i * 1)]?)
   && true)))
theorem ha_cond_k : (fun (a b q i : Int) (t : ByteArray) (M : Array Value) => (followT ha_bits (codeT cfg (callT cfg noT 60) 60 cz k22 (fr22 q t nilV i) (sR true a b M))).1) = fun (a b q i : Int) (t : ByteArray) (M : Array Value) => ha_c a b q i t M := by kernel_rfl
theorem ha_cond (a b q i : Int) (t : ByteArray) (M : Array Value) : (followT ha_bits (codeT cfg (callT cfg noT 60) 60 cz k22 (fr22 q t nilV i) (sR true a b M))).1 = ha_c a b q i t M := congrFun (congrFun (congrFun (congrFun (congrFun (congrFun ha_cond_k a) b) q) i) t) M
theorem ha_leaf_k : (fun (a b q i : Int) (t : ByteArray) (M : Array Value) => pathObs (gcObs 0 0 (kp [0, 6, 7, 8, 9] [.cells 0, .plain 1, .plain 3])) ha_bits (codeT cfg (callT cfg noT 60) 60 cz k22 (fr22 q t nilV i) (sR true a b M))) = fun (a b q i : Int) (t : ByteArray) (M : Array Value) => some (.normal, fr22 q t (sl2 1) (inc i), sL a b M ((sing (toStr M[0 + i.toNat * 1]?)).extract 0 (0 + 1 * 1))) := by kernel_rfl
theorem ha_leaf (a b q i : Int) (t : ByteArray) (M : Array Value) : pathObs (gcObs 0 0 (kp [0, 6, 7, 8, 9] [.cells 0, .plain 1, .plain 3])) ha_bits (codeT cfg (callT cfg noT 60) 60 cz k22 (fr22 q t nilV i) (sR true a b M)) = some (.normal, fr22 q t (sl2 1) (inc i), sL a b M ((sing (toStr M[0 + i.toNat * 1]?)).extract 0 (0 + 1 * 1))) := congrFun (congrFun (congrFun (congrFun (congrFun (congrFun ha_leaf_k a) b) q) i) t) M
def hb_bits : List Bool := [false, true, false]
def hb_c (a b q i : Int) (t : ByteArray) (M : Array Value) : Bool :=
  (decide (i < (M.size : Int)))
   && (!(i != q)
   && true)
theorem hb_cond_k : (fun (a b q i : Int) (t : ByteArray) (M : Array Value) => (followT hb_bits (codeT cfg (callT cfg noT 60) 60 cz k22 (fr22 q t nilV i) (sR true a b M))).1) = fun (a b q i : Int) (t : ByteArray) (M : Array Value) => hb_c a b q i t M := by kernel_rfl
theorem hb_cond (a b q i : Int) (t : ByteArray) (M : Array Value) : (followT hb_bits (codeT cfg (callT cfg noT 60) 60 cz k22 (fr22 q t nilV i) (sR true a b M))).1 = hb_c a b q i t M := congrFun (congrFun (congrFun (congrFun (congrFun (congrFun hb_cond_k a) b) q) i) t) M
theorem hb_leaf_k : (fun (a b q i : Int) (t : ByteArray) (M : Array Value) => pathObs (gcObs 0 0 (kp [0, 6, 7, 8, 9] kR)) hb_bits (codeT cfg (callT cfg noT 60) 60 cz k22 (fr22 q t nilV i) (sR true a b M))) = fun (a b q i : Int) (t : ByteArray) (M : Array Value) => some (.normal, fr22 q t nilV (inc i), sR true a b M) := by kernel_rfl
theorem hb_leaf (a b q i : Int) (t : ByteArray) (M : Array Value) : pathObs (gcObs 0 0 (kp [0, 6, 7, 8, 9] kR)) hb_bits (codeT cfg (callT cfg noT 60) 60 cz k22 (fr22 q t nilV i) (sR true a b M)) = some (.normal, fr22 q t nilV (inc i), sR true a b M) := congrFun (congrFun (congrFun (congrFun (congrFun (congrFun hb_leaf_k a) b) q) i) t) M
def hc_bits : List Bool := [false, false]
def hc_c (a b q i : Int) (t : ByteArray) (M : Array Value) : Bool :=
  !(decide (i < (M.size : Int)))
   && true
theorem hc_cond_k : (fun (a b q i : Int) (t : ByteArray) (M : Array Value) => (followT hc_bits (codeT cfg (callT cfg noT 60) 60 cz k22 (fr22 q t nilV i) (sR true a b M))).1) = fun (a b q i : Int) (t : ByteArray) (M : Array Value) => hc_c a b q i t M := by kernel_rfl
theorem hc_cond (a b q i : Int) (t : ByteArray) (M : Array Value) : (followT hc_bits (codeT cfg (callT cfg noT 60) 60 cz k22 (fr22 q t nilV i) (sR true a b M))).1 = hc_c a b q i t M := congrFun (congrFun (congrFun (congrFun (congrFun (congrFun hc_cond_k a) b) q) i) t) M
theorem hc_leaf_k : (fun (a b q i : Int) (t : ByteArray) (M : Array Value) => pathObs (gcObs 0 0 (kp [0, 6, 7, 8, 9] kR)) hc_bits (codeT cfg (callT cfg noT 60) 60 cz k22 (fr22 q t nilV i) (sR true a b M))) = fun (a b q i : Int) (t : ByteArray) (M : Array Value) => some (.exit 0, fr22 q t nilV i, sR true a b M) := by kernel_rfl
theorem hc_leaf (a b q i : Int) (t : ByteArray) (M : Array Value) : pathObs (gcObs 0 0 (kp [0, 6, 7, 8, 9] kR)) hc_bits (codeT cfg (callT cfg noT 60) 60 cz k22 (fr22 q t nilV i) (sR true a b M)) = some (.exit 0, fr22 q t nilV i, sR true a b M) := congrFun (congrFun (congrFun (congrFun (congrFun (congrFun hc_leaf_k a) b) q) i) t) M
def hd_bits : List Bool := [false, true, true, true, true, false, true, false, true, true, true, false, true, true, true]
def hd_c (a b q i : Int) (t : ByteArray) (M L : Array Value) : Bool :=
  (decide (i < (M.size : Int)))
   && ((i != q)
   && ((decide (0 ≤ i) && decide (i < (M.size : Int)))
   && ((isStr M[(0 + Int.toNat i * 1)]?)
   && ((decide (Array.size L ≤ Array.size L) && decide (Array.size L + 1 ≤ nLim) && true && true && true && true && true)
   && (!(decide (Array.size L + 1 ≤ Array.size L))
   && ((decide (0 + Array.size L * 1 ≤ Array.size L))
   && ((Array.size L == Array.size L && 0 + Array.size L * 1 == Array.size L)
   && true)))))))
theorem hd_cond_k : (fun (a b q i : Int) (t : ByteArray) (M L : Array Value) => (followT hd_bits (codeT cfg (callT cfg noT 60) 60 cz k22 (fr22 q t (sl2 L.size) i) (sL a b M L))).1) = fun (a b q i : Int) (t : ByteArray) (M L : Array Value) => hd_c a b q i t M L := by kernel_rfl
theorem hd_cond (a b q i : Int) (t : ByteArray) (M L : Array Value) : (followT hd_bits (codeT cfg (callT cfg noT 60) 60 cz k22 (fr22 q t (sl2 L.size) i) (sL a b M L))).1 = hd_c a b q i t M L := congrFun (congrFun (congrFun (congrFun (congrFun (congrFun (congrFun hd_cond_k a) b) q) i) t) M) L
theorem hd_leaf_k : (fun (a b q i : Int) (t : ByteArray) (M L : Array Value) => pathObs (gcObs 0 0 (kp [0, 6, 7, 8, 9] [.cells 0, .plain 1, .plain 4])) hd_bits (codeT cfg (callT cfg noT 60) 60 cz k22 (fr22 q t (sl2 L.size) i) (sL a b M L))) = fun (a b q i : Int) (t : ByteArray) (M L : Array Value) => some (.normal, fr22 q t (sl2 (L.size + 1)) (inc i), sL a b M (L.extract 0 (0 + L.size * 1) ++ (sing (toStr M[0 + i.toNat * 1]?)).extract 0 (0 + 1 * 1))) := by kernel_rfl
theorem hd_leaf (a b q i : Int) (t : ByteArray) (M L : Array Value) : pathObs (gcObs 0 0 (kp [0, 6, 7, 8, 9] [.cells 0, .plain 1, .plain 4])) hd_bits (codeT cfg (callT cfg noT 60) 60 cz k22 (fr22 q t (sl2 L.size) i) (sL a b M L)) = some (.normal, fr22 q t (sl2 (L.size + 1)) (inc i), sL a b M (L.extract 0 (0 + L.size * 1) ++ (sing (toStr M[0 + i.toNat * 1]?)).extract 0 (0 + 1 * 1))) := congrFun (congrFun (congrFun (congrFun (congrFun (congrFun (congrFun hd_leaf_k a) b) q) i) t) M) L
def he_bits : List Bool := [false, true, false]
def he_c (a b q i : Int) (t : ByteArray) (M L : Array Value) : Bool :=
  (decide (i < (M.size : Int)))
   && (!(i != q)
   && true)
theorem he_cond_k : (fun (a b q i : Int) (t : ByteArray) (M L : Array Value) => (followT he_bits (codeT cfg (callT cfg noT 60) 60 cz k22 (fr22 q t (sl2 L.size) i) (sL a b M L))).1) = fun (a b q i : Int) (t : ByteArray) (M L : Array Value) => he_c a b q i t M L := by kernel_rfl
theorem he_cond (a b q i : Int) (t : ByteArray) (M L : Array Value) : (followT he_bits (codeT cfg (callT cfg noT 60) 60 cz k22 (fr22 q t (sl2 L.size) i) (sL a b M L))).1 = he_c a b q i t M L := congrFun (congrFun (congrFun (congrFun (congrFun (congrFun (congrFun he_cond_k a) b) q) i) t) M) L
theorem he_leaf_k : (fun (a b q i : Int) (t : ByteArray) (M L : Array Value) => pathObs (gcObs 0 0 (kp [0, 6, 7, 8, 9] k3)) he_bits (codeT cfg (callT cfg noT 60) 60 cz k22 (fr22 q t (sl2 L.size) i) (sL a b M L))) = fun (a b q i : Int) (t : ByteArray) (M L : Array Value) => some (.normal, fr22 q t (sl2 L.size) (inc i), sL a b M L) := by kernel_rfl
theorem he_leaf (a b q i : Int) (t : ByteArray) (M L : Array Value) : pathObs (gcObs 0 0 (kp [0, 6, 7, 8, 9] k3)) he_bits (codeT cfg (callT cfg noT 60) 60 cz k22 (fr22 q t (sl2 L.size) i) (sL a b M L)) = some (.normal, fr22 q t (sl2 L.size) (inc i), sL a b M L) := congrFun (congrFun (congrFun (congrFun (congrFun (congrFun (congrFun he_leaf_k a) b) q) i) t) M) L
def hf_bits : List Bool := [false, false]
def hf_c (a b q i : Int) (t : ByteArray) (M L : Array Value) : Bool :=
  !(decide (i < (M.size : Int)))
   && true
theorem hf_cond_k : (fun (a b q i : Int) (t : ByteArray) (M L : Array Value) => (followT hf_bits (codeT cfg (callT cfg noT 60) 60 cz k22 (fr22 q t (sl2 L.size) i) (sL a b M L))).1) = fun (a b q i : Int) (t : ByteArray) (M L : Array Value) => hf_c a b q i t M L := by kernel_rfl
theorem hf_cond (a b q i : Int) (t : ByteArray) (M L : Array Value) : (followT hf_bits (codeT cfg (callT cfg noT 60) 60 cz k22 (fr22 q t (sl2 L.size) i) (sL a b M L))).1 = hf_c a b q i t M L := congrFun (congrFun (congrFun (congrFun (congrFun (congrFun (congrFun hf_cond_k a) b) q) i) t) M) L
theorem hf_leaf_k : (fun (a b q i : Int) (t : ByteArray) (M L : Array Value) => pathObs (gcObs 0 0 (kp [0, 6, 7, 8, 9] k3)) hf_bits (codeT cfg (callT cfg noT 60) 60 cz k22 (fr22 q t (sl2 L.size) i) (sL a b M L))) = fun (a b q i : Int) (t : ByteArray) (M L : Array Value) => some (.exit 0, fr22 q t (sl2 L.size) i, sL a b M L) := by kernel_rfl
theorem hf_leaf (a b q i : Int) (t : ByteArray) (M L : Array Value) : pathObs (gcObs 0 0 (kp [0, 6, 7, 8, 9] k3)) hf_bits (codeT cfg (callT cfg noT 60) 60 cz k22 (fr22 q t (sl2 L.size) i) (sL a b M L)) = some (.exit 0, fr22 q t (sl2 L.size) i, sL a b M L) := congrFun (congrFun (congrFun (congrFun (congrFun (congrFun (congrFun hf_leaf_k a) b) q) i) t) M) L
def hg_bits : List Bool := []
def hg_c (a b q i : Int) (t : ByteArray) (M : Array Value) : Bool :=
  true
theorem hg_cond_k : (fun (a b q i : Int) (t : ByteArray) (M : Array Value) => (followT hg_bits (codeT cfg (callT cfg noT 60) 60 cz (cN 6 b22) (fr22 q t nilV i) (sR true a b M))).1) = fun (a b q i : Int) (t : ByteArray) (M : Array Value) => hg_c a b q i t M := by kernel_rfl
theorem hg_cond (a b q i : Int) (t : ByteArray) (M : Array Value) : (followT hg_bits (codeT cfg (callT cfg noT 60) 60 cz (cN 6 b22) (fr22 q t nilV i) (sR true a b M))).1 = hg_c a b q i t M := congrFun (congrFun (congrFun (congrFun (congrFun (congrFun hg_cond_k a) b) q) i) t) M
theorem hg_leaf_k : (fun (a b q i : Int) (t : ByteArray) (M : Array Value) => pathObs (gcObs 0 0 (kp [4, 5] kR)) hg_bits (codeT cfg (callT cfg noT 60) 60 cz (cN 6 b22) (fr22 q t nilV i) (sR true a b M))) = fun (a b q i : Int) (t : ByteArray) (M : Array Value) => some (.ret, frS 22 [(4, .string t), (5, .bool true)], sZ a b M) := by kernel_rfl
theorem hg_leaf (a b q i : Int) (t : ByteArray) (M : Array Value) : pathObs (gcObs 0 0 (kp [4, 5] kR)) hg_bits (codeT cfg (callT cfg noT 60) 60 cz (cN 6 b22) (fr22 q t nilV i) (sR true a b M)) = some (.ret, frS 22 [(4, .string t), (5, .bool true)], sZ a b M) := congrFun (congrFun (congrFun (congrFun (congrFun (congrFun hg_leaf_k a) b) q) i) t) M
def hh_bits : List Bool := []
def hh_c (a b q i : Int) (t : ByteArray) (M L : Array Value) : Bool :=
  true
theorem hh_cond_k : (fun (a b q i : Int) (t : ByteArray) (M L : Array Value) => (followT hh_bits (codeT cfg (callT cfg noT 60) 60 cz (cN 6 b22) (fr22 q t (sl2 L.size) i) (sL a b M L))).1) = fun (a b q i : Int) (t : ByteArray) (M L : Array Value) => hh_c a b q i t M L := by kernel_rfl
theorem hh_cond (a b q i : Int) (t : ByteArray) (M L : Array Value) : (followT hh_bits (codeT cfg (callT cfg noT 60) 60 cz (cN 6 b22) (fr22 q t (sl2 L.size) i) (sL a b M L))).1 = hh_c a b q i t M L := congrFun (congrFun (congrFun (congrFun (congrFun (congrFun (congrFun hh_cond_k a) b) q) i) t) M) L
theorem hh_leaf_k : (fun (a b q i : Int) (t : ByteArray) (M L : Array Value) => pathObs (gcObs 0 0 (kp [4, 5] k3)) hh_bits (codeT cfg (callT cfg noT 60) 60 cz (cN 6 b22) (fr22 q t (sl2 L.size) i) (sL a b M L))) = fun (a b q i : Int) (t : ByteArray) (M L : Array Value) => some (.ret, frS 22 [(4, .string t), (5, .bool true)], s3 a b M L) := by kernel_rfl
theorem hh_leaf (a b q i : Int) (t : ByteArray) (M L : Array Value) : pathObs (gcObs 0 0 (kp [4, 5] k3)) hh_bits (codeT cfg (callT cfg noT 60) 60 cz (cN 6 b22) (fr22 q t (sl2 L.size) i) (sL a b M L)) = some (.ret, frS 22 [(4, .string t), (5, .bool true)], s3 a b M L) := congrFun (congrFun (congrFun (congrFun (congrFun (congrFun (congrFun hh_leaf_k a) b) q) i) t) M) L
end
end Go.Proofs.Ytgcffmkifjnmlaa
