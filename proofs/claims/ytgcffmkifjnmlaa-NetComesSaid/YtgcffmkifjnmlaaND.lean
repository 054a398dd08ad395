/- Where a place is. -/
import Derived.Test.YtgcffmkifjnmlaaNC
namespace Go.Proofs.Ytgcffmkifjnmlaa
open Go.Am
noncomputable section
def pa_bits : List Bool := [false, false, false, false, false, false, false, false, false, false, true, false, false, false, true]
def pa_c (a b i : Int) : Bool :=
  true
theorem pa_cond_k : (fun (a b i : Int) => (followT pa_bits (codeT cfg (callT cfg noT 60) 60 cz (bodyOf 26) (frame0 26 (ntOf 26) #[p0, .int .i64 i]) (sN false a b))).1) = fun (a b i : Int) => pa_c a b i := by kernel_rfl
theorem pa_cond (a b i : Int) : (followT pa_bits (codeT cfg (callT cfg noT 60) 60 cz (bodyOf 26) (frame0 26 (ntOf 26) #[p0, .int .i64 i]) (sN false a b))).1 = pa_c a b i := congrFun (congrFun (congrFun pa_cond_k a) b) i
theorem pa_leaf_k : (fun (a b i : Int) => pathObs (leaves [4]) pa_bits (codeT cfg (callT cfg noT 60) 60 cz (bodyOf 26) (frame0 26 (ntOf 26) #[p0, .int .i64 i]) (sN false a b))) = fun (a b i : Int) => some (.ret, [some (.int .i64 (-1))], some (boxO false a b (.slice none 0 0)), none, none, none) := by kernel_rfl
theorem pa_leaf (a b i : Int) : pathObs (leaves [4]) pa_bits (codeT cfg (callT cfg noT 60) 60 cz (bodyOf 26) (frame0 26 (ntOf 26) #[p0, .int .i64 i]) (sN false a b)) = some (.ret, [some (.int .i64 (-1))], some (boxO false a b (.slice none 0 0)), none, none, none) := congrFun (congrFun (congrFun pa_leaf_k a) b) i
def pb_bits : List Bool := [false, false, false, false, false, false, false, false, false, false, false, false, false, false, true]
def pb_c (a b i : Int) (M : Array Value) : Bool :=
  (((Array.size M : Nat) : Int) == 0)
   && true
theorem pb_cond_k : (fun (a b i : Int) (M : Array Value) => (followT pb_bits (codeT cfg (callT cfg noT 60) 60 cz (bodyOf 26) (frame0 26 (ntOf 26) #[p0, .int .i64 i]) (sR false a b M))).1) = fun (a b i : Int) (M : Array Value) => pb_c a b i M := by kernel_rfl
theorem pb_cond (a b i : Int) (M : Array Value) : (followT pb_bits (codeT cfg (callT cfg noT 60) 60 cz (bodyOf 26) (frame0 26 (ntOf 26) #[p0, .int .i64 i]) (sR false a b M))).1 = pb_c a b i M := congrFun (congrFun (congrFun (congrFun pb_cond_k a) b) i) M
theorem pb_leaf_k : (fun (a b i : Int) (M : Array Value) => pathObs (leaves [4]) pb_bits (codeT cfg (callT cfg noT 60) 60 cz (bodyOf 26) (frame0 26 (ntOf 26) #[p0, .int .i64 i]) (sR false a b M))) = fun (a b i : Int) (M : Array Value) => some (.ret, [some (.int .i64 (-1))], some (boxO false a b (.slice (some ⟨1, 0, none⟩) M.size M.size)), some (.cells M 1 true), none, none) := by kernel_rfl
theorem pb_leaf (a b i : Int) (M : Array Value) : pathObs (leaves [4]) pb_bits (codeT cfg (callT cfg noT 60) 60 cz (bodyOf 26) (frame0 26 (ntOf 26) #[p0, .int .i64 i]) (sR false a b M)) = some (.ret, [some (.int .i64 (-1))], some (boxO false a b (.slice (some ⟨1, 0, none⟩) M.size M.size)), some (.cells M 1 true), none, none) := congrFun (congrFun (congrFun (congrFun pb_leaf_k a) b) i) M
def pc_bits : List Bool := [false, false, false, false, false, false, false, false, false, false, false, false, false, false, false, false, false, true, true, false]
def pc_c (a b i : Int) (M : Array Value) : Bool :=
  !(((Array.size M : Nat) : Int) == 0)
   && (!(decide (((Array.size M : Nat) : Int) = 0))
   && ((decide (Int.tmod i ((Array.size M : Nat) : Int) < 0))
   && true))
theorem pc_cond_k : (fun (a b i : Int) (M : Array Value) => (followT pc_bits (codeT cfg (callT cfg noT 60) 60 cz (bodyOf 26) (frame0 26 (ntOf 26) #[p0, .int .i64 i]) (sR false a b M))).1) = fun (a b i : Int) (M : Array Value) => pc_c a b i M := by kernel_rfl
theorem pc_cond (a b i : Int) (M : Array Value) : (followT pc_bits (codeT cfg (callT cfg noT 60) 60 cz (bodyOf 26) (frame0 26 (ntOf 26) #[p0, .int .i64 i]) (sR false a b M))).1 = pc_c a b i M := congrFun (congrFun (congrFun (congrFun pc_cond_k a) b) i) M
theorem pc_leaf_k : (fun (a b i : Int) (M : Array Value) => pathObs (leaves [4]) pc_bits (codeT cfg (callT cfg noT 60) 60 cz (bodyOf 26) (frame0 26 (ntOf 26) #[p0, .int .i64 i]) (sR false a b M))) = fun (a b i : Int) (M : Array Value) => some (.ret, [some (.int .i64 (IntKind.wrap .i64 (Int.tmod i (M.size : Int) + (M.size : Int))))], some (boxO false a b (.slice (some ⟨1, 0, none⟩) M.size M.size)), some (.cells M 1 true), none, none) := by kernel_rfl
theorem pc_leaf (a b i : Int) (M : Array Value) : pathObs (leaves [4]) pc_bits (codeT cfg (callT cfg noT 60) 60 cz (bodyOf 26) (frame0 26 (ntOf 26) #[p0, .int .i64 i]) (sR false a b M)) = some (.ret, [some (.int .i64 (IntKind.wrap .i64 (Int.tmod i (M.size : Int) + (M.size : Int))))], some (boxO false a b (.slice (some ⟨1, 0, none⟩) M.size M.size)), some (.cells M 1 true), none, none) := congrFun (congrFun (congrFun (congrFun pc_leaf_k a) b) i) M
def pd_bits : List Bool := [false, false, false, false, false, false, false, false, false, false, false, false, false, false, false, false, false, true, false]
def pd_c (a b i : Int) (M : Array Value) : Bool :=
  !(((Array.size M : Nat) : Int) == 0)
   && (!(decide (((Array.size M : Nat) : Int) = 0))
   && (!(decide (Int.tmod i ((Array.size M : Nat) : Int) < 0))
   && true))
theorem pd_cond_k : (fun (a b i : Int) (M : Array Value) => (followT pd_bits (codeT cfg (callT cfg noT 60) 60 cz (bodyOf 26) (frame0 26 (ntOf 26) #[p0, .int .i64 i]) (sR false a b M))).1) = fun (a b i : Int) (M : Array Value) => pd_c a b i M := by kernel_rfl
theorem pd_cond (a b i : Int) (M : Array Value) : (followT pd_bits (codeT cfg (callT cfg noT 60) 60 cz (bodyOf 26) (frame0 26 (ntOf 26) #[p0, .int .i64 i]) (sR false a b M))).1 = pd_c a b i M := congrFun (congrFun (congrFun (congrFun pd_cond_k a) b) i) M
theorem pd_leaf_k : (fun (a b i : Int) (M : Array Value) => pathObs (leaves [4]) pd_bits (codeT cfg (callT cfg noT 60) 60 cz (bodyOf 26) (frame0 26 (ntOf 26) #[p0, .int .i64 i]) (sR false a b M))) = fun (a b i : Int) (M : Array Value) => some (.ret, [some (.int .i64 (Int.tmod i (M.size : Int)))], some (boxO false a b (.slice (some ⟨1, 0, none⟩) M.size M.size)), some (.cells M 1 true), none, none) := by kernel_rfl
theorem pd_leaf (a b i : Int) (M : Array Value) : pathObs (leaves [4]) pd_bits (codeT cfg (callT cfg noT 60) 60 cz (bodyOf 26) (frame0 26 (ntOf 26) #[p0, .int .i64 i]) (sR false a b M)) = some (.ret, [some (.int .i64 (Int.tmod i (M.size : Int)))], some (boxO false a b (.slice (some ⟨1, 0, none⟩) M.size M.size)), some (.cells M 1 true), none, none) := congrFun (congrFun (congrFun (congrFun pd_leaf_k a) b) i) M
def qa_bits : List Bool := [true, true]
def qa_c (a b i : Int) : Bool :=
  true
theorem qa_cond_k : (fun (a b i : Int) => (followT qa_bits (codeT cfg (callT cfg noT 60) 60 cz (bodyOf 28) (frame0 28 (ntOf 28) #[p0, .int .i64 i]) (sN true a b))).1) = fun (a b i : Int) => qa_c a b i := by kernel_rfl
theorem qa_cond (a b i : Int) : (followT qa_bits (codeT cfg (callT cfg noT 60) 60 cz (bodyOf 28) (frame0 28 (ntOf 28) #[p0, .int .i64 i]) (sN true a b))).1 = qa_c a b i := congrFun (congrFun (congrFun qa_cond_k a) b) i
theorem qa_leaf_k : (fun (a b i : Int) => pathObs (leaves [4]) qa_bits (codeT cfg (callT cfg noT 60) 60 cz (bodyOf 28) (frame0 28 (ntOf 28) #[p0, .int .i64 i]) (sN true a b))) = fun (a b i : Int) => some (.ret, [some (.int .i64 (-1))], some (boxO true a b (.slice none 0 0)), none, none, none) := by kernel_rfl
theorem qa_leaf (a b i : Int) : pathObs (leaves [4]) qa_bits (codeT cfg (callT cfg noT 60) 60 cz (bodyOf 28) (frame0 28 (ntOf 28) #[p0, .int .i64 i]) (sN true a b)) = some (.ret, [some (.int .i64 (-1))], some (boxO true a b (.slice none 0 0)), none, none, none) := congrFun (congrFun (congrFun qa_leaf_k a) b) i
def qb_bits : List Bool := [false, true]
def qb_c (a b i : Int) (M : Array Value) : Bool :=
  (((Array.size M : Nat) : Int) == 0)
   && true
theorem qb_cond_k : (fun (a b i : Int) (M : Array Value) => (followT qb_bits (codeT cfg (callT cfg noT 60) 60 cz (bodyOf 28) (frame0 28 (ntOf 28) #[p0, .int .i64 i]) (sR true a b M))).1) = fun (a b i : Int) (M : Array Value) => qb_c a b i M := by kernel_rfl
theorem qb_cond (a b i : Int) (M : Array Value) : (followT qb_bits (codeT cfg (callT cfg noT 60) 60 cz (bodyOf 28) (frame0 28 (ntOf 28) #[p0, .int .i64 i]) (sR true a b M))).1 = qb_c a b i M := congrFun (congrFun (congrFun (congrFun qb_cond_k a) b) i) M
theorem qb_leaf_k : (fun (a b i : Int) (M : Array Value) => pathObs (leaves [4]) qb_bits (codeT cfg (callT cfg noT 60) 60 cz (bodyOf 28) (frame0 28 (ntOf 28) #[p0, .int .i64 i]) (sR true a b M))) = fun (a b i : Int) (M : Array Value) => some (.ret, [some (.int .i64 (-1))], some (boxO true a b (.slice (some ⟨1, 0, none⟩) M.size M.size)), some (.cells M 1 true), none, none) := by kernel_rfl
theorem qb_leaf (a b i : Int) (M : Array Value) : pathObs (leaves [4]) qb_bits (codeT cfg (callT cfg noT 60) 60 cz (bodyOf 28) (frame0 28 (ntOf 28) #[p0, .int .i64 i]) (sR true a b M)) = some (.ret, [some (.int .i64 (-1))], some (boxO true a b (.slice (some ⟨1, 0, none⟩) M.size M.size)), some (.cells M 1 true), none, none) := congrFun (congrFun (congrFun (congrFun qb_leaf_k a) b) i) M
def qc_bits : List Bool := [false, false, false, true, false, true]
def qc_c (a b i : Int) (M : Array Value) : Bool :=
  !(((Array.size M : Nat) : Int) == 0)
   && (!(decide (((Array.size M : Nat) : Int) = 0))
   && (!(decide (((Array.size M : Nat) : Int) = 0))
   && true))
theorem qc_cond_k : (fun (a b i : Int) (M : Array Value) => (followT qc_bits (codeT cfg (callT cfg noT 60) 60 cz (bodyOf 28) (frame0 28 (ntOf 28) #[p0, .int .i64 i]) (sR true a b M))).1) = fun (a b i : Int) (M : Array Value) => qc_c a b i M := by kernel_rfl
theorem qc_cond (a b i : Int) (M : Array Value) : (followT qc_bits (codeT cfg (callT cfg noT 60) 60 cz (bodyOf 28) (frame0 28 (ntOf 28) #[p0, .int .i64 i]) (sR true a b M))).1 = qc_c a b i M := congrFun (congrFun (congrFun (congrFun qc_cond_k a) b) i) M
theorem qc_leaf_k : (fun (a b i : Int) (M : Array Value) => pathObs (leaves [4]) qc_bits (codeT cfg (callT cfg noT 60) 60 cz (bodyOf 28) (frame0 28 (ntOf 28) #[p0, .int .i64 i]) (sR true a b M))) = fun (a b i : Int) (M : Array Value) => some (.ret, [some (.int .i64 (Int.tmod (IntKind.wrap .i64 (Int.tmod i (M.size : Int) + (M.size : Int))) (M.size : Int)))], some (boxO true a b (.slice (some ⟨1, 0, none⟩) M.size M.size)), some (.cells M 1 true), none, none) := by kernel_rfl
theorem qc_leaf (a b i : Int) (M : Array Value) : pathObs (leaves [4]) qc_bits (codeT cfg (callT cfg noT 60) 60 cz (bodyOf 28) (frame0 28 (ntOf 28) #[p0, .int .i64 i]) (sR true a b M)) = some (.ret, [some (.int .i64 (Int.tmod (IntKind.wrap .i64 (Int.tmod i (M.size : Int) + (M.size : Int))) (M.size : Int)))], some (boxO true a b (.slice (some ⟨1, 0, none⟩) M.size M.size)), some (.cells M 1 true), none, none) := congrFun (congrFun (congrFun (congrFun qc_leaf_k a) b) i) M
def la_bits : List Bool := [false, true]
def la_c (a b : Int) : Bool :=
  true
theorem la_cond_k : (fun (a b : Int) => (followT la_bits (codeT cfg (callT cfg noT 60) 60 cz (bodyOf 15) (frame0 15 (ntOf 15) #[p0]) (sN false a b))).1) = fun (a b : Int) => la_c a b := by kernel_rfl
theorem la_cond (a b : Int) : (followT la_bits (codeT cfg (callT cfg noT 60) 60 cz (bodyOf 15) (frame0 15 (ntOf 15) #[p0]) (sN false a b))).1 = la_c a b := congrFun (congrFun la_cond_k a) b
theorem la_leaf_k : (fun (a b : Int) => pathObs (leaves [2]) la_bits (codeT cfg (callT cfg noT 60) 60 cz (bodyOf 15) (frame0 15 (ntOf 15) #[p0]) (sN false a b))) = fun (a b : Int) => some (.ret, [some (.int .i64 b)], some (boxO false a b (.slice none 0 0)), none, none, none) := by kernel_rfl
theorem la_leaf (a b : Int) : pathObs (leaves [2]) la_bits (codeT cfg (callT cfg noT 60) 60 cz (bodyOf 15) (frame0 15 (ntOf 15) #[p0]) (sN false a b)) = some (.ret, [some (.int .i64 b)], some (boxO false a b (.slice none 0 0)), none, none, none) := congrFun (congrFun la_leaf_k a) b
def lb_bits : List Bool := [false, true]
def lb_c (a b : Int) (M : Array Value) : Bool :=
  true
theorem lb_cond_k : (fun (a b : Int) (M : Array Value) => (followT lb_bits (codeT cfg (callT cfg noT 60) 60 cz (bodyOf 15) (frame0 15 (ntOf 15) #[p0]) (sR false a b M))).1) = fun (a b : Int) (M : Array Value) => lb_c a b M := by kernel_rfl
theorem lb_cond (a b : Int) (M : Array Value) : (followT lb_bits (codeT cfg (callT cfg noT 60) 60 cz (bodyOf 15) (frame0 15 (ntOf 15) #[p0]) (sR false a b M))).1 = lb_c a b M := congrFun (congrFun (congrFun lb_cond_k a) b) M
theorem lb_leaf_k : (fun (a b : Int) (M : Array Value) => pathObs (leaves [2]) lb_bits (codeT cfg (callT cfg noT 60) 60 cz (bodyOf 15) (frame0 15 (ntOf 15) #[p0]) (sR false a b M))) = fun (a b : Int) (M : Array Value) => some (.ret, [some (.int .i64 b)], some (boxO false a b (.slice (some ⟨1, 0, none⟩) M.size M.size)), some (.cells M 1 true), none, none) := by kernel_rfl
theorem lb_leaf (a b : Int) (M : Array Value) : pathObs (leaves [2]) lb_bits (codeT cfg (callT cfg noT 60) 60 cz (bodyOf 15) (frame0 15 (ntOf 15) #[p0]) (sR false a b M)) = some (.ret, [some (.int .i64 b)], some (boxO false a b (.slice (some ⟨1, 0, none⟩) M.size M.size)), some (.cells M 1 true), none, none) := congrFun (congrFun (congrFun lb_leaf_k a) b) M
/-- Texts alone. -/
def isS : Value → Bool
  | .string _ => true
  | _ => false
def strs (M : Array Value) : Bool := M.all isS
theorem isS_free {v : Value} (h : isS v = true) : freeN 9 v = true := by
  unfold isS at h
  split at h
  · rfl
  · cases h
theorem strs_free {M : Array Value} (h : strs M = true) : M.all (freeN 9) = true := by
  unfold strs at h
  rw [Array.all_eq_true] at h ⊢
  exact fun i hi => isS_free (h i hi)
theorem strs_one {M : Array Value} (h : strs M = true) : M.toList.all Value.oneCell' = true := by
  unfold strs at h
  rw [Array.all_eq_true] at h
  rw [List.all_eq_true]
  intro v hv
  obtain ⟨i, hi, rfl⟩ := Array.mem_iff_getElem.1 (Array.mem_toList_iff.1 hv)
  have := h i hi
  unfold isS at this
  split at this
  · rename_i e; rw [e]; rfl
  · cases this
theorem strs_app {M N : Array Value} (h : strs M = true) (k : strs N = true) : strs (M ++ N) = true := by
  unfold strs at *
  rw [Array.all_append, h, k]; rfl
theorem strs_ext {M : Array Value} (h : strs M = true) (i j : Nat) : strs (M.extract i j) = true := by
  unfold strs at *
  rw [Array.all_eq_true] at h ⊢
  intro k hk
  rw [Array.getElem_extract]
  exact h _ _
theorem strs_get {M : Array Value} (h : strs M = true) {i : Nat} (hi : i < M.size) : ∃ b, M[i]? = some (.string b) := by
  unfold strs at h
  rw [Array.all_eq_true] at h
  have := h i hi
  rw [Array.getElem?_eq_getElem hi]
  unfold isS at this
  split at this
  · rename_i b e; exact ⟨b, by rw [e]⟩
  · cases this
/-- Is it as a net should be? -/
def netOk (n : Net) : Bool := decide (1 ≤ n.a) && (decide (n.a ≤ 1000) && (decide ((n.M.size : Int) ≤ n.a) && (decide (0 ≤ n.b) && (decide (n.b ≤ 1099511627776) && (strs n.M && (!n.nl || decide (n.M = #[])))))))
theorem netOk_iff {n : Net} : netOk n = true ↔ 1 ≤ n.a ∧ n.a ≤ 1000 ∧ (n.M.size : Int) ≤ n.a ∧ 0 ≤ n.b ∧ n.b ≤ 1099511627776 ∧ strs n.M = true ∧ (n.nl = true → n.M = #[]) := by
  unfold netOk
  cases n.nl <;> simp
/-- The place of a number. -/
def plI (m : Nat) (i : Int) : Int := if m = 0 then -1 else i % (m : Int)
theorem plI_nat {m : Nat} {i : Int} (h : m ≠ 0) : ∃ p : Nat, plI m i = p ∧ p < m := by
  unfold plI
  rw [if_neg h]
  have h1 := Int.emod_nonneg i (b := (m : Int)) (by omega)
  have h2 := Int.emod_lt_of_pos i (b := (m : Int)) (by omega)
  exact ⟨(i % (m : Int)).toNat, by omega, by omega⟩
def intOk (i : Int) : Bool := decide (-9223372036854775808 ≤ i) && decide (i ≤ 9223372036854775807)
def placeE : Eff where
  ok n l := netOk n && (match l with | [.int .i64 i] => intOk i | _ => false)
  res n l := .int .i64 (match l with | [.int .i64 i] => plI n.M.size i | _ => 0)
  a n _ := n.a
  b n _ := n.b
  row _ _ := none
def lostE : Eff where
  ok n l := netOk n && (match l with | [] => true | _ => false)
  res n _ := .int .i64 n.b
  a n _ := n.a
  b n _ := n.b
  row _ _ := none
theorem end_same {j : Bool} {n : Net} {s : St} (h0 : s.heap.get 0 = some (boxO j n.a n.b (netV 1 n.nl n.M))) (h1 : s.heap.get 1 = netO n.nl n.M) : EffEnd j n.a n.b n none s := ⟨h0, h1⟩
theorem wrap64 {x : Int} (h1 : -9223372036854775808 ≤ x) (h2 : x ≤ 9223372036854775807) : IntKind.wrap .i64 x = x := by
  simp [IntKind.wrap, IntKind.signed, IntKind.bits, Int.bmod]
  split <;> omega
end
end Go.Proofs.Ytgcffmkifjnmlaa
