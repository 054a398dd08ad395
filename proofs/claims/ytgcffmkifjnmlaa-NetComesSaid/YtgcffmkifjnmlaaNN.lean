/- What is dropped. -/
import Derived.Test.YtgcffmkifjnmlaaNM
namespace Go.Proofs.Ytgcffmkifjnmlaa
open Go.Am
noncomputable section
def TQ : FuncId → Option (Bool × Eff)
  | 17 => some (false, takeE false)
  | 22 => some (true, takeE true)
  | _ => none
def cfQ : Cfg := cfg.eff TQ
theorem goodQ [Z : Zone] (B : Base) : Go.Am.Good cfQ B := eff_good (fun Z' B => @good Z' B) rfl (fun f x h => by
  unfold TQ at h
  split at h
  · cases h; exact ⟨_, i17, fun Z' => @tells17 Z'⟩
  · cases h; exact ⟨_, i22, fun Z' => @tells22 Z'⟩
  · cases h) B
def tQ : FuncId → Option HandT := treeE TQ noT
theorem tQ_ok : ∀ f k hd, tQ f = some k → cfQ.hand f = some hd → ∀ a c s, (k a c s).eval = hd a c s := treeE_ok noT_ok
/-- May the call be told, in the small state? -/
def okH (j : Bool) (E : Eff) (n : Net) (l : List Value) : Bool := effOk 0 (netV 1 n.nl n.M) cz (netS j n) l && E.ok ⟨n.a, n.b, isNilV (netV 1 n.nl n.M), rowM (netO n.nl n.M)⟩ l && plainN 9 (E.res ⟨n.a, n.b, isNilV (netV 1 n.nl n.M), rowM (netO n.nl n.M)⟩ l)
def ja_bits : List Bool := [true, false]
def ja_c (a b i : Int) : Bool :=
  (okH false (takeE false) ⟨a, b, true, #[]⟩ [.int .i64 i])
   && true
theorem ja_cond_k : (fun (a b i : Int) => (followT ja_bits (codeT cfQ (callT cfQ tQ 60) 60 cz (bodyOf 19) (frame0 19 (ntOf 19) #[p0, .int .i64 i]) (sN false a b))).1) = fun (a b i : Int) => ja_c a b i := by kernel_rfl
theorem ja_cond (a b i : Int) : (followT ja_bits (codeT cfQ (callT cfQ tQ 60) 60 cz (bodyOf 19) (frame0 19 (ntOf 19) #[p0, .int .i64 i]) (sN false a b))).1 = ja_c a b i := congrFun (congrFun (congrFun ja_cond_k a) b) i
theorem ja_leaf_k : (fun (a b i : Int) => pathObs (leaves [4]) ja_bits (codeT cfQ (callT cfQ tQ 60) 60 cz (bodyOf 19) (frame0 19 (ntOf 19) #[p0, .int .i64 i]) (sN false a b))) = fun (a b i : Int) => some (.ret, [some (.bool false)], some (boxO false a b (newV 2 (netV 1 true #[]) ((takeE false).row ⟨a, b, true, #[]⟩ [.int .i64 i]))), oldO (netO true #[]) ((takeE false).row ⟨a, b, true, #[]⟩ [.int .i64 i]), newO ((takeE false).row ⟨a, b, true, #[]⟩ [.int .i64 i]), none) := by kernel_rfl
theorem ja_leaf (a b i : Int) : pathObs (leaves [4]) ja_bits (codeT cfQ (callT cfQ tQ 60) 60 cz (bodyOf 19) (frame0 19 (ntOf 19) #[p0, .int .i64 i]) (sN false a b)) = some (.ret, [some (.bool false)], some (boxO false a b (newV 2 (netV 1 true #[]) ((takeE false).row ⟨a, b, true, #[]⟩ [.int .i64 i]))), oldO (netO true #[]) ((takeE false).row ⟨a, b, true, #[]⟩ [.int .i64 i]), newO ((takeE false).row ⟨a, b, true, #[]⟩ [.int .i64 i]), none) := congrFun (congrFun (congrFun ja_leaf_k a) b) i
def jb_bits : List Bool := [true, true, true]
def jb_c (a b i : Int) (M : Array Value) : Bool :=
  (okH false (takeE false) ⟨a, b, false, M⟩ [.int .i64 i])
   && ((!decide (M.size = 0))
   && true)
theorem jb_cond_k : (fun (a b i : Int) (M : Array Value) => (followT jb_bits (codeT cfQ (callT cfQ tQ 60) 60 cz (bodyOf 19) (frame0 19 (ntOf 19) #[p0, .int .i64 i]) (sR false a b M))).1) = fun (a b i : Int) (M : Array Value) => jb_c a b i M := by kernel_rfl
theorem jb_cond (a b i : Int) (M : Array Value) : (followT jb_bits (codeT cfQ (callT cfQ tQ 60) 60 cz (bodyOf 19) (frame0 19 (ntOf 19) #[p0, .int .i64 i]) (sR false a b M))).1 = jb_c a b i M := congrFun (congrFun (congrFun (congrFun jb_cond_k a) b) i) M
theorem jb_leaf_k : (fun (a b i : Int) (M : Array Value) => pathObs (leaves [4]) jb_bits (codeT cfQ (callT cfQ tQ 60) 60 cz (bodyOf 19) (frame0 19 (ntOf 19) #[p0, .int .i64 i]) (sR false a b M))) = fun (a b i : Int) (M : Array Value) => some (.ret, [some (.bool (!decide (M.size = 0)))], some (boxO false a (IntKind.wrap .i64 (b + 1)) (newV 2 (netV 1 false M) ((takeE false).row ⟨a, b, false, M⟩ [.int .i64 i]))), oldO (netO false M) ((takeE false).row ⟨a, b, false, M⟩ [.int .i64 i]), newO ((takeE false).row ⟨a, b, false, M⟩ [.int .i64 i]), none) := by kernel_rfl
theorem jb_leaf (a b i : Int) (M : Array Value) : pathObs (leaves [4]) jb_bits (codeT cfQ (callT cfQ tQ 60) 60 cz (bodyOf 19) (frame0 19 (ntOf 19) #[p0, .int .i64 i]) (sR false a b M)) = some (.ret, [some (.bool (!decide (M.size = 0)))], some (boxO false a (IntKind.wrap .i64 (b + 1)) (newV 2 (netV 1 false M) ((takeE false).row ⟨a, b, false, M⟩ [.int .i64 i]))), oldO (netO false M) ((takeE false).row ⟨a, b, false, M⟩ [.int .i64 i]), newO ((takeE false).row ⟨a, b, false, M⟩ [.int .i64 i]), none) := congrFun (congrFun (congrFun (congrFun jb_leaf_k a) b) i) M
def jc_bits : List Bool := [true, false]
def jc_c (a b i : Int) (M : Array Value) : Bool :=
  (okH false (takeE false) ⟨a, b, false, M⟩ [.int .i64 i])
   && (!(!decide (M.size = 0))
   && true)
theorem jc_cond_k : (fun (a b i : Int) (M : Array Value) => (followT jc_bits (codeT cfQ (callT cfQ tQ 60) 60 cz (bodyOf 19) (frame0 19 (ntOf 19) #[p0, .int .i64 i]) (sR false a b M))).1) = fun (a b i : Int) (M : Array Value) => jc_c a b i M := by kernel_rfl
theorem jc_cond (a b i : Int) (M : Array Value) : (followT jc_bits (codeT cfQ (callT cfQ tQ 60) 60 cz (bodyOf 19) (frame0 19 (ntOf 19) #[p0, .int .i64 i]) (sR false a b M))).1 = jc_c a b i M := congrFun (congrFun (congrFun (congrFun jc_cond_k a) b) i) M
theorem jc_leaf_k : (fun (a b i : Int) (M : Array Value) => pathObs (leaves [4]) jc_bits (codeT cfQ (callT cfQ tQ 60) 60 cz (bodyOf 19) (frame0 19 (ntOf 19) #[p0, .int .i64 i]) (sR false a b M))) = fun (a b i : Int) (M : Array Value) => some (.ret, [some (.bool (!decide (M.size = 0)))], some (boxO false a b (newV 2 (netV 1 false M) ((takeE false).row ⟨a, b, false, M⟩ [.int .i64 i]))), oldO (netO false M) ((takeE false).row ⟨a, b, false, M⟩ [.int .i64 i]), newO ((takeE false).row ⟨a, b, false, M⟩ [.int .i64 i]), none) := by kernel_rfl
theorem jc_leaf (a b i : Int) (M : Array Value) : pathObs (leaves [4]) jc_bits (codeT cfQ (callT cfQ tQ 60) 60 cz (bodyOf 19) (frame0 19 (ntOf 19) #[p0, .int .i64 i]) (sR false a b M)) = some (.ret, [some (.bool (!decide (M.size = 0)))], some (boxO false a b (newV 2 (netV 1 false M) ((takeE false).row ⟨a, b, false, M⟩ [.int .i64 i]))), oldO (netO false M) ((takeE false).row ⟨a, b, false, M⟩ [.int .i64 i]), newO ((takeE false).row ⟨a, b, false, M⟩ [.int .i64 i]), none) := congrFun (congrFun (congrFun (congrFun jc_leaf_k a) b) i) M
def ka_bits : List Bool := [true, false]
def ka_c (a b i : Int) : Bool :=
  (okH true (takeE true) ⟨a, b, true, #[]⟩ [.int .i64 i])
   && true
theorem ka_cond_k : (fun (a b i : Int) => (followT ka_bits (codeT cfQ (callT cfQ tQ 60) 60 cz (bodyOf 23) (frame0 23 (ntOf 23) #[p0, .int .i64 i]) (sN true a b))).1) = fun (a b i : Int) => ka_c a b i := by kernel_rfl
theorem ka_cond (a b i : Int) : (followT ka_bits (codeT cfQ (callT cfQ tQ 60) 60 cz (bodyOf 23) (frame0 23 (ntOf 23) #[p0, .int .i64 i]) (sN true a b))).1 = ka_c a b i := congrFun (congrFun (congrFun ka_cond_k a) b) i
theorem ka_leaf_k : (fun (a b i : Int) => pathObs (leaves [4]) ka_bits (codeT cfQ (callT cfQ tQ 60) 60 cz (bodyOf 23) (frame0 23 (ntOf 23) #[p0, .int .i64 i]) (sN true a b))) = fun (a b i : Int) => some (.ret, [some (.bool false)], some (boxO true a b (newV 2 (netV 1 true #[]) ((takeE true).row ⟨a, b, true, #[]⟩ [.int .i64 i]))), oldO (netO true #[]) ((takeE true).row ⟨a, b, true, #[]⟩ [.int .i64 i]), newO ((takeE true).row ⟨a, b, true, #[]⟩ [.int .i64 i]), none) := by kernel_rfl
theorem ka_leaf (a b i : Int) : pathObs (leaves [4]) ka_bits (codeT cfQ (callT cfQ tQ 60) 60 cz (bodyOf 23) (frame0 23 (ntOf 23) #[p0, .int .i64 i]) (sN true a b)) = some (.ret, [some (.bool false)], some (boxO true a b (newV 2 (netV 1 true #[]) ((takeE true).row ⟨a, b, true, #[]⟩ [.int .i64 i]))), oldO (netO true #[]) ((takeE true).row ⟨a, b, true, #[]⟩ [.int .i64 i]), newO ((takeE true).row ⟨a, b, true, #[]⟩ [.int .i64 i]), none) := congrFun (congrFun (congrFun ka_leaf_k a) b) i
def kb_bits : List Bool := [true, true, true]
def kb_c (a b i : Int) (M : Array Value) : Bool :=
  (okH true (takeE true) ⟨a, b, false, M⟩ [.int .i64 i])
   && ((!decide (M.size = 0))
   && true)
theorem kb_cond_k : (fun (a b i : Int) (M : Array Value) => (followT kb_bits (codeT cfQ (callT cfQ tQ 60) 60 cz (bodyOf 23) (frame0 23 (ntOf 23) #[p0, .int .i64 i]) (sR true a b M))).1) = fun (a b i : Int) (M : Array Value) => kb_c a b i M := by kernel_rfl
theorem kb_cond (a b i : Int) (M : Array Value) : (followT kb_bits (codeT cfQ (callT cfQ tQ 60) 60 cz (bodyOf 23) (frame0 23 (ntOf 23) #[p0, .int .i64 i]) (sR true a b M))).1 = kb_c a b i M := congrFun (congrFun (congrFun (congrFun kb_cond_k a) b) i) M
theorem kb_leaf_k : (fun (a b i : Int) (M : Array Value) => pathObs (leaves [4]) kb_bits (codeT cfQ (callT cfQ tQ 60) 60 cz (bodyOf 23) (frame0 23 (ntOf 23) #[p0, .int .i64 i]) (sR true a b M))) = fun (a b i : Int) (M : Array Value) => some (.ret, [some (.bool (!decide (M.size = 0)))], some (boxO true a (IntKind.wrap .i64 (b + 1)) (newV 2 (netV 1 false M) ((takeE true).row ⟨a, b, false, M⟩ [.int .i64 i]))), oldO (netO false M) ((takeE true).row ⟨a, b, false, M⟩ [.int .i64 i]), newO ((takeE true).row ⟨a, b, false, M⟩ [.int .i64 i]), none) := by kernel_rfl
theorem kb_leaf (a b i : Int) (M : Array Value) : pathObs (leaves [4]) kb_bits (codeT cfQ (callT cfQ tQ 60) 60 cz (bodyOf 23) (frame0 23 (ntOf 23) #[p0, .int .i64 i]) (sR true a b M)) = some (.ret, [some (.bool (!decide (M.size = 0)))], some (boxO true a (IntKind.wrap .i64 (b + 1)) (newV 2 (netV 1 false M) ((takeE true).row ⟨a, b, false, M⟩ [.int .i64 i]))), oldO (netO false M) ((takeE true).row ⟨a, b, false, M⟩ [.int .i64 i]), newO ((takeE true).row ⟨a, b, false, M⟩ [.int .i64 i]), none) := congrFun (congrFun (congrFun (congrFun kb_leaf_k a) b) i) M
def kc_bits : List Bool := [true, false]
def kc_c (a b i : Int) (M : Array Value) : Bool :=
  (okH true (takeE true) ⟨a, b, false, M⟩ [.int .i64 i])
   && (!(!decide (M.size = 0))
   && true)
theorem kc_cond_k : (fun (a b i : Int) (M : Array Value) => (followT kc_bits (codeT cfQ (callT cfQ tQ 60) 60 cz (bodyOf 23) (frame0 23 (ntOf 23) #[p0, .int .i64 i]) (sR true a b M))).1) = fun (a b i : Int) (M : Array Value) => kc_c a b i M := by kernel_rfl
theorem kc_cond (a b i : Int) (M : Array Value) : (followT kc_bits (codeT cfQ (callT cfQ tQ 60) 60 cz (bodyOf 23) (frame0 23 (ntOf 23) #[p0, .int .i64 i]) (sR true a b M))).1 = kc_c a b i M := congrFun (congrFun (congrFun (congrFun kc_cond_k a) b) i) M
theorem kc_leaf_k : (fun (a b i : Int) (M : Array Value) => pathObs (leaves [4]) kc_bits (codeT cfQ (callT cfQ tQ 60) 60 cz (bodyOf 23) (frame0 23 (ntOf 23) #[p0, .int .i64 i]) (sR true a b M))) = fun (a b i : Int) (M : Array Value) => some (.ret, [some (.bool (!decide (M.size = 0)))], some (boxO true a b (newV 2 (netV 1 false M) ((takeE true).row ⟨a, b, false, M⟩ [.int .i64 i]))), oldO (netO false M) ((takeE true).row ⟨a, b, false, M⟩ [.int .i64 i]), newO ((takeE true).row ⟨a, b, false, M⟩ [.int .i64 i]), none) := by kernel_rfl
theorem kc_leaf (a b i : Int) (M : Array Value) : pathObs (leaves [4]) kc_bits (codeT cfQ (callT cfQ tQ 60) 60 cz (bodyOf 23) (frame0 23 (ntOf 23) #[p0, .int .i64 i]) (sR true a b M)) = some (.ret, [some (.bool (!decide (M.size = 0)))], some (boxO true a b (newV 2 (netV 1 false M) ((takeE true).row ⟨a, b, false, M⟩ [.int .i64 i]))), oldO (netO false M) ((takeE true).row ⟨a, b, false, M⟩ [.int .i64 i]), newO ((takeE true).row ⟨a, b, false, M⟩ [.int .i64 i]), none) := congrFun (congrFun (congrFun (congrFun kc_leaf_k a) b) i) M
theorem i19 : cfQ.fns 19 = some (fnOf 19 [.tmp 4]) := by kernel_rfl
theorem i23 : cfQ.fns 23 = some (fnOf 23 [.tmp 4]) := by kernel_rfl
theorem nt19 : 2 ≤ ntOf 19 ∧ 2 ≤ ntOf 23 := by
  refine ⟨?_, ?_⟩ <;> exact of_decide_eq_true (by kernel_rfl)
theorem netV_nil {r : Nat} {n : Net} (h : n.nl = true → n.M = #[]) : isNilV (netV r n.nl n.M) = n.nl ∧ rowM (netO n.nl n.M) = n.M := by
  cases hn : n.nl with
  | true => rw [h hn]; exact ⟨rfl, rfl⟩
  | false => exact ⟨rfl, rfl⟩
theorem okV_net {id : Nat} {n : Net} (hM : n.M.all (freeN 9) = true) : okV id (netV (id + 1) n.nl n.M) (netO n.nl n.M) = true := by
  cases hn : n.nl with
  | true => rfl
  | false => simp [okV, netV, netO, hM]
theorem okH_of {j : Bool} {E : Eff} {n : Net} {l : List Value} (hok : E.ok n l = true) (h : n.nl = true → n.M = #[]) (hM : n.M.all (freeN 9) = true) (hl : l.all (freeN 9) = true) (hp : plainN 9 (E.res n l) = true) : okH j E n l = true := by
  obtain ⟨e1, e2⟩ := netV_nil (r := 1) h
  have hget : (netS j n).heap.get (0 + 1) = netO n.nl n.M := by
    show ((Tr.nil.put 0 _).set 1 (netO n.nl n.M)).get 1 = _
    rw [Tr.get_set, if_pos rfl]
  unfold okH effOk
  rw [e1, e2, hget, okV_net (id := 0) hM, hl, hok, hp]
  rfl
/-- What a call leaves that is told itself. -/
theorem end_hand {j : Bool} {a b : Int} {n : Net} {row : Option (Bool × Array Value)} {s : St} (h0 : s.heap.get 0 = some (boxO j a b (newV 2 (netV 1 n.nl n.M) row))) (h1 : s.heap.get 1 = oldO (netO n.nl n.M) row) (h2 : s.heap.get 2 = newO row) (hM : ∀ x, row = some x → x.2.all (freeN 9) = true) : EffEnd j a b n row s := by
  cases row with
  | none => exact ⟨h0, h1⟩
  | some x =>
    obtain ⟨nl, M⟩ := x
    cases nl with
    | true => exact h0
    | false => exact ⟨2, M.size, M.size, M, true, h0, h2, by decide, by decide, by simp, Nat.le_refl _, Nat.le_refl _, Nat.le_refl _, hM _ rfl, .inr rfl⟩
def dropE (z : Bool) : Eff where
  ok n l := (takeE z).ok n l && decide (n.b + 1 ≤ 1099511627776)
  res n _ := .bool (!decide (n.M.size = 0))
  a n _ := n.a
  b n _ := if n.M.size = 0 then n.b else n.b + 1
  row n l := (takeE z).row n l
theorem cut_strs {M : Array Value} (h : strs M = true) (p : Nat) : strs (cutM M p) = true := strs_app (strs_ext h _ _) (strs_ext h _ _)
theorem take_row_free {z : Bool} {n : Net} {l : List Value} (h : strs n.M = true) : ∀ x, (takeE z).row n l = some x → x.2.all (freeN 9) = true := fun x hx => by
  simp only [takeE] at hx
  split at hx
  · cases hx
  · cases hx; exact strs_free (cut_strs h _)
theorem tells19 [Z : Zone] : EffTells cfQ (fnOf 19 [.tmp 4]) 19 false (dropE false) := by
  intro n l hok hMf hlf
  have hok : ((takeE false).ok n l && decide (n.b + 1 ≤ 1099511627776)) = true := hok
  simp only [Bool.and_eq_true, decide_eq_true_eq] at hok
  obtain ⟨hok, hbb⟩ := hok
  obtain ⟨hn, i, rfl, hi1, hi2⟩ := takeE_arg hok
  refine ⟨nt19.1, fun B => ?_⟩
  have hoH := okH_of (j := false) hok (netOk_iff.1 hn).2.2.2.2.2.2 hMf hlf (by simp [takeE, plainN])
  obtain ⟨a, b, nl, M⟩ := n
  obtain ⟨h1, h2, h3, h4, h5, h6, h7⟩ := netOk_iff.1 hn
  simp only at h1 h2 h3 h4 h5 h6 h7 hbb
  cases nl with
  | true =>
    obtain rfl := h7 rfl
    have hrow : (dropE false).row ⟨a, b, true, #[]⟩ [.int .i64 i] = (takeE false).row ⟨a, b, true, #[]⟩ [.int .i64 i] := rfl
    rw [hrow]
    exact eff_p1 goodQ tQ_ok rfl (ja_cond a b i) (ja_leaf a b i) (.inr rfl) (by unfold ja_c; rw [hoH]; rfl) rfl rfl fun s e0 e1 e2 _ => end_hand e0 e1 e2 (take_row_free (z := false) (n := ⟨a, b, true, #[]⟩) (l := [.int .i64 i]) h6)
  | false =>
    have hrow : (dropE false).row ⟨a, b, false, M⟩ [.int .i64 i] = (takeE false).row ⟨a, b, false, M⟩ [.int .i64 i] := rfl
    have hrf := take_row_free (z := false) (n := ⟨a, b, false, M⟩) (l := [.int .i64 i]) h6
    rw [hrow]
    by_cases hm : M.size = 0
    · have hb : (dropE false).b ⟨a, b, false, M⟩ [.int .i64 i] = b := if_pos hm
      rw [hb]
      exact eff_p1 goodQ tQ_ok rfl (jc_cond a b i M) (jc_leaf a b i M) (.inr rfl) (by unfold jc_c; rw [hoH]; simp [hm]) rfl rfl fun s e0 e1 e2 _ => end_hand e0 e1 e2 hrf
    · have hb : (dropE false).b ⟨a, b, false, M⟩ [.int .i64 i] = b + 1 := if_neg hm
      rw [hb]
      refine eff_p1 goodQ tQ_ok rfl (jb_cond a b i M) (jb_leaf a b i M) (.inr rfl) (by unfold jb_c; rw [hoH]; simp [hm]) rfl rfl fun s e0 e1 e2 _ => ?_
      rw [wrap64 (by omega) (by omega)] at e0
      exact end_hand e0 e1 e2 hrf
theorem tells23 [Z : Zone] : EffTells cfQ (fnOf 23 [.tmp 4]) 23 true (dropE true) := by
  intro n l hok hMf hlf
  have hok : ((takeE true).ok n l && decide (n.b + 1 ≤ 1099511627776)) = true := hok
  simp only [Bool.and_eq_true, decide_eq_true_eq] at hok
  obtain ⟨hok, hbb⟩ := hok
  obtain ⟨hn, i, rfl, hi1, hi2⟩ := takeE_arg hok
  refine ⟨nt19.2, fun B => ?_⟩
  have hoH := okH_of (j := true) hok (netOk_iff.1 hn).2.2.2.2.2.2 hMf hlf (by simp [takeE, plainN])
  obtain ⟨a, b, nl, M⟩ := n
  obtain ⟨h1, h2, h3, h4, h5, h6, h7⟩ := netOk_iff.1 hn
  simp only at h1 h2 h3 h4 h5 h6 h7 hbb
  cases nl with
  | true =>
    obtain rfl := h7 rfl
    have hrow : (dropE true).row ⟨a, b, true, #[]⟩ [.int .i64 i] = (takeE true).row ⟨a, b, true, #[]⟩ [.int .i64 i] := rfl
    rw [hrow]
    exact eff_p1 goodQ tQ_ok rfl (ka_cond a b i) (ka_leaf a b i) (.inr rfl) (by unfold ka_c; rw [hoH]; rfl) rfl rfl fun s e0 e1 e2 _ => end_hand e0 e1 e2 (take_row_free (z := true) (n := ⟨a, b, true, #[]⟩) (l := [.int .i64 i]) h6)
  | false =>
    have hrow : (dropE true).row ⟨a, b, false, M⟩ [.int .i64 i] = (takeE true).row ⟨a, b, false, M⟩ [.int .i64 i] := rfl
    have hrf := take_row_free (z := true) (n := ⟨a, b, false, M⟩) (l := [.int .i64 i]) h6
    rw [hrow]
    by_cases hm : M.size = 0
    · have hb : (dropE true).b ⟨a, b, false, M⟩ [.int .i64 i] = b := if_pos hm
      rw [hb]
      exact eff_p1 goodQ tQ_ok rfl (kc_cond a b i M) (kc_leaf a b i M) (.inr rfl) (by unfold kc_c; rw [hoH]; simp [hm]) rfl rfl fun s e0 e1 e2 _ => end_hand e0 e1 e2 hrf
    · have hb : (dropE true).b ⟨a, b, false, M⟩ [.int .i64 i] = b + 1 := if_neg hm
      rw [hb]
      refine eff_p1 goodQ tQ_ok rfl (kb_cond a b i M) (kb_leaf a b i M) (.inr rfl) (by unfold kb_c; rw [hoH]; simp [hm]) rfl rfl fun s e0 e1 e2 _ => ?_
      rw [wrap64 (by omega) (by omega)] at e0
      exact end_hand e0 e1 e2 hrf
end
end Go.Proofs.Ytgcffmkifjnmlaa
