/- Few calls of few messages, told; the tables with all that is told. -/
import Derived.Test.YtgcffmkifjnmlaaNQ
namespace Go.Proofs.Ytgcffmkifjnmlaa
open Go.Am
noncomputable section
theorem i8 : cfg.fns 8 = some (fnOf 8 [.tmp 4]) := by kernel_rfl
theorem i9 : ∃ i, cfg.fns 9 = some i := ⟨_, rfl⟩
theorem nt8 : 2 ≤ ntOf 8 := of_decide_eq_true (by kernel_rfl)
def smOk (X : Array Value) (o n : Nat) : Bool := decide (n ≤ 9223372036854775807) && (List.range n).all fun i => isV X[o + i * 3 + 1]?
def smB (X : Array Value) (o n : Nat) (m : Int) : Bool := ((List.range n).all fun i => decide (vL X[o + i * 3 + 1]? ≤ 50)) && decide ((n : Int) ≤ m)
def smD : Array Value → DT (Option (Value × St))
  | ⟨[.func (.method nm) X ⟨[.slice none o n]⟩, .int .i64 m]⟩ => .must (decide (nm = "") && smOk X o n) (.leaf (some (.bool (smB X o n m), st0))) (.leaf none)
  | _ => .leaf none
theorem smD_some {args : Array Value} {x : Value × St} (h : (smD args).eval = some x) : ∃ X o n m, args = #[VS X o n, .int .i64 m] ∧ smOk X o n = true ∧ x = (.bool (smB X o n m), st0) := by
  unfold smD at h
  split at h
  · rename_i nm X o n m
    rw [DT.eval_must] at h
    cases hc : (decide (nm = "") && smOk X o n) with
    | false => rw [hc] at h; cases h
    | true =>
      rw [hc, cond_true, DT.eval_leaf] at h
      simp only [Bool.and_eq_true, decide_eq_true_eq] at hc
      obtain ⟨rfl, h2⟩ := hc
      cases h
      exact ⟨X, o, n, m, rfl, h2, rfl⟩
  · cases h
theorem small_ok [Z : Zone] {X : Array Value} {o n : Nat} {m : Int} (h : smOk X o n = true) {B : Nat} : AWp cfg ⟨0, B⟩ cz b8 (frame0 8 (ntOf 8) #[VS X o n, .int .i64 m]) st0 (RetL [(4, .bool (smB X o n m))]) := by
  simp only [smOk, Bool.and_eq_true, decide_eq_true_eq, List.all_eq_true, List.mem_range] at h
  obtain ⟨hn, hv⟩ := h
  have hpl : plainL [((4 : Tmp), Value.bool (smB X o n m))] := fun p hp => by simp only [List.mem_singleton] at hp; subst hp; rfl
  rw [b8_eq]
  refine AWp.nestRet good rfl hpl (sel := kp [0, 1] []) (path_eval noT_ok (oc_cond X o n m) (oc_leaf X o n m)) trivial ?_
  refine AWp.forStmt (n2 := 60) (lim2 := 60) (N := n) (head := fun i => fr8 X o n m i) (sh := fun _ => st0) (stop := fun i => if i < n then (if vL X[o + i * 3 + 1]? ≤ 50 then none else some (.ret, frS 8 [(4, .bool false)], st0)) else some (.exit 0, fr8 X o n m i, st0)) good rfl hpl (sel := kp [0, 1, 5] []) (path_eval noT_ok (od_cond X o n m) (od_leaf X o n m)) trivial
    (sel2 := fun ex => match ex with | .ret => ([4], []) | _ => ([0, 1, 5], [])) (fun i hi _ => ?_) (fun i hi => ?_) ⟨n, Nat.le_refl _, by simp⟩ (fun i r hi hno hr => ?_)
  · by_cases hik : i < n
    · rw [if_pos hik]
      have h1 := hv i hik
      by_cases hle : vL X[o + i * 3 + 1]? ≤ 50
      · rw [if_pos hle]
        have hw : inc (i : Int) = ((i + 1 : Nat) : Int) := by unfold inc; rw [wrap64 (by omega) (by omega)]; omega
        refine gcObs_sel (path_eval noT_ok ((oh_cond X o n m i).trans ?_) ((oh_leaf X o n m i).trans (by rw [hw]))) rfl
        have hng : ¬ (((vL X[o + i * 3 + 1]? : Nat) : Int) > 50) := by omega
        simp only [oh_c, Int.toNat_natCast, h1, hng, decide_false, Bool.not_false, Bool.and_true]
        simp [hik]
      · rw [if_neg hle]
        refine gcObs_sel (path_eval noT_ok ((og_cond X o n m i).trans ?_) (og_leaf X o n m i)) rfl
        have hng : ((vL X[o + i * 3 + 1]? : Nat) : Int) > 50 := by omega
        simp only [og_c, Int.toNat_natCast, h1, hng, decide_true, Bool.and_true]
        simp [hik]
    · rw [if_neg hik]
      have hni : ¬ ((i : Int) < (n : Int)) := by omega
      exact gcObs_sel (path_eval noT_ok ((oe_cond X o n m i).trans (by simp only [oe_c, hni, decide_false, Bool.not_false, Bool.true_and])) (oe_leaf X o n m i)) rfl
  · split
    · rename_i r hr
      split at hr
      · split at hr
        · cases hr
        · cases hr; trivial
      · cases hr; trivial
    · trivial
  · by_cases hik : i < n
    · rw [if_pos hik] at hr
      by_cases hle : vL X[o + i * 3 + 1]? ≤ 50
      · rw [if_pos hle] at hr; cases hr
      · rw [if_neg hle] at hr
        cases hr
        have : smB X o n m = false := by
          unfold smB
          rw [Bool.and_eq_false_iff]
          left
          rw [List.all_eq_false]
          exact ⟨i, List.mem_range.2 hik, by simpa using hle⟩
        intro p hp
        simp only [List.mem_singleton] at hp; subst hp
        rw [this]; exact frS_one 8 4 _
    · rw [if_neg hik] at hr
      cases hr
      have e : i = n := by omega
      subst e
      refine ⟨rfl, fun Z' => ?_⟩
      have hall : ((List.range i).all fun j => decide (vL X[o + j * 3 + 1]? ≤ 50)) = true := by
        rw [List.all_eq_true]
        intro j hj
        have hj := List.mem_range.1 hj
        have := hno j hj
        rw [if_pos hj] at this
        by_cases hle : vL X[o + j * 3 + 1]? ≤ 50
        · exact decide_eq_true hle
        · rw [if_neg hle] at this; cases this
      have hb : smB X o i m = decide ((i : Int) ≤ m) := by unfold smB; rw [hall]; rfl
      exact AWp.done (fun B => @good Z' B) hpl (.inr rfl) (sel := kp [4] []) (path_eval noT_ok (oi_cond X o i m i) (oi_leaf X o i m i)) trivial fun p hp => by simp only [List.mem_singleton] at hp; subst hp; rw [hb]; exact frS_one 8 4 _
def on0 (k : DT (Option (Value × St))) : Array Value → DT (Option (Value × St))
  | ⟨[]⟩ => k
  | _ => .leaf none
def TL : FuncId → Option (Array Value → DT (Option (Value × St)))
  | 8 => some smD
  | 9 => some (on0 (.leaf (some (.bool true, st0))))
  | _ => none
theorem TL_ok [Z : Zone] : ∀ f F, TL f = some F → (∃ i, cfg.fns f = some i) ∧ Tells cfg f fun a => (F a).eval := by
  intro f F h
  unfold TL at h
  split at h
  · cases h
    refine ⟨⟨_, i8⟩, tells_one good rfl i8 rfl fun args x hx => ?_⟩
    obtain ⟨X, o, n, m, rfl, h1, rfl⟩ := smD_some hx
    exact ⟨by simp [freeN], nt8, _, rfl, rfl, fun b => small_ok h1⟩
  · cases h
    refine ⟨i9, tells_call good rfl (i := _) (by rfl) fun args x hx => ?_⟩
    have hh : args = #[] ∧ x = (.bool true, st0) := by
      unfold on0 at hx
      split at hx
      · cases hx; exact ⟨rfl, rfl⟩
      · cases hx
    obtain ⟨rfl, rfl⟩ := hh
    exact ⟨by simp, tree_callW noT_ok live_true⟩
  · cases h
/-! ### The tables -/
def lostP (M : Array Value) : Bool := listP M
theorem listP_free : ∀ M, listP M = true → M.all (freeN 9) = true := fun M h => by
  simp only [listP, Bool.and_eq_true] at h
  exact strs_free h.1
theorem losts [Z : Zone] : ReadTells cfg (fnOf 15 [.tmp 2]) 15 listP where
  nt := nt26.2.2.1
  nil a b B := by
    obtain ⟨fr, s, hc, hL, _⟩ := leaves_some (path_eval noT_ok (oa_cond a b) (oa_leaf a b))
    refine AWp.eval good hc ⟨.inr rfl, .int .i64 b, ?_, rfl⟩
    simp only [List.map_cons, List.map_nil, List.cons.injEq, and_true] at hL
    exact resultsV_one hL rfl
  row a b M B hP := by
    obtain ⟨fr, s, hc, hL, _⟩ := leaves_some (path_eval noT_ok (ob_cond a b M) (ob_leaf a b M))
    refine AWp.eval good hc ⟨.inr rfl, .int .i64 b, ?_, rfl⟩
    simp only [List.map_cons, List.map_nil, List.cons.injEq, and_true] at hL
    exact resultsV_one hL rfl
def cf13 : Cfg := cfR.more fun f => if f = 13 then some (bothH sameB fun _ _ => true) else none
def cf14 : Cfg := cf13.more fun f => if f = 14 then some (listH listP) else none
def cf15 : Cfg := cf14.more fun f => if f = 15 then some (readH listP) else none
def cfS : Cfg := cf15.told TL
theorem good13 [Z : Zone] (B : Base) : Go.Am.Good cf13 B := hand_good (f0 := 13) goodR (show cfR.fns 13 = _ from i13) (fun args c s r h => both_grow h) (fun base args c s r s' h φ ω w args' hs ha => both_calls (g := cfR) rfl (fun Z' X Y hB base c φ ω s w args' hs ha => (boths Z' X Y hB base c φ ω s w args' (@SRel.cfg Z' cfR base c φ ω s w cfg rfl hs) ha).mono fun e w' hR => @CallR.cfg Z' cfg base c φ ω s w w' cfR rfl s _ e hR) h hs ha) B
theorem lists13 [Z : Zone] : ListTells cf13 (fnOf 14 [.tmp 2]) 14 listP where
  nt := lists.nt
  nil a b B := (AWp.cfg (g := cfg) (g' := cf13) rfl rfl (lists.nil a b B)).mono fun _ _ _ h => h
  row a b M B hP := (AWp.cfg (g := cfg) (g' := cf13) rfl rfl (lists.row a b M B hP)).mono fun _ _ _ h => h
theorem good14 [Z : Zone] (B : Base) : Go.Am.Good cf14 B := hand_good (f0 := 14) good13 (show cf13.fns 14 = _ from i14) (fun args c s r h => list_grow h) (fun base args c s r s' h φ ω w args' hs ha => list_calls (g := cf13) good13 rfl (show cf13.fns 14 = _ from i14) listP_free lists13 h hs ha) B
theorem losts14 [Z : Zone] : ReadTells cf14 (fnOf 15 [.tmp 2]) 15 listP where
  nt := losts.nt
  nil a b B := (AWp.cfg (g := cfg) (g' := cf14) rfl rfl (losts.nil a b B)).mono fun _ _ _ h => h
  row a b M B hP := (AWp.cfg (g := cfg) (g' := cf14) rfl rfl (losts.row a b M B hP)).mono fun _ _ _ h => h
theorem good15 [Z : Zone] (B : Base) : Go.Am.Good cf15 B := hand_good (f0 := 15) good14 (show cf14.fns 15 = _ from i15) (fun args c s r h => read_grow h) (fun base args c s r s' h φ ω w args' hs ha => read_calls (g := cf14) good14 rfl (show cf14.fns 15 = _ from i15) listP_free losts14 h hs ha) B
theorem goodS [Z : Zone] (B : Base) : Go.Am.Good cfS B := tells_good good15 (fun f F h => by
  obtain ⟨h1, h2⟩ := TL_ok f F h
  exact ⟨h1, Tells.cfg (g := cfg) (g' := cf15) rfl rfl h2⟩) B
def tS : FuncId → Option HandT := treeT TL (oneT 15 (readT listP) (oneT 14 (listT listP) (oneT 13 (bothT sameB fun _ _ => true) tR)))
theorem tS_ok : ∀ f k hd, tS f = some k → cfS.hand f = some hd → ∀ a c s, (k a c s).eval = hd a c s :=
  treeT_ok (oneT_ok (fun _ _ _ => rfl) (oneT_ok (fun _ _ _ => rfl) (oneT_ok (fun _ _ _ => rfl) tR_ok)))
end
end Go.Proofs.Ytgcffmkifjnmlaa
