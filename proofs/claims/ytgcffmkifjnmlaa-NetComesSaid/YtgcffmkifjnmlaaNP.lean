/- Lists, and their likeness, told; all that is told of a net. -/
import Derived.Test.YtgcffmkifjnmlaaNO
namespace Go.Proofs.Ytgcffmkifjnmlaa
open Go.Am
noncomputable section
theorem i14 : cfg.fns 14 = some (fnOf 14 [.tmp 2]) := by kernel_rfl
theorem i13 : cfg.fns 13 = some (fnOf 13 [.tmp 4]) := by kernel_rfl
theorem nt14 : 1 ≤ ntOf 14 ∧ 2 ≤ ntOf 13 := by
  refine ⟨?_, ?_⟩ <;> exact of_decide_eq_true (by kernel_rfl)
def listP (M : Array Value) : Bool := strs M && decide (M.size ≤ 1048576)
theorem local_slice (q l cp : Nat) : local? (.slice (some ⟨q, 0, none⟩) l cp) = false := rfl
theorem results_slice {g : Cfg} {c : Ctx} {fr : Fr} {s : St} {t : Tmp} {q l cp : Nat} (h : fr.tm.get t = some (.slice (some ⟨q, 0, none⟩) l cp)) : resultsV g c fr s [.tmp t] = some (.slice (some ⟨q, 0, none⟩) l cp) := by
  simp only [resultsV, resultsL, resultOf, h, Option.bind_eq_bind, Option.bind_some, local_slice]
  rfl
theorem lists [Z : Zone] : ListTells cfg (fnOf 14 [.tmp 2]) 14 listP where
  nt := nt14.1
  nil a b B := by
    obtain ⟨fr, s, hc, hL, _⟩ := leaves_some (path_eval noT_ok (ma_cond a b) (ma_leaf a b))
    refine AWp.eval good hc ⟨.inr rfl, .slice none 0 0, ?_, rfl⟩
    simp only [List.map_cons, List.map_nil, List.cons.injEq, and_true] at hL
    exact resultsV_one hL rfl
  row a b M B hP := by
    simp only [listP, Bool.and_eq_true, decide_eq_true_eq] at hP
    obtain ⟨hS, hsz⟩ := hP
    by_cases hM : M.size = 0
    · obtain ⟨fr, s, hc, hL, _, _, h2, _⟩ := leaves_some (path_eval noT_ok ((mb_cond a b M).trans (by simp [mb_c, hM, nLim])) (mb_leaf a b M))
      simp only [List.map_cons, List.map_nil, List.cons.injEq, and_true] at hL
      have hM0 : M = #[] := Array.eq_empty_of_size_eq_zero hM
      exact AWp.eval good hc ⟨.inr rfl, _, results_slice hL, 2, by simp [hM], by decide, by rw [h2, hM0]; rfl⟩
    · have hone := strs_one hS
      obtain ⟨fr, s, hc, hL, _, _, _, h3⟩ := leaves_some (path_eval noT_ok ((mc_cond a b M).trans (by
        have : M.size ≤ nLim := by unfold nLim; omega
        simp [mc_c, hM, hone, this])) (mc_leaf a b M))
      simp only [List.map_cons, List.map_nil, List.cons.injEq, and_true, Nat.zero_add] at hL
      rw [cpy_eq] at h3
      exact AWp.eval good hc ⟨.inr rfl, _, results_slice hL, 3, rfl, by decide, by rw [h3, decide_eq_false hM]; rfl⟩

def sameB (X Y : Array Value) : Bool := strs X && (strs Y && (decide (X.size ≤ 1048576) && (decide (X.size = Y.size) && (List.range X.size).all fun i => (toStr X[i]?).toList == (toStr Y[i]?).toList)))
theorem sameB_self {X : Array Value} (h : strs X = true) (hs : X.size ≤ 1048576) : sameB X X = true := by
  simp [sameB, h, hs]
theorem same_ok [Z : Zone] {X Y : Array Value} (h : sameB X Y = true) {B : Nat} : AWp cfg ⟨0, B⟩ cz b13 (frame0 13 (ntOf 13) #[VS X 0 X.size, VS Y 0 Y.size]) st0 (RetL [(4, .bool true)]) := by
  simp only [sameB, Bool.and_eq_true, decide_eq_true_eq, List.all_eq_true, List.mem_range] at h
  obtain ⟨hX, hY, hsz, hxy, heq⟩ := h
  have hpl : plainL [((4 : Tmp), Value.bool true)] := fun p hp => by simp only [List.mem_singleton] at hp; subst hp; rfl
  rw [b13_eq]
  refine AWp.nestRet good rfl hpl (sel := kp [0, 1] []) (path_eval noT_ok ((nb_cond X Y).trans (by simp [nb_c, hxy])) (nb_leaf X Y)) trivial ?_
  refine AWp.forStmt (n2 := 60) (lim2 := 60) (N := X.size) (head := fun i => fr13 X Y i) (sh := fun _ => st0) (stop := fun i => if i < X.size then none else some (.exit 0, fr13 X Y i, st0)) good rfl hpl (sel := kp [0, 1, 5] []) (path_eval noT_ok (nc_cond X Y) (nc_leaf X Y)) trivial (sel2 := kp [0, 1, 5] []) (fun i hi _ => ?_) (fun i hi => ?_) ⟨X.size, Nat.le_refl _, by simp⟩ (fun i r hi hno hr => ?_)
  · by_cases hik : i < X.size
    · rw [if_pos hik]
      have h1 := isStr_at hX hik
      have h2 := isStr_at hY (p := i) (by omega)
      have h3 := heq i hik
      refine path_eval noT_ok ((nf_cond X Y i).trans ?_) ((nf_leaf X Y i).trans (by rw [incN (by omega)]))
      simp only [nf_c, Nat.zero_add, Nat.mul_one, Int.toNat_natCast, h1, h2, h3, Bool.not_true, Bool.not_false, Bool.and_true]
      simp [hik]; omega
    · rw [if_neg hik]
      have hni : ¬ ((i : Int) < (X.size : Int)) := by omega
      exact path_eval noT_ok ((nd_cond X Y i).trans (by simp only [nd_c, hni, decide_false, Bool.not_false, Bool.true_and])) (nd_leaf X Y i)
  · split <;> trivial
  · by_cases hik : i < X.size
    · rw [if_pos hik] at hr; cases hr
    · rw [if_neg hik] at hr
      cases hr
      refine ⟨rfl, fun Z' => ?_⟩
      exact AWp.done (fun B => @good Z' B) hpl (.inr rfl) (sel := kp [4] []) (path_eval noT_ok (ng_cond X Y i) (ng_leaf X Y i)) trivial fun p hp => by simp only [List.mem_singleton] at hp; subst hp; exact frS_one 13 4 _
theorem boths : BothTells cfg 13 sameB fun _ _ => true := by
  classical
  intro Z' X Y hB base c φ ω s w args' hs ha
  have hT : @Tells Z' cfg 13 (fun a => if a = #[VS X 0 X.size, VS Y 0 Y.size] then some (.bool true, st0) else none) := by
    refine tells_one (fun B => @good Z' B) rfl i13 rfl fun args x hx => ?_
    split at hx
    · rename_i e
      cases hx
      subst e
      exact ⟨by simp [freeN], nt14.2, .bool true, rfl, rfl, fun b => same_ok hB⟩
    · cases hx
  exact hT _ _ (if_pos rfl) base c φ ω s w args' (.ret (.bool true), s) hs ha rfl

/-! ### All that is told -/
theorem EffTells.more [Z : Zone] {g : Cfg} {T : FuncId → Option Hand} {i : FnI} {f : FuncId} {j : Bool} {E : Eff} (h : EffTells g i f j E) (hr : ∀ c fr s, resultsV (g.more T) c fr s i.results = resultsV g c fr s i.results) : EffTells (g.more T) i f j E := by
  intro n l h1 h2 h3
  obtain ⟨h4, h5⟩ := h n l h1 h2 h3
  refine ⟨h4, fun B => ?_⟩
  have := AWp.cfg (g := g) (g' := g.more T) rfl rfl (h5 B)
  refine this.mono fun ex fr' s' ⟨q1, v, q2, q3⟩ => ⟨q1, v, ?_, q3⟩
  rw [hr]; exact q2
def TR : FuncId → Option (Bool × Eff)
  | 16 => some (false, sendE)
  | 20 => some (false, twiceE)
  | 19 => some (false, dropE false)
  | 21 => some (true, sendE)
  | 24 => some (true, twiceE)
  | 23 => some (true, dropE true)
  | _ => none
def cfR : Cfg := cfQ.eff TR
theorem goodR [Z : Zone] (B : Base) : Go.Am.Good cfR B := eff_good (fun Z' B => @goodQ Z' B) rfl (fun f x h => by
  unfold TR at h
  split at h
  · cases h; exact ⟨_, i16, fun Z' => EffTells.more (@tells16 Z') fun _ _ _ => rfl⟩
  · cases h; exact ⟨_, i20, fun Z' => EffTells.more (@tells20 Z') fun _ _ _ => rfl⟩
  · cases h; exact ⟨_, i19, fun Z' => @tells19 Z'⟩
  · cases h; exact ⟨_, i21, fun Z' => EffTells.more (@tells21 Z') fun _ _ _ => rfl⟩
  · cases h; exact ⟨_, i24, fun Z' => EffTells.more (@tells24 Z') fun _ _ _ => rfl⟩
  · cases h; exact ⟨_, i23, fun Z' => @tells23 Z'⟩
  · cases h) B
def tR : FuncId → Option HandT := treeE TR tQ
theorem tR_ok : ∀ f k hd, tR f = some k → cfR.hand f = some hd → ∀ a c s, (k a c s).eval = hd a c s := treeE_ok tQ_ok
end
end Go.Proofs.Ytgcffmkifjnmlaa
