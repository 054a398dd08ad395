import Derived.Test.YtmpokdnpkjcnbaaDoorVMP
/- MaskTells: paths. -/
namespace Go.Proofs.YtmpokdnpkjcnbaaDoor
open Go.Am
noncomputable section
/-- what Of and All answer, left open -/
structure Hs where
  w : Array Value → Nat → Nat → Nat → Int
  e : Array Value → Nat → Nat → Int
  aw : Int → Nat → Int
  ae : Int → Int
def ofDw (h : Hs) : Array Value → DT (Option (Value × St))
  | ⟨[.func (.method nm) X ⟨[.slice none o n]⟩]⟩ => .must (decide (nm = "") && intsOk X o n) (.leaf (some (.tuple #[mk (h.w X o n 0) (h.w X o n 1) (h.w X o n 2) (h.w X o n 3), .int .i64 (h.e X o n)], st0))) (.leaf none)
  | _ => .leaf none
def allDw (h : Hs) : Array Value → DT (Option (Value × St))
  | ⟨[.int .i64 n]⟩ => .leaf (some (.tuple #[mk (h.aw n 0) (h.aw n 1) (h.aw n 2) (h.aw n 3), .int .i64 (h.ae n)], st0))
  | _ => .leaf none
def h0 : Hs := ⟨fun X o n k => bif anyBad X o n then 0 else wd (setI X o n) k, fun X o n => bif anyBad X o n then 1 else 0, fun n k => bif decide (n < 0) then 0 else bif decide (n > 256) then 0 else wd (rng n.toNat) k, fun n => bif decide (n < 0) then 1 else bif decide (n > 256) then 1 else 0⟩
theorem ofDw_eval (a : Array Value) : (ofDw h0 a).eval = (ofDv a).eval := by
  unfold ofDw ofDv
  split
  · rename_i nm X o n
    rw [DT.eval_must, DT.eval_must, DT.eval_node, DT.eval_leaf, DT.eval_leaf]
    unfold h0
    dsimp only
    cases anyBad X o n <;> rfl
  · rename_i hne
    split
    · exact (hne _ _ _ _ rfl).elim
    · rfl
theorem allDw_eval (a : Array Value) : (allDw h0 a).eval = (allDv a).eval := by
  unfold allDw allDv
  split
  · rename_i n
    rw [DT.eval_node, DT.eval_node, DT.eval_leaf, DT.eval_leaf]
    unfold h0
    dsimp only
    cases decide (n < 0) <;> cases decide (n > 256) <;> rfl
  · rename_i hne
    split
    · exact (hne _ rfl).elim
    · rfl
def tQo (p : Fs) (q : Gs) (h : Hs) : FuncId → Option HandT
  | 11 => some (apartT (ofDw h))
  | 12 => some (apartT (ofDw h))
  | 13 => some (apartT (allDw h))
  | 14 => some (apartT (allDw h))
  | 15 => some (apartT (lstD q))
  | 17 => some (apartT (lstD q))
  | 18 => some (apartT (cntO p))
  | f => tVp f
theorem tQo_ok : ∀ f k hd, tQo p0 g0 h0 f = some k → cfVp.hand f = some hd → ∀ a c s, (k a c s).eval = hd a c s := by
  intro f k hd h1 h2 a c s
  unfold tQo at h1
  have key : ∀ (F F' : Array Value → DT (Option (Value × St))), (∀ a, (F a).eval = (F' a).eval) → tVp f = some (apartT F') → (apartT F a c s).eval = hd a c s := fun F F' hF ht => by
    rw [← tVp_ok f _ hd ht h2 a c s, apartT_eval, apartT_eval]
    unfold apartHand
    rw [hF]
  split at h1
  · cases h1; exact key _ _ ofDw_eval rfl
  · cases h1; exact key _ _ ofDw_eval rfl
  · cases h1; exact key _ _ allDw_eval rfl
  · cases h1; exact key _ _ allDw_eval rfl
  · cases h1; exact key _ (lstD g0) (fun _ => rfl) rfl
  · cases h1; exact key _ (lstD g0) (fun _ => rfl) rfl
  · cases h1; exact key _ cntD (fun _ => rfl) rfl
  · exact tVp_ok _ _ _ h1 h2 a c s
def ka_bits : List Bool := [false, true]
def ka_c (_ : Fs) (_ : Gs) (_ : Hs) (_ _ _ _ : Int) (_ : Array Value) (_ n : Nat) (_ : Int) : Bool :=
  (decide (((n : Nat) : Int) > 300))
   && true
theorem ka_cond_k : (fun (p : Fs) (q : Gs) (h : Hs) (a b c d : Int) (X : Array Value) (o n : Nat) (i : Int) => (followT ka_bits (callT cfVp (tQo p q h) 60 (.func (.func 3) #[] #[]) #[mk a b c d, VS X o n, .int .i64 i] (ctx0 0) st0)).1) = fun (p : Fs) (q : Gs) (h : Hs) (a b c d : Int) (X : Array Value) (o n : Nat) (i : Int) => ka_c p q h a b c d X o n i := by kernel_rfl
theorem ka_cond (p : Fs) (q : Gs) (h : Hs) (a b c d : Int) (X : Array Value) (o n : Nat) (i : Int) : (followT ka_bits (callT cfVp (tQo p q h) 60 (.func (.func 3) #[] #[]) #[mk a b c d, VS X o n, .int .i64 i] (ctx0 0) st0)).1 = ka_c p q h a b c d X o n i := congrFun (congrFun (congrFun (congrFun (congrFun (congrFun (congrFun (congrFun (congrFun (congrFun (congrFun ka_cond_k p) q) h) a) b) c) d) X) o) n) i
theorem ka_leaf_k : (fun (p : Fs) (q : Gs) (h : Hs) (a b c d : Int) (X : Array Value) (o n : Nat) (i : Int) => pathObs seenOf ka_bits (callT cfVp (tQo p q h) 60 (.func (.func 3) #[] #[]) #[mk a b c d, VS X o n, .int .i64 i] (ctx0 0) st0)) = fun (_ : Fs) (_ : Gs) (_ : Hs) (_ _ _ _ : Int) (_ : Array Value) (_ _ : Nat) (_ : Int) => some (.bool true, st0) := by kernel_rfl
theorem ka_leaf (p : Fs) (q : Gs) (h : Hs) (a b c d : Int) (X : Array Value) (o n : Nat) (i : Int) : pathObs seenOf ka_bits (callT cfVp (tQo p q h) 60 (.func (.func 3) #[] #[]) #[mk a b c d, VS X o n, .int .i64 i] (ctx0 0) st0) = some (.bool true, st0) := congrFun (congrFun (congrFun (congrFun (congrFun (congrFun (congrFun (congrFun (congrFun (congrFun (congrFun ka_leaf_k p) q) h) a) b) c) d) X) o) n) i
def kb_bits : List Bool := [false, false, true, true, true, true, true, true, true, true, true, true, true, true, true, true, true, true, true, true, true, true, true, true, true, true, true, true, true, true, true, true, true, true, true, true, true, true, true, true, true, true, true, true, true, true, true, true, true, true, true, true, true, true, true, true, true, true, true, true, true, true, true, true, true, true, true, true, true, true, true, true, true, true, true, true, true, true, true, true, true, true, true, true, true, true, true, true, true, true, true, true, true, true, true]
def kb_c (p : Fs) (q : Gs) (h : Hs) (a b c d : Int) (X : Array Value) (o n : Nat) (i : Int) : Bool :=
  !(decide (((n : Nat) : Int) > 300))
   && ((intsOk X o n)
   && ((intsOk X o n)
   && ((inQ a b c d)
   && ((Nat.beq (q.L a b c d) 0)
   && ((inQ a b c d)
   && ((Nat.beq (q.L a b c d) 0)
   && ((p.Q a b c d)
   && ((p.C a b c d == ((0 : Nat) : Int))
   && ((inQ a b c d)
   && ((inQ a b c d)
   && ((hasB a b c d i == hasB a b c d i)
   && ((h.w X o n 0 == h.w X o n 0 && h.w X o n 1 == h.w X o n 1 && h.w X o n 2 == h.w X o n 2 && h.w X o n 3 == h.w X o n 3)
   && ((h.e X o n == h.e X o n)
   && ((h.aw i 0 == h.aw i 0 && h.aw i 1 == h.aw i 1 && h.aw i 2 == h.aw i 2 && h.aw i 3 == h.aw i 3)
   && ((h.ae i == h.ae i)
   && true)))))))))))))))
theorem kb_cond_k : (fun (p : Fs) (q : Gs) (h : Hs) (a b c d : Int) (X : Array Value) (o n : Nat) (i : Int) => (followT kb_bits (callT cfVp (tQo p q h) 60 (.func (.func 3) #[] #[]) #[mk a b c d, VS X o n, .int .i64 i] (ctx0 0) st0)).1) = fun (p : Fs) (q : Gs) (h : Hs) (a b c d : Int) (X : Array Value) (o n : Nat) (i : Int) => kb_c p q h a b c d X o n i := by kernel_rfl
theorem kb_cond (p : Fs) (q : Gs) (h : Hs) (a b c d : Int) (X : Array Value) (o n : Nat) (i : Int) : (followT kb_bits (callT cfVp (tQo p q h) 60 (.func (.func 3) #[] #[]) #[mk a b c d, VS X o n, .int .i64 i] (ctx0 0) st0)).1 = kb_c p q h a b c d X o n i := congrFun (congrFun (congrFun (congrFun (congrFun (congrFun (congrFun (congrFun (congrFun (congrFun (congrFun kb_cond_k p) q) h) a) b) c) d) X) o) n) i
theorem kb_leaf_k : (fun (p : Fs) (q : Gs) (h : Hs) (a b c d : Int) (X : Array Value) (o n : Nat) (i : Int) => pathObs seenOf kb_bits (callT cfVp (tQo p q h) 60 (.func (.func 3) #[] #[]) #[mk a b c d, VS X o n, .int .i64 i] (ctx0 0) st0)) = fun (_ : Fs) (_ : Gs) (_ : Hs) (_ _ _ _ : Int) (_ : Array Value) (_ _ : Nat) (_ : Int) => some (.bool true, st0) := by kernel_rfl
theorem kb_leaf (p : Fs) (q : Gs) (h : Hs) (a b c d : Int) (X : Array Value) (o n : Nat) (i : Int) : pathObs seenOf kb_bits (callT cfVp (tQo p q h) 60 (.func (.func 3) #[] #[]) #[mk a b c d, VS X o n, .int .i64 i] (ctx0 0) st0) = some (.bool true, st0) := congrFun (congrFun (congrFun (congrFun (congrFun (congrFun (congrFun (congrFun (congrFun (congrFun (congrFun kb_leaf_k p) q) h) a) b) c) d) X) o) n) i
def kc_bits : List Bool := [false, false, true, true, true, true, true, true, true, false, true, true, true, false, true, true, true, true, true, true, true, true, true, true, true, true, true, true, true, false, true, true, true, true, true, true, true, true, true, true, true, true, true, true, true, true, true, true, true, true, true, true, true, true, true, true, true, true, true, true, true, true, true, true, true, true, true, true, true, true, true, true, true, true, true, true, true, true, true, true, true, true, true, true, true, true, true, true, true, true, true, true, true, true, true, true, true]
def kc_c (p : Fs) (q : Gs) (h : Hs) (a b c d : Int) (X : Array Value) (o n : Nat) (i : Int) : Bool :=
  !(decide (((n : Nat) : Int) > 300))
   && ((intsOk X o n)
   && ((intsOk X o n)
   && ((inQ a b c d)
   && (!(Nat.beq (q.L a b c d) 0)
   && ((inQ a b c d)
   && (!(Nat.beq (q.L a b c d) 0)
   && ((decide (q.L a b c d ≤ q.L a b c d) && (decide (Array.size (q.E a b c d) ≠ 0) && Array.all (q.E a b c d) (freeN 9)))
   && ((decide (q.L a b c d ≤ q.L a b c d) && (decide (Array.size (q.E a b c d) ≠ 0) && Array.all (q.E a b c d) (freeN 9)))
   && ((intsOk (q.E a b c d) 0 (q.L a b c d) && intsOk (q.E a b c d) 0 (q.L a b c d))
   && ((sameB (q.E a b c d) 0 (q.L a b c d) (q.E a b c d) 0 (q.L a b c d))
   && ((p.Q a b c d)
   && ((p.C a b c d == ((q.L a b c d : Nat) : Int))
   && ((inQ a b c d)
   && ((inQ a b c d)
   && ((hasB a b c d i == hasB a b c d i)
   && ((h.w X o n 0 == h.w X o n 0 && h.w X o n 1 == h.w X o n 1 && h.w X o n 2 == h.w X o n 2 && h.w X o n 3 == h.w X o n 3)
   && ((h.e X o n == h.e X o n)
   && ((h.aw i 0 == h.aw i 0 && h.aw i 1 == h.aw i 1 && h.aw i 2 == h.aw i 2 && h.aw i 3 == h.aw i 3)
   && ((h.ae i == h.ae i)
   && true)))))))))))))))))))
theorem kc_cond_k : (fun (p : Fs) (q : Gs) (h : Hs) (a b c d : Int) (X : Array Value) (o n : Nat) (i : Int) => (followT kc_bits (callT cfVp (tQo p q h) 60 (.func (.func 3) #[] #[]) #[mk a b c d, VS X o n, .int .i64 i] (ctx0 0) st0)).1) = fun (p : Fs) (q : Gs) (h : Hs) (a b c d : Int) (X : Array Value) (o n : Nat) (i : Int) => kc_c p q h a b c d X o n i := by kernel_rfl
theorem kc_cond (p : Fs) (q : Gs) (h : Hs) (a b c d : Int) (X : Array Value) (o n : Nat) (i : Int) : (followT kc_bits (callT cfVp (tQo p q h) 60 (.func (.func 3) #[] #[]) #[mk a b c d, VS X o n, .int .i64 i] (ctx0 0) st0)).1 = kc_c p q h a b c d X o n i := congrFun (congrFun (congrFun (congrFun (congrFun (congrFun (congrFun (congrFun (congrFun (congrFun (congrFun kc_cond_k p) q) h) a) b) c) d) X) o) n) i
theorem kc_leaf_k : (fun (p : Fs) (q : Gs) (h : Hs) (a b c d : Int) (X : Array Value) (o n : Nat) (i : Int) => pathObs seenOf kc_bits (callT cfVp (tQo p q h) 60 (.func (.func 3) #[] #[]) #[mk a b c d, VS X o n, .int .i64 i] (ctx0 0) st0)) = fun (_ : Fs) (_ : Gs) (_ : Hs) (_ _ _ _ : Int) (_ : Array Value) (_ _ : Nat) (_ : Int) => some (.bool true, st0) := by kernel_rfl
theorem kc_leaf (p : Fs) (q : Gs) (h : Hs) (a b c d : Int) (X : Array Value) (o n : Nat) (i : Int) : pathObs seenOf kc_bits (callT cfVp (tQo p q h) 60 (.func (.func 3) #[] #[]) #[mk a b c d, VS X o n, .int .i64 i] (ctx0 0) st0) = some (.bool true, st0) := congrFun (congrFun (congrFun (congrFun (congrFun (congrFun (congrFun (congrFun (congrFun (congrFun (congrFun kc_leaf_k p) q) h) a) b) c) d) X) o) n) i
end
end Go.Proofs.YtmpokdnpkjcnbaaDoor

/- MaskTells: the plain law. -/
namespace Go.Proofs.YtmpokdnpkjcnbaaDoor
open Go.Am
noncomputable section
theorem same_self (X : Array Value) (o n : Nat) : sameB X o n X o n = true := by
  unfold sameB
  rw [Nat.beq_refl, Bool.true_and]
  exact sameR_yes fun i _ => beq_self_eq_true _
theorem law3 (m : B256) (X : Array Value) (o n : Nat) (i : Int) (h : intsOk X o n = true) : ∃ v s', call cfVp 60 (.func (.func 3) #[] #[]) #[mkB m, VS X o n, .int .i64 i] (ctx0 0) st0 = some (.ret v, s') ∧ shed st0 s' v = some (.bool true, st0) := by
  obtain ⟨gL, gE⟩ := g0_wd m
  by_cases hl : ((n : Nat) : Int) > 300
  · refine path_call tQo_ok ((ka_cond p0 g0 h0 ..).trans ?_) (ka_leaf p0 g0 h0 (wd m 0) (wd m 1) (wd m 2) (wd m 3) X o n i)
    unfold ka_c
    rw [decide_eq_true hl]; rfl
  cases hz : Nat.beq (cntB m 256) 0 with
  | true =>
    have e0 := Nat.eq_of_beq_eq_true hz
    refine path_call tQo_ok ((kb_cond p0 g0 h0 ..).trans ?_) (kb_leaf p0 g0 h0 (wd m 0) (wd m 1) (wd m 2) (wd m 3) X o n i)
    unfold kb_c
    simp only [decide_eq_false hl, h, wd_inQ, p0Q, p0C, gL, hz, beq_self_eq_true]
    rw [e0]; rfl
  | false =>
    have hne : cntB m 256 ≠ 0 := Nat.ne_of_beq_eq_false hz
    refine path_call tQo_ok ((kc_cond p0 g0 h0 ..).trans ?_) (kc_leaf p0 g0 h0 (wd m 0) (wd m 1) (wd m 2) (wd m 3) X o n i)
    unfold kc_c
    have c1 : decide ((lstE m 256).size ≠ 0) = true := decide_eq_true (by rw [lstE_size]; exact hne)
    simp only [decide_eq_false hl, h, wd_inQ, p0Q, p0C, gL, gE, hz, beq_self_eq_true, (lstE_plain m 256).2.2, lst_ints m (Nat.le_refl _), same_self, c1, decide_eq_true (Nat.le_refl (cntB m 256))]
    rfl
end
end Go.Proofs.YtmpokdnpkjcnbaaDoor
