import Derived.Test.YtmpokdnpkjcnbaaDoorXHJ
/- The document's Parse of a mask's text is the mask. -/
namespace Go.Proofs.YtmpokdnpkjcnbaaDoor
open Go.Am
noncomputable section
theorem size_len (s : ByteArray) : s.data.toList.length = s.size := rfl
theorem byN_list (s : ByteArray) (i : Nat) : byN s i = (s.data.toList[i]?.getD 0).toNat := by
  unfold byN
  by_cases h : i < s.size
  · have h2 : i < s.data.toList.length := h
    rw [getElem?_pos s i h, List.getElem?_eq_getElem h2]
    rfl
  · have h2 : s.data.toList.length ≤ i := by rw [size_len]; omega
    rw [getElem?_neg s i h, List.getElem?_eq_none h2]
theorem digv_chk : ((List.range 256).all fun n => (dig3 n).all (fun b => decide (48 ≤ b.toNat) && decide (b.toNat ≤ 57)) && decide ((dig3 n).foldl (fun v b => 10 * v + (b.toNat - 48)) 0 = n)) = true := by kernel_rfl
theorem digv {n : Nat} (h : n < 256) : (∀ b ∈ dig3 n, 48 ≤ b.toNat ∧ b.toNat ≤ 57) ∧ (dig3 n).foldl (fun v b => 10 * v + (b.toNat - 48)) 0 = n := by
  have h1 := List.all_eq_true.1 digv_chk n (List.mem_range.2 h)
  rw [Bool.and_eq_true, List.all_eq_true, decide_eq_true_eq] at h1
  refine ⟨fun b hb => ?_, h1.2⟩
  have := h1.1 b hb
  rw [Bool.and_eq_true, decide_eq_true_eq, decide_eq_true_eq] at this
  exact this
/-- a text behind a number -/
def Ends (t : List UInt8) : Prop := t = [] ∨ ∃ r, t = 44 :: r ∨ t = 45 :: r
theorem num_at {s : ByteArray} {pre tl : List UInt8} {n : Nat} (hn : n < 256) (hs : s.data.toList = pre ++ (dig3 n ++ tl)) (ht : Ends tl) :
    numP s pre.length = (dig3 n).length ∧ numV s pre.length = n := by
  obtain ⟨d1, d2⟩ := digv hn
  obtain ⟨l3, l1⟩ := dig3_len n
  have hsz : s.size = pre.length + ((dig3 n).length + tl.length) := by rw [← size_len, hs]; simp
  have hat : ∀ j, (hj : j < (dig3 n).length) → byN s (pre.length + j) = ((dig3 n)[j]).toNat := fun j hj => by
    rw [byN_list, hs, List.getElem?_append_right (by omega), show pre.length + j - pre.length = j by omega, List.getElem?_append_left hj, List.getElem?_eq_getElem hj]; rfl
  have hgo : ∀ j, j < (dig3 n).length → goN s pre.length j = true := fun j hj => by
    have hb := d1 _ (List.getElem_mem hj)
    exact goN_iff.2 ⟨dgt_iff.2 ⟨by omega, by rw [hat j hj]; exact hb.1, by rw [hat j hj]; exact hb.2⟩, by omega⟩
  have hend : goN s pre.length (dig3 n).length = false := by
    cases h : goN s pre.length (dig3 n).length with
    | false => rfl
    | true =>
      obtain ⟨h1, _⟩ := goN_iff.1 h
      obtain ⟨h1, h2, h3⟩ := dgt_iff.1 h1
      have hb : byN s (pre.length + (dig3 n).length) = (tl[0]?.getD 0).toNat := by
        rw [byN_list, hs, List.getElem?_append_right (by omega), List.getElem?_append_right (by omega), show pre.length + (dig3 n).length - pre.length - (dig3 n).length = 0 by omega]
      rw [hb] at h2
      rcases ht with rfl | ⟨r, rfl | rfl⟩
      · exact absurd h2 (by decide)
      · exact absurd h2 (by show ¬ 48 ≤ (44 : UInt8).toNat; decide)
      · exact absurd h2 (by show ¬ 48 ≤ (45 : UInt8).toNat; decide)
  have hP := numP_is hgo hend (by omega)
  have hval : ∀ p, p ≤ (dig3 n).length → valN s pre.length p = ((dig3 n).take p).foldl (fun v b => 10 * v + (b.toNat - 48)) 0 := by
    intro p
    induction p with
    | zero => intro _; rfl
    | succ p ih =>
      intro hp
      show 10 * valN s pre.length p + (byN s (pre.length + p) - 48) = _
      rw [ih (by omega), hat p (by omega), List.take_add_one, List.getElem?_eq_getElem (by omega), List.foldl_append]
      rfl
  refine ⟨hP, ?_⟩
  unfold numV
  rw [hP, if_neg (by omega), hval _ (Nat.le_refl _), List.take_length, d2]
theorem at_mid {s : ByteArray} {pre tl : List UInt8} (hs : s.data.toList = pre ++ tl) : byN s pre.length = (tl[0]?.getD 0).toNat := by
  rw [byN_list, hs, List.getElem?_append_right (Nat.le_refl _), Nat.sub_self]
theorem isD_no {s : ByteArray} {pre tl : List UInt8} (hs : s.data.toList = pre ++ tl) (ht : tl = [] ∨ ∃ r, tl = 44 :: r) : isD s pre.length = false := by
  unfold isD
  rw [at_mid hs]
  rcases ht with rfl | ⟨r, rfl⟩
  · have : s.size = pre.length := by rw [← size_len, hs, List.append_nil]
    rw [decide_eq_false (by omega)]; rfl
  · show (_ && ((44 : UInt8).toNat == 45)) = false
    rw [show ((44 : UInt8).toNat == 45) = false from rfl, Bool.and_false]
theorem isD_yes {s : ByteArray} {pre r : List UInt8} (hs : s.data.toList = pre ++ 45 :: r) : isD s pre.length = true := by
  unfold isD
  rw [at_mid hs]
  have : s.size = pre.length + (r.length + 1) := by rw [← size_len, hs]; simp
  rw [decide_eq_true (by omega)]
  rfl
/-- one run, read -/
theorem run_at {s : ByteArray} {pre tl : List UInt8} {r : Nat × Nat} (h : okR r) (hs : s.data.toList = pre ++ ((wordR r).data.toList ++ tl)) (ht : tl = [] ∨ ∃ t, tl = 44 :: t) :
    uT s pre.length = pre.length + (wordR r).data.toList.length ∧ numV s pre.length = r.1 ∧ zV s pre.length = r.2 := by
  obtain ⟨h1, h2⟩ := h
  have he : Ends tl := by
    rcases ht with rfl | ⟨t, rfl⟩
    · exact .inl rfl
    · exact .inr ⟨t, .inl rfl⟩
  rw [wordR_data] at hs ⊢
  by_cases e : r.1 = r.2
  · rw [if_pos e] at hs ⊢
    obtain ⟨p1, p2⟩ := num_at h2 hs he
    have hu : u0 s pre.length = (pre ++ dig3 r.2).length := by unfold u0; rw [p1, List.length_append]
    have hd := isD_no (s := s) (pre := pre ++ dig3 r.2) (tl := tl) (by rw [hs, List.append_assoc]) ht
    unfold uT zV
    rw [hu, hd, List.length_append]
    exact ⟨rfl, by rw [p2, e], p2⟩
  · rw [if_neg e] at hs ⊢
    have hs1 : s.data.toList = pre ++ (dig3 r.1 ++ 45 :: (dig3 r.2 ++ tl)) := by rw [hs]; simp
    obtain ⟨p1, p2⟩ := num_at (by omega) hs1 (.inr ⟨_, .inr rfl⟩)
    have hu : u0 s pre.length = (pre ++ dig3 r.1).length := by unfold u0; rw [p1, List.length_append]
    have hd := isD_yes (s := s) (pre := pre ++ dig3 r.1) (r := dig3 r.2 ++ tl) (by rw [hs1, List.append_assoc])
    have hs2 : s.data.toList = (pre ++ dig3 r.1 ++ [45]) ++ (dig3 r.2 ++ tl) := by rw [hs1]; simp
    obtain ⟨q1, q2⟩ := num_at h2 hs2 he
    have hl : (pre ++ dig3 r.1 ++ [45]).length = (pre ++ dig3 r.1).length + 1 := by rw [List.length_append]; rfl
    rw [hl] at q1 q2
    unfold uT zV
    rw [hu, hd, cond_true, cond_true, q1]
    refine ⟨?_, p2, q2⟩
    simp only [List.length_append, List.length_cons]
    omega
def addIR (l : List Int) (r : Nat × Nat) : List Int := addI l (r.1 : Int) (r.2 + 1 - r.1)
theorem step_at {s : ByteArray} {pre tl : List UInt8} {r : Nat × Nat} (h : okR r) (hs : s.data.toList = pre ++ ((wordR r).data.toList ++ tl)) (ht : tl = [] ∨ ∃ t, tl = 44 :: t) (l : List Int) :
    lstep s pre.length l = addIR l r := by
  obtain ⟨_, p2, p3⟩ := run_at h hs ht
  obtain ⟨h1, h2⟩ := h
  unfold lstep addIR
  rw [p2, p3]
  congr 1
  unfold cntI
  omega
theorem word_pos {r : Nat × Nat} : 1 ≤ (wordR r).data.toList.length := by
  rw [wordR_data]
  split
  · exact (dig3_len _).2
  · rw [List.length_append, List.length_cons]; omega
theorem par_runs : ∀ (rs : List (Nat × Nat)) (r : Nat × Nat) (n : Nat) (s : ByteArray) (pre : List UInt8) (l : List Int), (∀ x ∈ r :: rs, okR x) → rs.length < n → s.data.toList = pre ++ (J ((r :: rs).map wordR)).data.toList → parL s n pre.length l = (r :: rs).foldl addIR l := by
  intro rs
  induction rs with
  | nil =>
    intro r n s pre l hok hn hs
    have hs' : s.data.toList = pre ++ ((wordR r).data.toList ++ []) := by rw [hs, List.append_nil]; show pre ++ (J [wordR r]).data.toList = _; rw [J_one]
    have hr := hok r (by simp)
    obtain ⟨p1, _, _⟩ := run_at hr hs' (.inl rfl)
    have hsz : s.size = pre.length + (wordR r).data.toList.length := by rw [← size_len, hs']; simp
    have hw := word_pos (r := r)
    cases n with
    | zero => omega
    | succ n =>
      show (if pre.length < s.size then parL s n (uT s pre.length + 1) (lstep s pre.length l) else l) = addIR l r
      rw [if_pos (by omega), p1, step_at hr hs' (.inl rfl)]
      cases n with
      | zero => rfl
      | succ n =>
        show (if _ < s.size then _ else _) = _
        rw [if_neg (by omega)]
  | cons r' rs ih =>
    intro r n s pre l hok hn hs
    have hJ : (J ((r :: r' :: rs).map wordR)).data.toList = (wordR r).data.toList ++ 44 :: (J ((r' :: rs).map wordR)).data.toList := J_cons _ _ _
    rw [hJ] at hs
    have hr := hok r (by simp)
    have ht : ∃ t, (44 :: (J ((r' :: rs).map wordR)).data.toList : List UInt8) = 44 :: t := ⟨_, rfl⟩
    obtain ⟨p1, _, _⟩ := run_at hr hs (.inr ht)
    have hsz : s.size = pre.length + ((wordR r).data.toList.length + ((J ((r' :: rs).map wordR)).data.toList.length + 1)) := by rw [← size_len, hs]; simp
    cases n with
    | zero => omega
    | succ n =>
      show (if pre.length < s.size then parL s n (uT s pre.length + 1) (lstep s pre.length l) else l) = (r' :: rs).foldl addIR (addIR l r)
      rw [if_pos (by omega), p1, step_at hr hs (.inr ht)]
      have hs2 : s.data.toList = (pre ++ (wordR r).data.toList ++ [44]) ++ (J ((r' :: rs).map wordR)).data.toList := by rw [hs]; simp
      have hl : (pre ++ (wordR r).data.toList ++ [44]).length = pre.length + (wordR r).data.toList.length + 1 := by rw [List.length_append, List.length_append]; rfl
      have := ih r' n s _ (addIR l r) (fun x hx => hok x (by simp at hx ⊢; exact .inr hx)) (by simp at hn; omega) hs2
      rw [hl] at this
      exact this
/-! ### The sets -/
theorem mem_addI {l : List Int} {f c : Int} : ∀ n, c ∈ addI l f n ↔ c ∈ l ∨ (f ≤ c ∧ c < f + n) := by
  intro n
  induction n with
  | zero =>
    show c ∈ l ↔ _
    constructor
    · exact .inl
    · rintro (h | ⟨h1, h2⟩)
      · exact h
      · omega
  | succ n ih =>
    show c ∈ addI l f n ++ [f + n] ↔ _
    rw [List.mem_append, List.mem_singleton, ih]
    constructor
    · rintro ((h | ⟨h1, h2⟩) | h)
      · exact .inl h
      · exact .inr ⟨h1, by omega⟩
      · exact .inr ⟨by omega, by omega⟩
    · rintro (h | ⟨h1, h2⟩)
      · exact .inl (.inl h)
      · by_cases e : c = f + n
        · exact .inr e
        · exact .inl (.inr ⟨h1, by omega⟩)
theorem setL_bit (l : List Int) {j : Nat} (hj : j < 256) : (setL l).getLsbD j = decide ((j : Int) ∈ l) := by
  cases l with
  | nil =>
    show (setI #[] 0 0).getLsbD j = _
    rw [setI_bit _ _ _ _ hj]; rfl
  | cons x r =>
    show (setI (rowI (x :: r)) 0 (x :: r).length).getLsbD j = _
    rw [setI_bit _ _ _ _ hj]
    have key : inB (rowI (x :: r)) 0 (j : Int) (x :: r).length = true ↔ (j : Int) ∈ (x :: r) := by
      rw [inB_iff, List.mem_iff_getElem]
      constructor
      · rintro ⟨t, h1, h2⟩
        refine ⟨t, h1, ?_⟩
        have e : (rowI (x :: r))[0 + t]? = some (.int .i64 (x :: r)[t]) := by
          rw [Nat.zero_add]; unfold rowI; simp only [List.getElem?_toArray, List.getElem?_map, List.getElem?_eq_getElem h1, Option.map_some]
        rw [e] at h2
        exact h2
      · rintro ⟨t, h1, h2⟩
        refine ⟨t, h1, ?_⟩
        have e : (rowI (x :: r))[0 + t]? = some (.int .i64 (x :: r)[t]) := by
          rw [Nat.zero_add]; unfold rowI; simp only [List.getElem?_toArray, List.getElem?_map, List.getElem?_eq_getElem h1, Option.map_some]
        rw [e]
        exact h2
    cases hb : inB (rowI (x :: r)) 0 (j : Int) (x :: r).length with
    | true => exact (decide_eq_true (key.1 hb)).symm
    | false =>
      refine (decide_eq_false fun h => ?_).symm
      rw [key.2 h] at hb; cases hb
theorem set_fold : ∀ (rs : List (Nat × Nat)) (l : List Int), (∀ x ∈ rs, okR x) → setL (rs.foldl addIR l) = rs.foldl addR (setL l) := by
  intro rs
  induction rs with
  | nil => intro l _; rfl
  | cons r rs ih =>
    intro l h
    show setL (rs.foldl addIR (addIR l r)) = rs.foldl addR (addR (setL l) r)
    rw [ih _ fun x hx => h x (by simp [hx])]
    congr 1
    obtain ⟨h1, h2⟩ := h r (by simp)
    apply wd_ext
    intro j hj
    unfold addIR addR
    rw [setL_bit _ hj, fillR_bit _ _ _ _ (by omega), setL_bit _ hj]
    rw [← Bool.decide_and, ← Bool.decide_or]
    refine decide_eq_decide.2 ?_
    rw [mem_addI]
    constructor
    · rintro (h | ⟨h3, h4⟩)
      · exact .inl h
      · exact .inr ⟨by omega, by omega⟩
    · rintro (h | ⟨h3, h4⟩)
      · exact .inl h
      · exact .inr ⟨by omega, by omega⟩
theorem setL_nil : setL [] = 0#256 := by
  apply wd_ext
  intro j hj
  rw [setL_bit _ hj]; simp
theorem ref_text (m : B256) : refM (textB m) = m := by
  have hT : textB m = dJ (rT m 256) := by rw [← dS_all, dS_J, dT_all]
  have hok := rT_ok m 256 (Nat.le_refl _)
  have hf := fold_all m
  rw [hT]
  unfold refM allL
  cases hr : rT m 256 with
  | nil =>
    rw [hr] at hf
    show setL (parL ⟨#[]⟩ 1 0 []) = m
    have : parL ⟨#[]⟩ 1 0 [] = [] := rfl
    rw [this, setL_nil]
    exact hf
  | cons r rs =>
    rw [hr] at hf hok
    have hs := J_size rs r
    show setL (parL (J ((r :: rs).map wordR)) ((J ((r :: rs).map wordR)).size + 1) ([] : List UInt8).length []) = m
    rw [par_runs rs r _ _ [] [] hok (by omega) rfl, set_fold _ _ hok, setL_nil, hf]
theorem ref_any (s : ByteArray) : (parE s = refE s) ∧ ∀ k, parW s k = refW s k := by
  rcases par_any s with ⟨h1, m, h2, h3⟩ | ⟨h1, h2⟩
  · have hr : refM s = m := by rw [← h3]; exact ref_text m
    have ho : refOk s = true := by unfold refOk; rw [hr, h3]; exact beq_self_eq_true _
    unfold refE refW
    rw [ho, hr]
    exact ⟨h1, h2⟩
  · have ho : refOk s = false := by
      cases h : refOk s with
      | false => rfl
      | true =>
        unfold refOk at h
        have e := same_of h
        have := (par_text (refM s)).2
        rw [e, h1] at this
        exact absurd this (by decide)
    unfold refE refW
    rw [ho]
    exact ⟨h1, h2⟩
end
end Go.Proofs.YtmpokdnpkjcnbaaDoor

/- MaskTexts: paths. -/
namespace Go.Proofs.YtmpokdnpkjcnbaaDoor
open Go.Am
noncomputable section
/-- what Text and Parse answer, left open -/
structure Qs where
  t : Int → Int → Int → Int → ByteArray
  w : ByteArray → Nat → Int
  e : ByteArray → Int
def tLo (p q : Qs) : FuncId → Option HandT
  | 22 => some (apartT (refO p.w p.e))
  | 23 => some (apartT (refO q.w q.e))
  | 24 => some (apartT (txtO p.t))
  | 25 => some (apartT (txtO p.t))
  | f => tXj f
def qr0 : Qs := ⟨t0F, refW, refE⟩
def qp0 : Qs := ⟨t0F, parW, parE⟩
theorem tLo_ok : ∀ f k hd, tLo qp0 qr0 f = some k → cfXj.hand f = some hd → ∀ a c s, (k a c s).eval = hd a c s := by
  intro f k hd h1 h2 a c s
  unfold tLo at h1
  split at h1
  · cases h1; exact tXj_ok 22 _ hd rfl h2 a c s
  · cases h1; exact tXj_ok 23 _ hd rfl h2 a c s
  · cases h1; exact tXj_ok 24 _ hd rfl h2 a c s
  · cases h1; exact tXj_ok 25 _ hd rfl h2 a c s
  · exact tXj_ok _ _ _ h1 h2 a c s
def za_bits : List Bool := [true, true]
def za_c (_ _ : Qs) (_ _ _ _ : Int) (s : ByteArray) : Bool :=
  (decide (((ByteArray.size s : Nat) : Int) > 200))
   && true
theorem za_cond_k : (fun (p q : Qs) (a b c d : Int) (s : ByteArray) => (followT za_bits (callT cfXj (tLo p q) 60 (.func (.func 4) #[] #[]) #[mk a b c d, .string s] (ctx0 0) st0)).1) = fun (p q : Qs) (a b c d : Int) (s : ByteArray) => za_c p q a b c d s := by kernel_rfl
theorem za_cond (p q : Qs) (a b c d : Int) (s : ByteArray) : (followT za_bits (callT cfXj (tLo p q) 60 (.func (.func 4) #[] #[]) #[mk a b c d, .string s] (ctx0 0) st0)).1 = za_c p q a b c d s := congrFun (congrFun (congrFun (congrFun (congrFun (congrFun (congrFun za_cond_k p) q) a) b) c) d) s
theorem za_leaf_k : (fun (p q : Qs) (a b c d : Int) (s : ByteArray) => pathObs seenOf za_bits (callT cfXj (tLo p q) 60 (.func (.func 4) #[] #[]) #[mk a b c d, .string s] (ctx0 0) st0)) = fun (_ _ : Qs) (_ _ _ _ : Int) (_ : ByteArray) => some (.bool true, st0) := by kernel_rfl
theorem za_leaf (p q : Qs) (a b c d : Int) (s : ByteArray) : pathObs seenOf za_bits (callT cfXj (tLo p q) 60 (.func (.func 4) #[] #[]) #[mk a b c d, .string s] (ctx0 0) st0) = some (.bool true, st0) := congrFun (congrFun (congrFun (congrFun (congrFun (congrFun (congrFun za_leaf_k p) q) a) b) c) d) s
def zb_bits : List Bool := [true, false, true, true, true, true, true, true, true, true, true, true, true, true, true, true, true, true, true, true, true, true, true, true, true, true, true, true, true, true, true, true, true]
def zb_c (p q : Qs) (a b c d : Int) (s : ByteArray) : Bool :=
  !(decide (((ByteArray.size s : Nat) : Int) > 200))
   && ((decide (ByteArray.size s ≤ 1000000))
   && ((decide (ByteArray.size s ≤ 1000000))
   && ((inQ a b c d)
   && ((inQ a b c d)
   && ((ByteArray.toList (p.t a b c d) == ByteArray.toList (p.t a b c d))
   && ((p.w s 0 == q.w s 0 && p.w s 1 == q.w s 1 && p.w s 2 == q.w s 2 && p.w s 3 == q.w s 3)
   && ((p.e s == q.e s)
   && true)))))))
theorem zb_cond_k : (fun (p q : Qs) (a b c d : Int) (s : ByteArray) => (followT zb_bits (callT cfXj (tLo p q) 60 (.func (.func 4) #[] #[]) #[mk a b c d, .string s] (ctx0 0) st0)).1) = fun (p q : Qs) (a b c d : Int) (s : ByteArray) => zb_c p q a b c d s := by kernel_rfl
theorem zb_cond (p q : Qs) (a b c d : Int) (s : ByteArray) : (followT zb_bits (callT cfXj (tLo p q) 60 (.func (.func 4) #[] #[]) #[mk a b c d, .string s] (ctx0 0) st0)).1 = zb_c p q a b c d s := congrFun (congrFun (congrFun (congrFun (congrFun (congrFun (congrFun zb_cond_k p) q) a) b) c) d) s
theorem zb_leaf_k : (fun (p q : Qs) (a b c d : Int) (s : ByteArray) => pathObs seenOf zb_bits (callT cfXj (tLo p q) 60 (.func (.func 4) #[] #[]) #[mk a b c d, .string s] (ctx0 0) st0)) = fun (_ _ : Qs) (_ _ _ _ : Int) (_ : ByteArray) => some (.bool true, st0) := by kernel_rfl
theorem zb_leaf (p q : Qs) (a b c d : Int) (s : ByteArray) : pathObs seenOf zb_bits (callT cfXj (tLo p q) 60 (.func (.func 4) #[] #[]) #[mk a b c d, .string s] (ctx0 0) st0) = some (.bool true, st0) := congrFun (congrFun (congrFun (congrFun (congrFun (congrFun (congrFun zb_leaf_k p) q) a) b) c) d) s
end
end Go.Proofs.YtmpokdnpkjcnbaaDoor

/- MaskTexts: the plain law. -/
namespace Go.Proofs.YtmpokdnpkjcnbaaDoor
open Go.Am
noncomputable section
theorem law4 (m : B256) (s : ByteArray) : ∃ v s', call cfXj 60 (.func (.func 4) #[] #[]) #[mkB m, .string s] (ctx0 0) st0 = some (.ret v, s') ∧ shed st0 s' v = some (.bool true, st0) := by
  by_cases hl : ((ByteArray.size s : Nat) : Int) > 200
  · refine path_call tLo_ok ((za_cond qp0 qr0 ..).trans ?_) (za_leaf qp0 qr0 (wd m 0) (wd m 1) (wd m 2) (wd m 3) s)
    unfold za_c
    rw [decide_eq_true hl]; rfl
  have hs : decide (s.size ≤ 1000000) = true := decide_eq_true (by omega)
  obtain ⟨p1, p2⟩ := ref_any s
  have e1 : qp0.e s = qr0.e s := p1
  have e2 : ∀ k, qp0.w s k = qr0.w s k := p2
  refine path_call tLo_ok ((zb_cond qp0 qr0 ..).trans ?_) (zb_leaf qp0 qr0 (wd m 0) (wd m 1) (wd m 2) (wd m 3) s)
  unfold zb_c
  simp only [decide_eq_false hl, wd_inQ, hs, e1, e2, beq_self_eq_true]
  rfl
end
end Go.Proofs.YtmpokdnpkjcnbaaDoor
