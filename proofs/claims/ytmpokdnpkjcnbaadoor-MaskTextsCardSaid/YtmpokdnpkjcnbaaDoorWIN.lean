import Derived.Test.YtmpokdnpkjcnbaaDoorWh
/- Texts of masks come back: the plain law. -/
namespace Go.Proofs.YtmpokdnpkjcnbaaDoor
open Go.Am
noncomputable section
theorem bext {b c : ByteArray} (h : b.data.toList = c.data.toList) : b = c := by
  obtain ⟨⟨b⟩⟩ := b
  obtain ⟨⟨c⟩⟩ := c
  have : b = c := h
  rw [this]
theorem fidx_no {c : UInt8} : ∀ {l : List UInt8} {k : Nat}, (∀ b ∈ l, b ≠ c) → fidx l c k = -1 := by
  intro l
  induction l with
  | nil => intro k _; rfl
  | cons b l ih =>
    intro k h
    unfold fidx
    have hb : Nat.beq b.toNat c.toNat = false := by
      cases hh : Nat.beq b.toNat c.toNat with
      | false => rfl
      | true => exact absurd (UInt8.toNat_inj.1 (Nat.eq_of_beq_eq_true hh)) (h b (by simp))
    rw [hb, cond_false]
    exact ih fun b hb => h b (by simp [hb])
theorem fidx_app {c : UInt8} (r : List UInt8) : ∀ {l : List UInt8} {k : Nat}, (∀ b ∈ l, b ≠ c) → fidx (l ++ c :: r) c k = ((k + l.length : Nat) : Int) := by
  intro l
  induction l with
  | nil =>
    intro k _
    show fidx (c :: r) c k = _
    unfold fidx
    rw [Nat.beq_refl, cond_true]; simp
  | cons b l ih =>
    intro k h
    show fidx (b :: (l ++ c :: r)) c k = _
    unfold fidx
    have hb : Nat.beq b.toNat c.toNat = false := by
      cases hh : Nat.beq b.toNat c.toNat with
      | false => rfl
      | true => exact absurd (UInt8.toNat_inj.1 (Nat.eq_of_beq_eq_true hh)) (h b (by simp))
    rw [hb, cond_false, ih fun b hb => h b (by simp [hb])]
    simp only [List.length_cons]
    congr 1
    omega
theorem digs_chk : ((List.range 256).all fun n => (dig3 n).all fun b => !(b == 44) && !(b == 45)) = true := by kernel_rfl
theorem nums_chk : ((List.range 256).all fun n => numI ⟨⟨dig3 n⟩⟩ == (n : Int)) = true := by kernel_rfl
theorem digs_ok {n : Nat} (h : n < 256) : ∀ b ∈ dig3 n, b ≠ 44 ∧ b ≠ 45 := by
  intro b hb
  have h1 := List.all_eq_true.1 digs_chk n (List.mem_range.2 h)
  have h2 := List.all_eq_true.1 h1 b hb
  simpa using h2
theorem nums_ok {n : Nat} (h : n < 256) : numI (w1 n) = n := by
  have h1 := List.all_eq_true.1 nums_chk n (List.mem_range.2 h)
  rw [beq_iff_eq] at h1
  unfold w1
  rw [Int.toNat_natCast]
  exact h1
theorem w1_data (n : Nat) : (w1 (n : Int)).data.toList = dig3 n := by unfold w1; rw [Int.toNat_natCast]
theorem w2_data (f i : Nat) : (w2 (f : Int) (i : Int)).data.toList = dig3 f ++ 45 :: dig3 i := by
  unfold w2
  rw [ByteArray.data_append, ByteArray.data_append, Array.toList_append, Array.toList_append, w1_data, w1_data]
  rfl
/-- a run's word -/
def wordR (r : Nat × Nat) : ByteArray := if r.1 = r.2 then w1 r.2 else w2 r.1 r.2
def okR (r : Nat × Nat) : Prop := r.1 ≤ r.2 ∧ r.2 < 256
theorem wordR_data {r : Nat × Nat} : (wordR r).data.toList = if r.1 = r.2 then dig3 r.2 else dig3 r.1 ++ 45 :: dig3 r.2 := by
  unfold wordR
  split
  · exact w1_data _
  · exact w2_data _ _
theorem wordR_44 {r : Nat × Nat} (h : okR r) : ∀ b ∈ (wordR r).data.toList, b ≠ 44 := by
  intro b hb
  rw [wordR_data] at hb
  split at hb
  · exact (digs_ok h.2 b hb).1
  · rw [List.mem_append, List.mem_cons] at hb
    rcases hb with hb | rfl | hb
    · exact (digs_ok (by have := h.1; have := h.2; omega) b hb).1
    · decide
    · exact (digs_ok h.2 b hb).1
theorem cut_wordR {r : Nat × Nat} (h : okR r) : cutP (wordR r) = (w1 r.1, w1 r.2) := by
  obtain ⟨h1, h2⟩ := h
  unfold cutP
  by_cases e : r.1 = r.2
  · have hw : wordR r = w1 r.2 := by unfold wordR; rw [if_pos e]
    rw [hw, w1_data, fidx_no fun b hb => (digs_ok h2 b hb).2, if_neg (by omega), e]
  · have hw : wordR r = w2 r.1 r.2 := by unfold wordR; rw [if_neg e]
    have hd := w2_data r.1 r.2
    have hf : fidx (w2 (r.1 : Int) (r.2 : Int)).data.toList 45 0 = (((dig3 r.1).length : Nat) : Int) := by
      rw [hd, fidx_app _ fun b hb => (digs_ok (by omega) b hb).2, Nat.zero_add]
    have hsz : (w2 (r.1 : Int) (r.2 : Int)).size = (dig3 r.1).length + (1 + (dig3 r.2).length) := by
      have : (w2 (r.1 : Int) (r.2 : Int)).data.toList.length = (w2 (r.1 : Int) (r.2 : Int)).size := rfl
      rw [← this, hd]; simp; omega
    rw [hw, hf, if_pos (by omega), Int.toNat_natCast]
    congr 1
    · apply bext
      rw [ByteArray.data_extract, Array.toList_extract, hd, w1_data]
      simp [List.extract]
    · apply bext
      rw [ByteArray.data_extract, Array.toList_extract, hd, w1_data, hsz]
      simp [List.extract]
      exact List.take_of_length_le (by omega)
theorem fillR_bit : ∀ (k : Nat) (m : B256) (c j : Nat), c + k ≤ 256 → (fillR m c k).getLsbD j = (m.getLsbD j || (decide (c ≤ j) && decide (j < c + k))) := by
  intro k
  induction k with
  | zero => intro m c j _; show m.getLsbD j = _; have : (decide (c ≤ j) && decide (j < c + 0)) = false := by
              rw [Bool.and_eq_false_iff, decide_eq_false_iff_not, decide_eq_false_iff_not]; omega
            rw [this, Bool.or_false]
  | succ k ih =>
    intro m c j h
    show (fillR (plus m c) (c + 1) k).getLsbD j = _
    rw [ih _ _ _ (by omega), plus_bit _ (by omega), Bool.or_assoc]
    congr 1
    by_cases e : j = c
    · subst e; simp
    · rw [decide_eq_false e, Bool.false_or]
      congr 1
      · exact decide_eq_decide.2 ⟨fun h => by omega, fun h => by omega⟩
      · exact decide_eq_decide.2 ⟨fun h => by omega, fun h => by omega⟩
/-- a mask with a run, too -/
def addR (m : B256) (r : Nat × Nat) : B256 := fillR m r.1 (r.2 + 1 - r.1)
theorem word_add (m : B256) {r : Nat × Nat} (h : okR r) : wordM m (wordR r) = some (addR m r) := by
  unfold wordM addR
  rw [cut_wordR h]
  simp only
  rw [nums_ok (by have := h.1; have := h.2; omega), nums_ok h.2, if_neg (by omega), if_neg (by omega), Int.toNat_natCast, Int.toNat_natCast]
def J (ws : List ByteArray) : ByteArray := ⟨⟨Lib.join (ws.map (·.data.toList)) [44]⟩⟩
theorem J_one (w : ByteArray) : J [w] = w := by
  apply bext
  show Lib.join [w.data.toList] [44] = _
  exact Lib.join_one _ _
theorem J_cons (w y : ByteArray) (r : List ByteArray) : (J (w :: y :: r)).data.toList = w.data.toList ++ 44 :: (J (y :: r)).data.toList := by
  show Lib.join (w.data.toList :: y.data.toList :: r.map (·.data.toList)) [44] = w.data.toList ++ 44 :: Lib.join (y.data.toList :: r.map (·.data.toList)) [44]
  rw [Lib.join_cons, Lib.join_cons]
  simp [Lib.joinTail]
theorem drop_mid (l : List UInt8) (x : UInt8) (r : List UInt8) : List.drop (l.length + 1) (l ++ x :: r) = r := by
  induction l with
  | nil => rfl
  | cons b l ih => exact ih
theorem parse_runs : ∀ (rs : List (Nat × Nat)) (r : Nat × Nat) (n : Nat) (m : B256), (∀ x ∈ r :: rs, okR x) → rs.length < n → parseG n m (J ((r :: rs).map wordR)) = (r :: rs).foldl addR m := by
  intro rs
  induction rs with
  | nil =>
    intro r n m hok hn
    cases n with
    | zero => omega
    | succ n =>
      have hr := hok r (by simp)
      show (if fi (J [wordR r]) < 0 then _ else _) = _
      have hf : fi (J [wordR r]) = -1 := by
        rw [J_one]
        exact fidx_no (wordR_44 hr)
      have e : J (List.map wordR [r]) = wordR r := J_one _
      rw [hf, if_pos (by omega), e, word_add m hr]
      rfl
  | cons r' rs ih =>
    intro r n m hok hn
    cases n with
    | zero => omega
    | succ n =>
      have hr := hok r (by simp)
      have hd := J_cons (wordR r) (wordR r') (rs.map wordR)
      have hf : fi (J ((r :: r' :: rs).map wordR)) = (((wordR r).size : Nat) : Int) := by
        unfold fi
        show fidx (J (wordR r :: wordR r' :: rs.map wordR)).data.toList 44 0 = _
        rw [hd, fidx_app _ (wordR_44 hr), Nat.zero_add]; rfl
      have hsz : (J (wordR r :: wordR r' :: rs.map wordR)).size = (wordR r).size + (1 + (J (wordR r' :: rs.map wordR)).size) := by
        have e : ∀ b : ByteArray, b.data.toList.length = b.size := fun _ => rfl
        rw [← e, hd, List.length_append, List.length_cons, e, e]; omega
      have hh : hdP (J ((r :: r' :: rs).map wordR)) = wordR r := by
        unfold hdP
        rw [hf, Int.toNat_natCast]
        apply bext
        show ((J (wordR r :: wordR r' :: rs.map wordR)).extract 0 (wordR r).size).data.toList = _
        rw [ByteArray.data_extract, Array.toList_extract, hd]
        have e : (wordR r).size = (wordR r).data.toList.length := rfl
        rw [e]
        simp [List.extract]
      have ht : tlP (J ((r :: r' :: rs).map wordR)) = J ((r' :: rs).map wordR) := by
        unfold tlP
        rw [hf, Int.toNat_natCast]
        apply bext
        show ((J (wordR r :: wordR r' :: rs.map wordR)).extract ((wordR r).size + 1) (J (wordR r :: wordR r' :: rs.map wordR)).size).data.toList = (J (wordR r' :: rs.map wordR)).data.toList
        rw [ByteArray.data_extract, Array.toList_extract, hsz, hd]
        have e3 : List.drop ((wordR r).size + 1) ((wordR r).data.toList ++ 44 :: (J (wordR r' :: rs.map wordR)).data.toList) = (J (wordR r' :: rs.map wordR)).data.toList := drop_mid _ _ _
        have e4 : (J (wordR r' :: rs.map wordR)).data.toList.length = (J (wordR r' :: rs.map wordR)).size := rfl
        simp only [List.extract]
        rw [e3]
        exact List.take_of_length_le (by omega)
      show (if fi (J ((r :: r' :: rs).map wordR)) < 0 then _ else _) = _
      rw [hf, if_neg (by omega), hh, ht, word_add m hr]
      exact ih r' n (addR m r) (fun x hx => hok x (by simp [List.mem_cons] at hx ⊢; exact .inr hx)) (by simp only [List.length_cons] at hn; omega)
end
end Go.Proofs.YtmpokdnpkjcnbaaDoor

/- The text of a mask, read: the mask. -/
namespace Go.Proofs.YtmpokdnpkjcnbaaDoor
open Go.Am
noncomputable section
/-- the runs so far -/
def rT (m : B256) : Nat → List (Nat × Nat)
  | 0 => []
  | i + 1 => bif m.getLsbD i && !m.getLsbD (i + 1) then rT m i ++ [(if fT m i < 0 then i else (fT m i).toNat, i)] else rT m i
theorem fT_run (m : B256) : ∀ i, fT m i = -1 ∨ (0 ≤ fT m i ∧ fT m i < i ∧ ∀ j : Nat, fT m i ≤ j → j ≤ i → m.getLsbD j = true) := by
  intro i
  induction i with
  | zero => exact .inl rfl
  | succ i ih =>
    cases hb : m.getLsbD i with
    | false =>
      rw [fT_no hb]
      rcases ih with h | ⟨h1, h2, h3⟩
      · exact .inl h
      · have := h3 i (by omega) (Nat.le_refl _)
        rw [hb] at this; cases this
    | true =>
      rw [fT_bit hb]
      cases hc : m.getLsbD (i + 1) with
      | false => exact .inl rfl
      | true =>
        right
        rw [cond_true]
        rcases ih with h | ⟨h1, h2, h3⟩
        · rw [if_pos (by omega)]
          refine ⟨by omega, by omega, fun j hj hji => ?_⟩
          rcases (by omega : j = i ∨ j = i + 1) with rfl | rfl
          · exact hb
          · exact hc
        · rw [if_neg (by omega)]
          refine ⟨h1, by omega, fun j hj hji => ?_⟩
          by_cases e : j = i + 1
          · subst e; exact hc
          · exact h3 j hj (by omega)
theorem rT_ok (m : B256) : ∀ i, i ≤ 256 → ∀ r ∈ rT m i, okR r := by
  intro i
  induction i with
  | zero => intro _ r h; cases h
  | succ i ih =>
    intro hi r h
    unfold rT at h
    cases hb : (m.getLsbD i && !m.getLsbD (i + 1)) with
    | false => rw [hb] at h; exact ih (by omega) r h
    | true =>
      rw [hb, cond_true, List.mem_append, List.mem_singleton] at h
      rcases h with h | rfl
      · exact ih (by omega) r h
      · rcases fT_inv m i with hf | hf
        · exact ⟨by simp only; rw [if_pos (by omega)]; exact Nat.le_refl _, by simp only; omega⟩
        · exact ⟨by simp only; rw [if_neg (by omega)]; omega, by simp only; omega⟩
theorem wT_map (m : B256) : ∀ i, wT m i = (rT m i).map wordR := by
  intro i
  induction i with
  | zero => rfl
  | succ i ih =>
    unfold wT rT
    cases (m.getLsbD i && !m.getLsbD (i + 1)) with
    | false => exact ih
    | true =>
      rw [cond_true, cond_true, List.map_append, ih]
      congr 1
      show [wordB (fT m i) i] = [wordR _]
      congr 1
      unfold wordB wordR
      rcases fT_inv m i with hf | hf
      · have h0 : fT m i < 0 := by omega
        simp only [if_pos h0, if_true]
      · have h0 : ¬ fT m i < 0 := by omega
        have h1 : ((fT m i).toNat : Int) = fT m i := by omega
        simp only [if_neg h0]
        rw [if_neg (by omega), h1]
theorem fold_bit (m : B256) : ∀ i, i ≤ 256 → ∀ j, ((rT m i).foldl addR 0#256).getLsbD j = (m.getLsbD j && (decide (j < i) && !(decide (0 ≤ fT m i) && decide (fT m i ≤ j)))) := by
  intro i
  induction i with
  | zero => intro _ j; simp [rT]
  | succ i ih =>
    intro hi j
    have h := ih (by omega) j
    have hrun := fT_run m i
    cases hb : m.getLsbD i with
    | false =>
      have hs : (m.getLsbD i && !m.getLsbD (i + 1)) = false := by rw [hb]; rfl
      have e : rT m (i + 1) = rT m i := by show (bif _ then _ else _) = _; rw [hs]; rfl
      rw [e, h, fT_no hb]
      have hf : fT m i = -1 := by
        rcases hrun with h | ⟨h1, h2, h3⟩
        · exact h
        · have := h3 i (by omega) (Nat.le_refl _)
          rw [hb] at this; cases this
      rw [hf]
      by_cases ej : j = i
      · subst ej; rw [hb]; rfl
      · have : decide (j < i + 1) = decide (j < i) := decide_eq_decide.2 ⟨fun h => by omega, fun h => by omega⟩
        rw [this]
    | true =>
      cases hc : m.getLsbD (i + 1) with
      | true =>
        have hs : (m.getLsbD i && !m.getLsbD (i + 1)) = false := by rw [hb, hc]; rfl
        have e : rT m (i + 1) = rT m i := by show (bif _ then _ else _) = _; rw [hs]; rfl
        rw [e, h, fT_bit hb, hc, cond_true]
        congr 1
        rcases hrun with hf | ⟨h1, h2, h3⟩
        · rw [if_pos (by omega), hf]
          rw [Bool.eq_iff_iff]
          simp only [Bool.and_eq_true, Bool.not_eq_true', Bool.and_eq_false_iff, decide_eq_true_eq, decide_eq_false_iff_not]
          omega
        · rw [if_neg (by omega)]
          rw [Bool.eq_iff_iff]
          simp only [Bool.and_eq_true, Bool.not_eq_true', Bool.and_eq_false_iff, decide_eq_true_eq, decide_eq_false_iff_not]
          omega
      | false =>
        have hs : (m.getLsbD i && !m.getLsbD (i + 1)) = true := by rw [hb, hc]; rfl
        have e : rT m (i + 1) = rT m i ++ [(if fT m i < 0 then i else (fT m i).toNat, i)] := by show (bif _ then _ else _) = _; rw [hs]; rfl
        rw [e, List.foldl_append, fT_bit hb, hc, cond_false]
        show (fillR ((rT m i).foldl addR 0#256) (if fT m i < 0 then i else (fT m i).toNat) (i + 1 - (if fT m i < 0 then i else (fT m i).toNat))).getLsbD j = _
        rcases hrun with hf | ⟨h1, h2, h3⟩
        · rw [if_pos (by omega), fillR_bit _ _ _ _ (by omega), h, hf]
          by_cases ej : j = i
          · subst ej; rw [hb]; simp
          · rw [Bool.eq_iff_iff]
            simp only [Bool.or_eq_true, Bool.and_eq_true, Bool.not_eq_true', Bool.and_eq_false_iff, decide_eq_true_eq, decide_eq_false_iff_not]
            constructor
            · rintro (⟨a, b, c⟩ | ⟨a, b⟩)
              · exact ⟨a, by omega, by omega⟩
              · omega
            · rintro ⟨a, b, c⟩
              exact .inl ⟨a, by omega, by omega⟩
        · rw [if_neg (by omega), fillR_bit _ _ _ _ (by omega), h]
          rw [Bool.eq_iff_iff]
          simp only [Bool.or_eq_true, Bool.and_eq_true, Bool.not_eq_true', Bool.and_eq_false_iff, decide_eq_true_eq, decide_eq_false_iff_not]
          constructor
          · rintro (⟨a, b, c⟩ | ⟨a, b⟩)
            · exact ⟨a, by omega, by omega⟩
            · exact ⟨h3 j (by omega) (by omega), by omega, by omega⟩
          · rintro ⟨a, b, c⟩
            by_cases ej : fT m i ≤ j
            · exact .inr ⟨by omega, by omega⟩
            · by_cases ei : j = i
              · omega
              · exact .inl ⟨a, by omega, by omega⟩
theorem fold_all (m : B256) : (rT m 256).foldl addR 0#256 = m := by
  apply wd_ext
  intro j hj
  rw [fold_bit m 256 (Nat.le_refl _), decide_eq_true hj]
  have hf : fT m 256 = -1 := by
    rcases fT_run m 256 with h | ⟨h1, h2, h3⟩
    · exact h
    · have := h3 256 (by omega) (Nat.le_refl _)
      rw [BitVec.getLsbD_of_ge _ _ (by omega)] at this; cases this
  rw [hf]
  simp
theorem text_J (m : B256) (h : isE (wT m 256) = false) : textB m = J (wT m 256) := by
  unfold textB
  rw [h, cond_false]
  apply bext
  show joinV (rowX (wT m 256)) ⟨#[44]⟩ = Lib.join ((wT m 256).map (·.data.toList)) [44]
  unfold joinV rowX
  simp only [List.map_map]
  rfl
theorem J_size : ∀ (rs : List (Nat × Nat)) (r : Nat × Nat), rs.length + 1 ≤ (J ((r :: rs).map wordR)).size := by
  intro rs
  induction rs with
  | nil =>
    intro r
    show 1 ≤ (J [wordR r]).size
    rw [J_one]
    have e : (wordR r).data.toList.length = (wordR r).size := rfl
    rw [← e, wordR_data]
    split
    · exact (dig3_len _).2
    · rw [List.length_append, List.length_cons]; omega
  | cons r' rs ih =>
    intro r
    have h := ih r'
    have e : ∀ b : ByteArray, b.data.toList.length = b.size := fun _ => rfl
    have hd := J_cons (wordR r) (wordR r') (rs.map wordR)
    show rs.length + 1 + 1 ≤ (J (wordR r :: wordR r' :: rs.map wordR)).size
    have h' : rs.length + 1 ≤ (J (wordR r' :: rs.map wordR)).size := h
    rw [← e, hd, List.length_append, List.length_cons, e, e]
    omega
theorem text_nil (m : B256) (h : isE (wT m 256) = true) : m = 0#256 := by
  have h1 := isE_nil h
  rw [wT_map] at h1
  have h2 : rT m 256 = [] := by
    cases hr : rT m 256 with
    | nil => rfl
    | cons x r => rw [hr] at h1; cases h1
  have := fold_all m
  rw [h2] at this
  exact this.symm
theorem parse_text (m : B256) (h : isE (wT m 256) = false) : parseM (textB m) = m ∧ 1 ≤ (textB m).size := by
  rw [text_J m h, wT_map]
  cases hr : rT m 256 with
  | nil => rw [wT_map, hr] at h; cases h
  | cons r rs =>
    have hs := J_size rs r
    refine ⟨?_, by omega⟩
    unfold parseM
    rw [parse_runs rs r _ 0#256 (fun x hx => rT_ok m 256 (Nat.le_refl _) x (by rw [hr]; exact hx)) (by omega), ← hr, fold_all]
theorem text_size (m : B256) : (textB m).size ≤ 2048 := by
  unfold textB
  cases isE (wT m 256) with
  | true => show 0 ≤ 2048; omega
  | false =>
    have h1 := join_len (wT m 256) (wT_sizes m 256)
    have h2 := wT_len m 256
    have e : (bif false then (⟨⟨[]⟩⟩ : ByteArray) else ⟨(joinV (rowX (wT m 256)) ⟨#[44]⟩).toArray⟩).size = (joinV (rowX (wT m 256)) ⟨#[44]⟩).length := rfl
    rw [e]
    omega
end
end Go.Proofs.YtmpokdnpkjcnbaaDoor

/- The text of a mask, read, is the mask; any text tells one at most. -/
namespace Go.Proofs.YtmpokdnpkjcnbaaDoor
open Go.Am
noncomputable section
theorem same_of {a b : ByteArray} (h : (a.toList == b.toList) = true) : a = b := by
  rw [ByteArray.toList_eq, ByteArray.toList_eq, beq_iff_eq] at h
  exact bext h
theorem size_of {a : ByteArray} (h : (a.toList == (⟨#[]⟩ : ByteArray).toList) = true) : a.size = 0 := by
  rw [same_of h]; rfl
theorem wT_zero : ∀ i, wT 0#256 i = [] := by
  intro i
  induction i with
  | zero => rfl
  | succ i ih =>
    have hs : ((0#256 : B256).getLsbD i && !(0#256 : B256).getLsbD (i + 1)) = false := by simp
    rw [wT_same hs, ih]
theorem text_zero : textB 0#256 = ⟨#[]⟩ := by
  unfold textB
  rw [wT_zero]; rfl
/-- Parse of a mask's text -/
theorem par_text (m : B256) : (∀ k, parW (textB m) k = wd m k) ∧ parE (textB m) = 0 := by
  cases he : isE (wT m 256) with
  | true =>
    have h0 := text_nil m he
    subst h0
    rw [text_zero]
    exact ⟨fun k => by unfold parW; rw [beq_self_eq_true, cond_true, wd_zero], by unfold parE isOk; rw [beq_self_eq_true]; rfl⟩
  | false =>
    obtain ⟨h1, h2⟩ := parse_text m he
    have h3 : ((textB m).toList == (⟨#[]⟩ : ByteArray).toList) = false := by
      cases h : ((textB m).toList == (⟨#[]⟩ : ByteArray).toList) with
      | false => rfl
      | true => have := size_of h; omega
    refine ⟨fun k => ?_, ?_⟩
    · unfold parW
      rw [h3, h1, beq_self_eq_true]; rfl
    · unfold parE isOk
      rw [h3, h1, beq_self_eq_true]; rfl
/-- Parse of any text -/
theorem par_any (s : ByteArray) : (parE s = 0 ∧ ∃ m, (∀ k, parW s k = wd m k) ∧ textB m = s) ∨ (parE s = 5 ∧ ∀ k, parW s k = 0) := by
  unfold parE isOk
  cases h1 : (s.toList == (⟨#[]⟩ : ByteArray).toList) with
  | true =>
    left
    refine ⟨rfl, 0#256, fun k => ?_, ?_⟩
    · unfold parW; rw [h1, wd_zero]; rfl
    · rw [text_zero]; exact (same_of h1).symm
  | false =>
    cases h2 : ((textB (parseM s)).toList == s.toList) with
    | true =>
      left
      refine ⟨rfl, parseM s, fun k => ?_, same_of h2⟩
      unfold parW; rw [h1, h2]; rfl
    | false =>
      right
      refine ⟨rfl, fun k => ?_⟩
      unfold parW; rw [h1, h2]; rfl
theorem frzT_eq {F F' : Array Value → DT (Option (Value × St))} (h : ∀ a, (F a).eval = (F' a).eval) (a : Array Value) (c : Ctx) (s : St) : (frzT F a c s).eval = (frzT F' a c s).eval := by
  unfold frzT
  rw [DT.eval_bind, DT.eval_bind, DT.eval_must, DT.eval_must]
  congr 1
  rw [DT.eval_bind, DT.eval_bind, h]
end
end Go.Proofs.YtmpokdnpkjcnbaaDoor
