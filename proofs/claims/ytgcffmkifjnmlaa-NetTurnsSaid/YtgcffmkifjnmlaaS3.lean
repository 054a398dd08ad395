/- Are two lists of texts the same: told. -/
import Derived.Test.YtgcffmkifjnmlaaS2
namespace Go.Proofs.Ytgcffmkifjnmlaa
open Go.Am
noncomputable section

def strB (X : Array Value) : Bool := X.toList.all fun v => match v with | .string _ => true | _ => false
theorem strB_ok {X : Array Value} (h : strB X = true) : Str X := by
  intro i x hx
  have hm : x ∈ X.toList := by
    obtain ⟨hi, rfl⟩ := Array.getElem?_eq_some_iff.1 hx
    exact Array.getElem_mem_toList hi
  have := List.all_eq_true.1 h x hm
  split at this
  · exact ⟨_, rfl⟩
  · cases this
theorem strB_of {X : Array Value} (h : Str X) : strB X = true := by
  unfold strB
  rw [List.all_eq_true]
  intro x hx
  obtain ⟨b, rfl⟩ := h.mem x hx
  rfl

/-- May the answer be told? -/
def sameChk (c : Ctx) (s : St) (x y : Nat) (X Y : Array Value) (ox la oy lb : Nat) : Bool :=
  c.wr x && (c.wr y && (!Nat.beq x y && (Nat.ble c.floor s.next && (strB X && (strB Y && (decide (ox + la ≤ X.size) && (decide (oy + lb ≤ Y.size) && decide (la ≤ 4294967296))))))))

def sameT : HandT := fun args c s =>
  match args with
  | ⟨[.slice (some ⟨x, ox, none⟩) la _, .slice (some ⟨y, oy, none⟩) lb _]⟩ =>
    (match s.look c x, s.look c y with
    | some (.cells X 1 _), some (.cells Y 1 _) => .node (sameChk c s x y X Y ox la oy lb) (.leaf (some (.ret (.bool (sameB X Y ox oy la lb)), s))) (.leaf none)
    | _, _ => .leaf none)
  | _ => .leaf none
def sameHand : Hand := fun args c s => (sameT args c s).eval

theorem b13_i : cfg1.fns 13 = some { body := b13, nt := 26, results := [.tmp 4], pure := false } := by kernel_rfl
theorem fr13 (ox la ca oy lb cb : Nat) : frame0 13 26 #[.slice (some ⟨0, ox, none⟩) la ca, .slice (some ⟨1, oy, none⟩) lb cb] = frS0 ox la ca oy lb cb := rfl

theorem ren_slice (e : Nat → Nat) {m i o l cp : Nat} (hi : i < m) : VRen e m (.slice (some ⟨i, o, none⟩) l cp) (.slice (some ⟨e i, o, none⟩) l cp) := by
  have := Vrel.slice (φ := emb e) (c := cAll) (n := m) i o l cp ⟨hi, rfl⟩
  simpa [emb] using this
theorem ren_row (e : Nat → Nat) {m : Nat} {X : Array Value} (h : Str X) (sz : Nat) (sp : Bool) : ObRen e m (.cells X sz sp) (.cells X sz sp) :=
  ⟨rfl, rfl, rfl, fun k x x' hx hx' => by
    rw [hx] at hx'; cases hx'
    obtain ⟨b, rfl⟩ := h k x hx
    exact .string b⟩

def two (x y : Nat) : Nat → Nat := fun i => if i = 0 then x else y
theorem two0 (x y : Nat) : two x y 0 = x := rfl
theorem two1 (x y : Nat) : two x y 1 = y := rfl
theorem lt2 {i : Nat} (h : i < 2) : i = 0 ∨ i = 1 := by omega

theorem same_reads : Reads cfg1 13 sameHand := by
  intro base args c s r s' h
  unfold sameHand sameT at h
  split at h
  · rename_i x ox la ca y oy lb cb
    split at h
    · rename_i X px Y py hX hY
      rw [DT.eval_node] at h
      cases hchk : sameChk c s x y X Y ox la oy lb with
      | false => rw [hchk] at h; cases h
      | true =>
        rw [hchk] at h
        simp only [cond_true, DT.eval_leaf, Option.some.injEq, Prod.mk.injEq] at h
        obtain ⟨rfl, rfl⟩ := h
        refine ⟨rfl, fun φ ω w args' hs ha => ?_⟩
        simp only [sameChk, Bool.and_eq_true, Bool.not_eq_true', decide_eq_true_eq] at hchk
        obtain ⟨wx, wy, hne, hfl, sX, sY, h1, h2, h3⟩ := hchk
        have hne' : x ≠ y := fun e => by subst e; simp at hne
        have hX' := look_some hX
        have hY' := look_some hY
        have SX := strB_ok sX
        have SY := strB_ok sY
        have V : View base 0 c s { floor := (sS X Y px py).next, own := [], hide := [] } (sS X Y px py) (two x y) := by
          refine ⟨rfl, by simpa using hfl, fun i hi => ?_, fun i j hi hj he => ?_, fun i o ho => ?_, fun i hi hw => ?_, fun i hi => ?_, Nat.zero_le _⟩
          · rcases lt2 hi with rfl | rfl
            · exact ⟨hs.dom _ _ hX'.2, hX'.1⟩
            · exact ⟨hs.dom _ _ hY'.2, hY'.1⟩
          · rcases lt2 hi with rfl | rfl <;> rcases lt2 hj with rfl | rfl
            · rfl
            · exact (hne' he).elim
            · exact (hne' he.symm).elim
            · rfl
          · simp only [sS] at ho
            rw [Tr.get_put] at ho
            split at ho
            · rename_i e
              subst e; cases ho
              exact ⟨by show 1 < 2; omega, _, hY'.2, ren_row _ SY _ _⟩
            · rw [Tr.get_put] at ho
              split at ho
              · rename_i e
                subst e; cases ho
                exact ⟨by show 0 < 2; omega, _, hX'.2, ren_row _ SX _ _⟩
              · rw [Tr.get_nil] at ho; cases ho
          · exfalso
            have hi' : i < 2 := hi
            have hw' : (decide (2 ≤ i) || false) = true := hw
            simp at hw'
            omega
          · have e1 := hs.bf x wx
            have e2 := hs.bf y wy
            rcases lt2 hi with rfl | rfl
            · rw [two0]; omega
            · rw [two1]; omega
        have hA : AWp cfg1 ⟨0, base.blk⟩ { floor := (sS X Y px py).next, own := [], hide := [] } b13 (frame0 13 26 #[.slice (some ⟨0, ox, none⟩) la ca, .slice (some ⟨1, oy, none⟩) lb cb]) (sS X Y px py) fun ex fr' s' => (ex = .normal ∨ ex = .ret) ∧ resultsV cfg1 { floor := (sS X Y px py).next, own := [], hide := [] } fr' s' [.tmp 4] = some (.bool (sameB X Y ox oy la lb)) :=
          same_ok SX SY h1 h2 h3
        refine read_call good1 rfl b13_i V (argsi := #[.slice (some ⟨0, ox, none⟩) la ca, .slice (some ⟨1, oy, none⟩) lb cb]) (args := #[.slice (some ⟨x, ox, none⟩) la ca, .slice (some ⟨y, oy, none⟩) lb cb]) (by show 2 ≤ 26; omega) rfl (fun k u u' hu hu' => ?_) rfl hA hs ha
        match k with
        | 0 =>
          simp at hu hu'; subst hu hu'
          exact ren_slice (two x y) (i := 0) (by show 0 < 2; omega)
        | 1 =>
          simp at hu hu'; subst hu hu'
          exact ren_slice (two x y) (i := 1) (by show 1 < 2; omega)
        | k + 2 => simp at hu
    · cases h
  · cases h
end
end Go.Proofs.Ytgcffmkifjnmlaa
