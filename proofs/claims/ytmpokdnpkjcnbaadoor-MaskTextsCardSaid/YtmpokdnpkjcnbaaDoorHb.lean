/- strings.Join, told by the shelf's contract; the tables of told functions. -/
import Derived.Test.YtmpokdnpkjcnbaaDoorHa
import Derived.Test.YtmpokdnpkjcnbaaDoorAmEff
namespace Go.Proofs.YtmpokdnpkjcnbaaDoor
open Go.Am Go.RowKit
noncomputable section
def strB (v : Value) : ByteArray := match v with | .string b => b | _ => ⟨#[]⟩
def isSt (v : Value) : Bool := match v with | .string _ => true | _ => false
def joinV (M : Array Value) (sep : ByteArray) : List UInt8 := Lib.join ((M.toList.map strB).map (·.data.toList)) sep.data.toList
/-- words, joined -/
def joinF (args : Array Value) (c : Ctx) (s : St) : DT (Option Value) :=
  match args with
  | ⟨[.slice none 0 _, .string _]⟩ => .leaf (some (.string ⟨#[]⟩))
  | ⟨[.slice (some ⟨id, 0, none⟩) l cp, .string sep]⟩ => (match s.heap.get id with
    | some (.cells M _ _) => .must (c.vis id && (decide (l = M.size) && (decide (l ≤ cp) && (M.toList.all isSt && (decide (M.size ≠ 0) && (decide (M.size ≤ 1048576) && decide ((joinV M sep).length ≤ 1099511627776))))))) (.leaf (some (.string ⟨(joinV M sep).toArray⟩))) (.leaf none)
    | _ => .leaf none)
  | _ => .leaf none
theorem two_rel [Z : Zone] {φ : Nat → Pl} {c : Ctx} {n : Nat} {x y : Value} {args' : Array Value} (h : Arel φ c n ⟨[x, y]⟩ args') : ∃ x' y', args' = #[x', y'] ∧ Vrel φ c n x x' ∧ Vrel φ c n y y' := by
  obtain ⟨hs, hr⟩ := h
  obtain ⟨l⟩ := args'
  match l, hs with
  | [x', y'], _ => exact ⟨x', y', rfl, hr 0 _ _ rfl rfl, hr 1 _ _ rfl rfl⟩
section
variable {g : Cfg}
theorem join_ok [Z : Zone] (hP : g.P = Tryd.prog) : ShelfOk g 45 joinF := by
  intro args c s v h
  unfold joinF at h
  split at h
  · rename_i cp sep
    cases h
    refine ⟨rfl, fun base φ ω w args' hs ha => ?_⟩
    obtain ⟨x', y', rfl, hx, hy⟩ := two_rel ha
    rw [hP]
    cases hx
    cases hy
    exact (Tryd.strings_Join_none none cp sep w).mono fun e w' ⟨h1, h2⟩ => ⟨h1, by rw [h2]; exact Below.refl _ _⟩
  · rename_i id l cp sep
    split at h
    · rename_i M sz sp hg
      rw [DT.eval_must] at h
      cases hc : (c.vis id && (decide (l = M.size) && (decide (l ≤ cp) && (M.toList.all isSt && (decide (M.size ≠ 0) && (decide (M.size ≤ 1048576) && decide ((joinV M sep).length ≤ 1099511627776))))))) with
      | false => rw [hc] at h; cases h
      | true =>
      rw [hc, cond_true, DT.eval_leaf] at h
      cases h
      simp only [Bool.and_eq_true, decide_eq_true_eq] at hc
      obtain ⟨c1, c2, c3, c4, c5, c6, c7⟩ := hc
      subst c2
      refine ⟨rfl, fun base φ ω w args' hs ha => ?_⟩
      obtain ⟨x', y', rfl, hx, hy⟩ := two_rel ha
      rw [hP]
      obtain ⟨cs', el, fz, q1, _, _, q4⟩ := (hs.obj id _ hg c1).2 (.inl c5)
      cases hx
      cases hy
      have hlen : (M.toList.map strB).length = M.size := by simp
      have hcell : ∀ (j : Nat) x, (M.toList.map strB)[j]? = some x → w.cell? ⟨(φ id).blk, (φ id).off + 0 + j, none⟩ = some (.string x) := by
        intro j x hj
        rw [List.getElem?_map] at hj
        obtain ⟨y, hy1, rfl⟩ := Option.map_eq_some_iff.1 hj
        have hy2 : M[j]? = some y := by simpa using hy1
        obtain ⟨x', h1, h2⟩ := q4 j y hy2
        have hst : isSt y = true := by
          rw [List.all_eq_true] at c4
          exact c4 y (List.mem_of_getElem? hy1)
        cases y <;> simp [isSt] at hst
        cases h2
        unfold World.cell?
        simp only [q1, Nat.add_zero]
        exact h1
      have hb : (φ id).blk < w.heap.size := (Array.getElem?_eq_some_iff.1 q1).1
      have := Tryd.strings_Join (φ id).blk ((φ id).off + 0) (cp + (φ id).ex) (M.toList.map strB) sep w hcell hb (by rw [hlen]; omega) (by rw [hlen]; omega) (by unfold joinV at c7; omega)
      rw [hlen] at this
      exact this
    · cases h
  · cases h
/-- what the shelf tells -/
def TS : FuncId → Option (Array Value → Ctx → St → DT (Option Value))
  | 44 => some itoaF
  | 45 => some joinF
  | 55 => some atoiF
  | 63 => some idxF
  | _ => none
def cfA : Cfg := cfg.shelf TS
theorem goodA [Z : Zone] [T : Tab] (B : Base) : Go.Am.Good cfA B := shelf_good (fun B => good B) (fun f F h => by
  unfold TS at h
  split at h
  · cases h; exact ⟨Option.isSome_iff_exists.1 (show (cfg.fns 44).isSome = true by kernel_rfl), itoa_ok rfl⟩
  · cases h; exact ⟨Option.isSome_iff_exists.1 (show (cfg.fns 45).isSome = true by kernel_rfl), join_ok rfl⟩
  · cases h; exact ⟨Option.isSome_iff_exists.1 (show (cfg.fns 55).isSome = true by kernel_rfl), atoi_ok rfl⟩
  · cases h; exact ⟨Option.isSome_iff_exists.1 (show (cfg.fns 63).isSome = true by kernel_rfl), idx_ok rfl⟩
  · cases h) B
def tA : FuncId → Option HandT := treeS TS noT
theorem tA_ok : ∀ f k hd, tA f = some k → cfA.hand f = some hd → ∀ a c s, (k a c s).eval = hd a c s := treeS_ok noT_ok
end
end
end Go.Proofs.YtmpokdnpkjcnbaaDoor
