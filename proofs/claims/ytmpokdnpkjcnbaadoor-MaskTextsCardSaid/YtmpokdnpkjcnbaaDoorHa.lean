/- Functions of the library, told by the shelf's contracts. -/
import Derived.Test.YtmpokdnpkjcnbaaDoorGood
import Derived.Test.YtmpokdnpkjcnbaaDoorSHH
import Derived.Test.YtmpokdnpkjcnbaaDoorAmShelf
import Derived.Lib.AppendIntMem
import Derived.Lib.AtoiErrMem
namespace Go.Proofs.YtmpokdnpkjcnbaaDoor
open Go.Am Go.RowKit
noncomputable section
/-- the library's table of powers of ten, as the program lays it -/
def tabRow : Array Value := (Lib.pow10Tab.map fun z => Value.int .u64 z).toArray
def tabG : Nat := 5
theorem tab_named : Tryd.prog.globalNamed "internal/strconv.uint64pow10" = some tabG := by kernel_rfl
def synG : Nat := 3
def rngG : Nat := 4
/-- The library's tables are there, and its two errors. -/
class Tab [Z : Zone] : Prop where
  row : Zone.whole tabRow tabG 0
  size : ∀ X', Zone.says tabG X' → X'.size = tabRow.size
  syn : Zone.whole #[] synG 0
  synV : ∀ X', Zone.says synG X' → ∃ tp p, X' = #[Value.iface tp p]
  rng : Zone.whole #[] rngG 0
  rngV : ∀ X', Zone.says rngG X' → ∃ tp p, X' = #[Value.iface tp p]
theorem syn_is [Z : Zone] [T : Tab] {g : Cfg} {base : Base} {φ : Nat → Pl} {ω : Nat → Option Tag} {c : Ctx} {s : St} {w : World} (hs : SRel g base φ ω c s w) : ∃ tp p, w.cell? ⟨synG, 0, none⟩ = some (.iface tp p) := by
  obtain ⟨_, X', el, fz, h1, h2, h3⟩ := hs.zone _ _ _ (Zone.sub _ _ _ T.syn)
  obtain ⟨tp, p, rfl⟩ := T.synV X' (h3 T.syn)
  exact ⟨tp, p, by simp [World.cell?, h1]⟩
theorem rng_is [Z : Zone] [T : Tab] {g : Cfg} {base : Base} {φ : Nat → Pl} {ω : Nat → Option Tag} {c : Ctx} {s : St} {w : World} (hs : SRel g base φ ω c s w) : ∃ tp p, w.cell? ⟨rngG, 0, none⟩ = some (.iface tp p) := by
  obtain ⟨_, X', el, fz, h1, h2, h3⟩ := hs.zone _ _ _ (Zone.sub _ _ _ T.rng)
  obtain ⟨tp, p, rfl⟩ := T.rngV X' (h3 T.rng)
  exact ⟨tp, p, by simp [World.cell?, h1]⟩
theorem tab_is [Z : Zone] [T : Tab] {g : Cfg} {base : Base} {φ : Nat → Pl} {ω : Nat → Option Tag} {c : Ctx} {s : St} {w : World} (hs : SRel g base φ ω c s w) : Lib.TabIs Tryd.prog w "internal/strconv.uint64pow10" .u64 Lib.pow10Tab := by
  obtain ⟨_, X', el, fz, h1, h2, h3⟩ := hs.zone _ _ _ (Zone.sub _ _ _ T.row)
  have hsz : X'.size = tabRow.size := T.size X' (h3 T.row)
  have e : X' = tabRow := by
    refine Array.ext (by omega) fun i hi hj => ?_
    obtain ⟨x', h4, h5⟩ := h2 i _ (Array.getElem?_eq_getElem hj)
    rw [Nat.zero_add, Array.getElem?_eq_getElem hi] at h4
    cases h4
    have hint : ∃ z, tabRow[i] = Value.int .u64 z := by
      simp [tabRow]
    obtain ⟨z, hz⟩ := hint
    exact plain_eq 9 _ _ (by rw [hz]; rfl) h5
  unfold Lib.TabIs World.var?
  rw [tab_named, Option.bind_some, h1, e]
  rfl
/-! the same, as the kernel reckons it -/
def fidx : List UInt8 → UInt8 → Nat → Int
  | [], _, _ => -1
  | b :: l, c, k => cond (Nat.beq b.toNat c.toNat) k (fidx l c (k + 1))
theorem fidx_eq (l : List UInt8) (c : UInt8) : ∀ k, fidx l c k = if Lib.indexByte l c = -1 then -1 else Lib.indexByte l c + (k : Int) := by
  induction l with
  | nil => intro k; rfl
  | cons b l ih =>
    intro k
    unfold fidx Lib.indexByte
    by_cases e : b = c
    · subst e
      simp
    · have hb : Nat.beq b.toNat c.toNat = false := by
        cases h : Nat.beq b.toNat c.toNat with
        | false => rfl
        | true => exact (e (UInt8.toNat_inj.1 (Nat.eq_of_beq_eq_true h))).elim
      have hb2 : (b == c) = false := by simpa using e
      rw [hb, hb2, cond_false, ih (k + 1)]
      have := Lib.indexByte_ge l c
      by_cases h : Lib.indexByte l c = -1
      · simp [h]
      · have h2 : (Lib.indexByte l c == -1) = false := by simpa using h
        simp only [h, if_false, h2, Bool.false_eq_true]
        rw [if_neg (by omega)]
        push_cast
        omega
theorem fidx_ok (l : List UInt8) (c : UInt8) : Lib.indexByte l c = fidx l c 0 := by
  rw [fidx_eq]
  split
  · assumption
  · simp
def dg (n : Nat) : UInt8 := UInt8.ofNat (48 + n)
/-- the digits of a number below 1000 -/
def dig3 (n : Nat) : List UInt8 := cond (Nat.blt n 10) [dg n] (cond (Nat.blt n 100) [dg (n / 10), dg (n % 10)] [dg (n / 100), dg (n / 10 % 10), dg (n % 10)])
theorem blt_eq (a b : Nat) : Nat.blt a b = decide (a < b) := by
  cases h : Nat.blt a b with
  | true => exact (decide_eq_true (by simpa using h)).symm
  | false => exact (decide_eq_false (fun hh => by have : Nat.blt a b = true := by simpa using hh
                                                  rw [h] at this; cases this)).symm
theorem dig3_ok {n : Nat} (h : n < 1000) : Lib.decDigits n = dig3 n := by
  unfold dig3
  rw [blt_eq, blt_eq]
  by_cases h1 : n < 10
  · rw [decide_eq_true h1, cond_true]; exact Lib.decDigits_one h1
  · rw [decide_eq_false h1, cond_false]
    by_cases h2 : n < 100
    · rw [decide_eq_true h2, cond_true]; exact Lib.decDigits_two h1 h2
    · rw [decide_eq_false h2, cond_false, Lib.decDigits, dif_neg h1, Lib.decDigits_two (by omega) (by omega)]
      show [_, _] ++ [_] = _
      rw [Nat.div_div_eq_div_mul]
      rfl
theorem itoa3_ok {n : Nat} (h : n < 1000) : Lib.itoa (n : Int) = dig3 n := by
  unfold Lib.itoa
  rw [if_neg (by omega), Int.toNat_natCast, dig3_ok h]
section
variable {g : Cfg}
theorem args_plain {φ : Nat → Pl} {c : Ctx} {n : Nat} {args args' : Array Value} [Z : Zone] (h : Arel φ c n args args') (hp : args.all (plainN 9) = true) : args' = args := by
  refine Array.ext h.1.symm fun i hi hj => ?_
  have := h.2 i _ _ (Array.getElem?_eq_getElem hj) (Array.getElem?_eq_getElem hi)
  exact plain_eq 9 _ _ (by rw [Array.all_eq_true] at hp; exact hp i hj) this
/-- where a byte is in a text -/
def idxF (args : Array Value) (_ : Ctx) (_ : St) : DT (Option Value) :=
  match args with
  | ⟨[.string s, .string ⟨⟨[x]⟩⟩]⟩ => .leaf (some (.int .i64 (fidx s.data.toList x 0)))
  | _ => .leaf none
theorem idx_ok [Z : Zone] (hP : g.P = Tryd.prog) : ShelfOk g 63 idxF := by
  intro args c s v h
  unfold idxF at h
  split at h
  · rename_i t x
    cases h
    refine ⟨rfl, fun base φ ω w args' hs ha => ?_⟩
    rw [args_plain ha (by simp [plainN]), hP]
    have := Tryd.stringslite_Index_one t x w
    rw [fidx_ok] at this
    exact this.mono fun e w' ⟨h1, h2⟩ => ⟨h1, by rw [h2]; exact Below.refl _ _⟩
  · cases h
/-- the number that a text tells -/
def atoiF (args : Array Value) (_ : Ctx) (_ : St) : DT (Option Value) :=
  match args with
  | ⟨[.string s]⟩ => .must (decide (s.size ≤ 18) && (Lib.atoi s.data.toList).isSome) (.leaf (some (.tuple #[.int .i64 ((Lib.atoi s.data.toList).getD 0), .nilIface]))) (.leaf none)
  | _ => .leaf none
theorem atoi_ok [Z : Zone] (hP : g.P = Tryd.prog) : ShelfOk g 55 atoiF := by
  intro args c s v h
  unfold atoiF at h
  split at h
  · rename_i t
    rw [DT.eval_must] at h
    cases hc : (decide (t.size ≤ 18) && (Lib.atoi t.data.toList).isSome) with
    | false => rw [hc] at h; cases h
    | true =>
      rw [hc, cond_true, DT.eval_leaf] at h
      simp only [Bool.and_eq_true, decide_eq_true_eq, Option.isSome_iff_exists] at hc
      obtain ⟨h1, n, h2⟩ := hc
      rw [h2] at h
      cases h
      refine ⟨by simp [plainN], fun base φ ω w args' hs ha => ?_⟩
      rw [args_plain ha (by simp [plainN]), hP]
      exact (Tryd.strconv_Atoi t n h1 h2 w).mono fun e w' ⟨h3, t', h4⟩ => ⟨h3, by rw [h4]; exact Lib.bytesWorld_below _ _ _⟩
  · cases h
/-- a number's text -/
def itoaF (args : Array Value) (_ : Ctx) (_ : St) : DT (Option Value) :=
  match args with
  | ⟨[.int .i64 n]⟩ => .must (decide (0 ≤ n) && decide (n < 1000)) (.leaf (some (.string ⟨⟨dig3 n.toNat⟩⟩))) (.leaf none)
  | _ => .leaf none
theorem itoa_ok [Z : Zone] [T : Tab] (hP : g.P = Tryd.prog) : ShelfOk g 44 itoaF := by
  intro args c s v h
  unfold itoaF at h
  split at h
  · rename_i n
    rw [DT.eval_must] at h
    cases hc : (decide (0 ≤ n) && decide (n < 1000)) with
    | false => rw [hc] at h; cases h
    | true =>
      rw [hc, cond_true, DT.eval_leaf] at h
      simp only [Bool.and_eq_true, decide_eq_true_eq] at hc
      cases h
      refine ⟨rfl, fun base φ ω w args' hs ha => ?_⟩
      rw [args_plain ha (by simp [plainN]), hP]
      have := Tryd.strconv_Itoa n (by omega) (by omega) w (tab_is hs)
      have e : Lib.itoa n = dig3 n.toNat := by
        have := itoa3_ok (n := n.toNat) (by omega)
        rwa [Int.toNat_of_nonneg hc.1] at this
      rw [e] at this
      exact this.mono fun e w' ⟨h3, k, os, h4⟩ => ⟨h3, by rw [h4]; exact Lib.below_grow _ _ (Nat.le_refl _) _ _⟩
  · cases h
end
end
end Go.Proofs.YtmpokdnpkjcnbaaDoor
