/- Masks as arguments; the library's table; the document's answers told. -/
import Derived.Test.YtmpokdnpkjcnbaaDoorN
import Derived.Test.YtmpokdnpkjcnbaaDoorLLL
import Derived.Test.YtmpokdnpkjcnbaaDoorTie
import Derived.Test.YtmpokdnpkjcnbaaDoorAmLaw
import Derived.Test.YtmpokdnpkjcnbaaDoorAmFlow
import Derived.ProofKit
import Derived.OpenShut
import Derived.LaidMore
import Derived.Lay
import Derived.SevenTiedAt
import Derived.Stop.Joined
namespace Go.Proofs.YtmpokdnpkjcnbaaDoor
open Go.Am Go.ChangeShapes Go.WideShapes Go.ChangeAt Go.RowKit
theorem shed_bool {s0 s' : St} {v : Value} {b : Bool} {s2 : St} (h : shed s0 s' v = some (.bool b, s2)) : v = .bool b := by
  unfold shed at h
  split at h
  · split at h
    · split at h <;> cases h
    · cases h
  · split at h
    · cases h; rfl
    · cases h
theorem tells9 [Z : Zone] [T : Tab] : Tells cfC 9 (fun a => (liveD a).eval) := by
  refine Tells.cfg (g := cfLL) (g' := cfC) rfl rfl (tells_call (i := _) (fun B => goodLL B) rfl (rfl : cfLL.fns 9 = some _) fun args y hx => ?_)
  try simp only at hx
  unfold liveD at hx
  split at hx
  · cases hx
    obtain ⟨v, s', h1, h2⟩ := of_seenOf live_true
    exact ⟨by simp, 400, v, s', h1, h2⟩
  · cases hx
theorem goodD [Z : Zone] [T : Tab] (B : Go.Am.Base) : Go.Am.Good cfD B := tells_good (fun B => goodC B) (fun f F h => by
  unfold TD at h
  split at h
  · cases h; exact ⟨⟨_, rfl⟩, tells9⟩
  · cases h) B
theorem tD_ok : ∀ f k hd, tD f = some k → cfD.hand f = some hd → ∀ a c s, (k a c s).eval = hd a c s := treeT_ok tC_ok
theorem tO_eq : tO p0 = tD := by
  funext f
  unfold tO
  split <;> rfl
theorem tO_ok : ∀ f k hd, tO p0 f = some k → cfD.hand f = some hd → ∀ a c s, (k a c s).eval = hd a c s := by rw [tO_eq]; exact tD_ok
/-- one path of a call's tree -/
theorem path_call {g : Cfg} {o : FuncId → Option HandT} (ho : ∀ f k hd, o f = some k → g.hand f = some hd → ∀ a c s, (k a c s).eval = hd a c s) {n : Nat} {f : FuncId} {args : Array Value} {bs : List Bool} {x : Value × St}
    (h1 : (followT bs (callT g o n (.func (.func f) #[] #[]) args (ctx0 0) st0)).1 = true) (h2 : pathObs seenOf bs (callT g o n (.func (.func f) #[] #[]) args (ctx0 0) st0) = some x) :
    ∃ v s', call g n (.func (.func f) #[] #[]) args (ctx0 0) st0 = some (.ret v, s') ∧ shed st0 s' v = some x := by
  unfold pathObs at h2
  split at h2
  · rename_i a ha
    have e := followT_eval _ _ h1 ha
    rw [callT_eval g o ho n] at e
    rw [← e] at h2
    exact of_seenOf h2
  · cases h2
theorem trod_ifaceV {P : Program} {w : World} {f : Nat} {t : TypeId} {ms : Array (String × TypeId)} {cs : List Value} {nm : String} {d : DataW Unit} {p : List MemPlace} {sp : Nat → Bool} (ht : P.underlying t = some (.interface ms))
    (h : DataW.trod (fun _ => ()) P w 0 sp false f t cs = some (.iface nm d, p)) : ∃ u v, cs = [.iface u v] := by
  cases f with
  | zero => simp [DataW.trod] at h
  | succ f =>
    unfold DataW.trod at h
    rw [ht] at h
    split at h <;> simp_all
theorem var_heap {W : World} {nm : String} {G : Nat} {cs : Array Value} (hg : Tryd.prog.globalNamed nm = some G) (hv : W.var? Tryd.prog nm = some cs) : ∃ el fz, W.heap[G]? = some (.cells cs el fz) := by
  simp only [World.var?, hg, Option.bind_some] at hv
  split at hv
  · rename_i cs' el fz hh
    cases hv
    exact ⟨el, fz, hh⟩
  · cases hv
/-- The library's table, as the row says that it is laid. -/
theorem tab_of {W : World} (h : laidMetH Tryd.prog Rows.maskAlgebraRow.laid W) : @Tab (zoneOf W) := by
  rw [MakeChecks.laidMetH_plain _ _ _ (by kernel_rfl)] at h
  obtain ⟨ps, ⟨g0, t0, cs0, f0, p0, q0, hg0, ht0, hv0, hd0, ⟨g1, t1, cs1, f1, p1, q1, hg1, ht1, hv1, hd1, ⟨g2, t2, cs2, f2, p2, q2, hg2, ht2, hv2, hd2, ⟨g3, t3, cs3, f3, p3, q3, hg3, ht3, hv3, hd3, ⟨g4, t4, cs4, f4, p4, q4, hg4, ht4, hv4, hd4, ⟨g5, t5, cs5, f5, p5, q5, hg5, ht5, hv5, hd5, _, _⟩, _⟩, _⟩, _⟩, _⟩, _⟩, _, _⟩ := h
  obtain rfl := Option.some.inj (tab_named.symm.trans hg2)
  obtain rfl := Option.some.inj ((show (Tryd.prog.globals[5]?).map (·.type) = some 123 by kernel_rfl).symm.trans ht2)
  obtain ⟨xs, m, _, ex, hcl, hl, hel⟩ := DataW.trod_array Tryd.underlying123 hd2
  have c22 : Tryd.prog.cellsOf 22 = 1 := by kernel_rfl
  have c123 : Tryd.prog.cellsOf 123 = 20 := by kernel_rfl
  rw [c123] at hcl
  have e3 : xs.map (·.1) = Lib.pow10Tab.map fun z => (.lit (.int .u64 z) : DataW Unit) := (DataW.agg.inj (Prod.mk.inj ex).1).symm.trans (by kernel_rfl)
  have hcs : cs2 = tabRow := by
    apply Array.ext'
    apply List.ext_getElem?
    intro r
    by_cases hr : r < 20
    · have hE := hel r hr
      rw [c22, Nat.mul_one, List.getElem?_eq_getElem (by omega)] at hE
      obtain ⟨z, e1, e2, _⟩ := DataW.trod_int Tryd.underlying22 hE
      have e4 : (xs.map (·.1))[r]? = (Lib.pow10Tab.map fun z => (.lit (.int .u64 z) : DataW Unit))[r]? := by rw [e3]
      have hlen : Lib.pow10Tab.length = 20 := Lib.pow10Tab_length
      rw [List.getElem?_map, List.getElem?_map, List.getElem?_eq_getElem (by omega : r < xs.length), List.getElem?_eq_getElem (by omega : r < Lib.pow10Tab.length), e2] at e4
      simp only [Option.map_some, Option.some.injEq, DataW.lit.injEq, Lit.int.injEq, true_and] at e4
      have : cs2.toList[r]? = some (.int .u64 z) := by
        have h0 : ((cs2.toList.drop r).take 1)[0]? = some (.int .u64 z) := by rw [e1]; rfl
        simpa using h0
      rw [this]
      show _ = (Lib.pow10Tab.map fun z => Value.int .u64 z).toArray.toList[r]?
      rw [List.getElem?_map, List.getElem?_eq_getElem (by omega : r < Lib.pow10Tab.length), ← e4]
      rfl
    · rw [List.getElem?_eq_none (by omega), List.getElem?_eq_none]
      show (Lib.pow10Tab.map fun z => Value.int .u64 z).toArray.toList.length ≤ r
      simp [Lib.pow10Tab_length]
      omega
  subst hcs
  have hb : ∃ el fz, W.heap[5]? = some (.cells tabRow el fz) := by
    simp only [World.var?, hg2, Option.bind_some] at hv2
    split at hv2
    · rename_i cs el fz hh
      cases hv2
      exact ⟨el, fz, hh⟩
    · cases hv2
  obtain ⟨el, fz, hb⟩ := hb
  obtain rfl := Option.some.inj ((show Tryd.prog.globalNamed "strconv.ErrRange" = some 4 by kernel_rfl).symm.trans hg4)
  obtain rfl := Option.some.inj ((show Tryd.prog.globalNamed "strconv.ErrSyntax" = some 3 by kernel_rfl).symm.trans hg5)
  obtain rfl := Option.some.inj ((show (Tryd.prog.globals[4]?).map (·.type) = some 77 by kernel_rfl).symm.trans ht4)
  obtain rfl := Option.some.inj ((show (Tryd.prog.globals[3]?).map (·.type) = some 77 by kernel_rfl).symm.trans ht5)
  obtain ⟨u4, v4, e4⟩ := trod_ifaceV Tryd.underlying77 hd4
  obtain ⟨u5, v5, e5⟩ := trod_ifaceV Tryd.underlying77 hd5
  obtain ⟨el4, fz4, hb4⟩ := var_heap hg4 hv4
  obtain ⟨el5, fz5, hb5⟩ := var_heap hg5 hv5
  refine @Tab.mk (zoneOf W) ⟨tabRow, el, fz, hb, fun i x hx => ⟨x, by rw [Nat.zero_add]; exact hx, ?_⟩⟩ ?_ ⟨cs5, el5, fz5, hb5, fun i x hx => by simp at hx⟩ ?_ ⟨cs4, el4, fz4, hb4, fun i x hx => by simp at hx⟩ ?_
  · obtain ⟨z, rfl⟩ : ∃ z, x = .int .u64 z := by
      have := Array.mem_of_getElem? hx
      simp only [tabRow, List.mem_toArray, List.mem_map] at this
      obtain ⟨z, _, rfl⟩ := this
      exact ⟨z, rfl⟩
    exact Abs.int _ _
  · rintro X' ⟨el', fz', hh⟩
    have := hb.symm.trans hh
    cases this
    rfl
  · rintro X' ⟨el', fz', hh⟩
    have := hb5.symm.trans hh
    cases this
    exact ⟨u5, v5, Array.ext' e5⟩
  · rintro X' ⟨el', fz', hh⟩
    have := hb4.symm.trans hh
    cases this
    exact ⟨u4, v4, Array.ext' e4⟩
theorem code24 : codeOf Tryd.prog 9 24 = some (.cons (.int .u64) (.cons (.int .u64) (.cons (.int .u64) (.cons (.int .u64) .nil)))) := by kernel_rfl
theorem wf_u64 {n : Int} (h : (Lit.int .u64 n).wf = true) : 0 ≤ n ∧ n < 18446744073709551616 := by
  have := bounds_u64 h
  omega
set_option maxRecDepth 100000 in
/-- a mask's argument -/
theorem arg_mask {H : Type} {enc : TypeId × Value → H} {W : World} {b : Nat} {v : Value} {d0 : DataW H} {q0 : List MemPlace} (o0 : Value.okWide Tryd.prog W .any b 24 v) (h0 : DataW.Trod enc Tryd.prog W 0 (fun _ => true) true 24 v d0 q0) :
    ∃ x y z w : B64, ∀ (φ : Nat → Pl) (c : Ctx) (n : Nat), @Vrel (zoneOf W) φ c n (mk (U x) (U y) (U z) (U w)) v := by
  obtain ⟨fuel, h0⟩ := h0
  unfold Value.okWide at o0
  rw [Tryd.underlying24] at o0
  obtain ⟨cs, rfl, _, _⟩ := o0
  obtain ⟨y, hw, hA⟩ := trod_abs 9 24 _ code24 fuel _ _ h0
  obtain ⟨y0, y1, y2, y3, u⟩ := y
  obtain ⟨w0, w1, w2, w3, _⟩ := hw
  obtain ⟨x0, rfl⟩ := u_rep (wf_u64 w0)
  obtain ⟨x1, rfl⟩ := u_rep (wf_u64 w1)
  obtain ⟨x2, rfl⟩ := u_rep (wf_u64 w2)
  obtain ⟨x3, rfl⟩ := u_rep (wf_u64 w3)
  refine ⟨x0, x1, x2, x3, fun φ c n => ?_⟩
  refine @Vrel.agg (zoneOf W) φ c n _ _ ?_ fun i x x' hx hx' => ?_
  · have := hA.1
    show 4 = cs.size
    have h6 : cs.toList.length = cs.size := rfl
    rw [← h6]; exact this
  · have hx2 : ([.int .u64 (U x0), .int .u64 (U x1), .int .u64 (U x2), .int .u64 (U x3)] : List Value)[i]? = some x := by simpa using hx
    refine (hA.2 i x x' hx2 ?_).vrel φ c n
    · show cs.toList[i]? = some x'
      rw [Array.getElem?_toList]; exact hx'
end Go.Proofs.YtmpokdnpkjcnbaaDoor
