/- Slices: appended to, copied, cleared. -/
import Derived.Test.YtgcffmkifjnmlaaAmOps5
namespace Go.Am
section
variable {g : Cfg} {base : Base} {c : Ctx} {φ : Nat → Pl} {ω : Nat → Option Tag} {lam : Nat → Nat} {fr : Fr} {s : St} {rs : List Nat} {a : Act} {w w' : World}

theorem extract_arel {φ : Nat → Pl} {c : Ctx} {n off : Nat} {cs cs' : Array Value} (h : RowHas φ c n cs' off cs) {i j : Nat} (hj : j ≤ cs.size) (hij : i ≤ j) (hsz : off + j ≤ cs'.size) : Arel φ c n (cs.extract i j) (cs'.extract (off + i) (off + j)) := by
  refine ⟨by simp; omega, fun k x x' hx hx' => ?_⟩
  rw [Array.getElem?_extract] at hx hx'
  split at hx
  · split at hx'
    · obtain ⟨y, hy, hv⟩ := h _ _ hx
      rw [show off + (i + k) = off + i + k by omega] at hy
      rw [hy] at hx'; cases hx'; exact hv
    · cases hx'
  · cases hx

theorem rowSize {φ : Nat → Pl} {c : Ctx} {n off : Nat} {cs cs' : Array Value} (h : RowHas φ c n cs' off cs) {k : Nat} (hk : k ≤ cs.size) (h0 : k ≠ 0) : off + k ≤ cs'.size := by
  cases k with
  | zero => exact (h0 rfl).elim
  | succ k =>
    obtain ⟨x', hx', _⟩ := h k cs[k] (Array.getElem?_eq_getElem (by omega))
    have := (Array.getElem?_eq_some_iff.1 hx').1
    omega

theorem extract_all (b : ByteArray) : b.extract 0 b.size = b := by
  apply ByteArray.ext
  simp [ByteArray.data_extract]

/-- The cells that are appended, or copied. -/
theorem cellsOf_run (hs : SRel g base φ ω c s w) {size n : Nat} {x x' : Value} {cells : Array Value} (hx : Vrel φ c s.next x x') (h : cellsOf? c s size n x = some cells) :
    ∃ cells', (∀ W : World, W.heap = w.heap → (Builtin.firstCells size n x').run g.P W = .ok cells' W) ∧ Arel φ c s.next cells cells' := by
  unfold cellsOf? at h
  split at h
  · rename_i id o l cp
    replace h := bind_some h; obtain ⟨cs, hcs, h⟩ := h
    replace h := bind_some h; obtain ⟨_, hc, h⟩ := h
    rw [chk_some, Bool.and_eq_true, decide_eq_true_eq, decide_eq_true_eq] at hc
    cases h
    cases hx
    unfold St.rowAt at hcs
    split at hcs
    · rename_i cs0 sz sp hl
      cases hcs
      obtain ⟨hv, hg⟩ := look_some hl
      by_cases h0 : n * size = 0
      · refine ⟨#[], fun W hW => ?_, ?_⟩
        · simp [Builtin.firstCells, h0, loadCells, loadCellsFrom]
        · have e : cs.extract o (o + 0) = #[] := by
            apply Array.eq_empty_of_size_eq_zero
            rw [Array.size_extract]; omega
          rw [h0, e]; exact Arel.nil
      · have hso : cs.size ≠ 0 ∨ sp = true := .inl (by omega)
        obtain ⟨cs', el, fz, h1, _, _, h4⟩ := (hs.obj id _ hg hv).2 hso
        have hsz := rowSize h4 hc.2 (by omega)
        refine ⟨_, fun W hW => ?_, extract_arel h4 hc.2 (Nat.le_add_right _ _) hsz⟩
        simp only [Builtin.firstCells]
        rw [run_loadCells_row W (φ id).blk ((φ id).off + o) (n * size) cs' el fz (by rw [hW]; exact h1) (by omega)]
        rw [show (φ id).off + o + n * size = (φ id).off + (o + n * size) by omega]
    · cases hcs
  · replace h := bind_some h; obtain ⟨_, hc, h⟩ := h
    cases h; cases hx
    exact ⟨#[], fun _ _ => rfl, Arel.nil⟩
  · rename_i b
    replace h := bind_some h; obtain ⟨_, hc, h⟩ := h
    rw [chk_some, Bool.and_eq_true, beq_iff_eq, beq_iff_eq] at hc
    cases h; cases hx
    refine ⟨_, fun _ _ => rfl, ?_⟩
    rw [hc.2, extract_all]
    refine ⟨by simp, fun i x x' hx hx' => ?_⟩
    rw [Array.getElem?_map] at hx hx'
    rw [hx] at hx'; cases hx'
    obtain ⟨y, _, rfl⟩ := Option.map_eq_some_iff.1 hx
    exact .int _ _
  · cases h

theorem len_run {φ : Nat → Pl} {c : Ctx} {n k : Nat} {x x' : Value} (hx : Vrel φ c n x x') (h : lenV x = some k) (w : World) : (Builtin.lenOf x').run g.P w = .ok k w := by
  unfold lenV at h
  split at h
  · cases h; cases hx <;> rfl
  · cases h; cases hx; rfl
  · cases h

theorem first_zero {φ : Nat → Pl} {c : Ctx} {n : Nat} {x x' : Value} (size : Nat) (hx : Vrel φ c n x x') (h : lenV x = some 0) (w : World) : ∃ cells, (Builtin.firstCells size 0 x').run g.P w = .ok cells w ∧ cells.toList = [] := by
  unfold lenV at h
  split at h
  · cases hx
    · exact ⟨#[], rfl, rfl⟩
    · exact ⟨#[], by simp [Builtin.firstCells, loadCells, loadCellsFrom], rfl⟩
  · cases hx
    refine ⟨_, rfl, ?_⟩
    simp [ByteArray.data_extract]
  · cases h

theorem Keep.of_drop {ω ω' : Nat → Option Tag} {X : Nat → Prop} {id : Nat} (h : Keep ω ω' c { s with heap := s.heap.set id none } X w w') : Keep ω ω' c s X w w' :=
  ⟨h.os, h.tape, h.output, h.size, fun b hb ho hx => h.same b hb (by
    rintro ⟨i, o, h1, h2, h3, h4⟩
    simp only at h4
    rw [Tr.get_set] at h4
    split at h4
    · cases h4
    · exact ho ⟨i, o, h1, h2, h3, h4⟩) hx⟩

theorem Post.of_drop {φ' : Nat → Pl} {ω' : Nat → Option Tag} {lam' : Nat → Nat} {loc loc' : Tr (Array Value)} {s' : St} {id : Nat} (h : Post g base c φ φ' ω ω' lam lam' loc loc' { s with heap := s.heap.set id none } s' w w') :
    Post g base c φ φ' ω ω' lam lam' loc loc' s s' w w' :=
  ⟨h.agree, h.next, h.srel, h.own, h.lamW, h.old, h.keep.of_drop⟩

theorem FRel.of_drop (hf : FRel φ c s.next lam ω fr rs a w) {id : Nat} : FRel φ c ({ s with heap := s.heap.set id none } : St).next lam ω fr rs a w := hf

theorem nextcap_le {need old : Nat} (h : ¬ need ≤ old) (hn : need ≤ nLim) : Builtin.nextslicecap need old ≤ 2 * nLim + 1024 := by
  unfold Builtin.nextslicecap
  unfold nLim at *
  split
  · omega
  · split
    · omega
    · have grow : ∀ (r k : Nat), k < need → Builtin.growBy need r k ≤ 2 * 4294967296 + 1024 := by
        intro r
        induction r with
        | zero => intro k hk; simp only [Builtin.growBy]; omega
        | succ r ih =>
          intro k hk
          simp only [Builtin.growBy]
          rw [if_neg (by omega)]
          by_cases h2 : k + (k + 768) / 4 < need
          · exact ih _ h2
          · cases r with
            | zero => simp only [Builtin.growBy]; omega
            | succ r => simp only [Builtin.growBy]; rw [if_pos (by omega)]; omega
      exact grow 4 old (by omega)

/-- The part of append in which a new row is made. -/
theorem append_new {elem : TypeId} {i : TypeInfo} {zero : Value} (hi : g.P.info? elem = some i) (hz : i.zero = some zero) (hzs : zero.cells.size = i.size) {st xt : TypeId} {ts : Array TypeId} (h0 : ts[0]? = some st) (h1 : ts[1]? = some xt)
    (hu : g.P.underlying st = some (.slice elem)) (hxt : ∃ d, g.P.underlying xt = some d ∧ ∀ k, d ≠ .int k) {v' x' : Value} {b' : Option Addr} {sl n cap' : Nat} (hv : v' = .slice b' sl cap') (hlen : (Builtin.lenOf x').run g.P w = .ok n w)
    (hneed : ¬ sl + n ≤ cap') (hn : sl + n ≤ nLim) (hby : i.bytes ≤ 4096) {old new : Array Value} (hold : ∀ W : World, W.heap = w.heap → (Builtin.firstCells i.size sl v').run g.P W = .ok old W) (hnew : ∀ W : World, W.heap = w.heap → (Builtin.firstCells i.size n x').run g.P W = .ok new W)
    (tt : TypeId) :
    ∃ newCap w1, sl + n ≤ newCap ∧ w1.heap = w.heap.push (.cells (old ++ new ++ Builtin.zeroCells zero.cells (newCap - (sl + n))) elem) ∧ w1.os = w.os ∧ w1.tape = w.tape ∧ w1.output = w.output ∧
      (Builtin.append_ ts tt #[v', x']).run g.P w = .ok (.slice (some ⟨w.heap.size, 0, none⟩) (sl + n) newCap) w1 := by
  obtain ⟨d, hd, hdk⟩ := hxt
  subst hv
  have hsz : (g.P.info? elem).map (·.size) = some i.size := by rw [hi]; rfl
  have hzz : (g.P.info? elem).bind (·.zero) = some zero := by rw [hi]; exact hz
  have hti := run_info hi
  have hdm : (d matches .int _) = false := by
    cases d <;> first | rfl | exact (hdk _ rfl).elim
  have e1 : ¬ (((sl + n : Nat) : Int) > IntKind.i64.max ∧ (False ∨ i.bytes = 0)) := by
    simp only [IntKind.max, IntKind.signed, IntKind.bits, nLim] at *
    intro h; omega
  have hcap := nextcap_le hneed hn
  have e2 : ¬ Builtin.nextslicecap (sl + n) cap' * i.bytes > 2 ^ 48 := by
    have : Builtin.nextslicecap (sl + n) cap' * i.bytes ≤ (2 * nLim + 1024) * 4096 := Nat.mul_le_mul hcap hby
    unfold nLim at this; omega
  let q : Question := .appendCap (sl + n) cap' elem
  let W : World := { w with drawn := w.drawn + 1 }
  have hch : (choose q).run g.P w = .ok (q.cut (w.tape w.drawn q)) W := rfl
  have hge : sl + n ≤ q.cut (w.tape w.drawn q) := Nat.le_add_right _ _
  generalize q.cut (w.tape w.drawn q) = newCap at hch hge
  refine ⟨newCap, { W with heap := W.heap.push (.cells (old ++ new ++ Builtin.zeroCells zero.cells (newCap - (sl + n))) elem) }, hge, rfl, rfl, rfl, rfl, ?_⟩
  have hask : (askRoom (newCap * i.bytes)).run g.P W = .ok () W := by
    unfold askRoom; split <;> rfl
  unfold Builtin.append_
  simp only [h0, h1, List.size_toArray, List.length_cons, List.length_nil, Nat.zero_add, Nat.reduceAdd, Nat.reduceLT, getElem?_pos, List.getElem_toArray, List.getElem_cons_zero, List.getElem_cons_succ, Sem.run_bind, run_under hu, Result.andThen_ok, run_size hsz,
    run_under hd, hdm, Sem.run_pure, Bool.false_eq_true, if_false, hlen, if_neg hneed, hti, Bool.not_false, if_true]
  rw [if_neg e1]
  simp only [Sem.run_bind, hti, Result.andThen_ok]
  rw [if_neg e2]
  simp only [Sem.run_bind, Result.andThen_ok, hti]
  rw [show (choose (Question.appendCap (sl + n) cap' elem)).run g.P w = .ok newCap W from hch]
  simp only [Result.andThen_ok, hask, hti, hold W rfl, hnew W rfl, run_zero hzz]
  rfl

theorem zeroCells_size (z : Array Value) (n : Nat) : (Builtin.zeroCells z n).size = n * z.size := by simp [Builtin.zeroCells]

theorem append_some {ts : Array TypeId} {as : List Value} {r : Value × St} (h : doAppend g c s ts as = some r) :
    ∃ v x st xt elem b sl sc i zero n, as = [v, x] ∧ ts[0]? = some st ∧ ts[1]? = some xt ∧ g.P.underlying st = some (.slice elem) ∧ v = .slice b sl sc ∧ g.P.info? elem = some i ∧ i.zero = some zero ∧ lenV x = some n ∧
      sl ≤ sc ∧ sl + n ≤ nLim ∧ i.bytes ≤ 4096 ∧ i.size ≠ 0 ∧ zero.cells.size = i.size ∧ plainN 8 zero = true ∧ (∃ d, g.P.underlying xt = some d ∧ ∀ k, d ≠ .int k) ∧
      ((n = 0 ∧ r = (v, s)) ∨ (n ≠ 0 ∧ ∃ new, cellsOf? c s i.size n x = some new ∧ new.toList.all Value.oneCell' = true ∧
        ((b = none ∧ sl = 0 ∧ sc = 0 ∧ r = (.slice (some ⟨s.next, 0, none⟩) n n, s.new (.cells new i.size true))) ∨
         (∃ id o cs sp, b = some ⟨id, o, none⟩ ∧ s.look c id = some (.cells cs i.size sp) ∧
          ((sl + n ≤ sc ∧ ∃ s', s.write c id (o + sl * i.size) new.toList = some s' ∧ r = (.slice b (sl + n) sc, s')) ∨
           (¬ sl + n ≤ sc ∧ o + sl * i.size ≤ cs.size ∧
            ((sp = true ∧ c.wr id = true ∧ sl = sc ∧ o + sl * i.size = cs.size ∧ r = (.slice (some ⟨s.next, 0, none⟩) (sl + n) (sl + n), { s with heap := s.heap.set id none : St }.new (.cells (cs.extract o (o + sl * i.size) ++ new) i.size true))) ∨
             (sp = false ∧ r = (.slice (some ⟨s.next, 0, none⟩) (sl + n) (sl + n), s.new (.cells (cs.extract o (o + sl * i.size) ++ new) i.size true))))))))))
 := by
  unfold doAppend at h
  split at h
  · rename_i v x
    replace h := bind_some h; obtain ⟨st, hst, h⟩ := h
    replace h := bind_some h; obtain ⟨xt, hxt, h⟩ := h
    split at h
    · rename_i elem b sl sc hu
      replace h := bind_some h; obtain ⟨i, hi, h⟩ := h
      replace h := bind_some h; obtain ⟨zero, hz, h⟩ := h
      replace h := bind_some h; obtain ⟨n, hn, h⟩ := h
      replace h := bind_some h; obtain ⟨_, hc, h⟩ := h
      rw [chk_some] at hc
      simp only [Bool.and_eq_true, decide_eq_true_eq] at hc
      obtain ⟨⟨⟨⟨⟨⟨hc1, hc2⟩, hc3⟩, hc4⟩, hc5⟩, hc6⟩, hc7⟩ := hc
      refine ⟨_, x, st, xt, elem, b, sl, sc, i, zero, n, rfl, hst, hxt, hu, rfl, hi, hz, hn, hc1, hc2, hc3, hc4, hc5, hc6, ?_, ?_⟩
      · split at hc7
        · cases hc7
        · rename_i d hd hd'
          exact ⟨d, hd', fun k e => hd k e⟩
        · cases hc7
      · split at h
        · rename_i h0; cases h; exact .inl ⟨h0, rfl⟩
        · rename_i h0
          replace h := bind_some h; obtain ⟨new, hnew, h⟩ := h
          replace h := bind_some h; obtain ⟨_, hone, h⟩ := h
          rw [chk_some] at hone
          refine .inr ⟨h0, new, hnew, hone, ?_⟩
          split at h
          · replace h := bind_some h; obtain ⟨_, hc, h⟩ := h
            rw [chk_some, Bool.and_eq_true, beq_iff_eq, beq_iff_eq] at hc
            cases h; exact .inl ⟨rfl, hc.1, hc.2, rfl⟩
          · rename_i id o
            split at h
            · rename_i cs sz sp hl
              replace h := bind_some h; obtain ⟨_, hc, h⟩ := h
              rw [chk_some, beq_iff_eq] at hc
              subst hc
              refine .inr ⟨id, o, cs, sp, rfl, hl, ?_⟩
              split at h
              · rename_i hle
                replace h := bind_some h; obtain ⟨s', hw, h⟩ := h
                cases h; exact .inl ⟨hle, s', hw, rfl⟩
              · rename_i hle
                replace h := bind_some h; obtain ⟨_, hc, h⟩ := h
                rw [chk_some, decide_eq_true_eq] at hc
                refine .inr ⟨hle, hc, ?_⟩
                simp only at h
                split at h
                · rename_i hsp
                  replace h := bind_some h; obtain ⟨_, hc, h⟩ := h
                  rw [chk_some] at hc
                  simp only [Bool.and_eq_true, decide_eq_true_eq, beq_iff_eq] at hc
                  cases h; exact .inl ⟨hsp, hc.1.1, hc.1.2, hc.2, rfl⟩
                · rename_i hsp
                  cases h; exact .inr ⟨by simpa using hsp, rfl⟩
            · cases h
          · cases h
    · cases h
  · cases h


/-- A builtin that leaves a value, from its own run. -/
theorem builtin_run {o : Oper} {cl : Call} {b : Builtin} (ho : o.op = .call cl) (hcl : cl.callee = .builtin b) {v' : Value} {W : World}
    (h : (builtin b cl.argTypes o.type (cl.args.map fun | .const _ => true | _ => false) (cl.args.map a.eval)).run g.P w = .ok (.value v') W) : (execOp a.eval o).run g.P w = .ok (.value v') W := by
  obtain ⟨callee, args, ts⟩ := cl
  simp only at hcl; subst hcl
  simp only [execOp, ho, Sem.run_bind, resolve, Sem.run_pure, Result.andThen_ok, invoke]
  exact h

theorem args2 (hs : SRel g base φ ω c s w) (hf : FRel φ c s.next lam ω fr rs a w) {cl : Call} {v x : Value} (h : evL g fr cl.args.toList = some [v, x]) : ∃ v' x', cl.args.map a.eval = #[v', x'] ∧ Vrel φ c s.next v v' ∧ Vrel φ c s.next x x' := by
  have hr := evL_arel hs hf h
  have hsz : (cl.args.map a.eval).size = 2 := by rw [← hr.1]; rfl
  generalize cl.args.map a.eval = A at hr hsz
  obtain ⟨l⟩ := A
  match l, hsz with
  | [v', x'], _ => exact ⟨v', x', rfl, hr.2 0 _ _ rfl rfl, hr.2 1 _ _ rfl rfl⟩

theorem args1 (hs : SRel g base φ ω c s w) (hf : FRel φ c s.next lam ω fr rs a w) {cl : Call} {v : Value} (h : evL g fr cl.args.toList = some [v]) : ∃ v', cl.args.map a.eval = #[v'] ∧ Vrel φ c s.next v v' := by
  have hr := evL_arel hs hf h
  have hsz : (cl.args.map a.eval).size = 1 := by rw [← hr.1]; rfl
  generalize cl.args.map a.eval = A at hr hsz
  obtain ⟨l⟩ := A
  match l, hsz with
  | [v'], _ => exact ⟨v', rfl, hr.2 0 _ _ rfl rfl⟩

theorem append_ok (hs : SRel g base φ ω c s w) (hf : FRel φ c s.next lam ω fr rs a w) {o : Oper} {cl : Call} (ho : o.op = .call cl) (hcl : cl.callee = .builtin .append) {as : List Value} (has : evL g fr cl.args.toList = some as)
    {r : Value × St} (h : doAppend g c s cl.argTypes as = some r) : OpOk g base c φ ω lam fr s a w o r.1 fr.loc r.2 := by
  obtain ⟨v, x, st, xt, elem, b, sl, sc, i, zero, n, rfl, h0, h1, hu, rfl, hi, hz, hn, hsc, hlim, hby, hs0, hzs, hp, hxt, hcase⟩ := append_some h
  obtain ⟨v', x', hA, hv, hx⟩ := args2 hs hf has
  have hlen := len_run (g := g) hx hn
  have hsz : (g.P.info? elem).map (·.size) = some i.size := by rw [hi]; rfl
  have lift : ∀ {v2 : Value} {W : World}, (Builtin.append_ cl.argTypes o.type #[v', x']).run g.P w = .ok v2 W → (execOp a.eval o).run g.P w = .ok (.value v2) W := fun h => by
    refine builtin_run ho hcl ?_
    rw [hA]
    simp only [builtin, Sem.run_bind, h, Result.andThen_ok, Sem.run_pure]
  -- the way in which nothing moves
  have stay : ∀ (b' : Option Addr) (cap' : Nat) (new' : Array Value) (W : World), v' = .slice b' sl cap' → sl + n ≤ cap' → (Builtin.firstCells i.size n x').run g.P w = .ok new' w →
      ((match b' with | some ad => storeCells (ad.add (sl * i.size)) new'.toList | none => pure () : Sem Unit).run g.P w = .ok () W) → (Builtin.append_ cl.argTypes o.type #[v', x']).run g.P w = .ok (.slice b' (sl + n) cap') W := by
    intro b' cap' new' W hv' hle hf1 hst
    obtain ⟨d, hd, hdk⟩ := hxt
    have hdm : (d matches .int _) = false := by
      cases d <;> first | rfl | exact (hdk _ rfl).elim
    subst hv'
    unfold Builtin.append_
    simp only [h0, h1, List.size_toArray, List.length_cons, List.length_nil, Nat.zero_add, Nat.reduceAdd, Nat.reduceLT, getElem?_pos, List.getElem_toArray, List.getElem_cons_zero, List.getElem_cons_succ, Sem.run_bind, run_under hu, Result.andThen_ok, run_size hsz,
      run_under hd, hdm, Sem.run_pure, Bool.false_eq_true, if_false, hlen, if_pos hle, Bool.not_false, if_true, hf1]
    cases b' with
    | none => simp only at hst; cases hst; rfl
    | some ad => simp only at hst; simp only [Sem.run_bind, hst, Result.andThen_ok, Sem.run_pure]
  rcases hcase with ⟨rfl, rfl⟩ | ⟨hn0, new, hnew, hone, hcase⟩
  · -- nothing is appended
    obtain ⟨cells, hc1, hc2⟩ := first_zero (g := g) i.size hx hn w
    refine OpOk.sameV hs hf (v' := v') ?_ hv
    refine lift ?_
    cases hv with
    | nilSlice => exact stay none sc cells w rfl (by omega) hc1 rfl
    | slice id off _ _ hid => exact stay _ _ cells w rfl (by omega) hc1 (by simp only [hc2, storeCells]; rfl)
  · obtain ⟨new', hnewR, hnr⟩ := cellsOf_run hs hx hnew
    have hnsz : new.size = n * i.size := by
      have := hnew
      unfold cellsOf? at this
      split at this
      · replace this := bind_some this; obtain ⟨cs, _, this⟩ := this
        replace this := bind_some this; obtain ⟨_, hc, this⟩ := this
        rw [chk_some, Bool.and_eq_true, decide_eq_true_eq, decide_eq_true_eq] at hc
        cases this; rw [Array.size_extract]; omega
      · replace this := bind_some this; obtain ⟨_, hc, this⟩ := this
        rw [chk_some, Bool.and_eq_true, beq_iff_eq, beq_iff_eq] at hc
        exact (hn0 hc.1).elim
      · replace this := bind_some this; obtain ⟨_, hc, this⟩ := this
        rw [chk_some, Bool.and_eq_true, beq_iff_eq, beq_iff_eq] at hc
        cases this; rw [Array.size_map, hc.1, hc.2, Nat.mul_one]; rfl
      · cases this
    have hpos : 0 < n * i.size := Nat.mul_pos (by omega) (by omega)
    -- a new row is made, with old cells in front
    have fresh : ∀ (s1 : St) (hs1 : SRel g base φ ω c s1 w) (hf1 : FRel φ c s1.next lam ω fr rs a w) (hnx : s1.next = s.next) (old old' : Array Value) (b' : Option Addr) (cap' : Nat), v' = .slice b' sl cap' → ¬ sl + n ≤ cap' →
        (∀ W : World, W.heap = w.heap → (Builtin.firstCells i.size sl v').run g.P W = .ok old' W) → Arel φ c s.next old old' → old.size = sl * i.size →
        ∃ v2 φ' ω' w1, (execOp a.eval o).run g.P w = .ok (.value v2) w1 ∧ Vrel φ' c (s1.next + 1) (.slice (some ⟨s1.next, 0, none⟩) (sl + n) (sl + n)) v2 ∧
          Post g base c φ φ' ω ω' lam lam fr.loc fr.loc s1 (s1.new (.cells (old ++ new) i.size true)) w w1 := by
      intro s1 hs1 hf1 hnx old old' b' cap' hv' hneed hold holdr holdsz
      obtain ⟨newCap, w1, hge, hw1, e1, e2, e3, hrun⟩ := append_new hi hz hzs h0 h1 hu hxt hv' (hlen w) hneed hlim hby hold hnewR o.type
      have hcs : (old' ++ new' ++ Builtin.zeroCells zero.cells (newCap - (sl + n))).size = newCap * i.size := by
        rw [Array.size_append, Array.size_append, zeroCells_size, ← holdr.1, ← hnr.1, holdsz, hnsz, hzs, ← Nat.add_mul, ← Nat.add_mul]
        congr 1; omega
      refine ⟨_, _, _, w1, lift hrun, ?_, new_post hs1 hf1 _ _ (newCap - (sl + n)) hw1 e1 e2 e3 ⟨fun h => by simp at h, fun _ => ⟨_, elem, (0, 0), by rw [upd_self, hw1]; exact push_new, fun _ => rfl, ?_, ?_⟩⟩⟩
      · have := slice_rel (φ := φ) (s := s1) (w := w) (ex := newCap - (sl + n)) hs1 (sl + n) (sl + n)
        rw [show sl + n + (newCap - (sl + n)) = newCap by omega] at this
        exact this
      · rw [upd_self, hcs, Array.size_append, holdsz, hnsz]
        simp only [Nat.zero_add]
        rw [← Nat.add_mul, ← Nat.add_mul]
        exact Nat.mul_le_mul_right _ (by omega)
      · rw [upd_self]
        intro k y hy
        have hr := (holdr.append hnr)
        obtain ⟨y', hy', hyr⟩ := hr.get hy
        refine ⟨y', ?_, hyr.mono (fun id hid => upd_ne _ _ (by omega)) (by omega)⟩
        rw [Nat.zero_add, Array.getElem?_append_left (Array.getElem?_eq_some_iff.1 hy').1]
        exact hy'
    rcases hcase with ⟨rfl, rfl, rfl, rfl⟩ | ⟨id, off, cs, sp, rfl, hlk, hcase⟩
    · -- onto nil
      obtain ⟨v2, φ', ω', w1, h1, h2, h3⟩ := fresh s hs hf rfl #[] #[] none 0 (by cases hv; rfl) (by omega) (fun W _ => by cases hv; rfl) Arel.nil (by simp)
      refine ⟨v2, φ', ω', lam, w1, _, h1, .inl rfl, ?_, live_glob rfl, ?_⟩
      · simp only [Nat.zero_add] at h2; exact h2.trel
      · simpa using h3
    · obtain ⟨hvis, hg⟩ := look_some hlk
      have hvv : v' = .slice (some ⟨(φ id).blk, (φ id).off + off, none⟩) sl (sc + (φ id).ex) := by cases hv; rfl
      have hid : id < s.next := hs.dom _ _ hg
      have hobj := hs.obj id _ hg hvis
      rcases hcase with ⟨hle, s', hw, rfl⟩ | ⟨hgt, hob, hcase⟩
      · -- there is room, and it is seen
        have hne : new.toList ≠ [] := fun e => by
          have : new.size = 0 := by simpa using congrArg List.length e
          omega
        obtain ⟨cur, el, hb, hsz2, hone', hpost⟩ := write_post hs hf hw (vs' := new'.toList) (by simpa using hnr) hne
        refine ⟨.slice (some ⟨(φ id).blk, (φ id).off + off, none⟩) (sl + n) (sc + (φ id).ex), φ, ω, lam, _, _, ?_, .inl rfl, ?_, live_glob rfl, hpost⟩
        · refine lift (stay _ _ new' _ hvv (by omega) (hnewR w rfl) ?_)
          simp only [addr_add]
          have := run_storeCells_blit (P := g.P) (φ id).blk el new'.toList ((φ id).off + off + sl * i.size) 0 cur w hb (by rw [← Nat.add_assoc] at hsz2; simpa using hsz2) hone'
          rw [Nat.add_zero] at this
          rw [this]
          rw [Nat.add_assoc (φ id).off]
        · have hnx := hpost.next
          obtain ⟨_, _, _, _, _, _, _, _, rfl⟩ := write_some hw
          exact (Vrel.slice id off (sl + n) sc (In.up ⟨hid, hvis⟩ hnx)).trel
      · have hold : ∀ W : World, W.heap = w.heap → ∃ old', (Builtin.firstCells i.size sl v').run g.P W = .ok old' W ∧ Arel φ c s.next (cs.extract off (off + sl * i.size)) old' := by
          intro W hW
          have hc : cellsOf? c s i.size sl (.slice (some ⟨id, off, none⟩) sl sc) = some (cs.extract off (off + sl * i.size)) := by
            simp only [cellsOf?, St.rowAt, hlk]
            simp [chk, hob]
          obtain ⟨old', h1, h2⟩ := cellsOf_run hs hv hc
          exact ⟨old', h1 W hW, h2⟩
        have hc : cellsOf? c s i.size sl (.slice (some ⟨id, off, none⟩) sl sc) = some (cs.extract off (off + sl * i.size)) := by
          simp only [cellsOf?, St.rowAt, hlk]
          simp [chk, hob]
        obtain ⟨old', ho1, ho2⟩ := cellsOf_run hs hv hc
        have hosz : (cs.extract off (off + sl * i.size)).size = sl * i.size := by rw [Array.size_extract]; omega
        rcases hcase with ⟨rfl, hfl, rfl, hend, rfl⟩ | ⟨rfl, rfl⟩
        · -- spare room that is not seen
          have hs1 := hs.drop id
          by_cases hroom : sl + n ≤ sl + (φ id).ex
          · -- it is there
            have hbi : base.id ≤ id := hs.bf id hfl
            obtain ⟨_, hrow⟩ := hobj
            obtain ⟨cur, el, fz, hb, hz0, hsz2, hhas⟩ := hrow (.inr rfl)
            have hz0 := hz0 hbi; subst hz0
            have htag := hs.tag id _ hg hvis hbi (.inr rfl)
            have hlenR : (φ id).off + (off + sl * i.size) + new'.toList.length ≤ cur.size := by
              have : new'.toList.length = n * i.size := by simp only [Array.length_toList]; rw [← hnr.1]; exact hnsz
              rw [this, hend]
              have : n * i.size ≤ (φ id).ex * i.size := Nat.mul_le_mul_right _ (by omega)
              omega
            have hone' : new'.toList.all Value.oneCell' = true := all_one hnr hone
            have hst := run_storeCells_blit (P := g.P) (φ id).blk el new'.toList ((φ id).off + off + sl * i.size) 0 cur w hb (by rw [← Nat.add_assoc] at hlenR; simpa using hlenR) hone'
            rw [Nat.add_zero] at hst
            have hrun := lift (stay _ _ new' _ hvv (by omega) (hnewR w rfl) (by simp only [addr_add]; exact hst))
            have hblk : (φ id).blk < w.heap.size := (hs.tags _ _ htag).2.1
            have hsame : ∀ b, b ≠ (φ id).blk → (w.setRow (φ id).blk (blit cur ((φ id).off + off + sl * i.size) new'.toList)).heap[b]? = w.heap[b]? := fun b hb => setRow_other _ _ _ _ hb
            have hφ : ∀ k, k < s.next → (upd φ s.next ⟨(φ id).blk, (φ id).off + off, sl + (φ id).ex - (sl + n)⟩) k = φ k := fun k hk => upd_ne _ _ (by omega)
            refine ⟨.slice (some ⟨(φ id).blk, (φ id).off + off, none⟩) (sl + n) (sl + (φ id).ex), upd φ s.next ⟨(φ id).blk, (φ id).off + off, sl + (φ id).ex - (sl + n)⟩, upd ω (φ id).blk (some (.obj s.next)), lam, _, _, hrun, .inl rfl, ?_, live_glob rfl, ?_⟩
            · have := Vrel.slice (c := c) (φ := upd φ s.next ⟨(φ id).blk, (φ id).off + off, sl + (φ id).ex - (sl + n)⟩) (n := s.next + 1) s.next 0 (sl + n) (sl + n) ⟨Nat.lt_succ_self _, hs.vnew _ (Nat.le_refl _)⟩
              rw [upd_self] at this
              simp only [Nat.add_zero] at this
              rw [show sl + n + (sl + (φ id).ex - (sl + n)) = sl + (φ id).ex by omega] at this
              exact this.trel
            · refine ⟨hφ, Nat.le_succ _, ?_, ?_, fun d cs h => .inl ⟨rfl, cs, h⟩, fun d cs h => ⟨rfl, cs, h⟩, ⟨rfl, rfl, rfl, Nat.le_of_eq (setRow_size _ _ _).symm, fun b _ hown _ => ?_⟩⟩
              · refine SRel.putObj hs1 (Nat.le_of_eq (setRow_size _ _ _).symm) hs.bn (Nat.lt_succ_self _) (Nat.le_succ _) hφ (fun b hb hl => ?_) (fun _ => ⟨fun h => (by cases h), fun _ => ⟨_, el, (0, 0), by rw [upd_self]; exact setRow_heap w (φ id).blk cur _ el (0, 0) hb, fun _ => rfl, ?_, ?_⟩⟩)
                  (fun _ _ => by rw [upd_self, upd_self]) (fun b t ht => ?_)
                · have hne : b ≠ (φ id).blk := by
                    rintro rfl
                    rcases hl with hl | hl | ⟨k, o', h1, h2, h3, h4, h5, h6⟩
                    · rw [htag] at hl; cases hl
                    · have := (hs.tags _ _ htag).1; omega
                    · rw [htag] at h5; cases h5
                      simp only at h1; rw [Tr.get_set, if_pos rfl] at h1; cases h1
                  exact ⟨hsame b hne, upd_ne _ _ hne⟩
                · rw [upd_self, blit_size, Array.size_append, hosz, hnsz]
                  simp only
                  rw [Nat.sub_mul, Nat.add_mul, Nat.add_mul]
                  have : n * i.size ≤ (φ id).ex * i.size := Nat.mul_le_mul_right _ (by omega)
                  omega
                · rw [upd_self]
                  intro k y hy
                  simp only
                  rw [blit_get _ _ _ _ (by rw [← Nat.add_assoc] at hlenR; exact hlenR)]
                  rw [Array.getElem?_append] at hy
                  split at hy
                  · rename_i hlt
                    rw [hosz] at hlt
                    rw [if_neg (by omega)]
                    rw [Array.getElem?_extract] at hy
                    split at hy
                    · obtain ⟨y', hy', hyr⟩ := hhas _ _ hy
                      exact ⟨y', by rw [show (φ id).off + off + k = (φ id).off + (off + k) by omega]; exact hy', hyr.mono hφ (Nat.le_succ _)⟩
                    · cases hy
                  · rename_i hge
                    rw [hosz] at hge hy
                    obtain ⟨y', hy', hyr⟩ := hnr.get hy
                    have hlt := (Array.getElem?_eq_some_iff.1 hy').1
                    rw [if_pos (by simp only [Array.length_toList]; omega)]
                    exact ⟨y', by rw [show (φ id).off + off + k - ((φ id).off + off + sl * i.size) = k - sl * i.size by omega]; simpa using hy', hyr.mono hφ (Nat.le_succ _)⟩
                · by_cases e : b = (φ id).blk
                  · subst e; rw [upd_self] at ht; cases ht
                    exact ⟨(hs.tags _ _ htag).1, by rw [setRow_size]; exact hblk, fun k hk => by cases hk; exact Nat.lt_succ_self _⟩
                  · rw [upd_ne _ _ e] at ht
                    obtain ⟨x, y, z⟩ := hs.tags b t ht
                    exact ⟨x, by rw [setRow_size]; exact y, fun k hk => Nat.lt_succ_of_lt (z k hk)⟩
              · intro d cs2 h
                obtain ⟨ht, cs', el', hb', ha⟩ := hf.own d cs2 h
                have hne : lam d ≠ (φ id).blk := fun e => by rw [e, htag] at ht; cases ht
                exact ⟨by rw [upd_ne _ _ hne]; exact ht, cs', el', by rw [hsame _ hne]; exact hb', ha.mono hφ (Nat.le_succ _)⟩
              · have hne : b ≠ (φ id).blk := by rintro rfl; exact hown ⟨id, _, htag, hfl, hvis, hg⟩
                exact ⟨hsame b hne, upd_ne _ _ hne⟩
          · obtain ⟨v2, φ', ω', w1, h1, h2, h3⟩ := fresh _ hs1 hf rfl _ old' _ _ hvv hroom ho1 ho2 hosz
            exact ⟨v2, φ', ω', lam, w1, _, h1, .inl rfl, h2.trel, live_glob rfl, h3.of_drop⟩
        · -- a row whose end is known
          have hex := hobj.1 rfl
          obtain ⟨v2, φ', ω', w1, h1, h2, h3⟩ := fresh s hs hf rfl _ old' _ _ hvv (by omega) ho1 ho2 hosz
          exact ⟨v2, φ', ω', lam, w1, _, h1, .inl rfl, h2.trel, live_glob rfl, h3⟩

end
end Go.Am
