/- The tables as the row lists them: what the walks ask. -/
import Derived.Test.YtgjgaeloehfhiaaGreatDoorM10
import Derived.Test.YtgjgaeloehfhiaaGreatDoorM49
import Derived.Lay
section
namespace Go.Proofs.YtgjgaeloehfhiaaGreatDoor
open Go.RowKit

def fieldsOK (P : Program) (fs : Array Field) : Bool := (List.range fs.size).all fun i => match fs[i]? with
  | some f => (match P.underlying f.type with
    | some .string => true
    | some .bool => true
    | some (.int _) => true
    | _ => false) && f.offset == i && P.cellsOf f.type == 1
  | none => false
theorem of_fieldsOK {P : Program} {fs : Array Field} (h : fieldsOK P fs = true) : ∀ (i : Nat) (f : Field), fs[i]? = some f → Plain1 P f.type ∧ f.offset = i ∧ P.cellsOf f.type = 1 := by
  intro i f hf
  have hi : i < fs.size := (Array.getElem?_eq_some_iff.1 hf).1
  have h1 := List.all_eq_true.1 h i (List.mem_range.2 hi)
  simp only [hf, Bool.and_eq_true, beq_iff_eq] at h1
  refine ⟨?_, h1.1.2, h1.2⟩
  have h2 := h1.1.1
  unfold Plain1
  split at h2
  · exact .inl ‹_›
  · exact .inr (.inl ‹_›)
  · exact .inr (.inr ⟨_, ‹_›⟩)
  · cases h2

/-- The row's list. -/
abbrev laidL : List (String × DataW Unit) := Rows.tongueRefusesAlikeRow.laid

section
variable {W : World} {ps : List MemPlace} (hv : DataW.LaidVars Tryz.prog W laidL ps)
include hv
/-- One variable of the list: its cells read so. -/
theorem laid_one (n : String) (d : DataW Unit) (i g t : Nat) (hi : laidL[i]? = some (n, d)) (hg : Tryz.prog.globalNamed n = some g) (ht : (Tryz.prog.globals[g]?).map (·.type) = some t) :
    ∃ cs fuel p, W.var? Tryz.prog n = some cs ∧ DataW.trod (fun _ => ()) Tryz.prog W 0 (fun _ => true) false fuel t cs.toList = some (d, p) := by
  obtain ⟨g', t', cs, fuel, p, h1, h2, h3, h4⟩ := laid_get hv n d (List.mem_of_getElem? hi)
  obtain rfl := Option.some.inj (hg.symm.trans h1)
  obtain rfl := Option.some.inj (ht.symm.trans h2)
  exact ⟨cs, fuel, p, h3, h4⟩

def opsL : List (List Lit) := opsT.map fun x => [.string x.1, .int .i64 x.2]
theorem laid_ops : CellsAt W 4 opsV := by
  have hg : Tryz.prog.globalNamed "amber/tongue.operators" = some 4 := by kernel_rfl
  obtain ⟨cs, fuel, p, h1, h2⟩ := laid_one hv "amber/tongue.operators" (.agg (opsL.map fun ls => .agg (ls.map .lit))) 10 4 236 (by kernel_rfl) hg (by kernel_rfl)
  have h3 := table_cells opsL Tryz.underlying236 Tryz.underlying235 (of_fieldsOK (by kernel_rfl)) (by kernel_rfl) (by kernel_rfl) (by kernel_rfl) h2
  have h4 := cells_at hg h1
  rw [h3] at h4
  exact h4
def simpleL : List (List Lit) := simpleT.map fun x => [.string x.1, .int .i64 x.2.1, .bool x.2.2]
theorem laid_simple : CellsAt W 1 simpleV := by
  have hg : Tryz.prog.globalNamed "amber/tongue.simple" = some 1 := by kernel_rfl
  obtain ⟨cs, fuel, p, h1, h2⟩ := laid_one hv "amber/tongue.simple" (.agg (simpleL.map fun ls => .agg (ls.map .lit))) 11 1 193 (by kernel_rfl) hg (by kernel_rfl)
  have h3 := table_cells simpleL Tryz.underlying193 Tryz.underlying192 (of_fieldsOK (by kernel_rfl)) (by kernel_rfl) (by kernel_rfl) (by kernel_rfl) h2
  have h4 := cells_at hg h1
  rw [h3] at h4
  exact h4
def isaL : List (List Lit) := isaT.map fun x => [.string x.1, .bool x.2.1, .bool x.2.2.1, .int .i64 x.2.2.2.1, .bool x.2.2.2.2]
theorem laid_isa : CellsAt W 0 isaV := by
  have hg : Tryz.prog.globalNamed "amber/isa.ops" = some 0 := by kernel_rfl
  obtain ⟨cs, fuel, p, h1, h2⟩ := laid_one hv "amber/isa.ops" (.agg (isaL.map fun ls => .agg (ls.map .lit))) 6 0 104 (by kernel_rfl) hg (by kernel_rfl)
  have h3 := table_cells isaL Tryz.underlying104 Tryz.underlying103 (of_fieldsOK (by kernel_rfl)) (by kernel_rfl) (by kernel_rfl) (by kernel_rfl) h2
  have h4 := cells_at hg h1
  rw [h3] at h4
  exact h4
theorem laid_words : CellsAt W 6 wordsV := by
  have hg : Tryz.prog.globalNamed "amber/tongue.words" = some 6 := by kernel_rfl
  obtain ⟨cs, fuel, p, h1, h2⟩ := laid_one hv "amber/tongue.words" (.agg (wordsT.map fun s => .lit (.string s))) 8 6 240 (by kernel_rfl) hg (by kernel_rfl)
  have h3 := strings_cells wordsT Tryz.underlying240 Tryz.underlying9 (by kernel_rfl) (by kernel_rfl) (by kernel_rfl) h2
  have h4 := cells_at hg h1
  rw [h3] at h4
  exact h4
theorem laid_pairs : CellsAt W 2 pairsV := by
  have hg : Tryz.prog.globalNamed "amber/tongue.pairs" = some 2 := by kernel_rfl
  obtain ⟨cs, fuel, p, h1, h2⟩ := laid_one hv "amber/tongue.pairs" (.agg (pairsT.map fun s => .lit (.string s))) 9 2 223 (by kernel_rfl) hg (by kernel_rfl)
  have h3 := strings_cells pairsT Tryz.underlying223 Tryz.underlying9 (by kernel_rfl) (by kernel_rfl) (by kernel_rfl) h2
  have h4 := cells_at hg h1
  rw [h3] at h4
  exact h4
theorem laid_tab : Lib.TabIs Tryz.prog W "internal/strconv.uint64pow10" .u64 Lib.pow10Tab := by
  obtain ⟨cs, fuel, p, h1, h2⟩ := laid_one hv "internal/strconv.uint64pow10" (Lib.tabData .u64 Lib.pow10Tab) 2 3 230 (by kernel_rfl) tab_g (by kernel_rfl)
  unfold Lib.TabIs
  rw [h1, ← Lib.cells_of_tab Tryz.underlying230 Tryz.underlying112 (by kernel_rfl) (by kernel_rfl) h2]
theorem laid_pow10 : CellsAt W 3 pow10V := by
  have h4 := cells_at tab_g (laid_tab hv)
  have e : ((Lib.pow10Tab.map fun z => Value.int .u64 z).toArray).toList = pow10V := by kernel_rfl
  rw [e] at h4
  exact h4
theorem laid_err (n : String) (s : List UInt8) (i g : Nat) (hi : laidL[i]? = some (n, .iface "*errors.errorString" (.ptr (.agg [.lit (.string s)])))) (hg : Tryz.prog.globalNamed n = some g) (ht : (Tryz.prog.globals[g]?).map (·.type) = some 114) : ∃ te pe, CellsAt W g [.iface te pe] := by
  obtain ⟨cs, fuel, p, h1, h2⟩ := laid_one hv n _ i g 114 hi hg ht
  have h4 := cells_at hg h1
  have h5 : ∃ te pe, cs.toList = [.iface te pe] := by
    cases fuel with
    | zero => simp [DataW.trod] at h2
    | succ m =>
      unfold DataW.trod at h2
      rw [Tryz.underlying114] at h2
      split at h2 <;> simp_all
  obtain ⟨te, pe, h5⟩ := h5
  rw [h5] at h4
  exact ⟨te, pe, h4⟩
end
end Go.Proofs.YtgjgaeloehfhiaaGreatDoor
end
section
/- The table of operators' steps, as the row lists it; the law's surroundings. -/
namespace Go.Proofs.YtgjgaeloehfhiaaGreatDoor
open Go.RowKit

def stepL (x : Nat × Nat × Nat) : List Lit := [.int .i64 x.1, .int .i64 x.2.1, .int .i64 x.2.2]
def stepsD (l : List (Nat × Nat × Nat)) : DataW Unit := .slice (l.map fun x => .agg ((stepL x).map .lit)) []
def combD : DataW Unit := .map (combT.map fun x => (.string x.1, stepsD x.2))

theorem comb_at (s : List UInt8) : ∀ T : List (List UInt8 × List (Nat × Nat × Nat)), (∀ x ∈ T, x.2 ≠ []) → (DataW.map (T.map fun x => (Lit.string x.1, stepsD x.2))).atKey (.string s) .nil = if combIn T s = [] then .nil else stepsD (combIn T s)
  | [], _ => rfl
  | x :: T, h => by
    have ih := comb_at s T fun y hy => h y (by simp [hy])
    unfold DataW.atKey at ih ⊢
    simp only [List.map_cons, List.find?_cons, Lit.sameKey, combIn] at ih ⊢
    by_cases hs : x.1 = s
    · have hx := h x (by simp)
      have hb : (x.1 == s) = true := by simpa using hs
      simp [hs, hx]
    · have hb : (x.1 == s) = false := by simpa using hs
      simp only [hb, hs, if_false]
      exact ih

theorem one_key : ∀ {l : List MapEntry}, (l.map (·.key)).Nodup → ∀ {x y : MapEntry}, x ∈ l → y ∈ l → x.key = y.key → x = y
  | [], _, _, _, h, _, _ => by cases h
  | a :: l, hn, x, y, hx, hy, he => by
    rw [List.map_cons, List.nodup_cons] at hn
    have hin : ∀ z ∈ l, z.key ≠ a.key := fun z hz e => hn.1 (e ▸ List.mem_map_of_mem (f := (·.key)) hz)
    rcases List.mem_cons.1 hx with hx1 | hx1
    · rcases List.mem_cons.1 hy with hy1 | hy1
      · rw [hx1, hy1]
      · exact absurd (he.symm.trans (by rw [hx1])) (hin y hy1)
    · rcases List.mem_cons.1 hy with hy1 | hy1
      · exact absurd (he.trans (by rw [hy1])) (hin x hx1)
      · exact one_key hn.2 hx1 hy1 he

theorem zero258 (w : World) : (zeroValue 258).run Tryz.prog w = .ok (.slice none 0 0) w := by kernel_rfl
theorem add_plain {a : Addr} (h : a.spot = none) (n : Nat) : a.add n = ⟨a.block, a.off + n, none⟩ := by
  unfold Addr.add
  split
  · rename_i h0
    subst h0
    cases a
    simp at h ⊢
    exact h
  · rfl

/-- A list of steps, read. -/
theorem steps_at {W : World} {n : Nat} {v : Value} {l : List (Nat × Nat × Nat)} {p : List MemPlace} (hl : l ≠ []) (h : WideElems.elemAt (fun _ => ()) Tryz.prog W 0 (fun _ => true) false n 258 v = some (stepsD l, p)) : StepsAt W v l := by
  unfold WideElems.elemAt at h
  split at h
  · rename_i hfm
    rcases DataW.trod_slice Tryz.underlying258 h with ⟨_, hx⟩ | ⟨a, len, cap, elems, rest, m, rfl, hcs, hx, hb, hlc, hcm, hel, he, _, _⟩
    · injection hx with hx _
      simp [stepsD] at hx
    · have hv : v = .slice (some a) len cap := by
        cases v with
        | agg cs =>
          simp [Value.formed, Tryz.underlying258] at hfm
        | slice x y z => simpa [Value.cells] using hcs
        | _ => simp [Value.cells] at hcs
      subst hv
      injection hx with hx _
      unfold stepsD at hx
      injection hx with hx _
      have hll : l.length = len := by rw [← hel]; have := congrArg List.length hx; simpa using this
      subst hll
      have hce : Tryz.prog.cellsOf 261 = 3 := by kernel_rfl
      have key : ∀ i (hi : i < l.length), ∀ j, j < 3 → W.cell? ((a.add (i * 3)).add j) = ((stepL (l.getD i default)).map Lit.value)[j]? := fun i hi j hj => by
        have h1 := he i hi
        rw [hce] at h1
        have hxi : elems[i]? = some elems[i] := by simp [hel, hi]
        rw [hxi] at h1
        obtain ⟨cs', h2, h3⟩ := Option.bind_eq_some_iff.1 h1
        obtain ⟨g1, g2, g3⟩ := World.cells?_some h2
        have h4 : elems[i].1 = .agg ((stepL (l.getD i default)).map .lit) := by
          have := congrArg (·[i]?) hx
          simp [hi, hel] at this
          simp [List.getD_eq_getElem?_getD, hi, this]
        have h5 : DataW.trod (fun _ => ()) Tryz.prog W 0 (fun _ => true) false m 261 cs' = some (.agg ((stepL (l.getD i default)).map .lit), elems[i].2) := by rw [h3, ← h4]
        have h6 := struct_lits Tryz.underlying261 (of_fieldsOK (by kernel_rfl)) (by kernel_rfl) h5
        rw [g3 j hj, h6]
      have h0 : 0 < l.length := List.length_pos_iff.2 hl
      have k0 := key 0 h0 0 (by omega)
      have e0 : (a.add (0 * 3)).add 0 = a := by simp [Addr.add]
      rw [e0] at k0
      simp only [stepL, List.map_cons, List.getElem?_cons_zero, Lit.value] at k0
      obtain ⟨hsp, hbl⟩ : a.spot = none ∧ a.block < W.heap.size := by
        unfold World.cell? at k0
        split at k0
        · rename_i hh
          refine ⟨?_, heap_lt hh⟩
          split at k0
          · cases k0
          · rename_i hs
            cases hsp : a.spot with
            | none => rfl
            | some x => rw [hsp] at hs; simp at hs
        · cases k0
      refine ⟨some a, cap, rfl, fun i hi => ⟨a.block, a.off, ?_, hbl, ?_, ?_, ?_⟩⟩
      · cases a
        simp at hsp
        rw [hsp]
      · have := key i hi 0 (by omega)
        rw [add_plain (by rw [add_plain hsp]), add_plain hsp] at this
        exact this
      · have := key i hi 1 (by omega)
        rw [add_plain (by rw [add_plain hsp]), add_plain hsp] at this
        exact this
      · have := key i hi 2 (by omega)
        rw [add_plain (by rw [add_plain hsp]), add_plain hsp] at this
        exact this
  · cases h

theorem nil_at {W : World} {n : Nat} {v : Value} {p : List MemPlace} (h : WideElems.elemAt (fun _ => ()) Tryz.prog W 0 (fun _ => true) false n 258 v = some (.nil, p)) : v = .slice none 0 0 := by
  unfold WideElems.elemAt at h
  split at h
  · rename_i hfm
    rcases DataW.trod_slice Tryz.underlying258 h with ⟨hcs, _⟩ | ⟨a, len, cap, elems, rest, m, rfl, hcs, hx, _⟩
    · cases v with
      | agg cs => simp [Value.formed, Tryz.underlying258] at hfm
      | slice x y z => simpa [Value.cells] using hcs
      | _ => simp [Value.cells] at hcs
    · have hx1 := congrArg Prod.fst hx
      simp at hx1
  · cases h
set_option maxRecDepth 100000 in
theorem comb_ne : ∀ x ∈ combT, x.2 ≠ [] := by decide
set_option maxRecDepth 100000 in
theorem laid_comb {W : World} {ps : List MemPlace} (hv : DataW.LaidVars Tryz.prog W laidL ps) : ∃ cm o, CombAt W cm o := by
  have hg : Tryz.prog.globalNamed "amber/tongue.combine" = some 9 := by kernel_rfl
  obtain ⟨cs, fuel, p, h1, h2⟩ := laid_one hv "amber/tongue.combine" combD 7 9 259 (by kernel_rfl) hg (by kernel_rfl)
  have h4 := cells_at hg h1
  rcases WideElems.open_map Tryz.underlying259 h2 with ⟨_, hx⟩ | ⟨cm, es, clock, n, rfl, hcs, hb, _, F, hx⟩
  · injection hx with hx _
    unfold combD at hx
    cases hx
  · injection hx with hx _
    refine ⟨cm, .map es clock, ?_, h4.1, hb, fun s hs => ?_⟩
    · refine h4.2 0 _ ?_
      rw [hcs]
      rfl
    · have hkey : keyOf Tryz.prog 9 (.string s) = some (.string s.data.toList) := WideMaps.keyOf_string_mk Tryz.underlying9 hs
      have hd := comb_at s.data.toList combT comb_ne
      have hx' : (DataW.map (combT.map fun x => (Lit.string x.1, stepsD x.2))) = DataW.map ((es.toList.map (WideElems.rg Tryz.prog 9 (WideElems.elemAt (fun _ => ()) Tryz.prog W 0 (fun _ => true) false n 258))).foldr DataW.insert []) := hx
      rw [hx'] at hd
      rcases Maps.fit_look false keyed9 Tryz.underlying259 (zero258 W) hb F hkey with ⟨hrun, hno, hat⟩ | ⟨e0, y, hm0, hk0, hrun, hRv, hat, _⟩
      · rw [hat .nil] at hd
        have hc : combF s.data.toList = [] := by
          unfold combF
          by_cases h : combIn combT s.data.toList = []
          · exact h
          · rw [if_neg h] at hd
            cases hd
        refine ⟨.slice none 0 0, fun w' hb' => ?_, ⟨none, 0, by rw [hc]; rfl, fun i hi => by rw [hc] at hi; simp at hi⟩⟩
        rcases Maps.fit_look false keyed9 Tryz.underlying259 (zero258 w') hb' F hkey with ⟨hrun', _, _⟩ | ⟨e1, _, hm1, hk1, _⟩
        · simpa using hrun'
        · exact absurd hk1 (hno e1 hm1)
      · rw [hat .nil] at hd
        obtain ⟨y1, y2⟩ := y
        by_cases h : combIn combT s.data.toList = []
        · rw [if_pos h] at hd
          simp only at hd
          subst hd
          have hv0 := nil_at hRv
          refine ⟨e0.val, fun w' hb' => ?_, ⟨none, 0, by unfold combF; rw [h]; exact hv0, fun i hi => by unfold combF at hi; rw [h] at hi; simp at hi⟩⟩
          rcases Maps.fit_look false keyed9 Tryz.underlying259 (zero258 w') hb' F hkey with ⟨_, hno, _⟩ | ⟨e1, _, hm1, hk1, hrun', _⟩
          · exact absurd hk0 (hno e0 hm0)
          · have he : e1 = e0 := one_key F.stamped.2.2 hm1 hm0 (hk1.trans hk0.symm)
            rw [he] at hrun'
            simpa using hrun'
        · rw [if_neg h] at hd
          simp only at hd
          subst hd
          refine ⟨e0.val, fun w' hb' => ?_, steps_at h hRv⟩
          rcases Maps.fit_look false keyed9 Tryz.underlying259 (zero258 w') hb' F hkey with ⟨_, hno, _⟩ | ⟨e1, _, hm1, hk1, hrun', _⟩
          · exact absurd hk0 (hno e0 hm0)
          · have he : e1 = e0 := one_key F.stamped.2.2 hm1 hm0 (hk1.trans hk0.symm)
            rw [he] at hrun'
            simpa using hrun'

/-- The law's surroundings, out of the row's condition and the world's shape. -/
theorem env_of {W : World} (h : laidMet Tryz.prog laidL W) (hsh : W.ShapedOpen Tryz.prog) : Env W.heap.size W := by
  obtain ⟨ps, hv, -, -⟩ := h
  obtain ⟨m, hm⟩ := Tryz.laysM145.s1_3 W hsh
  have hm5 : CellsAt W 5 [.int .i64 m] := by
    have hm' : W.cell? ⟨5, 0, none⟩ = some (.int .i64 m) := hm
    refine ⟨?_, fun j v hj => ?_⟩
    · by_cases hb : 5 < W.heap.size
      · exact hb
      · unfold World.cell? at hm'
        rw [Array.getElem?_eq_none (by show W.heap.size ≤ 5; omega)] at hm'
        cases hm'
    · rcases j with _ | j
      · simp only [List.getElem?_cons_zero, Option.some.injEq] at hj
        rw [← hj]; exact hm'
      · simp at hj
  have hl : Laid W := ⟨laid_ops hv, laid_simple hv, laid_words hv, laid_pairs hv, laid_isa hv, laid_pow10 hv, laid_err hv "strconv.ErrSyntax" [105, 110, 118, 97, 108, 105, 100, 32, 115, 121, 110, 116, 97, 120] 5 12 (by kernel_rfl) (by kernel_rfl) (by kernel_rfl), laid_err hv "strconv.ErrRange" [118, 97, 108, 117, 101, 32, 111, 117, 116, 32, 111, 102, 32, 114, 97, 110, 103, 101] 4 13 (by kernel_rfl) (by kernel_rfl) (by kernel_rfl), ⟨m, hm5⟩⟩
  obtain ⟨cm, o, hc⟩ := laid_comb hv
  exact ⟨⟨W, hl, rfl, Below.refl _ _⟩, ⟨W, cm, o, hc, rfl, Below.refl _ _⟩, ⟨W, laid_tab hv, rfl, Below.refl _ _⟩, Nat.le_refl _⟩
end Go.Proofs.YtgjgaeloehfhiaaGreatDoor
end
section
/- A world in which the listed variables read as the row says: laid by a function; the table of operators' steps by hand. -/
namespace Go.Proofs.YtgjgaeloehfhiaaGreatDoor
open Go.RowKit
set_option maxRecDepth 100000

/-- The blocks of the steps, one for each operator. -/
noncomputable def stepBlocks (l : List (List UInt8 × List (Nat × Nat × Nat))) : List Obj := l.map fun x => .cells ((x.2.map fun y => [Value.int .i64 y.1, .int .i64 y.2.1, .int .i64 y.2.2]).flatten).toArray 261
/-- The table's rows, the blocks numbered from 'n' on. -/
noncomputable def stepRows (n : Nat) : Nat → List (List UInt8 × List (Nat × Nat × Nat)) → List MapEntry
  | _, [] => []
  | i, x :: l => ⟨.string ⟨x.1.toArray⟩, .slice (some ⟨n + i, 0, none⟩) x.2.length x.2.length, i⟩ :: stepRows n (i + 1) l
noncomputable def world0 (os : Os) : World :=
  let w := World.holding Tryz.prog os ⟨#[], #[], []⟩
  { w with heap := ((w.heap.toList.modify 9 (Lay.setRow [.map (some w.heap.size)])) ++ (.map (stepRows (w.heap.size + 1) 0 combT).toArray 16 :: stepBlocks combT)).toArray }
def great : List String := ["math/bits.deBruijn32tab", "math/bits.deBruijn64tab", "internal/strconv.uint64pow10", "unicode/utf8.acceptRanges", "strconv.ErrRange", "strconv.ErrSyntax", "amber/isa.ops", "amber/tongue.words", "amber/tongue.pairs", "amber/tongue.operators", "amber/tongue.simple", "unicode.CaseRanges", "unicode/utf8.first"]
noncomputable def worldL (os : Os) : World := (world0 os).layVars Tryz.prog (laidL.filter fun x => great.contains x.1)
theorem worldL_os (os : Os) : (worldL os).os = os := World.layVars_os _ _ _
noncomputable def sizeH : Nat := (World.settled Tryz.prog default).heap.size
noncomputable def combB : List Nat := 9 :: (List.range 17).map (sizeH + ·)
theorem laid_world (os : Os) (args : Array Value) : laidMet Tryz.prog laidL ((worldL os).forCall (fun _ _ => 0) ⟨#[], args, []⟩).memory := by
  refine laidMet_layVars (w0 := world0 os) great combB (by simp [World.memory, World.forCall, Input.heap, worldL]) (by kernel_rfl) (by kernel_rfl) ?_
  exact LaidIn.of_run combB 12 (by kernel_rfl) (by kernel_rfl) (by kernel_rfl) (by kernel_rfl)
end Go.Proofs.YtgjgaeloehfhiaaGreatDoor
end
