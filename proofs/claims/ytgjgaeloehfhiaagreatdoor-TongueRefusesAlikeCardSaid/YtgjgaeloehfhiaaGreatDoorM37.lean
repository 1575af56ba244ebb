/- Data: names and where each begins. -/
import Derived.Test.YtgjgaeloehfhiaaGreatDoorM34
import Derived.Test.YtgjgaeloehfhiaaGreatDoorM28
import Derived.Test.YtgjgaeloehfhiaaGreatDoorM21
import Derived.Test.YtgjgaeloehfhiaaGreatDoorM06
import Derived.Lib.Builder
import Derived.Lib.AppendStr
import Derived.Lib.UnsafeStr
import Derived.Laws.Externs
import Derived.RegionTactic
import Derived.Lib.ItoaNum
section
namespace Go.Proofs.YtgjgaeloehfhiaaGreatDoor
open Go.RowKit

/-- Where each variable begins. -/
def atsF : List (Tok × Nat) → Nat → List Nat
  | [], _ => []
  | d :: l, at_ => at_ :: atsF l (at_ + max 1 d.2)
theorem atsF_len : ∀ (l : List (Tok × Nat)) (a : Nat), (atsF l a).length = l.length
  | [], _ => rfl
  | d :: l, a => by simp [atsF, atsF_len l]
theorem placesF_at : ∀ (ds : List (Tok × Nat)) (at_ : Nat) (L0 L : Places), placesF ds at_ L0 = .ok L → (∀ key p, L0 key = some p → L key = some p) ∧ ∀ k, k < ds.length → L (ds.getD k default).1.text.data.toList = some ((((atsF ds at_).getD k 0 : Nat) : Int), ((ds.getD k default).2 : Int))
  | [], at_, L0, L, h => by simp only [placesF] at h; cases h; exact ⟨fun _ _ h => h, fun k hk => by simp at hk⟩
  | d :: ds, at_, L0, L, h => by
    simp only [placesF] at h
    split at h
    · cases h
    · rename_i hc
      obtain ⟨h1, h2⟩ := placesF_at ds _ _ L h
      refine ⟨fun key p hp => h1 key p ?_, fun k hk => ?_⟩
      · rw [if_neg]
        · exact hp
        · rintro rfl
          exact hc (.inl (by rw [hp]; rfl))
      · cases k with
        | zero => exact h1 d.1.text.data.toList _ (if_pos rfl)
        | succ k => exact h2 k (by simpa using hk)

def strB (s : ByteArray) : Value := .string s
def natV (n : Nat) : Value := .int .i64 (n : Int)
theorem info9 : (Tryz.prog.info? 9).map (fun i => (i.zero, i.size, i.bytes)) = some (some (.string ⟨#[]⟩), 1, 16) := by kernel_rfl

/-- What telling of data leaves. -/
def DataPost (w : World) : Except (Nat × Nat) UnitF → Ending → World → Prop
  | .error (_, code), e, w' => e = .returned (.tuple #[.slice none 0 0, .slice none 0 0, .int .i64 code]) ∧ Ext w w'
  | .ok u, e, w' => ∃ v1 v2, e = .returned (.tuple #[v1, v2, .int .i64 0]) ∧ Ext w w' ∧ w'.ownsRow w.heap.size 9 1 v1 u.ds.length (u.ds.map fun d => strB d.1.text) ∧ w'.ownsRow w.heap.size 3 1 v2 u.ds.length ((atsF u.ds 384).map natV)

/-- The loop over declarations. -/
structure DataRel (w1 wr : World) (ds : List (Tok × Nat)) (k : Nat) (v1 v2 : Value) : Prop where
  ext : Ext w1 wr
  names : wr.ownsRow w1.heap.size 9 1 v1 k ((ds.take k).map fun d => strB d.1.text)
  ats : wr.ownsRow w1.heap.size 3 1 v2 k (((atsF ds 384).take k).map natV)

theorem grown_ext {w1 wr wa w3 : World} {row : Option Nat} (h : Ext w1 wr) (hE : Ext wr wa) (hg : wa.grownBy w3 row) (hr : ∀ q, row = some q → w1.heap.size ≤ q) : Ext w1 w3 := by
  have hEE := h.trans hE
  refine ⟨hg.os.trans hEE.os, hg.tape.trans hEE.tape, hg.output.trans hEE.output, Nat.le_trans hEE.size hg.size, fun q hq => ?_⟩
  rw [hg.block q (Nat.lt_of_lt_of_le hq hEE.size) (fun e => by have := hr q e.symm; omega)]
  exact hEE.block q hq

set_option maxRecDepth 100000 in
set_option maxHeartbeats 6400000 in
theorem data_tells {N : Nat} (s : ByteArray) (hs : s.size ≤ maxLen) (w : World) (hG : Gl N w) (hC : Cb N w) (hN : N ≤ w.heap.size) : Calls Tryz.prog 9 #[.string s] w (DataPost w (takenF s)) := by
  have htk := taken_any s hs w hG hC hN
  have hcode := fun ln code (h : takenF s = .error (ln, code)) => (takenF_err h).1
  have hgood := fun u (h : takenF s = .ok u) => takenF_good h
  have HTK := Lib.hid htk
  have HCODE := Lib.hid hcode
  have HGOOD := Lib.hid hgood
  clear htk hG hC hcode hgood
  generalize takenF s = R at *
  go_enter Tryz.func9, Tryz.ntmps9
  go_wp2_with fail
  refine HTK.out.mono ?_
  rintro e w1 hp
  cases R with
  | error q =>
    obtain ⟨ln, code⟩ := q
    obtain ⟨rfl, hE⟩ := hp
    have HE := Lib.hid hE
    have hc := HCODE.out _ _ rfl
    have hne : ((code : Int) != 0) = true := by rw [bne_iff_ne]; omega
    clear hE hc
    go_wp2_with fail
    go_ret3
    exact ⟨rfl, HE.out⟩
  | ok u =>
    obtain ⟨ub, rfl, hE, hu⟩ := hp
    obtain ⟨pb, mpb, n, vd, vb, cv, h1, h2, h3, h4, h5, h6, h7, h8⟩ := hu.ex
    obtain ⟨-, -, -, -, -, -, -, -, hpl, -, hdk, hdl, -, -⟩ := HGOOD.out u rfl
    have hat := (placesF_at u.ds 384 _ _ hpl).2
    obtain ⟨da, dc, rfl, -, hdel⟩ := h3
    have c0 := cell_of_heap (o := 0) h1
    have c1 := cell_of_heap (o := 1) h1
    have p0 := cell_of_heap (o := 0) h2
    simp only [List.getElem?_toArray, List.getElem?_cons_zero, List.getElem?_cons_succ] at c0 c1 p0
    have x1 := hE.size
    have hub := heap_lt h1
    have HE := Lib.hid hE
    have HDEL := Lib.hid hdel
    have HPL := Lib.hid h5
    have HAT := Lib.hid hat
    have HDK := Lib.hid hdk
    clear hE hu h1 h2 h4 h5 h6 h7 h8 hpl hat hdel hdk HTK HCODE HGOOD
    generalize u.places = L at *
    generalize hcd : u.ds = ds at *
    have HCD := Lib.hid hcd
    clear hcd
    go_wp2_with fail
    go_loopw [8, 9, 29] (fun v1 v2 i wr => ∃ k : Nat, k ≤ ds.length ∧ i = .int .i64 k ∧ Hid (DataRel w1 wr ds k v1 v2)) (fun _ _ i _ => ds.length - (intOf i).toNat)
    case atStart => exact ⟨0, by omega, rfl, Lib.hid ⟨Ext.refl w1, World.ownsRow_nil _ _ _ _, World.ownsRow_nil _ _ _ _⟩⟩
    case round =>
      obtain ⟨k, hk, rfl, HR⟩ := hrel
      by_cases hlt : k < ds.length
      · obtain ⟨g, rfl, -, hg, d0, d1, d2, d3, d4⟩ := HDEL.out k hlt
        have hat := HAT.out k hlt
        have hdk := HDK.out (ds.getD k default) (by rw [List.getD_eq_getElem?_getD, List.getElem?_eq_getElem hlt]; exact List.getElem_mem hlt)
        have hgd : ds.getD k default = ds[k] := by rw [List.getD_eq_getElem?_getD, List.getElem?_eq_getElem hlt]; rfl
        have ht1 : (ds.take (k + 1)).map (fun d => strB d.1.text) = (ds.take k).map (fun d => strB d.1.text) ++ [strB (ds.getD k default).1.text] := by
          rw [hgd, List.take_succ_eq_append_getElem hlt, List.map_append]; rfl
        have hla : k < (atsF ds 384).length := by rw [atsF_len]; exact hlt
        have ht2 : ((atsF ds 384).take (k + 1)).map natV = ((atsF ds 384).take k).map natV ++ [natV ((atsF ds 384).getD k 0)] := by
          rw [List.take_succ_eq_append_getElem hla, List.map_append]
          simp [List.getD_eq_getElem?_getD, hla]
        generalize ds.getD k default = d at *
        obtain ⟨⟨kind, text, line, num⟩, size⟩ := d
        obtain ⟨⟨hf1, -⟩, -⟩ := hdk
        simp only at d0 d1 d2 d3 d4 hat hf1 ht1
        obtain ⟨hE1, hr1, hr2⟩ := HR.out
        have q0 := (hE1.cell _ _ hg).trans d0
        have q1 := (hE1.cell _ _ hg).trans d1
        have q2 := (hE1.cell _ _ hg).trans d2
        have q3 := (hE1.cell _ _ hg).trans d3
        have q4 := (hE1.cell _ _ hg).trans d4
        generalize hav : (atsF ds 384).getD k 0 = av at *
        obtain ⟨oa, oc, rfl⟩ := own_form hr1
        obtain ⟨ob, od, rfl⟩ := own_form hr2
        have xr := hE1.size
        have HE1 := Lib.hid hE1
        have HR1 := Lib.hid hr1
        have HR2 := Lib.hid hr2
        have HT1 := Lib.hid ht1
        have HT2 := Lib.hid ht2
        have HLK : Hid (∀ w', Ext w1 w' → (Instr.lookup 48 (.map (some mpb)) (.string text) false).run Tryz.prog w' = .ok (.agg #[.int .i64 av, .int .u32 size]) w') := Lib.hid fun w' hE => by
          have := (HPL.out.keep (hE.block _ HPL.out.size)).look false text (Nat.le_trans hf1 (by simp [maxLen]))
          rw [hat] at this
          simpa [lookV] using this
        have hfl := run_field82_0
        obtain ⟨i0, hi0, hz0, hz1, hz2⟩ := info_parts info9
        obtain ⟨j0, hj0, hy0, hy1, hy2⟩ := info_parts info3
        clear d0 d1 d2 d3 d4 hE1 hr1 hr2 ht1 ht2 hat hav HR hla hgd
        have hEa : Ext wr ((wr.alloc (.cells #[.int .i64 kind, .string text, .int .i64 line, .int .u32 num, .int .u32 size] 71)).alloc (.cells #[.string text] 9)) := ((Ext.refl wr).alloc _).alloc _
        have HEA := Lib.hid hEa
        have CONT : ∀ {o : Oper} {rest : List Oper} {ops : Array Oper} {A : Act} {Q : Exit → Act → World → Prop}, o.guard = none → o.op = .call { callee := .builtin .append, args := #[.tmp 33, .tmp 37], argTypes := #[34, 34] } → A.eval (.tmp 33) = .slice oa k oc → A.eval (.tmp 37) = .slice (some ⟨wr.heap.size + 1, 0, none⟩) 1 1 →
            (∀ v' w3, Hid (w3.ownsRow w1.heap.size 9 1 v' (k + 1) ((ds.take (k + 1)).map fun d => strB d.1.text)) → Hid (w3.ownsRow w1.heap.size 3 1 (.slice ob k od) k (((atsF ds 384).take k).map natV)) → Hid (Ext w1 w3) → Hid (w3.heap[wr.heap.size]? = some (.cells #[.int .i64 kind, .string text, .int .i64 line, .int .u32 num, .int .u32 size] 71 (0, 0))) → wpList Tryz.prog ops Q rest (A.put o.dst v') w3) →
            wpList Tryz.prog ops Q (o :: rest) A ((wr.alloc (.cells #[.int .i64 kind, .string text, .int .i64 line, .int .u32 num, .int .u32 size] 71)).alloc (.cells #[.string text] 9)) := by
          intro o rest ops A Q hgd ho e1 e2 kk
          refine wpList_own_append hgd (.tmp 33) (.tmp 37) 34 ho w1.heap.size 9 i0 _ 1 16 Tryz.underlying34 hi0 hz0 hz1 hz2 rfl (by decide) (.slice oa k oc) k ((ds.take k).map fun d => strB d.1.text) e1 (own_keep HR1.out (fun q hq => hEa.block q (own_block HR1.out hq).2) (Nat.le_refl _))
            ⟨wr.heap.size + 1, 0, none⟩ 1 1 [.string text] e2 rfl ?_ ?_ (by simp only [maxLen]; omega) (by omega) (by simp only [szA]; omega) ?_
          · intro j u hu
            rcases j with _ | j
            · simp only [List.getElem?_cons_zero, Option.some.injEq] at hu
              subst hu
              rw [add0, cell_of_heap (c := #[.string text]) (T := 9) (f := (0, 0)) (by rw [heapA, if_pos (by rw [szA])])]
              rfl
            · simp at hu
          · intro u hu
            simp only [List.mem_singleton] at hu
            subst hu
            rfl
          intro v' w3 hrow3 hg3 hb3
          have hrow3' : w3.ownsRow w1.heap.size 9 1 v' (k + 1) ((ds.take (k + 1)).map fun d => strB d.1.text) := by rw [HT1.out]; exact hrow3
          refine kk v' w3 (Lib.hid hrow3') (Lib.hid ?_) (Lib.hid (grown_ext HE1.out hEa hg3 (fun q hq => (own_block HR1.out hq).1))) (Lib.hid ?_)
          · refine own_keep HR2.out (fun q hq => ?_) (Nat.le_refl _)
            have hq2 := own_block HR2.out hq
            rw [hg3.block q (by simp only [szA]; omega) (fun e => ?_), hEa.block q hq2.2]
            obtain ⟨c1, hc1⟩ := own_heap HR1.out e.symm
            obtain ⟨c2, hc2⟩ := own_heap HR2.out hq
            rw [hc1] at hc2
            simp at hc2
          · rw [hg3.block _ (by simp only [szA]; omega) (fun e => by have := (own_block HR1.out e.symm).2; omega), heapA, if_neg (by rw [szA]; omega), heapA, if_pos rfl]
        go_wp2_with (refine CONT rfl rfl rfl rfl ?_; intro v' w3 HN3 HA3 HE3 HD3)
        clear CONT
        obtain ⟨oa3, oc3, rfl⟩ := own_form HN3.out
        have x3 := HE3.out.size
        have hw3s := heap_lt HD3.out
        have hS : ∀ w', Ext w3 w' → w'.cell? ⟨ub, 1, none⟩ = some (.map (some mpb)) ∧ w'.cell? ⟨wr.heap.size, 1, none⟩ = some (.string text) ∧ (Instr.lookup 48 (.map (some mpb)) (.string text) false).run Tryz.prog w' = .ok (.agg #[.int .i64 av, .int .u32 size]) w' := fun w' hE =>
          ⟨((HE3.out.trans hE).cell _ _ hub).trans c1, by rw [cell_of_heap ((hE.block _ hw3s).trans HD3.out)]; rfl, HLK.out w' (HE3.out.trans hE)⟩
        go_wp2_with fail
        refine wp_region_plan (fun w' => w'.cell? ⟨ub, 1, none⟩ = some (.map (some mpb)) ∧ w'.cell? ⟨wr.heap.size, 1, none⟩ = some (.string text) ∧ (Instr.lookup 48 (.map (some mpb)) (.string text) false).run Tryz.prog w' = .ok (.agg #[.int .i64 av, .int .u32 size]) w')
          [(0, true), (1, true), (2, true), (3, true), (4, true), (5, true), (6, true), (7, true), (8, true), (9, true), (10, false), (11, false), (12, true)] true (by kernel_rfl) (by kernel_rfl) (fun c a d v w h => by cases d <;> exact h) (hS _ (Ext.refl w3).drew) ?_
        iterate 10 (refine ⟨_, ?_, rfl, Or.inl ⟨by rfl, ?_⟩, ?_⟩; rotate_left; (· intro w' hSw; (try dsimp only at hSw); go_simp; (try with_reducible rfl)); simp only [Act.put, List.setIfInBounds_toArray, List.set_cons_zero, List.set_cons_succ, List.getElem_toArray, List.getElem_cons_zero, List.getElem_cons_succ])
        refine wpPlan_act rfl (by rfl) (fun K hK => ?_)
        go_simp
        have hE4 : Ext w3 ((w3.drew).alloc (.cells #[.int .i64 av] 3)) := ((Ext.refl w3).drew).alloc _
        refine hK _ _ (fun _ => hS _ hE4) ?_
        clear hK K
        try simp only [Act.put, List.setIfInBounds_toArray, List.set_cons_zero, List.set_cons_succ]
        refine wpPlan_act rfl (by rfl) (fun K hK => ?_)
        refine wp_own_append (.tmp 39) (.tmp 49) 35 rfl w1.heap.size 3 j0 (.int .i64 0) 1 8 Tryz.underlying35 hj0 hy0 hy1 hy2 rfl (by decide) (.slice ob k od) k (((atsF ds 384).take k).map natV) rfl
          (own_keep HA3.out (fun q hq => hE4.block q (own_block HA3.out hq).2) (Nat.le_refl _))
          ⟨w3.heap.size, 0, none⟩ 1 1 [.int .i64 av] rfl rfl ?_ ?_ (by simp only [maxLen]; omega) (by omega) (Nat.le_trans x3 hE4.size) ?_
        · intro j u hu
          rcases j with _ | j
          · simp only [List.getElem?_cons_zero, Option.some.injEq] at hu
            subst hu
            simp [Addr.add, go_sem]
          · simp at hu
        · intro u hu
          simp only [List.mem_singleton] at hu
          subst hu
          rfl
        intro v5 w5 hrow5 hg5 hb5
        have hrow5' : w5.ownsRow w1.heap.size 3 1 v5 (k + 1) (((atsF ds 384).take (k + 1)).map natV) := by rw [HT2.out]; exact hrow5
        have hE5 : Ext w1 w5 := grown_ext HE3.out hE4 ⟨hg5.os, hg5.tape, hg5.output, hg5.size, hg5.block⟩ (fun q hq => (own_block HA3.out hq).1)
        have hN5 : w5.ownsRow w1.heap.size 9 1 (.slice oa3 (k + 1) oc3) (k + 1) ((ds.take (k + 1)).map fun d => strB d.1.text) := by
          refine own_keep HN3.out (fun q hq => ?_) (Nat.le_refl _)
          have hq2 := own_block HN3.out hq
          have h := hg5.block q (Nat.lt_of_lt_of_le hq2.2 hE4.size) (fun e => by
            obtain ⟨c1, hc1⟩ := own_heap HA3.out e.symm
            obtain ⟨c2, hc2⟩ := own_heap HN3.out hq
            rw [hc1] at hc2
            simp at hc2)
          exact h.trans (hE4.block q hq2.2)
        obtain ⟨oa5, oc5, rfl⟩ := own_form hrow5'
        have HREL := Lib.hid (DataRel.mk hE5 hN5 hrow5')
        have b1 := (hE5.cell ub 1 hub).trans c1
        have b2 : w5.cell? ⟨wr.heap.size, 1, none⟩ = some (.string text) := by
          have h := hg5.block wr.heap.size (Nat.lt_of_lt_of_le hw3s hE4.size) (fun e => by
            obtain ⟨c1, hc1⟩ := own_heap HA3.out e.symm
            rw [HD3.out] at hc1
            simp at hc1)
          rw [cell_of_heap (h.trans ((hE4.block _ hw3s).trans HD3.out))]; rfl
        refine hK _ _ (fun _ => ⟨b1, b2, HLK.out w5 hE5⟩) ?_
        clear hK K hrow5 hrow5' hg5 hb5 hE5 hN5 hE4 b1 b2 hS
        try simp only [Act.put, List.setIfInBounds_toArray]
        iterate 1 (refine ⟨_, ?_, rfl, Or.inl ⟨by rfl, ?_⟩, ?_⟩; rotate_left; (· intro w' hSw; (try dsimp only at hSw); go_simp; (try with_reducible rfl)); simp only [Act.put, List.setIfInBounds_toArray, List.set_cons_zero, List.set_cons_succ, List.getElem_toArray, List.getElem_cons_zero, List.getElem_cons_succ])
        refine ⟨rfl, ?_⟩
        go_wp2_with fail
        all_goals exact ⟨⟨k + 1, by omega, by go_num, HREL⟩, by simp [intOf]; omega⟩
      · have hkk : k = ds.length := by omega
        subst hkk
        obtain ⟨h1, h2, h3⟩ := HR.out
        rw [List.take_length] at h2
        rw [List.take_of_length_le (by rw [atsF_len]; omega)] at h3
        obtain ⟨oa, oc, rfl⟩ := own_form h2
        obtain ⟨ob, od, rfl⟩ := own_form h3
        have H1 := Lib.hid h1
        have H2 := Lib.hid h2
        have H3 := Lib.hid h3
        clear h1 h2 h3 HR
        go_wp2_with fail
        go_ret3
        refine ⟨.slice oa ds.length oc, .slice ob ds.length od, rfl, HE.out.trans H1.out, ?_⟩
        rw [HCD.out]
        exact ⟨own_keep H2.out (fun _ _ => rfl) (by omega), own_keep H3.out (fun _ _ => rfl) (by omega)⟩
end Go.Proofs.YtgjgaeloehfhiaaGreatDoor
end
section
/- A builder, by itself or at the head of a printer: written to, read. -/
namespace Go.Proofs.YtgjgaeloehfhiaaGreatDoor
open Go.RowKit

/-- A builder's type with what stands behind it in its block. -/
def BldT (T : TypeId) (ex : List Value) : Prop := (T = 61 ∧ ex = []) ∨ (T = 63 ∧ ∃ n : Int, ex = [.int .i64 n])

/-- A builder in block b, its bytes; nil or own address. -/
structure BldP (w : World) (B b : Nat) (T : TypeId) (ex : List Value) (l : List UInt8) (p v : Value) : Prop where
  cells : w.heap[b]? = some (.cells (p :: v :: ex).toArray T (0, 0))
  low : B ≤ b
  row : w.ownsRow B 5 1 v l.length (Lib.byteCells l)
  kind : BldT T ex
def Bld (w : World) (B b : Nat) (T : TypeId) (ex : List Value) (l : List UInt8) : Prop := ∃ p v, (p = .pointer none ∨ p = .pointer (some ⟨b, 0, none⟩)) ∧ BldP w B b T ex l p v

theorem BldT.ne {T : TypeId} {ex : List Value} (h : BldT T ex) : T ≠ 5 := by rcases h with ⟨rfl, _⟩ | ⟨rfl, _⟩ <;> decide

/-- What writing leaves alone: all below B; all that is no row of bytes, b aside. -/
structure BFr (B b : Nat) (w w' : World) : Prop where
  below : Below B w w'
  typ : ∀ (k : Nat) (o : Obj), w.heap[k]? = some o → k ≠ b → (∀ (c : Array Value) f, o ≠ .cells c 5 f) → w'.heap[k]? = some o
theorem BFr.refl (B b : Nat) (w : World) : BFr B b w w := ⟨Below.refl _ _, fun _ _ h _ _ => h⟩
theorem BFr.trans {B b : Nat} {a c d : World} (h : BFr B b a c) (k : BFr B b c d) : BFr B b a d := ⟨h.below.trans k.below, fun i o hi hb ho => k.typ i o (h.typ i o hi hb ho) hb ho⟩
theorem BFr.of_ext {B b : Nat} {w w' : World} (h : Ext w w') (hB : B ≤ w.heap.size) : BFr B b w w' := ⟨⟨h.os, h.tape, h.output, h.size, fun k hk => h.block k (by omega)⟩, fun k o hk _ _ => (h.block k (Array.getElem?_eq_some_iff.1 hk).1).trans hk⟩

theorem Bld.ext {w w' : World} {B b : Nat} {T : TypeId} {ex : List Value} {l : List UInt8} (h : Bld w B b T ex l) (hE : Ext w w') : Bld w' B b T ex l := by
  obtain ⟨p, v, hp, h1, h2, h3, h4⟩ := h
  exact ⟨p, v, hp, (hE.block b (Array.getElem?_eq_some_iff.1 h1).1).trans h1, h2, own_keep h3 (fun g hg => hE.block g (own_block h3 hg).2) (Nat.le_refl _), h4⟩

theorem size61 : (Tryz.prog.info? 61).map (·.size) = some 2 := by kernel_rfl
theorem lies61 : liesAt Tryz.prog Tryz.prog.depth 61 (2 / Tryz.prog.cellsOf 61) 0 61 1 = true := by kernel_rfl
theorem lies63 : liesAt Tryz.prog Tryz.prog.depth 63 (3 / Tryz.prog.cellsOf 63) 0 61 1 = true := by kernel_rfl
theorem infoByte : (Tryz.prog.info? 5).map (fun i => (i.zero, i.size, i.bytes)) = some (some (.int .u8 0), 1, 1) := by kernel_rfl

theorem BldP.shape {w : World} {B b : Nat} {T : TypeId} {ex : List Value} {l : List UInt8} {p v : Value} (h : BldP w B b T ex l p v) : (T = 61 ∧ w.shape? b = some (61, 2)) ∨ (T = 63 ∧ w.shape? b = some (63, 3)) := by
  rcases h.kind with ⟨rfl, rfl⟩ | ⟨rfl, n, rfl⟩
  · exact .inl ⟨rfl, by simp [World.shape?, h.cells]⟩
  · exact .inr ⟨rfl, by simp [World.shape?, h.cells]⟩

set_option maxHeartbeats 1600000 in
set_option maxRecDepth 100000 in
theorem copyCheck_any {B b : Nat} {T : TypeId} {ex : List Value} {l : List UInt8} (w : World) (h : Bld w B b T ex l) :
    Calls Tryz.prog 63 #[.pointer (some ⟨b, 0, none⟩)] w fun e w' => e = .returned (.tuple #[]) ∧ (∃ v, BldP w' B b T ex l (.pointer (some ⟨b, 0, none⟩)) v) ∧ BFr B b w w' := by
  obtain ⟨p, v, hp, hB⟩ := h
  obtain ⟨j, hj, hjs⟩ := Option.map_eq_some_iff.1 size61
  have hc := cell_of_heap (o := 0) hB.cells
  simp only [List.getElem?_toArray, List.getElem?_cons_zero] at hc
  have hfz := (cells_of_heap hB.cells).2.1 0
  have hsh := hB.shape
  have HB := Lib.hid hB
  clear hB
  rcases hp with rfl | rfl
  · have hlies : ∃ (e : TypeId) (n : Nat), w.shape? b = some (e, n) ∧ 0 < n ∧ liesAt Tryz.prog Tryz.prog.depth e (n / Tryz.prog.cellsOf e) 0 61 1 = true := by
      rcases hsh with ⟨_, h⟩ | ⟨_, h⟩
      · exact ⟨61, 2, h, by omega, lies61⟩
      · exact ⟨63, 3, h, by omega, lies63⟩
    obtain ⟨se, sn, hs1, hs2, hs3⟩ := hlies
    clear hsh
    have hdone : BldP (w.setCell ⟨b, 0, none⟩ (.pointer (some ⟨b, 0, none⟩))) B b T ex l (.pointer (some ⟨b, 0, none⟩)) v ∧ BFr B b w (w.setCell ⟨b, 0, none⟩ (.pointer (some ⟨b, 0, none⟩))) := by
      have h := HB.out
      refine ⟨⟨by rw [heapS, if_pos rfl, h.cells]; rfl, h.low, own_keep h.row (fun g hg => ?_) (Nat.le_refl _), h.kind⟩, ⟨Below.setCell (Below.refl _ _) h.low _, fun k o hk hb _ => by rw [heapS, if_neg hb]; exact hk⟩⟩
      rw [heapS, if_neg]
      rintro rfl
      obtain ⟨cur, hcur⟩ := World.ownsRow.lt h.row _ hg |> fun _ => (show ∃ cur, w.heap[g]? = some (.cells cur 5 (0, 0)) from by
        rcases h.row.2 with ⟨rfl, _⟩ | ⟨g', _, cur, rfl, _, hh, _⟩
        · simp [Value.ownBlock] at hg
        · simp only [Value.ownBlock, Option.some.injEq] at hg; subst hg; exact ⟨cur, hh⟩)
      rw [h.cells] at hcur
      simp only [Option.some.injEq, Obj.cells.injEq] at hcur
      exact h.kind.ne hcur.2.1
    have HD := Lib.hid hdone
    clear hdone
    go_enter Tryz.func63, Tryz.ntmps63
    go_wp2
    rw [Lib.run_to_unsafe w ⟨b, 0, none⟩ Tryz.underlying58 Tryz.underlying203 hj (by rw [hjs]; decide) hs1 hs2]
    simp only [Result.andThen]
    rw [Oper.upon_value]
    go_wp2
    rw [run_callFunc_extern Tryz.func108 (by kernel_rfl) (by kernel_rfl) (by kernel_rfl) (e := Extern.AbiNoEscape.same) (by kernel_rfl)]
    rw [Lib.run_noEscape]
    simp only [Result.andThen]
    rw [Oper.upon_value]
    go_wp2
    rw [Lib.run_from_unsafe w ⟨b, 0, none⟩ Tryz.underlying203 Tryz.underlying58 hj hs1 hs3]
    simp only [Result.andThen]
    rw [Oper.upon_value]
    go_wp2
    go_end0
    exact ⟨rfl, ⟨v, HD.out.1⟩, HD.out.2⟩
  · go_enter Tryz.func63, Tryz.ntmps63
    go_wp2
    rw [Lib.run_neq_ptr_same w _ Tryz.underlying58 hj]
    go_wp2
    go_end0
    exact ⟨rfl, ⟨v, HB.out⟩, BFr.refl _ _ _⟩

set_option maxHeartbeats 1600000 in
set_option maxRecDepth 100000 in
theorem write_any {B b : Nat} {T : TypeId} {ex : List Value} {l : List UInt8} (s : ByteArray) (w : World) (h : Bld w B b T ex l) (hlen : l.length + s.size ≤ 140737488355328) (hBw : B ≤ w.heap.size) :
    Calls Tryz.prog 34 #[.pointer (some ⟨b, 0, none⟩), .string s] w fun e w' => e = .returned (.tuple #[.int .i64 s.size, .nilIface]) ∧ Bld w' B b T ex (l ++ s.data.toList) ∧ BFr B b w w' := by
  have hcc := copyCheck_any w h
  obtain ⟨i0, hi, hz0, hz1, hz2⟩ := info_parts infoByte
  have hs63 : s.size ≤ 9223372036854775807 := by omega
  clear h
  go_enter Tryz.func34, Tryz.ntmps34
  go_wp2_with fail
  refine hcc.mono ?_
  rintro e w1 ⟨rfl, ⟨v, h1⟩, hf⟩
  have c1 := cell_of_heap (o := 1) h1.cells
  simp only [List.getElem?_toArray, List.getElem?_cons_zero, List.getElem?_cons_succ] at c1
  have f1 := (cells_of_heap h1.cells).2.1 1
  have hbl := (cells_of_heap h1.cells).2.2
  have hown := h1.row
  have HB := Lib.hid h1
  have HF := Lib.hid hf
  have hsz1 := hf.below.size
  obtain ⟨va, vc, rfl⟩ : ∃ a c, v = .slice a l.length c := by
    rcases hown.2 with ⟨rfl, h0⟩ | ⟨g, cap, _, rfl, _⟩
    · rw [h0]; exact ⟨_, _, rfl⟩
    · exact ⟨_, _, rfl⟩
  have HOWN := Lib.hid hown
  clear h1 hf hown
  have CONT : ∀ {o : Oper} {rest : List Oper} {ops : Array Oper} {A : Act} {Q : Exit → Act → World → Prop}, o.guard = none → o.op = .call { callee := .builtin .append, args := #[.tmp 12, .tmp 13], argTypes := #[59, 9] } → A.eval (.tmp 12) = .slice va l.length vc → A.eval (.tmp 13) = .string s →
      (∀ (g : Option Addr) (n cap : Nat) w3, w3.cell? ⟨b, 1, none⟩ = some (.slice va l.length vc) → w3.frozen? ⟨b, 1, none⟩ = false → Hid (Bld (w3.setCell ⟨b, 1, none⟩ (.slice g n cap)) B b T ex (l ++ s.data.toList) ∧ BFr B b w (w3.setCell ⟨b, 1, none⟩ (.slice g n cap))) → wpList Tryz.prog ops Q rest (A.put o.dst (.slice g n cap)) w3) →
      wpList Tryz.prog ops Q (o :: rest) A w1 := by
    intro o rest ops A Q hgd ho e1 e2 k
    refine Lib.wpList_append_own_string _ hgd (.tmp 12) (.tmp 13) 59 9 ho B 5 i0 Tryz.underlying59 Tryz.underlying9 hi hz0 hz1 hz2 _ _ _ e1 HOWN.out s e2 ?_ ?_ ?_ ?_
    · simp only [maxLen]; omega
    · omega
    · omega
    intro v' w3 hown' hgrow _
    have hne : Value.ownBlock (.slice va l.length vc) ≠ some b := fun e => by
      rcases HOWN.out.2 with ⟨h0, _⟩ | ⟨g', _, cur, h0, _, hh, _⟩
      · rw [h0] at e; simp [Value.ownBlock] at e
      · rw [h0] at e
        simp only [Value.ownBlock, Option.some.injEq] at e
        subst e
        have hc := HB.out.cells
        rw [hh] at hc
        simp only [Option.some.injEq, Obj.cells.injEq] at hc
        exact HB.out.kind.ne hc.2.1.symm
    have hb3 := (hgrow.block b hbl (fun e => hne e.symm)).trans HB.out.cells
    obtain ⟨g, n, cap, rfl⟩ : ∃ g n cap, v' = .slice g n cap := by
      rcases hown'.2 with ⟨hv, _⟩ | ⟨g, cap, cur, hv, _⟩
      · exact ⟨_, _, _, hv⟩
      · exact ⟨_, _, _, hv⟩
    have d1 := cell_of_heap (o := 1) hb3
    simp only [List.getElem?_toArray, List.getElem?_cons_zero, List.getElem?_cons_succ] at d1
    refine k g n cap w3 d1 ((cells_of_heap hb3).2.1 1) (Lib.hid ⟨⟨.pointer (some ⟨b, 0, none⟩), .slice g n cap, .inr rfl, ⟨?_, HB.out.low, ?_, HB.out.kind⟩⟩, HF.out.trans ⟨?_, fun q o hq hqb ho => ?_⟩⟩)
    · rw [heapS, if_pos rfl, hb3]; rfl
    · have h5 : w3.ownsRow B 5 1 (.slice g n cap) (l ++ s.data.toList).length (Lib.byteCells (l ++ s.data.toList)) := by
        rw [Lib.byteCells_append, ← Lib.strCells_eq]
        have hl2 : (l ++ s.data.toList).length = l.length + s.size := by rw [List.length_append, Lib.size_eq]
        rw [hl2]
        exact hown'
      refine own_keep h5 (fun q hq => ?_) (Nat.le_refl _)
      rw [heapS, if_neg]
      rintro rfl
      rcases h5.2 with ⟨h0, _⟩ | ⟨g', _, cur, h0, _, hh, _⟩
      · rw [h0] at hq; simp [Value.ownBlock] at hq
      · rw [h0] at hq
        simp only [Value.ownBlock, Option.some.injEq] at hq
        subst hq
        rw [hb3] at hh
        simp only [Option.some.injEq, Obj.cells.injEq] at hh
        exact HB.out.kind.ne hh.2.1
    · exact Below.setCell (p := ⟨b, 1, none⟩) (Below.grown (Below.refl _ _) hgrow (by omega) (fun q hq => (World.ownsRow.lt HOWN.out q hq).1)) HB.out.low _
    · rw [heapS, if_neg hqb, hgrow.block q (Array.getElem?_eq_some_iff.1 hq).1 (fun e => ?_)]
      · exact hq
      · rcases HOWN.out.2 with ⟨h0, _⟩ | ⟨g', _, cur, h0, _, hh, _⟩
        · rw [h0] at e; simp [Value.ownBlock] at e
        · rw [h0] at e
          simp only [Value.ownBlock, Option.some.injEq] at e
          subst e
          rw [hh] at hq
          exact ho _ _ (Option.some.inj hq).symm
  go_wp2_with (refine CONT rfl rfl rfl rfl ?_; intro g n cap w3 hk3 hk4 HP)
  go_ret2
  exact ⟨rfl, HP.out⟩

theorem cellsByte : Tryz.prog.cellsOf 5 = 1 := by kernel_rfl

set_option maxHeartbeats 3200000 in
set_option maxRecDepth 100000 in
theorem string_any {B b : Nat} {T : TypeId} {ex : List Value} {l : List UInt8} (w : World) (h : Bld w B b T ex l) (h0 : l ≠ []) (_ : B ≤ w.heap.size) :
    Calls Tryz.prog 19 #[.pointer (some ⟨b, 0, none⟩)] w fun e w' => e = .returned (.string ⟨l.toArray⟩) ∧ Below B w w' := by
  obtain ⟨p, v, -, hP⟩ := h
  have hl0 : l.length ≠ 0 := by simpa using h0
  have hrow := hP.row
  obtain ⟨g, cap, cur, rfl, hbg, hg, hnc, hcm, hcs, htake⟩ : ∃ g cap cur, v = .slice (some ⟨g, 0, none⟩) l.length cap ∧ B ≤ g ∧ w.heap[g]? = some (.cells cur 5 (0, 0)) ∧ l.length ≤ cap ∧ cap ≤ maxLen ∧ cur.size = cap * 1 ∧ cur.toList.take (l.length * 1) = Lib.byteCells l := by
    rcases hrow.2 with ⟨_, hz⟩ | ⟨g, cap, cur, hv, r⟩
    · exact absurd hz hl0
    · exact ⟨g, cap, cur, hv, r⟩
  have c1 : w.drew.cell? ⟨b, 1, none⟩ = some (.slice (some ⟨g, 0, none⟩) l.length cap) := by
    have := cell_of_heap (o := 1) hP.cells
    exact this
  have hSD : (Builtin.unsafeSliceData_ #[59] 121 #[.slice (some ⟨g, 0, none⟩) l.length cap]).run Tryz.prog w.drew = .ok (.pointer (some ⟨g, 0, none⟩)) w.drew :=
    Lib.run_unsafeSliceData_row _ _ _ _ _ _ (by omega)
  have hUS : (Builtin.unsafeString_ #[121, 3] 9 #[.pointer (some ⟨g, 0, none⟩), .int .i64 l.length]).run Tryz.prog w.drew = .ok (.string ⟨l.toArray⟩) (w.drew.freeze ⟨g, 0, none⟩ l.length) := by
    refine Lib.run_unsafeString_row w.drew 121 3 9 5 Tryz.underlying121 cellsByte g cur.size (by have hg' : w.drew.heap[g]? = some (.cells cur 5 (0, 0)) := hg; simp [World.shape?, hg']) l h0 (by omega) (by unfold maxLen at hcm; omega) ?_
    intro j x hx
    have := hrow.cells (g := g) rfl j (.int .u8 x.toNat) (by simp [Lib.byteCells, hx])
    exact this
  clear hP hrow hg hcs htake hl0
  go_enter Tryz.func19, Tryz.ntmps19
  go_wp2
  go_region
  all_goals (go_wp2; go_ret; exact ⟨rfl, Lib.below_freeze (Below.drew (Below.refl B w)) (p := ⟨g, 0, none⟩) hbg _⟩)

set_option maxHeartbeats 3200000 in
set_option maxRecDepth 100000 in
theorem string_nil {B b : Nat} {T : TypeId} {ex : List Value} {p : Value} (w : World) (hc : w.heap[b]? = some (.cells (p :: .slice none 0 0 :: ex).toArray T (0, 0))) :
    Calls Tryz.prog 19 #[.pointer (some ⟨b, 0, none⟩)] w fun e w' => e = .returned (.string ⟨#[]⟩) ∧ Below B w w' := by
  have hUS : ∀ (W : World) (q : Option Addr), (Builtin.unsafeString_ #[121, 3] 9 #[.pointer q, .int .i64 0]).run Tryz.prog W = .ok (.string .empty) W := fun W q => Lib.run_unsafeString_none W _ _ _ q
  have hSD : ∀ (W : World), (Builtin.unsafeSliceData_ #[59] 121 #[.slice none 0 0]).run Tryz.prog W = .ok (.pointer none) W := fun W => Lib.run_unsafeSliceData_nil W _ _ _ _
  have c1 : w.drew.cell? ⟨b, 1, none⟩ = some (.slice none 0 0) := cell_of_heap (o := 1) hc
  clear hc
  go_enter Tryz.func19, Tryz.ntmps19
  go_wp2
  go_region
  all_goals (go_wp2; go_ret; exact ⟨rfl, Below.drew (Below.refl B w)⟩)
end Go.Proofs.YtgjgaeloehfhiaaGreatDoor
end
section
/- The text of an instruction. -/
namespace Go.Proofs.YtgjgaeloehfhiaaGreatDoor
open Go.RowKit

theorem dec_len : ∀ (k n : Nat), n < 10 ^ (k + 1) → (Lib.decDigits n).length ≤ k + 1
  | 0, n, h => by rw [Lib.decDigits, dif_pos (by simpa using h)]; simp
  | k + 1, n, h => by
    rw [Lib.decDigits]
    split
    · simp
    · have := dec_len k (n / 10) (by rw [Nat.pow_succ] at h; omega)
      simp only [List.length_append, List.length_cons, List.length_nil]
      omega
theorem itoa_len {n : Int} (h0 : -32768 ≤ n) (h1 : n ≤ 65535) : (Lib.itoa n).length ≤ 6 := by
  unfold Lib.itoa
  split
  · have := dec_len 4 n.natAbs (by omega)
    simp only [List.length_cons]; omega
  · have := dec_len 4 n.toNat (by omega)
    omega

/-- The fields of an instruction's line. -/
def fieldsF (i : Ins) : List (List UInt8) :=
  let r := isaRow i.op.toNat
  (if r.2.1 then [114 :: Lib.decDigits i.a.toNat] else []) ++ (if r.2.2.1 then [114 :: Lib.decDigits i.b.toNat] else []) ++ (if r.2.2.2.1 = 0 then [] else [Lib.itoa i.imm])
/-- The line. -/
def lineF (i : Ins) : List UInt8 := (isaRow i.op.toNat).1 ++ (if fieldsF i = [] then [] else 32 :: Lib.join (fieldsF i) [44, 32]) ++ [10]

theorem isa_name_len (op : Nat) (h : op < 27) : (isaRow op).1.length ≤ 4 := by
  have : ∀ op < 27, (isaRow op).1.length ≤ 4 := by decide
  exact this op h
theorem join_len3 (a b c : List UInt8) : (Lib.join [a, b, c] [44, 32]).length ≤ a.length + b.length + c.length + 4 := by simp [Lib.join, List.intercalate]; omega
theorem join_len2 (a b : List UInt8) : (Lib.join [a, b] [44, 32]).length ≤ a.length + b.length + 2 := by simp [Lib.join, List.intercalate]; omega
theorem join_len1 (a : List UInt8) : (Lib.join [a] [44, 32]).length ≤ a.length := by simp [Lib.join, List.intercalate]

theorem fields_len {i : Ins} (hi : i.good) : (fieldsF i).length ≤ 3 ∧ (Lib.join (fieldsF i) [44, 32]).length ≤ 20 ∧ ∀ f ∈ fieldsF i, f.length ≤ 6 := by
  obtain ⟨op, a, b, e1, e2, e3, hok⟩ := hi
  have ha := regOK_lt hok.a
  have hb := regOK_lt hok.b
  have hm := imm_lt hok.imm
  have la := dec_len 0 i.a.toNat (by rw [e2]; simpa using (by omega : a < 10))
  have lb := dec_len 0 i.b.toNat (by rw [e3]; simpa using (by omega : b < 10))
  have li := itoa_len hm.1 hm.2
  unfold fieldsF
  simp only
  split <;> split <;> split <;> simp [Lib.join, List.intercalate] <;> omega
theorem line_len {i : Ins} (hi : i.good) : (lineF i).length ≤ 30 := by
  obtain ⟨h1, h2, h3⟩ := fields_len hi
  obtain ⟨op, a, b, e1, e2, e3, hok⟩ := hi
  have := isa_name_len i.op.toNat (by rw [e1]; exact hok.op1)
  unfold lineF
  split <;> simp <;> omega
/-- The whole text. -/
def textF (c : List Ins) : List UInt8 := c.flatMap lineF
theorem text_len : ∀ (c : List Ins), (∀ i ∈ c, i.good) → (textF c).length ≤ 30 * c.length
  | [], _ => by simp [textF]
  | i :: c, h => by
    have h1 := line_len (h i (by simp))
    have h2 := text_len c fun x hx => h x (by simp [hx])
    simp only [textF, List.flatMap_cons, List.length_append, List.length_cons] at *
    omega

/-- A list of fields under construction, behind two blocks that stay. -/
structure FS (wr : World) (q : Nat) (o1 o2 : Obj) (w : World) (v : Value) (xs : List ByteArray) : Prop where
  ext : Ext wr w
  c1 : w.heap[q]? = some o1
  c2 : w.heap[q + 1]? = some o2
  row : w.ownsRow (q + 2) 9 1 v xs.length (xs.map strB)
theorem FS.keep {wr : World} {q : Nat} {o1 o2 : Obj} {w w' : World} {v : Value} {xs : List ByteArray} (h : FS wr q o1 o2 w v xs) (hE : Ext w w') : FS wr q o1 o2 w' v xs :=
  ⟨h.ext.trans hE, (hE.block _ (heap_lt h.c1)).trans h.c1, (hE.block _ (heap_lt h.c2)).trans h.c2, own_keep h.row (fun g hg => hE.block g (own_block h.row hg).2) (Nat.le_refl _)⟩

theorem wpList_fld {wr : World} {q : Nat} {o1 o2 : Obj} {w : World} {v : Value} {xs : List ByteArray} {ops : Array Oper} {rest : List Oper} {o : Oper} {A : Act} {Q : Exit → Act → World → Prop} (hgd : o.guard = none) (sl x : Operand)
    (ho : o.op = .call { callee := .builtin .append, args := #[sl, x], argTypes := #[34, 34] }) (s : ByteArray) (e1 : A.eval sl = v) (e2 : A.eval x = .slice (some ⟨w.heap.size, 0, none⟩) 1 1) (hwr : wr.heap.size ≤ q + 2) (hxs : xs.length ≤ 1000)
    (h : Hid (FS wr q o1 o2 w v xs))
    (k : ∀ (a : Option Addr) (c : Nat) w3, Hid (FS wr q o1 o2 w3 (.slice a (xs.length + 1) c) (xs ++ [s])) → w3.heap[q]? = some o1 → w3.heap[q + 1]? = some o2 → wpList Tryz.prog ops Q rest (A.put o.dst (.slice a (xs.length + 1) c)) w3) :
    wpList Tryz.prog ops Q (o :: rest) A (w.alloc (.cells #[.string s] 9)) := by
  obtain ⟨i0, hi0, hz0, hz1, hz2⟩ := info_parts info9
  have hE : Ext w (w.alloc (.cells #[.string s] 9)) := (Ext.refl w).alloc _
  have hrow := h.out.row
  refine wpList_own_append hgd sl x 34 ho (q + 2) 9 i0 _ 1 16 Tryz.underlying34 hi0 hz0 hz1 hz2 rfl (by decide) v xs.length (xs.map strB) e1 (own_keep hrow (fun g hg => hE.block g (own_block hrow hg).2) (Nat.le_refl _))
    ⟨w.heap.size, 0, none⟩ 1 1 [.string s] e2 rfl ?_ ?_ (by simp only [maxLen]; omega) (by omega) (by have := heap_lt h.out.c2; rw [szA]; omega) ?_
  · intro j u hu
    rcases j with _ | j
    · simp only [List.getElem?_cons_zero, Option.some.injEq] at hu
      subst hu
      rw [add0, cell_of_heap (c := #[.string s]) (T := 9) (f := (0, 0)) (by rw [heapA, if_pos rfl])]
      rfl
    · simp at hu
  · intro u hu
    simp only [List.mem_singleton] at hu
    subst hu
    rfl
  intro v' w3 hrow3 hg3 hb3
  obtain ⟨a, c, rfl⟩ := own_form hrow3
  have keep : ∀ k, k < w.heap.size → k < q + 2 → w3.heap[k]? = w.heap[k]? := fun k hk hq => by
    rw [hg3.block k (by rw [szA]; omega) (fun e => by have := (own_block hrow e.symm).1; omega), heapA, if_neg (by omega)]
  have c1 := (keep q (heap_lt h.out.c1) (by omega)).trans h.out.c1
  have c2 := (keep (q + 1) (heap_lt h.out.c2) (by omega)).trans h.out.c2
  refine k a c w3 (Lib.hid ⟨?_, c1, c2, ?_⟩) c1 c2
  · have hE0 := h.out.ext
    have hs := hg3.size
    rw [szA] at hs
    exact ⟨hg3.os.trans hE0.os, hg3.tape.trans hE0.tape, hg3.output.trans hE0.output, by have := hE0.size; omega, fun k hk => (keep k (Nat.lt_of_lt_of_le hk hE0.size) (by omega)).trans (hE0.block k hk)⟩
  · simp only [List.length_append, List.length_cons, List.length_nil, List.map_append, List.map_cons, List.map_nil]
    exact hrow3
end Go.Proofs.YtgjgaeloehfhiaaGreatDoor
end
