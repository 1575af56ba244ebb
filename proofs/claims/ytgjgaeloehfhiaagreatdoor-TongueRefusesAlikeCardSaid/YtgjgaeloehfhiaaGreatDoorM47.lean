/- The text of a list of instructions. -/
import Derived.Test.YtgjgaeloehfhiaaGreatDoorM37
import Derived.Test.YtgjgaeloehfhiaaGreatDoorM10
section
namespace Go.Proofs.YtgjgaeloehfhiaaGreatDoor
open Go.RowKit


theorem cells4 {w : World} {q : Nat} {a b c d : Value} {T : TypeId} {f : Nat × Nat} (h : w.heap[q]? = some (.cells #[a, b, c, d] T f)) : w.cell? ⟨q, 1, none⟩ = some b ∧ w.cell? ⟨q, 2, none⟩ = some c ∧ w.cell? ⟨q, 3, none⟩ = some d :=
  ⟨cell_of_heap (o := 1) h, cell_of_heap (o := 2) h, cell_of_heap (o := 3) h⟩
theorem cells5 {w : World} {q : Nat} {a b c d e : Value} {T : TypeId} {f : Nat × Nat} (h : w.heap[q]? = some (.cells #[a, b, c, d, e] T f)) : w.cell? ⟨q, 0, none⟩ = some a ∧ w.cell? ⟨q, 1, none⟩ = some b ∧ w.cell? ⟨q, 2, none⟩ = some c ∧ w.cell? ⟨q, 3, none⟩ = some d :=
  ⟨cell_of_heap (o := 0) h, cell_of_heap (o := 1) h, cell_of_heap (o := 2) h, cell_of_heap (o := 3) h⟩
theorem FS.start (w2 : World) (o1 o2 : Obj) : FS w2 w2.heap.size o1 o2 ((w2.alloc o1).alloc o2) (.slice none 0 0) [] :=
  ⟨((Ext.refl w2).alloc _).alloc _, by rw [heapA, if_neg (by rw [szA]; omega), heapA, if_pos rfl], by rw [heapA, if_pos (by rw [szA])], World.ownsRow_nil _ _ _ _⟩

/-- Where the builder stands behind k lines. -/
structure DisRel (w wr : World) (l : List UInt8) : Prop where
  bld : Bld wr w.heap.size w.heap.size 61 [] l
  below : Below w.heap.size w wr

theorem itoa_reg (n : Nat) (hn : n < 10) (w : World) : Calls Tryz.prog 17 #[.int .i64 n] w fun e w' => ∃ s : ByteArray, e = .returned (.string s) ∧ s.data.toList = Lib.decDigits n ∧ s.size ≤ 1 ∧ w' = w := by
  refine (Tryz.strconv_Itoa_small n (by omega) w).mono ?_
  rintro e w' ⟨rfl, rfl⟩
  exact ⟨_, rfl, by simp, by rw [ByteArray.size_mk', List.size_toArray]; exact dec_len 0 n (by simpa using hn), rfl⟩
theorem itoa_imm {N : Nat} (n : Int) (h0 : -32768 ≤ n) (h1 : n ≤ 65535) (w : World) (hT : Tb N w) : Calls Tryz.prog 17 #[.int .i64 n] w fun e w' => ∃ s : ByteArray, e = .returned (.string s) ∧ s.data.toList = Lib.itoa n ∧ s.size ≤ 6 ∧ Ext w w' := by
  refine (itoa_any n (by omega) (by omega) w hT).mono ?_
  rintro e w' ⟨rfl, hE⟩
  exact ⟨_, rfl, by simp, by rw [ByteArray.size_mk', List.size_toArray]; exact itoa_len h0 h1, hE⟩
theorem fld_join {w : World} {base : Nat} {v : Value} {xs : List ByteArray} {F : List (List UInt8)} (h : w.ownsRow base 9 1 v xs.length (xs.map strB)) (hF : xs.map (·.data.toList) = F) (hx : F ≠ []) (hlen : F.length ≤ 3) (hl : (Lib.join F [44, 32]).length ≤ 20) :
    Calls Tryz.prog 36 #[v, .string ⟨#[44, 32]⟩] w fun e w' => ∃ J : ByteArray, e = .returned (.string J) ∧ J.data.toList = Lib.join F [44, 32] ∧ J.size ≤ 20 ∧ Ext w w' := by
  subst hF
  have hlen' : xs.length ≤ 3 := by simpa using hlen
  have hx0 : 0 < xs.length := by cases xs <;> simp_all
  obtain ⟨g, cap, rfl⟩ := own_slc h hx0
  have hcc : xs.length ≤ cap := by
    rcases h.2 with ⟨_, h0⟩ | ⟨g', cap', cur, hv, _, _, hc, _⟩
    · omega
    · injection hv with _ _ h3; omega
  refine (Tryz.strings_Join g 0 cap xs ⟨#[44, 32]⟩ w (fun j x hj => ?_) (own_block h rfl).2 (by omega) hcc (Nat.le_trans hl (by omega))).mono ?_
  · have hj' := (List.getElem?_eq_some_iff.1 hj).1
    have := World.ownsRow.cellAt h j (by omega)
    rw [Nat.zero_add, this, List.getElem?_map, hj]
    rfl
  · rintro e w' ⟨rfl, hb⟩
    exact ⟨_, rfl, by simp, by rw [ByteArray.size_mk', List.size_toArray]; exact hl, .of_below hb⟩

set_option maxRecDepth 100000 in
set_option maxHeartbeats 12800000 in
theorem disasm_any {N base : Nat} (code : List Ins) (hgood : ∀ i ∈ code, i.good) (hlen : code.length ≤ 384) (hne : code ≠ []) (v : Value) (w : World) (hG : Gl N w) (hT : Tb N w) (hN : N ≤ w.heap.size) (hrow : w.ownsRow base 41 1 v code.length (code.map fun i => wordV i.word)) :
    Calls Tryz.prog 15 #[v] w fun e w' => e = .returned (.string ⟨(textF code).toArray⟩) ∧ Ext w w' := by
  obtain ⟨g, cap, rfl⟩ := own_slc hrow (by cases code <;> simp_all)
  have HROW := Lib.hid hrow
  have HG := Lib.hid hG
  have HT := Lib.hid hT
  have HGD := Lib.hid hgood
  clear hrow hG hT hgood
  go_enter Tryz.func15, Tryz.ntmps15
  go_wp2_with fail
  go_loopw [13] (fun i wr => ∃ k : Nat, k ≤ code.length ∧ i = .int .i64 k ∧ Hid (DisRel w wr (textF (code.take k)))) (fun i _ => code.length - (intOf i).toNat)
  case atStart =>
    refine ⟨0, by omega, rfl, Lib.hid ⟨⟨_, _, .inl rfl, ⟨by rw [heapA, if_pos rfl], Nat.le_refl _, World.ownsRow_nil _ _ _ _, .inl ⟨rfl, rfl⟩⟩⟩, ((Ext.refl w).alloc _).below⟩⟩
  case round =>
    obtain ⟨k, hk, rfl, HR⟩ := hrel
    by_cases hlt : k < code.length
    · have hgb := (own_block HROW.out (g := g) rfl).2
      have hcell := (HR.out.below.cell (p := ⟨g, k, none⟩) hgb).trans (World.ownsRow.cellAt HROW.out k (by omega))
      rw [List.getElem?_map, List.getElem?_eq_getElem hlt] at hcell
      simp only [Option.map_some] at hcell
      have hi := HGD.out code[k] (List.getElem_mem hlt)
      have htake : textF (code.take (k + 1)) = textF (code.take k) ++ lineF code[k] := by
        rw [List.take_succ_eq_append_getElem hlt]; simp only [textF, List.flatMap_append, List.flatMap_cons, List.flatMap_nil, List.append_nil]
      have hfl := fields_len hi
      have hll := line_len hi
      have htl := text_len (code.take k) (fun i hi => HGD.out i (List.mem_of_mem_take hi))
      rw [List.length_take, Nat.min_eq_left hk] at htl
      have hGr := HG.out.below hN HR.out.below
      have HTr := Lib.hid (HT.out.below hN HR.out.below)
      generalize code[k] = x at *
      obtain ⟨op, a, b, e1, e2, e3, hok⟩ := hi
      obtain ⟨xop, xa, xb, imm⟩ := x
      simp only at e1 e2 e3 hok
      subst e1 e2 e3
      have hop := hok.op1
      have ha8 := regOK_lt hok.a
      have hb8 := regOK_lt hok.b
      have hii := imm_lt hok.imm
      have ha8' : a < 10 := by omega
      have hb8' : b < 10 := by omega
      have hword : wordV (Ins.word ⟨(op : Int), (a : Int), (b : Int), imm⟩) = .int .u32 (encW op a b imm) := rfl
      rw [hword] at hcell
      have HDEC := Lib.hid (decode_ok op a b imm hok wr hGr.isa)
      have HGr := Lib.hid hGr
      have hline : lineF ⟨(op : Int), (a : Int), (b : Int), imm⟩ = (isaRow op).1 ++ (if fieldsF ⟨(op : Int), (a : Int), (b : Int), imm⟩ = [] then [] else 32 :: Lib.join (fieldsF ⟨(op : Int), (a : Int), (b : Int), imm⟩) [44, 32]) ++ [10] := rfl
      have hfld : fieldsF ⟨(op : Int), (a : Int), (b : Int), imm⟩ = (if (isaRow op).2.1 then [114 :: Lib.decDigits a] else []) ++ (if (isaRow op).2.2.1 then [114 :: Lib.decDigits b] else []) ++ (if (isaRow op).2.2.2.1 = 0 then [] else [Lib.itoa imm]) := rfl
      have hnm := isa_name_len op hop
      have HLINE := Lib.hid hline
      have HTAKE := Lib.hid htake
      have HFLD := Lib.hid hfld
      have HFL := Lib.hid hfl
      have hxr := HR.out.below.size
      clear hword hline htake hfld hfl hGr
      generalize encW op a b imm = W at *
      go_wp2_with fail
      refine HDEC.out.mono ?_
      rintro e w2 ⟨rfl, hE2⟩
      have HB2 := Lib.hid (HR.out.bld.ext hE2)
      have HL2 := Lib.hid (HR.out.below.trans (hE2.belowB hxr))
      have x2 := hE2.size
      have HT2 := Lib.hid (HTr.out.ext hE2)
      obtain ⟨c0, c1, c2, c3, c4, cs⟩ := isa_cells (HGr.out.ext hE2).isa op hop
      clear hE2 HR HTr HDEC HGr HROW HG HT HGD hok hcell
      generalize hmap : isaRow op = R at *
      obtain ⟨nm, r1, r2, kd, r4⟩ := R
      simp only at c0 c1 c2 c3 c4 hnm
      generalize textF (code.take k) = T0 at *
      cases r1 <;> cases r2 <;> rcases Nat.eq_zero_or_pos kd with rfl | hkd
      · obtain ⟨w3, hw3⟩ : ∃ w3, (w2.alloc (.cells #[.int .i64 op, .int .i64 a, .int .i64 b, .int .i64 imm] 53)).alloc (.cells #[.string ⟨nm.toArray⟩, .bool false, .bool false, .int .i64 0, .bool r4] 103) = w3 := ⟨_, rfl⟩
        have hF3 : FS w2 w2.heap.size (.cells #[.int .i64 op, .int .i64 a, .int .i64 b, .int .i64 imm] 53) (.cells #[.string ⟨nm.toArray⟩, .bool false, .bool false, .int .i64 0, .bool r4] 103) w3 (.slice none 0 0) [] := hw3 ▸ FS.start w2 _ _
        have HF := Lib.hid hF3
        obtain ⟨a1, a2, a3⟩ := cells4 hF3.c1
        obtain ⟨b0, b1, b2, b3⟩ := cells5 hF3.c2
        clear hF3
        go_wp2_with fail
        try rw [hw3]
        refine (write_any (B := w.heap.size) (b := w.heap.size) (T := 61) (ex := []) (l := T0) _ _ (HB2.out.ext HF.out.ext) ?_ (by have := HF.out.ext.size; omega)).mono ?_
        · simp only [ByteArray.size_mk', List.size_toArray]
          omega
        rintro e wa ⟨rfl, hBa, hFa⟩
        have hxa := hFa.below.size
        have hx3 := HF.out.ext.size
        have HBa := Lib.hid hBa
        have HLa := Lib.hid ((HL2.out.trans (HF.out.ext.belowB (by omega))).trans hFa.below)
        clear hBa hFa HF HB2 HL2
        go_wp2_with fail
        refine (write_any (B := w.heap.size) (b := w.heap.size) (T := 61) (ex := []) _ _ HBa.out ?_ (by omega)).mono ?_
        · simp only [List.length_append, ByteArray.size_mk', List.size_toArray, List.length_cons, List.length_nil]
          omega
        rintro e wd ⟨rfl, hBd, hFd⟩
        have HD : Hid (DisRel w wd (textF (code.take (k + 1)))) := Lib.hid ⟨?_, HLa.out.trans hFd.below⟩
        · clear hBd hFd
          go_wp2_with fail
          all_goals exact ⟨⟨k + 1, by omega, by go_num, HD⟩, by simp [intOf]; omega⟩
        · rw [HTAKE.out, HLINE.out, HFLD.out]
          simpa using hBd
      · have hkn : ((kd : Int) != 0) = true := by rw [bne_iff_ne]; omega
        have hkn2 : kd ≠ 0 := by omega
        obtain ⟨w3, hw3⟩ : ∃ w3, (w2.alloc (.cells #[.int .i64 op, .int .i64 a, .int .i64 b, .int .i64 imm] 53)).alloc (.cells #[.string ⟨nm.toArray⟩, .bool false, .bool false, .int .i64 kd, .bool r4] 103) = w3 := ⟨_, rfl⟩
        have hF3 : FS w2 w2.heap.size (.cells #[.int .i64 op, .int .i64 a, .int .i64 b, .int .i64 imm] 53) (.cells #[.string ⟨nm.toArray⟩, .bool false, .bool false, .int .i64 kd, .bool r4] 103) w3 (.slice none 0 0) [] := hw3 ▸ FS.start w2 _ _
        have HF := Lib.hid hF3
        obtain ⟨a1, a2, a3⟩ := cells4 hF3.c1
        obtain ⟨b0, b1, b2, b3⟩ := cells5 hF3.c2
        clear hF3
        go_wp2_with fail
        try rw [hw3]
        refine (itoa_imm imm hii.1 hii.2 _ (HT2.out.ext HF.out.ext)).mono ?_
        rintro e wi ⟨si, rfl, hsi, hzi, hEi⟩
        have HFi := Lib.hid (HF.out.keep hEi)
        clear HF hEi
        clear a1 a2 a3 b0 b1 b2 b3
        obtain ⟨a1, a2, a3⟩ := cells4 HFi.out.c1
        obtain ⟨b0, b1, b2, b3⟩ := cells5 HFi.out.c2
        have HF := HFi
        clear HFi
        go_wp2_with (refine wpList_fld rfl (.tmp 61) (.tmp 65) rfl _ rfl (by first | rfl | (simp only [szA]; rfl)) (by omega) (by simp) HF ?_; intro v0 k0 w4 HF0 d1 d2; clear HF a1 a2 a3 b0 b1 b2 b3; obtain ⟨a1, a2, a3⟩ := cells4 d1; obtain ⟨b0, b1, b2, b3⟩ := cells5 d2; clear d1 d2)
        all_goals try omega
        have HF := HF0
        clear HF0
        simp only [List.length_nil, List.nil_append, Nat.zero_add] at HF
        go_wp2_with fail
        refine (write_any (B := w.heap.size) (b := w.heap.size) (T := 61) (ex := []) (l := T0) _ _ (HB2.out.ext HF.out.ext) ?_ (by have := HF.out.ext.size; omega)).mono ?_
        · simp only [ByteArray.size_mk', List.size_toArray]
          omega
        rintro e wa ⟨rfl, hBa, hFa⟩
        have hxa := hFa.below.size
        have hx3 := HF.out.ext.size
        have HBa := Lib.hid hBa
        have HLa := Lib.hid ((HL2.out.trans (HF.out.ext.belowB (by omega))).trans hFa.below)
        have HROWS := Lib.hid (own_keep (w' := wa) HF.out.row (fun q hq => by obtain ⟨cur, hcur⟩ := own_heap HF.out.row hq; have := (own_block HF.out.row hq).1; rw [hcur]; exact hFa.typ q _ hcur (by omega) (fun c f h => by cases h)) (Nat.le_refl _))
        have hxs : ([si] : List ByteArray).map (·.data.toList) = fieldsF ⟨(op : Int), (a : Int), (b : Int), imm⟩ := by rw [HFLD.out]; simp [hsi, hkn2]
        have hfne : fieldsF ⟨(op : Int), (a : Int), (b : Int), imm⟩ ≠ [] := by rw [HFLD.out]; simp [hkn2]
        have HJC := Lib.hid (fld_join HROWS.out hxs hfne HFL.out.1 HFL.out.2.1)
        have HFNE := Lib.hid hfne
        clear a1 a2 a3 b0 b1 b2 b3
        obtain ⟨e0, e1, e2, e3⟩ := cells5 (hFa.typ _ _ HF.out.c2 (by omega) (fun c f h => by cases h))
        clear hBa hFa HF HB2 HL2 hxs hfne
        go_wp2_with fail
        refine HJC.out.mono ?_
        rintro e wb ⟨J, rfl, hJ, hzJ, hEb⟩
        have hxb := hEb.size
        have HBb := Lib.hid (HBa.out.ext hEb)
        have HLb := Lib.hid (HLa.out.trans (hEb.belowB (by omega)))
        have HJ := Lib.hid hJ
        clear hEb hJ
        go_wp2_with fail
        all_goals try omega
        refine (write_any (B := w.heap.size) (b := w.heap.size) (T := 61) (ex := []) _ _ HBb.out ?_ (by omega)).mono ?_
        · simp only [List.length_append, ByteArray.size_append', ByteArray.size_mk', List.size_toArray, List.length_cons, List.length_nil]
          omega
        rintro e wc ⟨rfl, hBc, hFc⟩
        have hxc := hFc.below.size
        have HBc := Lib.hid hBc
        have HLc := Lib.hid (HLb.out.trans hFc.below)
        clear hBc hFc
        go_wp2_with fail
        refine (write_any (B := w.heap.size) (b := w.heap.size) (T := 61) (ex := []) _ _ HBc.out ?_ (by omega)).mono ?_
        · simp only [List.length_append, ← Lib.size_eq, ByteArray.size_append', ByteArray.size_mk', List.size_toArray, List.length_cons, List.length_nil]
          omega
        rintro e wd ⟨rfl, hBd, hFd⟩
        have HD : Hid (DisRel w wd (textF (code.take (k + 1)))) := Lib.hid ⟨?_, HLc.out.trans hFd.below⟩
        · clear hBd hFd
          go_wp2_with fail
          all_goals exact ⟨⟨k + 1, by omega, by go_num, HD⟩, by simp [intOf]; omega⟩
        · rw [HTAKE.out, HLINE.out, if_neg HFNE.out]
          simpa [HJ.out, ByteArray.data_append] using hBd
      · obtain ⟨w3, hw3⟩ : ∃ w3, (w2.alloc (.cells #[.int .i64 op, .int .i64 a, .int .i64 b, .int .i64 imm] 53)).alloc (.cells #[.string ⟨nm.toArray⟩, .bool false, .bool true, .int .i64 0, .bool r4] 103) = w3 := ⟨_, rfl⟩
        have hF3 : FS w2 w2.heap.size (.cells #[.int .i64 op, .int .i64 a, .int .i64 b, .int .i64 imm] 53) (.cells #[.string ⟨nm.toArray⟩, .bool false, .bool true, .int .i64 0, .bool r4] 103) w3 (.slice none 0 0) [] := hw3 ▸ FS.start w2 _ _
        have HF := Lib.hid hF3
        obtain ⟨a1, a2, a3⟩ := cells4 hF3.c1
        obtain ⟨b0, b1, b2, b3⟩ := cells5 hF3.c2
        clear hF3
        go_wp2_with fail
        try rw [hw3]
        refine (itoa_reg b hb8' _).mono ?_
        rintro e wq ⟨sb, rfl, hsb, hzb, rfl⟩
        go_wp2_with (refine wpList_fld rfl (.tmp 51) (.tmp 56) rfl _ rfl (by first | rfl | (simp only [szA]; rfl)) (by omega) (by simp) HF ?_; intro v0 k0 w4 HF0 d1 d2; clear HF a1 a2 a3 b0 b1 b2 b3; obtain ⟨a1, a2, a3⟩ := cells4 d1; obtain ⟨b0, b1, b2, b3⟩ := cells5 d2; clear d1 d2)
        all_goals try omega
        have HF := HF0
        clear HF0
        simp only [List.length_nil, List.nil_append, Nat.zero_add] at HF
        go_wp2_with fail
        refine (write_any (B := w.heap.size) (b := w.heap.size) (T := 61) (ex := []) (l := T0) _ _ (HB2.out.ext HF.out.ext) ?_ (by have := HF.out.ext.size; omega)).mono ?_
        · simp only [ByteArray.size_mk', List.size_toArray]
          omega
        rintro e wa ⟨rfl, hBa, hFa⟩
        have hxa := hFa.below.size
        have hx3 := HF.out.ext.size
        have HBa := Lib.hid hBa
        have HLa := Lib.hid ((HL2.out.trans (HF.out.ext.belowB (by omega))).trans hFa.below)
        have HROWS := Lib.hid (own_keep (w' := wa) HF.out.row (fun q hq => by obtain ⟨cur, hcur⟩ := own_heap HF.out.row hq; have := (own_block HF.out.row hq).1; rw [hcur]; exact hFa.typ q _ hcur (by omega) (fun c f h => by cases h)) (Nat.le_refl _))
        have hxs : ([⟨#[114]⟩ ++ sb] : List ByteArray).map (·.data.toList) = fieldsF ⟨(op : Int), (a : Int), (b : Int), imm⟩ := by rw [HFLD.out]; simp [hsb]
        have hfne : fieldsF ⟨(op : Int), (a : Int), (b : Int), imm⟩ ≠ [] := by rw [HFLD.out]; simp
        have HJC := Lib.hid (fld_join HROWS.out hxs hfne HFL.out.1 HFL.out.2.1)
        have HFNE := Lib.hid hfne
        clear a1 a2 a3 b0 b1 b2 b3
        obtain ⟨e0, e1, e2, e3⟩ := cells5 (hFa.typ _ _ HF.out.c2 (by omega) (fun c f h => by cases h))
        clear hBa hFa HF HB2 HL2 hxs hfne
        go_wp2_with fail
        refine HJC.out.mono ?_
        rintro e wb ⟨J, rfl, hJ, hzJ, hEb⟩
        have hxb := hEb.size
        have HBb := Lib.hid (HBa.out.ext hEb)
        have HLb := Lib.hid (HLa.out.trans (hEb.belowB (by omega)))
        have HJ := Lib.hid hJ
        clear hEb hJ
        go_wp2_with fail
        all_goals try omega
        refine (write_any (B := w.heap.size) (b := w.heap.size) (T := 61) (ex := []) _ _ HBb.out ?_ (by omega)).mono ?_
        · simp only [List.length_append, ByteArray.size_append', ByteArray.size_mk', List.size_toArray, List.length_cons, List.length_nil]
          omega
        rintro e wc ⟨rfl, hBc, hFc⟩
        have hxc := hFc.below.size
        have HBc := Lib.hid hBc
        have HLc := Lib.hid (HLb.out.trans hFc.below)
        clear hBc hFc
        go_wp2_with fail
        refine (write_any (B := w.heap.size) (b := w.heap.size) (T := 61) (ex := []) _ _ HBc.out ?_ (by omega)).mono ?_
        · simp only [List.length_append, ← Lib.size_eq, ByteArray.size_append', ByteArray.size_mk', List.size_toArray, List.length_cons, List.length_nil]
          omega
        rintro e wd ⟨rfl, hBd, hFd⟩
        have HD : Hid (DisRel w wd (textF (code.take (k + 1)))) := Lib.hid ⟨?_, HLc.out.trans hFd.below⟩
        · clear hBd hFd
          go_wp2_with fail
          all_goals exact ⟨⟨k + 1, by omega, by go_num, HD⟩, by simp [intOf]; omega⟩
        · rw [HTAKE.out, HLINE.out, if_neg HFNE.out]
          simpa [HJ.out, ByteArray.data_append] using hBd
      · have hkn : ((kd : Int) != 0) = true := by rw [bne_iff_ne]; omega
        have hkn2 : kd ≠ 0 := by omega
        obtain ⟨w3, hw3⟩ : ∃ w3, (w2.alloc (.cells #[.int .i64 op, .int .i64 a, .int .i64 b, .int .i64 imm] 53)).alloc (.cells #[.string ⟨nm.toArray⟩, .bool false, .bool true, .int .i64 kd, .bool r4] 103) = w3 := ⟨_, rfl⟩
        have hF3 : FS w2 w2.heap.size (.cells #[.int .i64 op, .int .i64 a, .int .i64 b, .int .i64 imm] 53) (.cells #[.string ⟨nm.toArray⟩, .bool false, .bool true, .int .i64 kd, .bool r4] 103) w3 (.slice none 0 0) [] := hw3 ▸ FS.start w2 _ _
        have HF := Lib.hid hF3
        obtain ⟨a1, a2, a3⟩ := cells4 hF3.c1
        obtain ⟨b0, b1, b2, b3⟩ := cells5 hF3.c2
        clear hF3
        go_wp2_with fail
        try rw [hw3]
        refine (itoa_reg b hb8' _).mono ?_
        rintro e wq ⟨sb, rfl, hsb, hzb, rfl⟩
        go_wp2_with (refine wpList_fld rfl (.tmp 51) (.tmp 56) rfl _ rfl (by first | rfl | (simp only [szA]; rfl)) (by omega) (by simp) HF ?_; intro v0 k0 w4 HF0 d1 d2; clear HF a1 a2 a3 b0 b1 b2 b3; obtain ⟨a1, a2, a3⟩ := cells4 d1; obtain ⟨b0, b1, b2, b3⟩ := cells5 d2; clear d1 d2)
        all_goals try omega
        have HF := HF0
        clear HF0
        simp only [List.length_nil, List.nil_append, Nat.zero_add] at HF
        go_wp2_with fail
        refine (itoa_imm imm hii.1 hii.2 _ (HT2.out.ext HF.out.ext)).mono ?_
        rintro e wi ⟨si, rfl, hsi, hzi, hEi⟩
        have HFi := Lib.hid (HF.out.keep hEi)
        clear HF hEi
        clear a1 a2 a3 b0 b1 b2 b3
        obtain ⟨a1, a2, a3⟩ := cells4 HFi.out.c1
        obtain ⟨b0, b1, b2, b3⟩ := cells5 HFi.out.c2
        have HF := HFi
        clear HFi
        go_wp2_with (refine wpList_fld rfl (.tmp 61) (.tmp 65) rfl _ rfl (by first | rfl | (simp only [szA]; rfl)) (by omega) (by simp) HF ?_; intro v1 k1 w5 HF1 d1 d2; clear HF a1 a2 a3 b0 b1 b2 b3; obtain ⟨a1, a2, a3⟩ := cells4 d1; obtain ⟨b0, b1, b2, b3⟩ := cells5 d2; clear d1 d2)
        all_goals try omega
        have HF := HF1
        clear HF1
        simp only [List.length_cons, List.length_nil, List.nil_append, List.cons_append, Nat.zero_add, Nat.reduceAdd] at HF
        go_wp2_with fail
        refine (write_any (B := w.heap.size) (b := w.heap.size) (T := 61) (ex := []) (l := T0) _ _ (HB2.out.ext HF.out.ext) ?_ (by have := HF.out.ext.size; omega)).mono ?_
        · simp only [ByteArray.size_mk', List.size_toArray]
          omega
        rintro e wa ⟨rfl, hBa, hFa⟩
        have hxa := hFa.below.size
        have hx3 := HF.out.ext.size
        have HBa := Lib.hid hBa
        have HLa := Lib.hid ((HL2.out.trans (HF.out.ext.belowB (by omega))).trans hFa.below)
        have HROWS := Lib.hid (own_keep (w' := wa) HF.out.row (fun q hq => by obtain ⟨cur, hcur⟩ := own_heap HF.out.row hq; have := (own_block HF.out.row hq).1; rw [hcur]; exact hFa.typ q _ hcur (by omega) (fun c f h => by cases h)) (Nat.le_refl _))
        have hxs : ([⟨#[114]⟩ ++ sb, si] : List ByteArray).map (·.data.toList) = fieldsF ⟨(op : Int), (a : Int), (b : Int), imm⟩ := by rw [HFLD.out]; simp [hsb, hsi, hkn2]
        have hfne : fieldsF ⟨(op : Int), (a : Int), (b : Int), imm⟩ ≠ [] := by rw [HFLD.out]; simp [hkn2]
        have HJC := Lib.hid (fld_join HROWS.out hxs hfne HFL.out.1 HFL.out.2.1)
        have HFNE := Lib.hid hfne
        clear a1 a2 a3 b0 b1 b2 b3
        obtain ⟨e0, e1, e2, e3⟩ := cells5 (hFa.typ _ _ HF.out.c2 (by omega) (fun c f h => by cases h))
        clear hBa hFa HF HB2 HL2 hxs hfne
        go_wp2_with fail
        refine HJC.out.mono ?_
        rintro e wb ⟨J, rfl, hJ, hzJ, hEb⟩
        have hxb := hEb.size
        have HBb := Lib.hid (HBa.out.ext hEb)
        have HLb := Lib.hid (HLa.out.trans (hEb.belowB (by omega)))
        have HJ := Lib.hid hJ
        clear hEb hJ
        go_wp2_with fail
        all_goals try omega
        refine (write_any (B := w.heap.size) (b := w.heap.size) (T := 61) (ex := []) _ _ HBb.out ?_ (by omega)).mono ?_
        · simp only [List.length_append, ByteArray.size_append', ByteArray.size_mk', List.size_toArray, List.length_cons, List.length_nil]
          omega
        rintro e wc ⟨rfl, hBc, hFc⟩
        have hxc := hFc.below.size
        have HBc := Lib.hid hBc
        have HLc := Lib.hid (HLb.out.trans hFc.below)
        clear hBc hFc
        go_wp2_with fail
        refine (write_any (B := w.heap.size) (b := w.heap.size) (T := 61) (ex := []) _ _ HBc.out ?_ (by omega)).mono ?_
        · simp only [List.length_append, ← Lib.size_eq, ByteArray.size_append', ByteArray.size_mk', List.size_toArray, List.length_cons, List.length_nil]
          omega
        rintro e wd ⟨rfl, hBd, hFd⟩
        have HD : Hid (DisRel w wd (textF (code.take (k + 1)))) := Lib.hid ⟨?_, HLc.out.trans hFd.below⟩
        · clear hBd hFd
          go_wp2_with fail
          all_goals exact ⟨⟨k + 1, by omega, by go_num, HD⟩, by simp [intOf]; omega⟩
        · rw [HTAKE.out, HLINE.out, if_neg HFNE.out]
          simpa [HJ.out, ByteArray.data_append] using hBd
      · obtain ⟨w3, hw3⟩ : ∃ w3, (w2.alloc (.cells #[.int .i64 op, .int .i64 a, .int .i64 b, .int .i64 imm] 53)).alloc (.cells #[.string ⟨nm.toArray⟩, .bool true, .bool false, .int .i64 0, .bool r4] 103) = w3 := ⟨_, rfl⟩
        have hF3 : FS w2 w2.heap.size (.cells #[.int .i64 op, .int .i64 a, .int .i64 b, .int .i64 imm] 53) (.cells #[.string ⟨nm.toArray⟩, .bool true, .bool false, .int .i64 0, .bool r4] 103) w3 (.slice none 0 0) [] := hw3 ▸ FS.start w2 _ _
        have HF := Lib.hid hF3
        obtain ⟨a1, a2, a3⟩ := cells4 hF3.c1
        obtain ⟨b0, b1, b2, b3⟩ := cells5 hF3.c2
        clear hF3
        go_wp2_with fail
        try rw [hw3]
        refine (itoa_reg a ha8' _).mono ?_
        rintro e wq ⟨sa, rfl, hsa, hza, rfl⟩
        go_wp2_with (refine wpList_fld rfl (.tmp 42) (.tmp 47) rfl _ rfl (by first | rfl | (simp only [szA]; rfl)) (by omega) (by simp) HF ?_; intro v0 k0 w4 HF0 d1 d2; clear HF a1 a2 a3 b0 b1 b2 b3; obtain ⟨a1, a2, a3⟩ := cells4 d1; obtain ⟨b0, b1, b2, b3⟩ := cells5 d2; clear d1 d2)
        all_goals try omega
        have HF := HF0
        clear HF0
        simp only [List.length_nil, List.nil_append, Nat.zero_add] at HF
        go_wp2_with fail
        refine (write_any (B := w.heap.size) (b := w.heap.size) (T := 61) (ex := []) (l := T0) _ _ (HB2.out.ext HF.out.ext) ?_ (by have := HF.out.ext.size; omega)).mono ?_
        · simp only [ByteArray.size_mk', List.size_toArray]
          omega
        rintro e wa ⟨rfl, hBa, hFa⟩
        have hxa := hFa.below.size
        have hx3 := HF.out.ext.size
        have HBa := Lib.hid hBa
        have HLa := Lib.hid ((HL2.out.trans (HF.out.ext.belowB (by omega))).trans hFa.below)
        have HROWS := Lib.hid (own_keep (w' := wa) HF.out.row (fun q hq => by obtain ⟨cur, hcur⟩ := own_heap HF.out.row hq; have := (own_block HF.out.row hq).1; rw [hcur]; exact hFa.typ q _ hcur (by omega) (fun c f h => by cases h)) (Nat.le_refl _))
        have hxs : ([⟨#[114]⟩ ++ sa] : List ByteArray).map (·.data.toList) = fieldsF ⟨(op : Int), (a : Int), (b : Int), imm⟩ := by rw [HFLD.out]; simp [hsa]
        have hfne : fieldsF ⟨(op : Int), (a : Int), (b : Int), imm⟩ ≠ [] := by rw [HFLD.out]; simp
        have HJC := Lib.hid (fld_join HROWS.out hxs hfne HFL.out.1 HFL.out.2.1)
        have HFNE := Lib.hid hfne
        clear a1 a2 a3 b0 b1 b2 b3
        obtain ⟨e0, e1, e2, e3⟩ := cells5 (hFa.typ _ _ HF.out.c2 (by omega) (fun c f h => by cases h))
        clear hBa hFa HF HB2 HL2 hxs hfne
        go_wp2_with fail
        refine HJC.out.mono ?_
        rintro e wb ⟨J, rfl, hJ, hzJ, hEb⟩
        have hxb := hEb.size
        have HBb := Lib.hid (HBa.out.ext hEb)
        have HLb := Lib.hid (HLa.out.trans (hEb.belowB (by omega)))
        have HJ := Lib.hid hJ
        clear hEb hJ
        go_wp2_with fail
        all_goals try omega
        refine (write_any (B := w.heap.size) (b := w.heap.size) (T := 61) (ex := []) _ _ HBb.out ?_ (by omega)).mono ?_
        · simp only [List.length_append, ByteArray.size_append', ByteArray.size_mk', List.size_toArray, List.length_cons, List.length_nil]
          omega
        rintro e wc ⟨rfl, hBc, hFc⟩
        have hxc := hFc.below.size
        have HBc := Lib.hid hBc
        have HLc := Lib.hid (HLb.out.trans hFc.below)
        clear hBc hFc
        go_wp2_with fail
        refine (write_any (B := w.heap.size) (b := w.heap.size) (T := 61) (ex := []) _ _ HBc.out ?_ (by omega)).mono ?_
        · simp only [List.length_append, ← Lib.size_eq, ByteArray.size_append', ByteArray.size_mk', List.size_toArray, List.length_cons, List.length_nil]
          omega
        rintro e wd ⟨rfl, hBd, hFd⟩
        have HD : Hid (DisRel w wd (textF (code.take (k + 1)))) := Lib.hid ⟨?_, HLc.out.trans hFd.below⟩
        · clear hBd hFd
          go_wp2_with fail
          all_goals exact ⟨⟨k + 1, by omega, by go_num, HD⟩, by simp [intOf]; omega⟩
        · rw [HTAKE.out, HLINE.out, if_neg HFNE.out]
          simpa [HJ.out, ByteArray.data_append] using hBd
      · have hkn : ((kd : Int) != 0) = true := by rw [bne_iff_ne]; omega
        have hkn2 : kd ≠ 0 := by omega
        obtain ⟨w3, hw3⟩ : ∃ w3, (w2.alloc (.cells #[.int .i64 op, .int .i64 a, .int .i64 b, .int .i64 imm] 53)).alloc (.cells #[.string ⟨nm.toArray⟩, .bool true, .bool false, .int .i64 kd, .bool r4] 103) = w3 := ⟨_, rfl⟩
        have hF3 : FS w2 w2.heap.size (.cells #[.int .i64 op, .int .i64 a, .int .i64 b, .int .i64 imm] 53) (.cells #[.string ⟨nm.toArray⟩, .bool true, .bool false, .int .i64 kd, .bool r4] 103) w3 (.slice none 0 0) [] := hw3 ▸ FS.start w2 _ _
        have HF := Lib.hid hF3
        obtain ⟨a1, a2, a3⟩ := cells4 hF3.c1
        obtain ⟨b0, b1, b2, b3⟩ := cells5 hF3.c2
        clear hF3
        go_wp2_with fail
        try rw [hw3]
        refine (itoa_reg a ha8' _).mono ?_
        rintro e wq ⟨sa, rfl, hsa, hza, rfl⟩
        go_wp2_with (refine wpList_fld rfl (.tmp 42) (.tmp 47) rfl _ rfl (by first | rfl | (simp only [szA]; rfl)) (by omega) (by simp) HF ?_; intro v0 k0 w4 HF0 d1 d2; clear HF a1 a2 a3 b0 b1 b2 b3; obtain ⟨a1, a2, a3⟩ := cells4 d1; obtain ⟨b0, b1, b2, b3⟩ := cells5 d2; clear d1 d2)
        all_goals try omega
        have HF := HF0
        clear HF0
        simp only [List.length_nil, List.nil_append, Nat.zero_add] at HF
        go_wp2_with fail
        refine (itoa_imm imm hii.1 hii.2 _ (HT2.out.ext HF.out.ext)).mono ?_
        rintro e wi ⟨si, rfl, hsi, hzi, hEi⟩
        have HFi := Lib.hid (HF.out.keep hEi)
        clear HF hEi
        clear a1 a2 a3 b0 b1 b2 b3
        obtain ⟨a1, a2, a3⟩ := cells4 HFi.out.c1
        obtain ⟨b0, b1, b2, b3⟩ := cells5 HFi.out.c2
        have HF := HFi
        clear HFi
        go_wp2_with (refine wpList_fld rfl (.tmp 61) (.tmp 65) rfl _ rfl (by first | rfl | (simp only [szA]; rfl)) (by omega) (by simp) HF ?_; intro v1 k1 w5 HF1 d1 d2; clear HF a1 a2 a3 b0 b1 b2 b3; obtain ⟨a1, a2, a3⟩ := cells4 d1; obtain ⟨b0, b1, b2, b3⟩ := cells5 d2; clear d1 d2)
        all_goals try omega
        have HF := HF1
        clear HF1
        simp only [List.length_cons, List.length_nil, List.nil_append, List.cons_append, Nat.zero_add, Nat.reduceAdd] at HF
        go_wp2_with fail
        refine (write_any (B := w.heap.size) (b := w.heap.size) (T := 61) (ex := []) (l := T0) _ _ (HB2.out.ext HF.out.ext) ?_ (by have := HF.out.ext.size; omega)).mono ?_
        · simp only [ByteArray.size_mk', List.size_toArray]
          omega
        rintro e wa ⟨rfl, hBa, hFa⟩
        have hxa := hFa.below.size
        have hx3 := HF.out.ext.size
        have HBa := Lib.hid hBa
        have HLa := Lib.hid ((HL2.out.trans (HF.out.ext.belowB (by omega))).trans hFa.below)
        have HROWS := Lib.hid (own_keep (w' := wa) HF.out.row (fun q hq => by obtain ⟨cur, hcur⟩ := own_heap HF.out.row hq; have := (own_block HF.out.row hq).1; rw [hcur]; exact hFa.typ q _ hcur (by omega) (fun c f h => by cases h)) (Nat.le_refl _))
        have hxs : ([⟨#[114]⟩ ++ sa, si] : List ByteArray).map (·.data.toList) = fieldsF ⟨(op : Int), (a : Int), (b : Int), imm⟩ := by rw [HFLD.out]; simp [hsa, hsi, hkn2]
        have hfne : fieldsF ⟨(op : Int), (a : Int), (b : Int), imm⟩ ≠ [] := by rw [HFLD.out]; simp [hkn2]
        have HJC := Lib.hid (fld_join HROWS.out hxs hfne HFL.out.1 HFL.out.2.1)
        have HFNE := Lib.hid hfne
        clear a1 a2 a3 b0 b1 b2 b3
        obtain ⟨e0, e1, e2, e3⟩ := cells5 (hFa.typ _ _ HF.out.c2 (by omega) (fun c f h => by cases h))
        clear hBa hFa HF HB2 HL2 hxs hfne
        go_wp2_with fail
        refine HJC.out.mono ?_
        rintro e wb ⟨J, rfl, hJ, hzJ, hEb⟩
        have hxb := hEb.size
        have HBb := Lib.hid (HBa.out.ext hEb)
        have HLb := Lib.hid (HLa.out.trans (hEb.belowB (by omega)))
        have HJ := Lib.hid hJ
        clear hEb hJ
        go_wp2_with fail
        all_goals try omega
        refine (write_any (B := w.heap.size) (b := w.heap.size) (T := 61) (ex := []) _ _ HBb.out ?_ (by omega)).mono ?_
        · simp only [List.length_append, ByteArray.size_append', ByteArray.size_mk', List.size_toArray, List.length_cons, List.length_nil]
          omega
        rintro e wc ⟨rfl, hBc, hFc⟩
        have hxc := hFc.below.size
        have HBc := Lib.hid hBc
        have HLc := Lib.hid (HLb.out.trans hFc.below)
        clear hBc hFc
        go_wp2_with fail
        refine (write_any (B := w.heap.size) (b := w.heap.size) (T := 61) (ex := []) _ _ HBc.out ?_ (by omega)).mono ?_
        · simp only [List.length_append, ← Lib.size_eq, ByteArray.size_append', ByteArray.size_mk', List.size_toArray, List.length_cons, List.length_nil]
          omega
        rintro e wd ⟨rfl, hBd, hFd⟩
        have HD : Hid (DisRel w wd (textF (code.take (k + 1)))) := Lib.hid ⟨?_, HLc.out.trans hFd.below⟩
        · clear hBd hFd
          go_wp2_with fail
          all_goals exact ⟨⟨k + 1, by omega, by go_num, HD⟩, by simp [intOf]; omega⟩
        · rw [HTAKE.out, HLINE.out, if_neg HFNE.out]
          simpa [HJ.out, ByteArray.data_append] using hBd
      · obtain ⟨w3, hw3⟩ : ∃ w3, (w2.alloc (.cells #[.int .i64 op, .int .i64 a, .int .i64 b, .int .i64 imm] 53)).alloc (.cells #[.string ⟨nm.toArray⟩, .bool true, .bool true, .int .i64 0, .bool r4] 103) = w3 := ⟨_, rfl⟩
        have hF3 : FS w2 w2.heap.size (.cells #[.int .i64 op, .int .i64 a, .int .i64 b, .int .i64 imm] 53) (.cells #[.string ⟨nm.toArray⟩, .bool true, .bool true, .int .i64 0, .bool r4] 103) w3 (.slice none 0 0) [] := hw3 ▸ FS.start w2 _ _
        have HF := Lib.hid hF3
        obtain ⟨a1, a2, a3⟩ := cells4 hF3.c1
        obtain ⟨b0, b1, b2, b3⟩ := cells5 hF3.c2
        clear hF3
        go_wp2_with fail
        try rw [hw3]
        refine (itoa_reg a ha8' _).mono ?_
        rintro e wq ⟨sa, rfl, hsa, hza, rfl⟩
        go_wp2_with (refine wpList_fld rfl (.tmp 42) (.tmp 47) rfl _ rfl (by first | rfl | (simp only [szA]; rfl)) (by omega) (by simp) HF ?_; intro v0 k0 w4 HF0 d1 d2; clear HF a1 a2 a3 b0 b1 b2 b3; obtain ⟨a1, a2, a3⟩ := cells4 d1; obtain ⟨b0, b1, b2, b3⟩ := cells5 d2; clear d1 d2)
        all_goals try omega
        have HF := HF0
        clear HF0
        simp only [List.length_nil, List.nil_append, Nat.zero_add] at HF
        go_wp2_with fail
        refine (itoa_reg b hb8' _).mono ?_
        rintro e wq ⟨sb, rfl, hsb, hzb, rfl⟩
        go_wp2_with (refine wpList_fld rfl (.tmp 51) (.tmp 56) rfl _ rfl (by first | rfl | (simp only [szA]; rfl)) (by omega) (by simp) HF ?_; intro v1 k1 w5 HF1 d1 d2; clear HF a1 a2 a3 b0 b1 b2 b3; obtain ⟨a1, a2, a3⟩ := cells4 d1; obtain ⟨b0, b1, b2, b3⟩ := cells5 d2; clear d1 d2)
        all_goals try omega
        have HF := HF1
        clear HF1
        simp only [List.length_cons, List.length_nil, List.nil_append, List.cons_append, Nat.zero_add, Nat.reduceAdd] at HF
        go_wp2_with fail
        refine (write_any (B := w.heap.size) (b := w.heap.size) (T := 61) (ex := []) (l := T0) _ _ (HB2.out.ext HF.out.ext) ?_ (by have := HF.out.ext.size; omega)).mono ?_
        · simp only [ByteArray.size_mk', List.size_toArray]
          omega
        rintro e wa ⟨rfl, hBa, hFa⟩
        have hxa := hFa.below.size
        have hx3 := HF.out.ext.size
        have HBa := Lib.hid hBa
        have HLa := Lib.hid ((HL2.out.trans (HF.out.ext.belowB (by omega))).trans hFa.below)
        have HROWS := Lib.hid (own_keep (w' := wa) HF.out.row (fun q hq => by obtain ⟨cur, hcur⟩ := own_heap HF.out.row hq; have := (own_block HF.out.row hq).1; rw [hcur]; exact hFa.typ q _ hcur (by omega) (fun c f h => by cases h)) (Nat.le_refl _))
        have hxs : ([⟨#[114]⟩ ++ sa, ⟨#[114]⟩ ++ sb] : List ByteArray).map (·.data.toList) = fieldsF ⟨(op : Int), (a : Int), (b : Int), imm⟩ := by rw [HFLD.out]; simp [hsa, hsb]
        have hfne : fieldsF ⟨(op : Int), (a : Int), (b : Int), imm⟩ ≠ [] := by rw [HFLD.out]; simp
        have HJC := Lib.hid (fld_join HROWS.out hxs hfne HFL.out.1 HFL.out.2.1)
        have HFNE := Lib.hid hfne
        clear a1 a2 a3 b0 b1 b2 b3
        obtain ⟨e0, e1, e2, e3⟩ := cells5 (hFa.typ _ _ HF.out.c2 (by omega) (fun c f h => by cases h))
        clear hBa hFa HF HB2 HL2 hxs hfne
        go_wp2_with fail
        refine HJC.out.mono ?_
        rintro e wb ⟨J, rfl, hJ, hzJ, hEb⟩
        have hxb := hEb.size
        have HBb := Lib.hid (HBa.out.ext hEb)
        have HLb := Lib.hid (HLa.out.trans (hEb.belowB (by omega)))
        have HJ := Lib.hid hJ
        clear hEb hJ
        go_wp2_with fail
        all_goals try omega
        refine (write_any (B := w.heap.size) (b := w.heap.size) (T := 61) (ex := []) _ _ HBb.out ?_ (by omega)).mono ?_
        · simp only [List.length_append, ByteArray.size_append', ByteArray.size_mk', List.size_toArray, List.length_cons, List.length_nil]
          omega
        rintro e wc ⟨rfl, hBc, hFc⟩
        have hxc := hFc.below.size
        have HBc := Lib.hid hBc
        have HLc := Lib.hid (HLb.out.trans hFc.below)
        clear hBc hFc
        go_wp2_with fail
        refine (write_any (B := w.heap.size) (b := w.heap.size) (T := 61) (ex := []) _ _ HBc.out ?_ (by omega)).mono ?_
        · simp only [List.length_append, ← Lib.size_eq, ByteArray.size_append', ByteArray.size_mk', List.size_toArray, List.length_cons, List.length_nil]
          omega
        rintro e wd ⟨rfl, hBd, hFd⟩
        have HD : Hid (DisRel w wd (textF (code.take (k + 1)))) := Lib.hid ⟨?_, HLc.out.trans hFd.below⟩
        · clear hBd hFd
          go_wp2_with fail
          all_goals exact ⟨⟨k + 1, by omega, by go_num, HD⟩, by simp [intOf]; omega⟩
        · rw [HTAKE.out, HLINE.out, if_neg HFNE.out]
          simpa [HJ.out, ByteArray.data_append] using hBd
      · have hkn : ((kd : Int) != 0) = true := by rw [bne_iff_ne]; omega
        have hkn2 : kd ≠ 0 := by omega
        obtain ⟨w3, hw3⟩ : ∃ w3, (w2.alloc (.cells #[.int .i64 op, .int .i64 a, .int .i64 b, .int .i64 imm] 53)).alloc (.cells #[.string ⟨nm.toArray⟩, .bool true, .bool true, .int .i64 kd, .bool r4] 103) = w3 := ⟨_, rfl⟩
        have hF3 : FS w2 w2.heap.size (.cells #[.int .i64 op, .int .i64 a, .int .i64 b, .int .i64 imm] 53) (.cells #[.string ⟨nm.toArray⟩, .bool true, .bool true, .int .i64 kd, .bool r4] 103) w3 (.slice none 0 0) [] := hw3 ▸ FS.start w2 _ _
        have HF := Lib.hid hF3
        obtain ⟨a1, a2, a3⟩ := cells4 hF3.c1
        obtain ⟨b0, b1, b2, b3⟩ := cells5 hF3.c2
        clear hF3
        go_wp2_with fail
        try rw [hw3]
        refine (itoa_reg a ha8' _).mono ?_
        rintro e wq ⟨sa, rfl, hsa, hza, rfl⟩
        go_wp2_with (refine wpList_fld rfl (.tmp 42) (.tmp 47) rfl _ rfl (by first | rfl | (simp only [szA]; rfl)) (by omega) (by simp) HF ?_; intro v0 k0 w4 HF0 d1 d2; clear HF a1 a2 a3 b0 b1 b2 b3; obtain ⟨a1, a2, a3⟩ := cells4 d1; obtain ⟨b0, b1, b2, b3⟩ := cells5 d2; clear d1 d2)
        all_goals try omega
        have HF := HF0
        clear HF0
        simp only [List.length_nil, List.nil_append, Nat.zero_add] at HF
        go_wp2_with fail
        refine (itoa_reg b hb8' _).mono ?_
        rintro e wq ⟨sb, rfl, hsb, hzb, rfl⟩
        go_wp2_with (refine wpList_fld rfl (.tmp 51) (.tmp 56) rfl _ rfl (by first | rfl | (simp only [szA]; rfl)) (by omega) (by simp) HF ?_; intro v1 k1 w5 HF1 d1 d2; clear HF a1 a2 a3 b0 b1 b2 b3; obtain ⟨a1, a2, a3⟩ := cells4 d1; obtain ⟨b0, b1, b2, b3⟩ := cells5 d2; clear d1 d2)
        all_goals try omega
        have HF := HF1
        clear HF1
        simp only [List.length_cons, List.length_nil, List.nil_append, List.cons_append, Nat.zero_add, Nat.reduceAdd] at HF
        go_wp2_with fail
        refine (itoa_imm imm hii.1 hii.2 _ (HT2.out.ext HF.out.ext)).mono ?_
        rintro e wi ⟨si, rfl, hsi, hzi, hEi⟩
        have HFi := Lib.hid (HF.out.keep hEi)
        clear HF hEi
        clear a1 a2 a3 b0 b1 b2 b3
        obtain ⟨a1, a2, a3⟩ := cells4 HFi.out.c1
        obtain ⟨b0, b1, b2, b3⟩ := cells5 HFi.out.c2
        have HF := HFi
        clear HFi
        go_wp2_with (refine wpList_fld rfl (.tmp 61) (.tmp 65) rfl _ rfl (by first | rfl | (simp only [szA]; rfl)) (by omega) (by simp) HF ?_; intro v2 k2 w6 HF2 d1 d2; clear HF a1 a2 a3 b0 b1 b2 b3; obtain ⟨a1, a2, a3⟩ := cells4 d1; obtain ⟨b0, b1, b2, b3⟩ := cells5 d2; clear d1 d2)
        all_goals try omega
        have HF := HF2
        clear HF2
        simp only [List.length_cons, List.length_nil, List.nil_append, List.cons_append, Nat.zero_add, Nat.reduceAdd] at HF
        go_wp2_with fail
        refine (write_any (B := w.heap.size) (b := w.heap.size) (T := 61) (ex := []) (l := T0) _ _ (HB2.out.ext HF.out.ext) ?_ (by have := HF.out.ext.size; omega)).mono ?_
        · simp only [ByteArray.size_mk', List.size_toArray]
          omega
        rintro e wa ⟨rfl, hBa, hFa⟩
        have hxa := hFa.below.size
        have hx3 := HF.out.ext.size
        have HBa := Lib.hid hBa
        have HLa := Lib.hid ((HL2.out.trans (HF.out.ext.belowB (by omega))).trans hFa.below)
        have HROWS := Lib.hid (own_keep (w' := wa) HF.out.row (fun q hq => by obtain ⟨cur, hcur⟩ := own_heap HF.out.row hq; have := (own_block HF.out.row hq).1; rw [hcur]; exact hFa.typ q _ hcur (by omega) (fun c f h => by cases h)) (Nat.le_refl _))
        have hxs : ([⟨#[114]⟩ ++ sa, ⟨#[114]⟩ ++ sb, si] : List ByteArray).map (·.data.toList) = fieldsF ⟨(op : Int), (a : Int), (b : Int), imm⟩ := by rw [HFLD.out]; simp [hsa, hsb, hsi, hkn2]
        have hfne : fieldsF ⟨(op : Int), (a : Int), (b : Int), imm⟩ ≠ [] := by rw [HFLD.out]; simp [hkn2]
        have HJC := Lib.hid (fld_join HROWS.out hxs hfne HFL.out.1 HFL.out.2.1)
        have HFNE := Lib.hid hfne
        clear a1 a2 a3 b0 b1 b2 b3
        obtain ⟨e0, e1, e2, e3⟩ := cells5 (hFa.typ _ _ HF.out.c2 (by omega) (fun c f h => by cases h))
        clear hBa hFa HF HB2 HL2 hxs hfne
        go_wp2_with fail
        refine HJC.out.mono ?_
        rintro e wb ⟨J, rfl, hJ, hzJ, hEb⟩
        have hxb := hEb.size
        have HBb := Lib.hid (HBa.out.ext hEb)
        have HLb := Lib.hid (HLa.out.trans (hEb.belowB (by omega)))
        have HJ := Lib.hid hJ
        clear hEb hJ
        go_wp2_with fail
        all_goals try omega
        refine (write_any (B := w.heap.size) (b := w.heap.size) (T := 61) (ex := []) _ _ HBb.out ?_ (by omega)).mono ?_
        · simp only [List.length_append, ByteArray.size_append', ByteArray.size_mk', List.size_toArray, List.length_cons, List.length_nil]
          omega
        rintro e wc ⟨rfl, hBc, hFc⟩
        have hxc := hFc.below.size
        have HBc := Lib.hid hBc
        have HLc := Lib.hid (HLb.out.trans hFc.below)
        clear hBc hFc
        go_wp2_with fail
        refine (write_any (B := w.heap.size) (b := w.heap.size) (T := 61) (ex := []) _ _ HBc.out ?_ (by omega)).mono ?_
        · simp only [List.length_append, ← Lib.size_eq, ByteArray.size_append', ByteArray.size_mk', List.size_toArray, List.length_cons, List.length_nil]
          omega
        rintro e wd ⟨rfl, hBd, hFd⟩
        have HD : Hid (DisRel w wd (textF (code.take (k + 1)))) := Lib.hid ⟨?_, HLc.out.trans hFd.below⟩
        · clear hBd hFd
          go_wp2_with fail
          all_goals exact ⟨⟨k + 1, by omega, by go_num, HD⟩, by simp [intOf]; omega⟩
        · rw [HTAKE.out, HLINE.out, if_neg HFNE.out]
          simpa [HJ.out, ByteArray.data_append] using hBd
    · have hkk : k = code.length := by omega
      subst hkk
      have hB := HR.out.bld
      rw [List.take_length] at hB
      have HB := Lib.hid hB
      have hne2 : textF code ≠ [] := by
        cases code with
        | nil => exact absurd rfl hne
        | cons i l => simp [textF, lineF]
      have hxr := HR.out.below.size
      clear hB
      go_wp2_with fail
      refine (string_any _ HB.out hne2 hxr).mono ?_
      rintro e w2 ⟨rfl, hb⟩
      have HE := Lib.hid (Ext.of_below (HR.out.below.trans hb))
      clear hb
      go_wp2_with fail
      go_ret
      exact ⟨rfl, HE.out⟩
end Go.Proofs.YtgjgaeloehfhiaaGreatDoor
end
section
/- The listing. -/
namespace Go.Proofs.YtgjgaeloehfhiaaGreatDoor
open Go.RowKit

/-- What the listing leaves. -/
def ListPost (w : World) : Except (Nat × Nat) UnitF → Ending → World → Prop
  | .error (ln, code), e, w' => e = .returned (.tuple #[.string ⟨#[]⟩, .int .i64 ln, .int .i64 code]) ∧ Ext w w'
  | .ok u, e, w' => e = .returned (.tuple #[.string ⟨(textF u.code).toArray⟩, .int .i64 0, .int .i64 0]) ∧ Ext w w'

set_option maxRecDepth 100000 in
set_option maxHeartbeats 3200000 in
theorem listing_any {N : Nat} (s : ByteArray) (hs : s.size ≤ maxLen) (w : World) (hG : Gl N w) (hC : Cb N w) (hT : Tb N w) (hN : N ≤ w.heap.size) : Calls Tryz.prog 6 #[.string s] w (ListPost w (takenF s)) := by
  have hg := fun u (h : takenF s = .ok u) => takenF_good h
  have hcp := compile_any s hs w hG hC hN (fun u h => ⟨(hg u h).1, (hg u h).2.1⟩)
  have hcode := fun ln code (h : takenF s = .error (ln, code)) => (takenF_err h).1
  have HCP := Lib.hid hcp
  have HG := Lib.hid hG
  have HT := Lib.hid hT
  have HGOOD := Lib.hid hg
  have HCODE := Lib.hid hcode
  clear hcp hG hC hT hg hcode
  generalize takenF s = R at *
  go_enter Tryz.func6, Tryz.ntmps6
  go_wp2_with fail
  refine HCP.out.mono ?_
  rintro e w1 hp
  cases R with
  | error q =>
    obtain ⟨ln, code⟩ := q
    obtain ⟨rfl, hE⟩ := hp
    have HE := Lib.hid hE
    have hc := HCODE.out _ _ rfl
    have hne : ((code : Int) != 0) = true := by rw [bne_iff_ne]; omega
    clear hE hc
    go_wp2_with fail
    go_ret3
    exact ⟨rfl, HE.out⟩
  | ok u =>
    obtain ⟨v, rfl, hE, hrow⟩ := hp
    obtain ⟨hgood, hlen, h5, -⟩ := HGOOD.out u rfl
    have hd := disasm_any u.code hgood hlen (by intro h; rw [h] at h5; simp at h5) v w1 (HG.out.ext hE) (HT.out.ext hE) (by have := hE.size; omega) hrow
    have HD := Lib.hid hd
    have HE := Lib.hid hE
    clear hd hE hrow hgood
    go_wp2_with fail
    refine HD.out.mono ?_
    rintro e w2 ⟨rfl, hE2⟩
    have HE2 := Lib.hid (HE.out.trans hE2)
    clear hE2
    go_wp2_with fail
    go_ret3
    exact ⟨rfl, HE2.out⟩
end Go.Proofs.YtgjgaeloehfhiaaGreatDoor
end
