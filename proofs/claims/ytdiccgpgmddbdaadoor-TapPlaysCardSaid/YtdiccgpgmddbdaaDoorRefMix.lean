/- The walk of the references' Mix: a state behind a block. -/
import Derived.Test.YtdiccgpgmddbdaaDoorRefConst
import Derived.Test.YtdiccgpgmddbdaaDoorPureTail
import Derived.Deep.RegionWith
namespace Go.Proofs.YtdiccgpgmddbdaaDoor
open Go.RowKit

/-- The word at a place, so many bytes of it. -/
def bePart (b : ByteArray) (i : Nat) : Nat → Nat
  | 0 => 0
  | j + 1 => 256 * bePart b i j + (b.data.toList.getD (4 * i + j) 0).toNat
theorem bePart_lt (b : ByteArray) (i j : Nat) : bePart b i j < 256 ^ j := by
  induction j with
  | zero => simp [bePart]
  | succ j ih =>
    have := UInt8.toNat_lt (b.data.toList.getD (4 * i + j) 0)
    simp only [bePart, Nat.pow_succ]; omega
theorem bePart_four (b : ByteArray) (i : Nat) : bePart b i 4 = Sha.be32 b.data.toList i := by
  simp only [bePart, Sha.be32, Nat.add_zero]; omega
theorem byte_getD (b : ByteArray) (j : Nat) (h : j < b.size) : b[j] = b.data.toList.getD j 0 := by
  have h1 : j < b.data.toList.length := by simpa using h
  rw [List.getD_eq_getElem?_getD, List.getElem?_eq_getElem h1]
  rfl

theorem u32s_setL (l : List Nat) (j x : Nat) : (u32s l).set j (.int .u32 (x : Int)) = u32s (l.set j x) := by simp [u32s, List.map_set]
theorem addL_zero (t s : Sha.S8) : addA t.l s.l 0 = t.l := by simp [addA, range8, Sha.S8.l]
theorem addL_eight (t s : Sha.S8) : addA t.l s.l 8 = (Sha.add8 t s).l := by simp [addA, range8, Sha.S8.l, Sha.add8, Sha.M32]

/-- Words in a slice of the call's own. -/
abbrev Wds (w wr : World) (g c : Nat) (l : List Nat) : Prop := wr.ownsRow w.heap.size 34 1 (.slice (some ⟨g, 0, none⟩) l.length c) l.length (u32s l)

set_option maxRecDepth 1000000 in
set_option maxHeartbeats 8000000 in
theorem mix02_any (gs cs gk ck : Nat) (s : Sha.S8) (b : ByteArray) (w : World) (hs : S8ok s) (hb : b.size = 64) (h1 : Words w gs s.l) (h2 : Words w gk Sha.rounds) :
    Calls Tryd.prog 36 #[.slice (some ⟨gs, 0, none⟩) 8 cs, .string b, .slice (some ⟨gk, 0, none⟩) 64 ck] w fun e w' => ∃ g c, e = .returned (.slice (some ⟨g, 0, none⟩) 8 c) ∧ Words w' g (Sha.mix s b.data.toList).l ∧ Below w.heap.size w w' := by
  obtain ⟨i0, hi, hz0, hz1, hz2⟩ := info_parts info_u32
  have H1 := Lib.hid h1
  have H2 := Lib.hid h2
  have HS := Lib.hid hs
  clear h1 h2 hs
  go_enter Tryd.func36, Tryd.ntmps36
  go_wp2
  go_loopw [7, 8] (fun v vi wr => ∃ i g c : Nat, i ≤ 16 ∧ vi = .int .i64 i ∧ v = .slice (some ⟨g, 0, none⟩) i c ∧ wr.ownsRow w.heap.size 34 1 (.slice (some ⟨g, 0, none⟩) i c) i (u32s (Sha.words16 b.data.toList i)) ∧ Below w.heap.size w wr) (fun _ vi _ => 16 - (intOf vi).toNat)
  case atStart => exact ⟨0, _, _, by omega, rfl, rfl, own_lit w _ [] 0 _ rfl (Nat.le_refl _) (by unfold maxLen; omega), (Below.refl _ _).alloc (Nat.le_refl _) _⟩
  case round =>
    obtain ⟨i, g, c, hi16, rfl, rfl, ho, hbl⟩ := hrel
    have HO := Lib.hid ho
    have hbs := hbl.size
    clear ho
    by_cases hlt : i < 16
    · go_wp2_with fail
      go_loop [9, 10] (fun vx vj => ∃ j : Nat, j ≤ 4 ∧ vj = .int .i64 j ∧ vx = .int .u32 (bePart b i j : Nat)) (fun _ vj => 4 - (intOf vj).toNat)
      case atStart => exact ⟨0, by omega, rfl, rfl⟩
      case round =>
        obtain ⟨j, hj4, rfl, rfl⟩ := hrel
        by_cases hlj : j < 4
        · have hp := bePart_lt b i j
          have hp2 : bePart b i j < 16777216 := Nat.lt_of_lt_of_le hp (by have := Nat.pow_le_pow_right (show 1 ≤ 256 by omega) (show j ≤ 3 by omega); omega)
          have HN : Hid (bePart b i (j + 1) = 256 * bePart b i j + (b.data.toList.getD (4 * i + j) 0).toNat) := show _ = _ from rfl
          clear hp
          generalize bePart b i j = x at *
          have hidx : 4 * i + j < b.size := by omega
          have hby := byte_getD b (4 * i + j) hidx
          have hbl8 := UInt8.toNat_lt b[4 * i + j]
          have q0 : 0 ≤ 4 * (i : Int) + (j : Int) := by omega
          have q1 : 4 * (i : Int) + (j : Int) < (b.size : Int) := by omega
          have q2 : (4 * (i : Int) + (j : Int)).toNat = 4 * i + j := by omega
          go_wp2
          refine ⟨⟨j + 1, by omega, by go_num, ?_⟩, by simp [intOf]; omega⟩
          have hb9 : b.data.toList.getD (4 * i + j) 0 = b.data[4 * i + j]?.getD 0 := by simp [List.getD_eq_getElem?_getD]
          have hb8 := UInt8.toNat_lt (b.data[4 * i + j]?.getD 0)
          rw [HN.out, hb9]
          congr 1
          omega
        · obtain rfl : j = 4 := by omega
          have HX := Lib.hid (bePart_four b i)
          clear hlj
          generalize bePart b i 4 = x at *
          have hlw : (Sha.words16 b.data.toList i).length = i := words16_len _ _
          have HLW := Lib.hid hlw
          clear hlw
          go_wp2_with (at_builtin; refine wpList_append_mine rfl _ _ 56 rfl w.heap.size 34 i0 (.int .u32 0) 1 4 Tryd.underlying56 hi hz0 hz1 hz2 rfl (by decide) (.slice (some ⟨g, 0, none⟩) i c) _ _ rfl (HO.out.alloc _) ⟨wr.heap.size, 0, none⟩ 1 1 [.int .u32 (x : Int)] rfl rfl (cells_new _ [.int .u32 (x : Int)] _) (fun x hx => by simp at hx; subst hx; rfl) (by omega) (by unfold maxLen; omega) (by omega) (by simp; omega) ?grow1)
          intro g2 c2 w2 hown2 hgrow2 hg1 hg2
          have hb2 : Below w.heap.size w w2 := (hbl.alloc hbs _).grown hgrow2 (by simp; omega) (fun j e => (HO.out.lt j e).1)
          have HO2 := Lib.hid hown2
          clear hgrow2 hg1 hg2 hown2 hbl
          go_wp2
          go_roundw
          case rel => exact ⟨i + 1, g2, c2, by omega, by go_num, rfl, own_xs HO2.out rfl (by rw [u32s_snoc, HX.out]; rfl), hb2⟩
          case measure => simp [intOf]; omega
    · obtain rfl : i = 16 := by omega
      have hl16 : (Sha.sched (Sha.words16 b.data.toList 16) 0).length = 16 + 0 := by simp [Sha.sched, words16_len]
      have HW0 : Hid (wr.ownsRow w.heap.size 34 1 (.slice (some ⟨g, 0, none⟩) (16 + 0) c) (16 + 0) (u32s (Sha.sched (Sha.words16 b.data.toList 16) 0))) := HO.out
      clear HO hlt hi16 hl16
      go_wp2_with fail
      go_loopw [7, 11] (fun v vi wr => ∃ i g c : Nat, i ≤ 48 ∧ vi = .int .i64 ((i : Int) + 16) ∧ v = .slice (some ⟨g, 0, none⟩) (16 + i) c ∧ wr.ownsRow w.heap.size 34 1 (.slice (some ⟨g, 0, none⟩) (16 + i) c) (16 + i) (u32s (Sha.sched (Sha.words16 b.data.toList 16) i)) ∧ Below w.heap.size w wr) (fun _ vi _ => 64 - (intOf vi).toNat)
      case atStart => exact ⟨0, g, c, by omega, rfl, rfl, HW0.out, hbl⟩
      case round =>
        clear HW0 hbl hbs
        obtain ⟨i, g, c, hi48, rfl, rfl, ho, hbl⟩ := hrel
        have HO := Lib.hid ho
        have hbs := hbl.size
        clear ho
        by_cases hlt : i < 48
        · have hlen : (Sha.sched (Sha.words16 b.data.toList 16) i).length = 16 + i := by rw [sched_len, words16_len]
          obtain ⟨R, hR⟩ : ∃ R, R = Sha.sched (Sha.words16 b.data.toList 16) i := ⟨_, rfl⟩
          have hsx : Sha.sched (Sha.words16 b.data.toList 16) (i + 1) = R ++ [(R.getD i 0 + Sha.sg0 (R.getD (i + 1) 0) + R.getD (i + 9) 0 + Sha.sg1 (R.getD (i + 14) 0)) % Sha.M32] := by rw [hR]; rfl
          have hRl : R.length = 16 + i := by rw [hR, hlen]
          have hRlt : ∀ j, R.getD j 0 < 4294967296 := fun j => by rw [hR]; exact words_lt _ _ _
          rw [← hR] at HO
          have HSX := Lib.hid hsx
          have HR := Lib.hid hR
          have HRL := Lib.hid hRl
          have c0 := own_cell HO.out (u32s_get' R (j := i) (by omega))
          have c1 := own_cell HO.out (u32s_get' R (j := i + 1) (by omega))
          have c9 := own_cell HO.out (u32s_get' R (j := i + 9) (by omega))
          have c14 := own_cell HO.out (u32s_get' R (j := i + 14) (by omega))
          have l0 := hRlt i
          have l1 := hRlt (i + 1)
          have l9 := hRlt (i + 9)
          have l14 := hRlt (i + 14)
          clear hsx hR hlen hRlt hRl
          have hsg0 : Sha.sg0 (R.getD (i + 1) 0) = Sha.rotr (R.getD (i + 1) 0) 7 ^^^ Sha.rotr (R.getD (i + 1) 0) 18 ^^^ Num.half (R.getD (i + 1) 0) 3 := rfl
          have hsg1 : Sha.sg1 (R.getD (i + 14) 0) = Sha.rotr (R.getD (i + 14) 0) 17 ^^^ Sha.rotr (R.getD (i + 14) 0) 19 ^^^ Num.half (R.getD (i + 14) 0) 10 := rfl
          have HG0 := Lib.hid hsg0
          have HG1 := Lib.hid hsg1
          clear hsg0 hsg1
          generalize R.getD i 0 = x0 at *
          generalize R.getD (i + 1) 0 = x1 at *
          generalize R.getD (i + 9) 0 = x9 at *
          generalize R.getD (i + 14) 0 = x14 at *
          have t7 : ∀ W : World, Calls Tryd.prog 44 #[.int .u32 (x1 : Int), .int .i64 7] W fun e w' => e = .returned (.int .u32 (Sha.rotr x1 7 : Nat)) ∧ w' = W := fun W => (turn2_any x1 7 W l1 (by omega)).mono fun _ _ h => ⟨h.1, h.2.symm⟩
          have t18 : ∀ W : World, Calls Tryd.prog 44 #[.int .u32 (x1 : Int), .int .i64 18] W fun e w' => e = .returned (.int .u32 (Sha.rotr x1 18 : Nat)) ∧ w' = W := fun W => (turn2_any x1 18 W l1 (by omega)).mono fun _ _ h => ⟨h.1, h.2.symm⟩
          have t17 : ∀ W : World, Calls Tryd.prog 44 #[.int .u32 (x14 : Int), .int .i64 17] W fun e w' => e = .returned (.int .u32 (Sha.rotr x14 17 : Nat)) ∧ w' = W := fun W => (turn2_any x14 17 W l14 (by omega)).mono fun _ _ h => ⟨h.1, h.2.symm⟩
          have t19 : ∀ W : World, Calls Tryd.prog 44 #[.int .u32 (x14 : Int), .int .i64 19] W fun e w' => e = .returned (.int .u32 (Sha.rotr x14 19 : Nat)) ∧ w' = W := fun W => (turn2_any x14 19 W l14 (by omega)).mono fun _ _ h => ⟨h.1, h.2.symm⟩
          have h3 : ∀ W : World, Calls Tryd.prog 45 #[.int .u32 (x1 : Int), .int .i64 3] W fun e w' => e = .returned (.int .u32 (Num.half x1 3 : Nat)) ∧ w' = W := fun W => (half_any x1 3 W l1 (by omega)).mono fun _ _ h => ⟨h.1, h.2.symm⟩
          have h10 : ∀ W : World, Calls Tryd.prog 45 #[.int .u32 (x14 : Int), .int .i64 10] W fun e w' => e = .returned (.int .u32 (Num.half x14 10 : Nat)) ∧ w' = W := fun W => (half_any x14 10 W l14 (by omega)).mono fun _ _ h => ⟨h.1, h.2.symm⟩
          have b7 := Num.rotr_lt x1 7 l1 (by omega)
          have b18 := Num.rotr_lt x1 18 l1 (by omega)
          have b17 := Num.rotr_lt x14 17 l14 (by omega)
          have b19 := Num.rotr_lt x14 19 l14 (by omega)
          have b3 : Num.half x1 3 < 4294967296 := Nat.lt_of_le_of_lt (Num.half_le _ _) l1
          have b10 : Num.half x14 10 < 4294967296 := Nat.lt_of_le_of_lt (Num.half_le _ _) l14
          generalize Sha.rotr x1 7 = r7 at *
          generalize Sha.rotr x1 18 = r18 at *
          generalize Sha.rotr x14 17 = r17 at *
          generalize Sha.rotr x14 19 = r19 at *
          generalize Num.half x1 3 = q3 at *
          generalize Num.half x14 10 = q10 at *
          have e1 := xor_u32 (a := r7) (b := r18) b7 b18
          have e2 := xor_u32 (a := r7 ^^^ r18) (b := q3) (xor_lt b7 b18) b3
          have e3 := xor_u32 (a := r17) (b := r19) b17 b19
          have e4 := xor_u32 (a := r17 ^^^ r19) (b := q10) (xor_lt b17 b19) b10
          have m0 : r7 ^^^ r18 ^^^ q3 < 4294967296 := xor_lt (xor_lt b7 b18) b3
          have m1 : r17 ^^^ r19 ^^^ q10 < 4294967296 := xor_lt (xor_lt b17 b19) b10
          generalize r7 ^^^ r18 ^^^ q3 = s0 at *
          generalize r17 ^^^ r19 ^^^ q10 = s1 at *
          generalize r7 ^^^ r18 = s2 at *
          generalize r17 ^^^ r19 = s3 at *
          clear b7 b18 b17 b19 b3 b10 l1 l14
          have p0 : (s0 : Int) < 4294967296 := by omega
          have p1 : (s1 : Int) < 4294967296 := by omega
          have p2 : (x0 : Int) < 4294967296 := by omega
          have p3 : (x9 : Int) < 4294967296 := by omega
          clear m0 m1 l0 l9 p0 p1 p2 p3
          go_wp2_with fail
          refine wp_region_first_tail 30 (by kernel_rfl) (by kernel_rfl) (fun _ _ _ h => h) rfl (fun _ => rfl) ?_
          simp only [List.take_succ_cons, List.take_zero, List.drop_succ_cons, List.drop_zero]
          go_simp
          repeat (go_big_quiet_step ((first | (go_at_call_of 44 (Value.int IntKind.i64 7); exact (t7 _).mono fun _ _ h => ⟨h.1, _, h.2⟩) | (go_at_call_of 44 (Value.int IntKind.i64 18); exact (t18 _).mono fun _ _ h => ⟨h.1, _, h.2⟩) | (go_at_call_of 45 (Value.int IntKind.i64 3); exact (h3 _).mono fun _ _ h => ⟨h.1, _, h.2⟩) | (go_at_call_of 44 (Value.int IntKind.i64 17); exact (t17 _).mono fun _ _ h => ⟨h.1, _, h.2⟩) | (go_at_call_of 44 (Value.int IntKind.i64 19); exact (t19 _).mono fun _ _ h => ⟨h.1, _, h.2⟩) | (go_at_call_of 45 (Value.int IntKind.i64 10); exact (h10 _).mono fun _ _ h => ⟨h.1, _, h.2⟩))))
          refine wpQuiet_nil ?_
          intro nq
          have HOD := own_of_heap HO.out (w' := wr.drewN nq) (fun _ _ => rfl)
          have hbd : Below w.heap.size w (wr.drewN nq) := below_drewN hbl nq
          have HRL2 := Lib.hid (show R.length = 16 + i from HRL.out)
          go_wp2_with (at_builtin; refine wpList_append_mine rfl _ _ 56 rfl w.heap.size 34 i0 (.int .u32 0) 1 4 Tryd.underlying56 hi hz0 hz1 hz2 rfl (by decide) (.slice (some ⟨g, 0, none⟩) (16 + i) c) _ _ rfl (HOD.alloc _) ⟨wr.heap.size, 0, none⟩ 1 1 [.int .u32 (((x0 : Int) + s0 + x9 + s1) % 4294967296)] rfl rfl (cells_new (wr.drewN nq) [.int .u32 (((x0 : Int) + s0 + x9 + s1) % 4294967296)] _) (fun x hx => by simp at hx; subst hx; rfl) (by omega) (by unfold maxLen; omega) (by omega) (by simp; omega) ?grow2)
          intro g2 c2 w2 hown2 hgrow2 hg1 hg2
          have hb2 : Below w.heap.size w w2 := (hbd.alloc hbs _).grown hgrow2 (by simp; omega) (fun j e => (HO.out.lt j e).1)
          have HO2 := Lib.hid hown2
          clear hgrow2 hg1 hg2 hown2 hbl hbd HOD
          go_wp2
          go_roundw
          case rel =>
            have hfin : u32s R ++ [Value.int .u32 (((x0 : Int) + s0 + x9 + s1) % 4294967296)] = u32s (Sha.sched (Sha.words16 b.data.toList 16) (i + 1)) := by
              rw [HSX.out, HG0.out, HG1.out, ← u32s_snoc]
              unfold Sha.M32
              rw [show ((((x0 + s0 + x9 + s1) % 4294967296 : Nat)) : Int) = ((x0 : Int) + s0 + x9 + s1) % 4294967296 by omega]
            first | exact ⟨i + 1, g2, c2, by omega, by go_num, rfl, own_xs HO2.out rfl hfin, hb2⟩ | ((repeat apply Exists.intro); exact ⟨⟨i + 1, g2, c2, by omega, by go_num, rfl, own_xs HO2.out rfl hfin, hb2⟩, rfl⟩)
          case measure => simp [intOf]; omega
        · obtain rfl : i = 48 := by omega
          have hws : Sha.sched (Sha.words16 b.data.toList 16) 48 = Sha.words b.data.toList := rfl
          have hwl : (Sha.words b.data.toList).length = 64 := by simp [Sha.words, sched_len, words16_len]
          have HWO : Hid (wr.ownsRow w.heap.size 34 1 (.slice (some ⟨g, 0, none⟩) 64 c) 64 (u32s (Sha.words b.data.toList))) := HO.out
          have hgl := (HO.out.lt g rfl).2
          clear HO hlt hi48
          obtain ⟨sl, hsl⟩ : ∃ sl, sl = s.l := ⟨_, rfl⟩
          have hsln : sl.length = 8 := by rw [hsl]; rfl
          have hc1 := fun (j : Nat) (hj : j < 8) => show wr.cell? ⟨gs, j, none⟩ = some (.int .u32 (sl.getD j 0 : Nat)) by rw [hbl.cell (p := ⟨gs, j, none⟩) H1.out.lt, hsl]; exact H1.out.cell j (by rw [← hsl, hsln]; exact hj)
          have HC1 : Hid (∀ j, j < 8 → wr.cell? ⟨gs, j, none⟩ = some (.int .u32 (sl.getD j 0 : Nat))) := Lib.hid hc1
          have HSL := Lib.hid hsl
          have HSN := Lib.hid hsln
          clear hc1 hsl hsln
          go_wp2_with (at_builtin; refine wpList_append_mine rfl _ _ 56 rfl w.heap.size 34 i0 (.int .u32 0) 1 4 Tryd.underlying56 hi hz0 hz1 hz2 rfl (by decide) (.slice (some ⟨wr.heap.size, 0, none⟩) 0 0) 0 [] rfl (own_lit wr _ [] 0 _ rfl hbs (by unfold maxLen; omega)) ⟨gs, 0, none⟩ 8 cs (u32s sl) rfl ?d1 ?d2 (u32s_one' _) (by omega) (by unfold maxLen; omega) (by omega) (by simp; omega) ?grow3)
          case d1 => simpa using HSN.out
          case d2 =>
            intro j u hu
            have hj : j < 8 := by have := (List.getElem?_eq_some_iff.1 hu).1; simpa [HSN.out] using this
            rw [addr_plain, Nat.zero_add, World.cell?_alloc_past _ _ _ (Nat.lt_of_lt_of_le H1.out.lt hbs), HC1.out j hj, ← hu, u32s_get' _ (by rw [HSN.out]; exact hj)]
          case grow3 =>
            intro g2 c2 w2 hown2 hgrow2 hg1
            have hb2 : Below w.heap.size w w2 := (hbl.alloc hbs _).grown hgrow2 (by simp; omega) (fun j e => by cases e; exact hbs)
            have hwo2 : w2.ownsRow w.heap.size 34 1 (.slice (some ⟨g, 0, none⟩) 64 c) 64 (u32s (Sha.words b.data.toList)) := own_of_heap HWO.out (fun j e => by
              obtain rfl : g = j := by simpa [Value.ownBlock] using e
              rw [hgrow2.block g (by simp; omega) (by simp [Value.ownBlock]; omega), heap_alloc_old _ _ hgl])
            have HO2 := Lib.hid hown2
            have HW2 := Lib.hid hwo2
            clear hgrow2 hg1 hown2 hbl hwo2 HWO hgl HC1 hbs
            obtain ⟨ws, hws2⟩ : ∃ ws, ws = Sha.words b.data.toList := ⟨_, rfl⟩
            rw [← hws2] at HW2
            have hwsl : ws.length = 64 := by rw [hws2]; exact hwl
            have hwslt : ∀ j, ws.getD j 0 < 4294967296 := fun j => by rw [hws2]; exact words_lt _ _ _
            have HWL := Lib.hid hwsl
            have HWT : Hid (∀ j, ws.getD j 0 < 4294967296) := Lib.hid hwslt
            have HWS := Lib.hid hws2
            have HO2' : Hid (w2.ownsRow w.heap.size 34 1 (.slice (some ⟨g2, 0, none⟩) 8 c2) 8 (u32s (Sha.rnds s Sha.rounds ws 0).l)) := by
              have h := HO2.out
              rw [HSL.out] at h
              exact h
            clear HO2 hws hwl hws2 hwsl hwslt
            go_wp2_with fail
            go_loopw [14, 15] (fun v vk wr => ∃ k gv cv : Nat, k ≤ 64 ∧ vk = .int .i64 k ∧ v = .slice (some ⟨gv, 0, none⟩) 8 cv ∧ wr.ownsRow w.heap.size 34 1 (.slice (some ⟨gv, 0, none⟩) 8 cv) 8 (u32s (Sha.rnds s Sha.rounds ws k).l) ∧ wr.ownsRow w.heap.size 34 1 (.slice (some ⟨g, 0, none⟩) 64 c) 64 (u32s ws) ∧ Below w.heap.size w wr) (fun _ vk _ => 64 - (intOf vk).toNat)
            case atStart => exact ⟨0, g2, c2, by omega, rfl, rfl, HO2'.out, HW2.out, hb2⟩
            case round =>
              clear HO2' HW2 hb2
              obtain ⟨k, gv, cv, hk, rfl, rfl, hv, hw, hbl⟩ := hrel
              have HV := Lib.hid hv
              have HW := Lib.hid hw
              have hbs := hbl.size
              clear hv hw
              by_cases hlt : k < 64
              · have ho := rnds_ok HS.out Sha.rounds ws k
                have lk := rounds_lt k
                have lw := HWT.out k
                have cK : wr.cell? ⟨gk, k, none⟩ = some (.int .u32 (Sha.rounds.getD k 0 : Nat)) := by rw [hbl.cell (p := ⟨gk, k, none⟩) H2.out.lt]; exact H2.out.cell k hlt
                have cW := own_cell HW.out (u32s_get' ws (j := k) (by have := HWL.out; omega))
                obtain ⟨t, hT⟩ : ∃ t, t = Sha.rnds s Sha.rounds ws k := ⟨_, rfl⟩
                rw [← hT] at ho HV
                have HT := Lib.hid hT
                obtain ⟨kk, hkk⟩ : ∃ kk, kk = Sha.rounds.getD k 0 := ⟨_, rfl⟩
                obtain ⟨ww, hww⟩ : ∃ ww, ww = ws.getD k 0 := ⟨_, rfl⟩
                rw [← hkk] at lk cK
                rw [← hww] at lw cW
                have Hkk := Lib.hid hkk
                have Hww := Lib.hid hww
                clear hkk hww hT
                have c0 := own_cell HV.out (j := 0) rfl
                have c1 := own_cell HV.out (j := 1) rfl
                have c2 := own_cell HV.out (j := 2) rfl
                have c3 := own_cell HV.out (j := 3) rfl
                have c4 := own_cell HV.out (j := 4) rfl
                have c5 := own_cell HV.out (j := 5) rfl
                have c6 := own_cell HV.out (j := 6) rfl
                have c7 := own_cell HV.out (j := 7) rfl
                obtain ⟨oa, ob, oc, od, oe, of, og, oh⟩ := ho
                have y6 : ∀ W : World, Calls Tryd.prog 44 #[.int .u32 (t.e : Int), .int .i64 6] W fun e w' => e = .returned (.int .u32 (Sha.rotr t.e 6 : Nat)) ∧ w' = W := fun W => (turn2_any t.e 6 W oe (by omega)).mono fun _ _ h => ⟨h.1, h.2.symm⟩
                have y11 : ∀ W : World, Calls Tryd.prog 44 #[.int .u32 (t.e : Int), .int .i64 11] W fun e w' => e = .returned (.int .u32 (Sha.rotr t.e 11 : Nat)) ∧ w' = W := fun W => (turn2_any t.e 11 W oe (by omega)).mono fun _ _ h => ⟨h.1, h.2.symm⟩
                have y25 : ∀ W : World, Calls Tryd.prog 44 #[.int .u32 (t.e : Int), .int .i64 25] W fun e w' => e = .returned (.int .u32 (Sha.rotr t.e 25 : Nat)) ∧ w' = W := fun W => (turn2_any t.e 25 W oe (by omega)).mono fun _ _ h => ⟨h.1, h.2.symm⟩
                have y2 : ∀ W : World, Calls Tryd.prog 44 #[.int .u32 (t.a : Int), .int .i64 2] W fun e w' => e = .returned (.int .u32 (Sha.rotr t.a 2 : Nat)) ∧ w' = W := fun W => (turn2_any t.a 2 W oa (by omega)).mono fun _ _ h => ⟨h.1, h.2.symm⟩
                have y13 : ∀ W : World, Calls Tryd.prog 44 #[.int .u32 (t.a : Int), .int .i64 13] W fun e w' => e = .returned (.int .u32 (Sha.rotr t.a 13 : Nat)) ∧ w' = W := fun W => (turn2_any t.a 13 W oa (by omega)).mono fun _ _ h => ⟨h.1, h.2.symm⟩
                have y22 : ∀ W : World, Calls Tryd.prog 44 #[.int .u32 (t.a : Int), .int .i64 22] W fun e w' => e = .returned (.int .u32 (Sha.rotr t.a 22 : Nat)) ∧ w' = W := fun W => (turn2_any t.a 22 W oa (by omega)).mono fun _ _ h => ⟨h.1, h.2.symm⟩
                have b6 := Num.rotr_lt t.e 6 oe (by omega)
                have b11 := Num.rotr_lt t.e 11 oe (by omega)
                have b25 := Num.rotr_lt t.e 25 oe (by omega)
                have b2 := Num.rotr_lt t.a 2 oa (by omega)
                have b13 := Num.rotr_lt t.a 13 oa (by omega)
                have b22 := Num.rotr_lt t.a 22 oa (by omega)
                have hs1 : Sha.bs1 t.e = Sha.rotr t.e 6 ^^^ Sha.rotr t.e 11 ^^^ Sha.rotr t.e 25 := rfl
                have hs0 : Sha.bs0 t.a = Sha.rotr t.a 2 ^^^ Sha.rotr t.a 13 ^^^ Sha.rotr t.a 22 := rfl
                have G1 := Lib.hid hs1
                have G0 := Lib.hid hs0
                clear hs1 hs0
                generalize Sha.rotr t.e 6 = r6 at *
                generalize Sha.rotr t.e 11 = r11 at *
                generalize Sha.rotr t.e 25 = r25 at *
                generalize Sha.rotr t.a 2 = r2 at *
                generalize Sha.rotr t.a 13 = r13 at *
                generalize Sha.rotr t.a 22 = r22 at *
                have E1 := xor_u32 (a := r6) (b := r11) b6 b11
                have E2 := xor_u32 (a := r6 ^^^ r11) (b := r25) (xor_lt b6 b11) b25
                have E3 := xor_u32 (a := r2) (b := r13) b2 b13
                have E4 := xor_u32 (a := r2 ^^^ r13) (b := r22) (xor_lt b2 b13) b22
                have EF := and_u32 (a := t.e) (b := t.f) oe of
                have EG := and_u32 (a := 4294967295 - t.e) (b := t.g) (by omega) og
                have EC := xor_u32 (a := t.e &&& t.f) (b := (4294967295 - t.e) &&& t.g) (and_lt of) (and_lt og)
                have EN : ((4294967295 : Int) - (t.e : Int)) % 4294967296 = ((4294967295 - t.e : Nat) : Int) := by omega
                have EA := and_u32 (a := t.a) (b := t.b) oa ob
                have EB := and_u32 (a := t.a) (b := t.c) oa oc
                have ED := and_u32 (a := t.b) (b := t.c) ob oc
                have EM := xor_u32 (a := t.a &&& t.b) (b := t.a &&& t.c) (and_lt ob) (and_lt oc)
                have EO := xor_u32 (a := (t.a &&& t.b) ^^^ (t.a &&& t.c)) (b := t.b &&& t.c) (xor_lt (and_lt ob) (and_lt oc)) (and_lt oc)
                have hch : Sha.chs t.e t.f t.g = (t.e &&& t.f) ^^^ ((4294967295 - t.e) &&& t.g) := rfl
                have hmj : Sha.maj t.a t.b t.c = (t.a &&& t.b) ^^^ (t.a &&& t.c) ^^^ (t.b &&& t.c) := rfl
                have GC := Lib.hid hch
                have GM := Lib.hid hmj
                clear hch hmj b6 b11 b25 b2 b13 b22
                generalize r6 ^^^ r11 ^^^ r25 = s1 at *
                generalize r2 ^^^ r13 ^^^ r22 = s0 at *
                generalize r6 ^^^ r11 = m1 at *
                generalize r2 ^^^ r13 = m2 at *
                generalize (t.e &&& t.f) ^^^ ((4294967295 - t.e) &&& t.g) = ch at *
                generalize (t.a &&& t.b) ^^^ (t.a &&& t.c) ^^^ (t.b &&& t.c) = mj at *
                generalize (t.a &&& t.b) ^^^ (t.a &&& t.c) = m3 at *
                generalize t.e &&& t.f = x1 at *
                generalize (4294967295 - t.e) &&& t.g = x2 at *
                generalize 4294967295 - t.e = x3 at *
                generalize t.a &&& t.b = x4 at *
                generalize t.a &&& t.c = x5 at *
                generalize t.b &&& t.c = x6 at *
                clear oa ob oc od oe of og oh lk lw
                go_wp2_with fail
                go_quiet (fail)
                go_wp2_with fail
                go_quiet (fail)
                go_wp2_with fail
                go_quiet ((first | (go_at_call_of 44 (Value.int IntKind.i64 6); exact (y6 _).mono fun _ _ h => ⟨h.1, _, h.2⟩) | (go_at_call_of 44 (Value.int IntKind.i64 11); exact (y11 _).mono fun _ _ h => ⟨h.1, _, h.2⟩) | (go_at_call_of 44 (Value.int IntKind.i64 25); exact (y25 _).mono fun _ _ h => ⟨h.1, _, h.2⟩)))
                go_step
                go_wp2_with (first | (go_at_call_of 44 (Value.int IntKind.i64 2); refine (y2 _).mono ?_; rintro e w' ⟨rfl, rfl⟩) | (go_at_call_of 44 (Value.int IntKind.i64 13); refine (y13 _).mono ?_; rintro e w' ⟨rfl, rfl⟩) | (go_at_call_of 44 (Value.int IntKind.i64 22); refine (y22 _).mono ?_; rintro e w' ⟨rfl, rfl⟩))
                generalize hT1 : ((t.h : Int) + s1 + ch + kk + ww) % 4294967296 = T1
                generalize hT2 : ((s0 : Int) + mj) % 4294967296 = T2
                have HT1 := Lib.hid hT1
                have HT2 := Lib.hid hT2
                have hz1 : 0 ≤ T1 := by omega
                have hz2 : 0 ≤ T2 := by omega
                clear hT1 hT2 E1 E2 E3 E4 EF EG EC EN EA EB ED EM EO y6 y11 y25 y2 y13 y22 cK cW
                refine wp_region_drew_tail 26 (by kernel_rfl) (by kernel_rfl) ?_
                simp only [List.take_succ_cons, List.take_zero, List.drop_succ_cons, List.drop_zero]
                repeat (go_big_quiet_step (fail))
                refine wpQuiet_nil ?_
                intro _ hw'
                obtain ⟨nq2, hw''⟩ := hw'
                subst hw''
                go_wp2
                go_roundw
                case rel =>
                  have e1 : T1 = ((Sha.t1 t kk ww : Nat) : Int) := by rw [← HT1.out]; unfold Sha.t1 Sha.M32; rw [G1.out, GC.out]; omega
                  have e2 : T2 = ((Sha.t2 t : Nat) : Int) := by rw [← HT2.out]; unfold Sha.t2 Sha.M32; rw [G0.out, GM.out]; omega
                  have n1 : (T1 + T2) % 4294967296 = (((Sha.t1 t kk ww + Sha.t2 t) % Sha.M32 : Nat) : Int) := by rw [e1, e2]; unfold Sha.M32; omega
                  have n2 : ((t.d : Int) + T1) % 4294967296 = (((t.d + Sha.t1 t kk ww) % Sha.M32 : Nat) : Int) := by rw [e1]; unfold Sha.M32; omega
                  have hnx : Sha.rnds s Sha.rounds ws (k + 1) = Sha.rnd t kk ww := by rw [HT.out, Hkk.out, Hww.out]; rfl
                  rw [n1, n2]
                  refine ⟨k + 1, wr.heap.size, 8, by omega, by go_num, rfl, ?_, (own_of_heap HW.out (fun _ _ => rfl)).alloc _, (below_drewN hbl _).alloc hbs _⟩
                  rw [hnx]
                  refine own_xs (own_lit (wr.drewN _) w.heap.size _ 8 _ rfl hbs (by unfold maxLen; omega)) rfl ?_
                  simp only [u32s, Sha.S8.l, Sha.rnd, List.map_cons, List.map_nil]
                case measure => simp [intOf]; omega
              · obtain rfl : k = 64 := by omega
                have ho := rnds_ok HS.out Sha.rounds ws 64
                obtain ⟨t, hT⟩ : ∃ t, t = Sha.rnds s Sha.rounds ws 64 := ⟨_, rfl⟩
                rw [← hT] at ho HV
                have HT := Lib.hid hT
                have HOK := Lib.hid ho
                have HV0 : Hid (wr.ownsRow w.heap.size 34 1 (.slice (some ⟨gv, 0, none⟩) 8 cv) 8 (u32s (addA t.l s.l 0))) := by rw [addL_zero]; exact HV.out
                have hgv : gs ≠ gv := by have := H1.out.lt; have := (HV.out.lt gv rfl).1; omega
                clear hT ho HV HW hlt hk
                go_wp2_with fail
                go_loopw [22] (fun vi wr => ∃ j : Nat, j ≤ 8 ∧ vi = .int .i64 j ∧ wr.ownsRow w.heap.size 34 1 (.slice (some ⟨gv, 0, none⟩) 8 cv) 8 (u32s (addA t.l s.l j)) ∧ Below w.heap.size w wr) (fun vi _ => 8 - (intOf vi).toNat)
                case atStart => exact ⟨0, by omega, rfl, HV0.out, hbl⟩
                case round =>
                  clear HV0 hbl hbs
                  obtain ⟨j, hj, rfl, hv, hbl⟩ := hrel
                  have HV := Lib.hid hv
                  have hgvb := (HV.out.lt gv rfl).1
                  clear hv
                  by_cases hlt : j < 8
                  · have cS := own_cell HV.out (u32s_get' _ (j := j) (by rw [addA_len]; exact hlt))
                    rw [addA_get _ _ _ _ hlt, if_neg (by omega)] at cS
                    have fS := own_free HV.out j
                    have cA : wr.cell? ⟨gs, j, none⟩ = some (.int .u32 (s.l.getD j 0 : Nat)) := by rw [hbl.cell (p := ⟨gs, j, none⟩) H1.out.lt]; exact H1.out.cell j hlt
                    have lS := S8l_lt HOK.out j
                    have lA := S8l_lt HS.out j
                    have HSET := Lib.hid (addA_set t.l s.l j hlt)
                    generalize t.l.getD j 0 = x at *
                    generalize s.l.getD j 0 = y at *
                    have k0 : (0 : Int) ≤ (j : Int) := by omega
                    have k1 : (j : Int) < 8 := by omega
                    clear lS lA
                    go_wp2_with fail
                    refine wp_region_drew_tail 12 (by kernel_rfl) (by kernel_rfl) ?_
                    simp only [List.take_succ_cons, List.take_zero, List.drop_succ_cons, List.drop_zero]
                    repeat (go_big_quiet_step (fail))
                    refine wpQuiet_nil ?_
                    intro _ hw'
                    obtain ⟨nq, hw''⟩ := hw'
                    subst hw''
                    go_wp2
                    go_roundw
                    case rel =>
                      have hn : ((x : Int) + (y : Int)) % 4294967296 = (((x + y) % 4294967296 : Nat) : Int) := by omega
                      rw [hn]
                      refine ⟨j + 1, by omega, by go_num, ?_, (below_drewN hbl _).setCell hgvb _⟩
                      refine own_xs (own_set (own_of_heap HV.out (w' := wr.drewN nq) (fun _ _ => rfl)) hlt _) rfl ?_
                      rw [u32s_setL, HSET.out]
                    case measure => simp [intOf]; omega
                  · obtain rfl : j = 8 := by omega
                    clear hlt
                    go_wp2
                    go_ret
                    refine ⟨gv, cv, rfl, ?_, hbl⟩
                    have h := HV.out
                    rw [addL_eight, HT.out, HWS.out] at h
                    exact Words.of_own h
#print axioms mix02_any
end Go.Proofs.YtdiccgpgmddbdaaDoor
