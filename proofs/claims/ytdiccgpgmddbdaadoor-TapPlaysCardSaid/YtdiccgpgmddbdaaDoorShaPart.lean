/- The walk of (*sha.Hash).Write where bytes are open: what comes makes no block yet; or it makes one, and more behind. -/
import Derived.Test.YtdiccgpgmddbdaaDoorShaWrite
namespace Go.Proofs.YtdiccgpgmddbdaaDoor
open Go.RowKit

set_option maxRecDepth 100000 in
theorem write_part (b : Nat) (c r : List UInt8) (s : ByteArray) (w : World) (hc : c.length % 64 = 0) (hr0 : 0 < r.length) (hr : r.length + s.size < 64)
    (h : w.heap[b]? = some (.cells (hashC (Sha.stc c) ⟨r.toArray⟩ ((c ++ r).length : Int)) 62 (0, 0)))
    (hlen : (c ++ r).length + s.size < 4611686018427387904) :
    Calls Tryd.prog 18 #[.pointer (some ⟨b, 0, none⟩), .string s] w fun e w' => e = .returned (.tuple #[]) ∧ HashAt w' b ((c ++ r) ++ s.data.toList) ∧ Only (· = b) w w' := by
  have c8 := heap_cell (j := 8) h rfl
  have c9 := heap_cell (j := 9) h rfl
  have f8 := heap_free (j := 8) h
  have f9 := heap_free (j := 9) h
  have HH := Lib.hid h
  clear h
  generalize ht : (c ++ r).length = t at *
  have HT := Lib.hid ht
  clear ht
  generalize ho : (⟨r.toArray⟩ : ByteArray) = o at *
  have hos : o.size = r.length := by rw [← ho]; rfl
  have p0 : (0 : Int) < o.size := by omega
  have p1 : (o.size : Int) + s.size < 64 := by omega
  have p2 : (s.size : Int) < 64 - o.size := by omega
  have p3 : IntKind.u64.wrap ((t : Int) + s.size) = t + s.size := wraps_u64 _ (by omega) (by omega)
  have p5 : 0 ≤ (t : Int) + s.size := by omega
  have p4 : ((o.size : Int) == 0) = false := beq_eq_false_iff_ne.2 (by omega)
  have HO := Lib.hid ho
  have HS := Lib.hid hos
  clear ho hos
  clear hlen
  go_enter Tryd.func18, Tryd.ntmps18
  go_wp2
  go_end0
  refine ⟨rfl, ⟨c, r ++ s.data.toList, by simp, hc, by simp; omega, ?_⟩, (Only.set1 _).trans (Only.set1 _)⟩
  have h := heap_set (j := 8) (heap_set (j := 9) HH.out (.int .u64 ((t : Int) + s.size))) (.string (o ++ s))
  rw [h]
  have e1 : (((c ++ r) ++ s.data.toList).length : Int) = (t : Int) + s.size := by rw [List.length_append, HT.out]; simp
  have e2 : o ++ s = ⟨(r ++ s.data.toList).toArray⟩ := by rw [← HO.out]; apply ByteArray.ext; simp
  rw [e1, e2]
  rfl

/-- One cell, read in a class of worlds that all hold it. -/
theorem extract0 (s : ByteArray) (k : Nat) : (s.extract 0 k).data.toList = s.data.toList.take k := by
  simp [List.extract_eq_take_drop]

theorem cell_drawn (w : World) (n : Nat) (a : Addr) : World.cell? { w with drawn := n } a = w.cell? a := rfl
theorem frozen_drawn (w : World) (n : Nat) (a : Addr) : World.frozen? { w with drawn := n } a = w.frozen? a := rfl

set_option maxRecDepth 100000 in
set_option maxHeartbeats 4000000 in
theorem write_full (b : Nat) (c r : List UInt8) (s : ByteArray) (w : World) (ht : Tabs w) (hb2 : 2 ≤ b) (hc : c.length % 64 = 0) (hr0 : 0 < r.length) (hr1 : r.length < 64) (hr : 64 ≤ r.length + s.size)
    (h : w.heap[b]? = some (.cells (hashC (Sha.stc c) ⟨r.toArray⟩ ((c ++ r).length : Int)) 62 (0, 0)))
    (hlen : (c ++ r).length + s.size < 4611686018427387904) :
    Calls Tryd.prog 18 #[.pointer (some ⟨b, 0, none⟩), .string s] w fun e w' => e = .returned (.tuple #[]) ∧ HashAt w' b ((c ++ r) ++ s.data.toList) ∧ Only (· = b) w w' := by
  have hok := stc_ok c
  have c8 := heap_cell (j := 8) h rfl
  have c9 := heap_cell (j := 9) h rfl
  have f9 := heap_free (j := 9) h
  have HLEN := Lib.hid hlen
  have HH := Lib.hid h
  clear h
  generalize hst : Sha.stc c = st at *
  have HS := Lib.hid hst
  clear hst
  generalize htt : (c ++ r).length = t at *
  have HT := Lib.hid htt
  clear htt
  generalize ho : (⟨r.toArray⟩ : ByteArray) = o at *
  have hos : o.size = r.length := by rw [← ho]; rfl
  have p0 : (0 : Int) < o.size := by omega
  have p1 : (o.size : Int) < 64 := by omega
  have p2 : (64 : Int) - o.size ≤ s.size := by omega
  have p7 : (o.size : Int) ≤ 64 := by omega
  have p8 : 0 ≤ (64 : Int) - o.size := by omega
  have p3 : IntKind.u64.wrap ((t : Int) + s.size) = t + s.size := wraps_u64 _ (by omega) (by omega)
  have p5 : 0 ≤ (t : Int) + s.size := by omega
  have p6 : IntKind.u64.wrap (s.size : Int) = s.size := wraps_u64 _ (by omega) (by omega)
  have HO := Lib.hid ho
  have HZ := Lib.hid hos
  have HLS : Hid (s.size < 4611686018427387904) := by unfold Hid; omega
  clear ho hos hlen
  have o1 : Only (· = b) w (w.setCell ⟨b, 9, none⟩ (.int .u64 ((t : Int) + s.size))) := Only.set1 _
  have hT0 : Tabs (w.setCell ⟨b, 9, none⟩ (.int .u64 ((t : Int) + s.size))) := ht.only o1 (by show 0 ≠ b; omega) (by show 1 ≠ b; omega)
  have h0 := heap_set (j := 9) HH.out (.int .u64 ((t : Int) + s.size))
  simp only [List.setIfInBounds_toArray, List.set_cons_zero, List.set_cons_succ] at h0
  have H0 := Lib.hid h0
  clear h0
  go_enter Tryd.func18, Tryd.ntmps18
  go_wp2_with fail
  generalize hw0 : w.setCell ⟨b, 9, none⟩ (.int .u64 ((t : Int) + s.size)) = w0 at *
  clear hw0
  have hsz := hT0.size
  have hrow : ∀ W, Fresh w0 W → W.heap[b]? = some (.cells (hashC st o ((t : Int) + s.size)) 62 (0, 0)) := fun W hW => by
    rw [hW.block _ (heap_lt H0.out)]; exact H0.out
  have hrange : ∀ W, Fresh w0 W → W.rangeAt b 0 (S8v st).toList := fun W hW j v hv => by
    rw [cell_of_row _ _ _ _ _ _ (hrow W hW)]
    match j, hv with
    | 0, hv => exact hv
    | 1, hv => exact hv
    | 2, hv => exact hv
    | 3, hv => exact hv
    | 4, hv => exact hv
    | 5, hv => exact hv
    | 6, hv => exact hv
    | 7, hv => exact hv
    | n + 8, hv => simp at hv
  have I35 : Hid ((Tryd.prog.info? 35).map (·.size) = some (S8v st).toList.length) := show (Tryd.prog.info? 35).map (·.size) = some 8 by kernel_rfl
  refine wp_region_quiet_tail (C := Fresh w0) 16 (by kernel_rfl) (by kernel_rfl) (show Below _ _ _ from (Below.refl _ _).drew) ?_
  simp only [List.take_succ_cons, List.take_zero, List.drop_succ_cons, List.drop_zero]
  iterate 4
    refine wpQuiet_step (fun K hK => ?_)
    go_simp
    apply Exists.intro
    refine ⟨fun W hW => ?_, hK _ ?_⟩
    · exact rfl
    clear hK K
  refine BigFrame.wpQuiet_want rfl (fun K hK => quiet_load_mid 35 _ rfl b 0 rfl (S8v st).toList _ hrange Tryd.underlying35 rfl I35.out (hK _ ?_))
  clear hK K
  iterate 3
    refine wpQuiet_step (fun K hK => ?_)
    go_simp
    apply Exists.intro
    refine ⟨fun W hW => ?_, hK _ ?_⟩
    · exact rfl
    clear hK K
  have hcell : ∀ W, Fresh w0 W → W.cell? ⟨b, 8, none⟩ = some (.string o) := fun W hW => heap_cell (hrow W hW) rfl
  refine wpQuiet_step (fun K hK => ?_)
  go_simp
  apply Exists.intro
  refine ⟨fun W hW => ?_, hK _ ?_⟩
  · rw [hcell W hW]; exact ⟨rfl, rfl⟩
  clear hK K hcell
  iterate 3
    refine wpQuiet_step (fun K hK => ?_)
    go_simp
    apply Exists.intro
    refine ⟨fun W hW => ?_, hK _ ?_⟩
    · exact rfl
    clear hK K
  refine wpQuiet_step (fun K hK => ?_)
  go_simp
  apply Exists.intro
  refine ⟨fun W hW => ?_, hK _ ?_⟩
  · rw [if_neg (by omega)]; exact ⟨rfl, rfl⟩
  clear hK K
  refine wpQuiet_step (fun K hK => ?_)
  go_simp
  apply Exists.intro
  refine ⟨fun W hW => ?_, hK _ ?_⟩
  · exact (mix_any st _ W (hT0.keep hW hsz) hok (by simp; omega)).mono fun e w'' h => ⟨h.1, hW.trans (h.2.mono hW.size)⟩
  clear hK K
  iterate 2
    refine wpQuiet_step (fun K hK => ?_)
    go_simp
    apply Exists.intro
    refine ⟨fun W hW => ?_, hK _ ?_⟩
    · exact rfl
    clear hK K
  refine wpQuiet_nil ?_
  intro w1 hw1
  have hr1 := hrow w1 hw1
  have d0 := heap_cell (j := 0) hr1 rfl
  have d1 := heap_cell (j := 1) hr1 rfl
  have d2 := heap_cell (j := 2) hr1 rfl
  have d3 := heap_cell (j := 3) hr1 rfl
  have d4 := heap_cell (j := 4) hr1 rfl
  have d5 := heap_cell (j := 5) hr1 rfl
  have d6 := heap_cell (j := 6) hr1 rfl
  have d7 := heap_cell (j := 7) hr1 rfl
  have f0 := heap_free (j := 0) hr1
  have f1 := heap_free (j := 1) hr1
  have f2 := heap_free (j := 2) hr1
  have f3 := heap_free (j := 3) hr1
  have f4 := heap_free (j := 4) hr1
  have f5 := heap_free (j := 5) hr1
  have f6 := heap_free (j := 6) hr1
  have f7 := heap_free (j := 7) hr1
  have HR1 := Lib.hid hr1
  clear hr1 hrow hrange
  generalize hn8 : Sha.mix st _ = n8
  have HN := Lib.hid hn8
  clear hn8
  go_wp2_with fail
  have hfin := set8_heap HR1.out n8
  have o3 := (Only.of_below (S := (· = b)) hw1).trans (set8_only w1 b n8)
  have hT2 := hT0.only o3 (by show 0 ≠ b; omega) (by show 1 ≠ b; omega)
  have o4 := o1.trans o3
  generalize hw2 : World.setCell (World.setCell (World.setCell (World.setCell (World.setCell (World.setCell (World.setCell (World.setCell w1 _ _) _ _) _ _) _ _) _ _) _ _) _ _) _ _ = w2
  unfold set8 at hfin o3 o4 hT2
  rw [hw2] at hfin o3 o4 hT2
  have e8 : w2.cell? ⟨b, 8, none⟩ = some (.string o) := heap_cell (j := 8) hfin rfl
  have g8 : w2.frozen? ⟨b, 8, none⟩ = false := heap_free (j := 8) hfin
  have HF := Lib.hid hfin
  clear hw2 hfin d0 d1 d2 d3 d4 d5 d6 d7 f0 f1 f2 f3 f4 f5 f6 f7 c8 c9 f9 I35
  refine wp_region_from (by kernel_rfl) ?_
  intro wd hwd
  have e9 : wd.cell? ⟨b, 8, none⟩ = some (.string o) := by rw [hwd, World.cell?_drewN]; exact e8
  have g9 : wd.frozen? ⟨b, 8, none⟩ = false := by rw [hwd, World.frozen?_drewN]; exact g8
  have hF9 : wd.heap[b]? = some (.cells (hashC n8 o ((t : Int) + s.size)) 62 (0, 0)) := by rw [hwd, World.heap_drewN]; exact HF.out
  have o9 : Only (· = b) w wd := by rw [hwd]; exact o4.trans (Only.drew 1)
  clear hwd e8 g8 HF o3 hT2 o4
  refine take_pure (i := 0) (v := .pointer (some ⟨b, 0, none⟩)) (a' := ?_) rfl (by kernel_rfl) (by kernel_rfl) (by kernel_rfl) (fun _ _ _ h => h) rfl (fun W => by go_simp) ?_ #[true, false, false, false, false, false, false, false] rfl ?_
  rotate_left
  · simp only [Act.put, List.getElem_toArray, List.getElem_cons_zero, List.setIfInBounds_toArray, List.set_cons_zero, List.set_cons_succ]
    rfl
  refine take_pure (i := 1) (v := .string s) (a' := ?_) rfl (by kernel_rfl) (by kernel_rfl) (by kernel_rfl) (fun _ _ _ h => h) rfl (fun W => by go_simp) ?_ #[true, true, false, false, false, false, false, false] rfl ?_
  rotate_left
  · simp only [Act.put, List.getElem_toArray, List.getElem_cons_zero, List.getElem_cons_succ, List.setIfInBounds_toArray, List.set_cons_zero, List.set_cons_succ]
    rfl
  refine take_pure (i := 2) (v := .int .i64 (64 - (o.size : Int))) (a' := ?_) rfl (by kernel_rfl) (by kernel_rfl) (by kernel_rfl) (fun _ _ _ h => h) rfl (fun W => by go_simp) ?_ #[true, true, true, false, false, false, false, false] rfl ?_
  rotate_left
  · simp only [Act.put, List.getElem_toArray, List.getElem_cons_zero, List.getElem_cons_succ, List.setIfInBounds_toArray, List.set_cons_zero, List.set_cons_succ]
    rfl
  refine take_pure (i := 3) (v := .string (s.extract (64 - o.size) s.size)) (a' := ?_) rfl (by kernel_rfl) (by kernel_rfl) (by kernel_rfl) (fun _ _ _ h => h) rfl (fun W => by go_simp) ?_ #[true, true, true, true, false, false, false, false] rfl ?_
  rotate_left
  · simp only [Act.put, List.getElem_toArray, List.getElem_cons_zero, List.getElem_cons_succ, List.setIfInBounds_toArray, List.set_cons_zero, List.set_cons_succ]
    rfl
  refine take_pure (i := 4) (v := .pointer (some ⟨b, 0, none⟩)) (a' := ?_) rfl (by kernel_rfl) (by kernel_rfl) (by kernel_rfl) (fun _ _ _ h => h) rfl (fun W => by go_simp) ?_ #[true, true, true, true, true, false, false, false] rfl ?_
  rotate_left
  · simp only [Act.put, List.getElem_toArray, List.getElem_cons_zero, List.getElem_cons_succ, List.setIfInBounds_toArray, List.set_cons_zero, List.set_cons_succ]
    rfl
  refine take_pure (i := 5) (v := .pointer (some ⟨b, 8, none⟩)) (a' := ?_) rfl (by kernel_rfl) (by kernel_rfl) (by kernel_rfl) (fun _ _ _ h => h) rfl (fun W => by go_simp) ?_ #[true, true, true, true, true, true, false, false] rfl ?_
  rotate_left
  · simp only [Act.put, List.getElem_toArray, List.getElem_cons_zero, List.getElem_cons_succ, List.setIfInBounds_toArray, List.set_cons_zero, List.set_cons_succ]
    rfl
  refine wpAnyH_all (rs := [6]) (by kernel_rfl) (by decide) (fun i hi => ?_)
  obtain rfl : i = 6 := by simpa using hi
  have I9 : (Tryd.prog.info? 9).map (·.size) = some 1 := by kernel_rfl
  refine .inl (wp_store_cell 9 _ _ rfl b 8 (.string ⟨#[]⟩) rfl rfl rfl I9 (.string o) e9 g9 ?_)
  refine ⟨trivial, ?_⟩
  refine wpAnyH_all (rs := [7]) (by kernel_rfl) (by decide) (fun i hi => ?_)
  obtain rfl : i = 7 := by simpa using hi
  refine .inl (wp_assign _ rfl (.string (s.extract (64 - o.size) s.size)) rfl ?_)
  refine ⟨trivial, ?_⟩
  refine wpAnyH_done (by kernel_rfl) ?_ _
  refine NoPanic.normal ?_
  clear e9 g9
  have h8 := heap_set (j := 8) hF9 (.string ⟨#[]⟩)
  simp only [List.setIfInBounds_toArray, List.set_cons_zero, List.set_cons_succ] at h8
  have hfin : (wd.setCell ⟨b, 8, none⟩ (.string ⟨#[]⟩)).heap[b]? = some (.cells (hashC n8 ⟨#[]⟩ ((t : Int) + s.size)) 62 (0, 0)) := h8
  have o5 := o9.trans (Only.set1 (b := b) (o := 8) (.string ⟨#[]⟩))
  have hT5 := ht.only o5 (by show 0 ≠ b; omega) (by show 1 ≠ b; omega)
  clear h8 hF9 o9 o1
  generalize wd.setCell ⟨b, 8, none⟩ (.string ⟨#[]⟩) = w3 at *
  simp only [Act.put, List.getElem_toArray, List.getElem_cons_zero, List.getElem_cons_succ, List.setIfInBounds_toArray, List.set_cons_zero, List.set_cons_succ]
  have e8' : w3.cell? ⟨b, 8, none⟩ = some (.string ⟨#[]⟩) := heap_cell (j := 8) hfin rfl
  go_wp2_with fail
  clear e8'
  have hall0 : (c ++ r) ++ s.data.toList = (c ++ (r ++ s.data.toList.take (64 - r.length))) ++ (s.extract (64 - o.size) s.size).data.toList := by
    rw [drop_end, HZ.out]; simp
  have hst0 : Sha.stc (c ++ (r ++ s.data.toList.take (64 - r.length))) = n8 := by
    have ho2 : o.data.toList = r := by rw [← HO.out]
    rw [Sha.stc_block c _ hc (by simp; omega), HS.out, ← HN.out, HZ.out, ho2]
  have hlen0 : (((c ++ r) ++ s.data.toList).length : Int) = (t : Int) + s.size := by rw [List.length_append, HT.out]; simp
  have hcc0 : (c ++ (r ++ s.data.toList.take (64 - r.length))).length % 64 = 0 := by simp; omega
  have HA0 := Lib.hid hall0
  have HS0 := Lib.hid hst0
  have HL0 := Lib.hid hlen0
  have HC0 := Lib.hid hcc0
  clear hall0 hst0 hlen0 hcc0
  go_loopw [1] (fun v wr => ∃ rest : ByteArray, v = .string rest ∧ WriteAt w b ((c ++ r) ++ s.data.toList) rest wr) (fun v _ => strLen v)
  case atStart =>
    refine ⟨_, rfl, hT5, o5, _, HA0.out, HC0.out, ?_⟩
    rw [HS0.out, HL0.out]
    exact hfin
  case round =>
    clear hfin o5 hT5
    obtain ⟨rest, rfl, hrr⟩ := hrel
    obtain ⟨hTX, hOX, cc, hall, hccx, hh⟩ := hrr
    have HA := Lib.hid hall
    have HHX := Lib.hid hh
    have hokx := stc_ok cc
    clear hall hh
    generalize hst2 : Sha.stc cc = sx at *
    have HSX := Lib.hid hst2
    clear hst2
    by_cases hlt : 64 ≤ rest.size
    · have hlt' : (64 : Int) ≤ rest.size := by omega
      have hri : (rest.size : Int) < 9223372036854775807 := by
        have := congrArg List.length HA.out
        have h8 := HLEN.out; have h9 := HT.out; simp at this h9; omega
      have hsz := hTX.size
      have hrow : ∀ W, Fresh wr W → W.heap[b]? = some (.cells (hashC sx ⟨#[]⟩ (((c ++ r) ++ s.data.toList).length : Int)) 62 (0, 0)) := fun W hW => by
        rw [hW.block _ (heap_lt HHX.out)]; exact HHX.out
      have hrange : ∀ W, Fresh wr W → W.rangeAt b 0 (S8v sx).toList := fun W hW j v hv => by
        rw [cell_of_row _ _ _ _ _ _ (hrow W hW)]
        match j, hv with
        | 0, hv => exact hv
        | 1, hv => exact hv
        | 2, hv => exact hv
        | 3, hv => exact hv
        | 4, hv => exact hv
        | 5, hv => exact hv
        | 6, hv => exact hv
        | 7, hv => exact hv
        | n + 8, hv => simp at hv
      have I35 : Hid ((Tryd.prog.info? 35).map (·.size) = some (S8v sx).toList.length) := show (Tryd.prog.info? 35).map (·.size) = some 8 by kernel_rfl
      go_wp2_with fail
      refine wp_region_quiet_tail (C := Fresh wr) 10 (by kernel_rfl) (by kernel_rfl) (show Below _ _ _ from (Below.refl _ _).drew) ?_
      simp only [List.take_succ_cons, List.take_zero, List.drop_succ_cons, List.drop_zero]
      iterate 4
        refine wpQuiet_step (fun K hK => ?_)
        go_simp
        apply Exists.intro
        refine ⟨fun W hW => ?_, hK _ ?_⟩
        · exact rfl
        clear hK K
      refine BigFrame.wpQuiet_want rfl (fun K hK => quiet_load_mid 35 _ rfl b 0 rfl (S8v sx).toList _ hrange Tryd.underlying35 rfl I35.out (hK _ ?_))
      clear hK K
      iterate 2
        refine wpQuiet_step (fun K hK => ?_)
        go_simp
        apply Exists.intro
        refine ⟨fun W hW => ?_, hK _ ?_⟩
        · exact rfl
        clear hK K
      refine wpQuiet_step (fun K hK => ?_)
      go_simp
      apply Exists.intro
      refine ⟨fun W hW => ?_, hK _ ?_⟩
      · exact (mix_any sx _ W (hTX.keep hW hsz) hokx (by simp; omega)).mono fun e w'' h => ⟨h.1, hW.trans (h.2.mono hW.size)⟩
      clear hK K
      iterate 2
        refine wpQuiet_step (fun K hK => ?_)
        go_simp
        apply Exists.intro
        refine ⟨fun W hW => ?_, hK _ ?_⟩
        · exact rfl
        clear hK K
      refine wpQuiet_nil ?_
      intro wx1 hwx1
      have hrx := hrow wx1 hwx1
      have c0 := heap_cell (j := 0) hrx rfl
      have c1 := heap_cell (j := 1) hrx rfl
      have c2 := heap_cell (j := 2) hrx rfl
      have c3 := heap_cell (j := 3) hrx rfl
      have c4 := heap_cell (j := 4) hrx rfl
      have c5 := heap_cell (j := 5) hrx rfl
      have c6 := heap_cell (j := 6) hrx rfl
      have c7 := heap_cell (j := 7) hrx rfl
      have f0 := heap_free (j := 0) hrx
      have f1 := heap_free (j := 1) hrx
      have f2 := heap_free (j := 2) hrx
      have f3 := heap_free (j := 3) hrx
      have f4 := heap_free (j := 4) hrx
      have f5 := heap_free (j := 5) hrx
      have f6 := heap_free (j := 6) hrx
      have f7 := heap_free (j := 7) hrx
      have HRX := Lib.hid hrx
      clear hrx hrow hrange
      generalize hnx : Sha.mix sx _ = nx
      have HNX := Lib.hid hnx
      clear hnx
      go_wp2
      have hfin := set8_heap HRX.out nx
      refine ⟨⟨_, rfl, hTX.only ((Only.of_below hwx1).trans (set8_only wx1 b nx)) (by show 0 ≠ b; omega) (by show 1 ≠ b; omega), hOX.trans ((Only.of_below hwx1).trans (set8_only wx1 b nx)), cc ++ rest.data.toList.take 64, ?_, ?_, ?_⟩, ?_⟩
      · rw [HA.out, drop_end]; simp
      · simp; omega
      · rw [Sha.stc_block cc _ hccx (by simp; omega), HSX.out, HNX.out]; exact hfin
      · show (rest.extract 64 rest.size).size < rest.size
        simp; omega
    · have hlt' : ¬ (64 : Int) ≤ rest.size := by omega
      have hri : (rest.size : Int) < 64 := by omega
      have hrow := HHX.out
      have c8 := heap_cell (j := 8) hrow rfl
      have f8 := heap_free (j := 8) hrow
      clear hrow
      go_wp2
      go_end0
      refine ⟨rfl, ⟨cc, rest.data.toList, by simpa using HA.out, hccx, by simp; omega, ?_⟩, hOX.trans (Only.set1 _)⟩
      have h := heap_set (j := 8) HHX.out (.string (⟨#[]⟩ ++ rest))
      rw [HSX.out, h]
      have e : (⟨#[]⟩ : ByteArray) ++ rest = ⟨rest.data.toList.toArray⟩ := by apply ByteArray.ext; simp
      rw [e, List.append_assoc]
      rfl
end Go.Proofs.YtdiccgpgmddbdaaDoor
