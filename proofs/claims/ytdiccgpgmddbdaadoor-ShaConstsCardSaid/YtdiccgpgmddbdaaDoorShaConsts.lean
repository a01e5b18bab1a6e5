/- The walk of gantletlaw02.ShaConsts: whatever number, it answers true. Condition: the two package tables lie as laid. -/
import Derived.Test.YtdiccgpgmddbdaaDoorShaAwake
import Derived.Test.YtdiccgpgmddbdaaDoorRefSum
namespace Go.Proofs.YtdiccgpgmddbdaaDoor
open Go.RowKit

theorem upto_front {i k : Nat} (h : i ≤ k) : ∃ t, Num.upto k = Num.upto i ++ t := by
  induction k with
  | zero => obtain rfl : i = 0 := by omega
            exact ⟨[], by simp⟩
  | succ k ih =>
    rcases Nat.lt_or_ge i (k + 1) with h1 | h1
    · obtain ⟨t, ht⟩ := ih (by omega)
      exact ⟨t ++ (if Num.prime (k + 2) then [k + 2] else []), by simp only [Num.upto]; rw [ht, List.append_assoc]⟩
    · obtain rfl : i = k + 1 := by omega
      exact ⟨[], by simp⟩
theorem upto_at {m i : Nat} (hm : m < 310) (hp : Num.prime (m + 2) = true) (hl : (Num.upto m).length = i) : (Num.upto 310)[i]? = some (m + 2) := by
  obtain ⟨t, ht⟩ := upto_front (show m + 1 ≤ 310 by omega)
  rw [ht, Num.upto_yes hp, List.append_assoc, List.getElem?_append_right (by omega), hl, Nat.sub_self, List.cons_append, List.getElem?_cons_zero]
theorem third_at {m i : Nat} (hm : m < 310) (hp : Num.prime (m + 2) = true) (hl : (Num.upto m).length = i) : Sha.rounds.getD i 0 = Num.behind (m + 2) 3 := by
  rw [← Num.thirds_all, Num.thirds, List.getD_eq_getElem?_getD, List.getElem?_map, upto_at hm hp hl, Option.map_some, Option.getD_some]
theorem first_at {m i : Nat} (hm : m < 310) (hp : Num.prime (m + 2) = true) (hl : (Num.upto m).length = i) (hi : i < 8) : Sha.first.l.getD i 0 = Num.behind (m + 2) 2 := by
  rw [← Num.firsts_all, Num.firsts, List.getD_eq_getElem?_getD, List.getElem?_map, List.getElem?_take_of_lt hi, upto_at hm hp hl, Option.map_some, Option.getD_some]

set_option maxRecDepth 100000 in
set_option maxHeartbeats 6000000 in
theorem consts_any (n : Int) (w : World) (ht : Tabs w) :
    Calls Tryd.prog 6 #[.int .i64 n] w fun e w' => e = .returned (.bool true) ∧ Below w.heap.size w w' := by
  have hsz := ht.size
  obtain ⟨m0, hm0⟩ : ∃ m : Nat, n % 18446744073709551616 = (m : Int) := ⟨(n % 18446744073709551616).toNat, by omega⟩
  obtain ⟨i, hi⟩ : ∃ i : Nat, (m0 : Int) % 64 = (i : Int) := ⟨m0 % 64, by omega⟩
  have hi64 : i < 64 := by omega
  have hw0 : IntKind.u64.wrap n = (m0 : Int) := by rw [IntKind.wrap_u64]; exact hm0
  obtain ⟨F, hF⟩ : ∃ F, F = Sha.first := ⟨_, rfl⟩
  obtain ⟨CK, hCK⟩ : ∃ C, C = (u32s Sha.rounds).toArray := ⟨_, rfl⟩
  have hcon : ∀ W : World, Tabs W → Calls Tryd.prog 22 #[] W fun e w' => e = .returned (.tuple #[.agg (S8v F), .agg CK]) ∧ Below W.heap.size W w' := fun W h => by rw [hF, hCK]; exact const_any W h
  have hKl : CK.size = 64 := by rw [hCK]; rfl
  have i64 : (Tryd.prog.info? 36).map (·.size) = some 64 := by kernel_rfl
  have stK := fun (W : World) (o : Obj) => store_new2 (P := Tryd.prog) W o 36 Z64 CK (by rw [hKl]; exact i64) (by rw [hKl]; rfl) (by rw [hCK]; exact u32s_one _)
  have HF := Lib.hid hF
  have HK := Lib.hid hCK
  clear hF hCK i64
  go_enter Tryd.func6, Tryd.ntmps6
  go_wp2_with fail
  refine (hcon w ht).mono ?_
  rintro e w1 ⟨rfl, hb1⟩
  go_wp2_with fail
  have hS8 : Hid (S8v F = #[.int .u32 (F.a : Nat), .int .u32 (F.b : Nat), .int .u32 (F.c : Nat), .int .u32 (F.d : Nat), .int .u32 (F.e : Nat), .int .u32 (F.f : Nat), .int .u32 (F.g : Nat), .int .u32 (F.h : Nat)]) := show _ = _ from rfl
  have ht1 : Tabs w1 := ht.keep hb1 hsz
  have ht2 : Tabs ((w1.alloc (.cells (S8v F) 35)).alloc (.cells CK 36)) := ht1.keep (((Below.refl _ _).alloc (Nat.le_refl _) _).alloc (by simp) _) (Nat.le_trans hsz hb1.size)
  refine (hcon _ ht2).mono ?_
  rintro e w2 ⟨rfl, hb2⟩
  have hz2 : w1.heap.size + 2 ≤ w2.heap.size := by have := hb2.size; simp at this; omega
  have ha : w2.heap[w1.heap.size]? = some (.cells (S8v F) 35 (0, 0)) := by
    rw [hb2.block _ (by simp; omega), heap_alloc_old _ _ (by simp), heap_alloc_last]
  have hbb : w2.heap[w1.heap.size + 1]? = some (.cells CK 36 (0, 0)) := by
    rw [hb2.block _ (by simp)]
    have h := heap_alloc_last (w1.alloc (.cells (S8v F) 35)) (.cells CK 36)
    simpa using h
  have hbw : Below w.heap.size w w2 := hb1.trans ((((Below.refl w1.heap.size w1).alloc (Nat.le_refl _) _).alloc (by simp) _).trans (hb2.mono (by simp; omega)) |>.mono hb1.size)
  have HA := Lib.hid ha
  have HB := Lib.hid hbb
  have HT2 := Lib.hid (ht.keep hbw hsz)
  clear ha hbb ht1 ht2 hb2 hb1 hcon
  go_wp2_with fail
  obtain ⟨W0, hW0⟩ : ∃ W, W = (w2.alloc (.cells (S8v F) 35)).alloc (.cells CK 36) := ⟨_, rfl⟩
  have hbw0 : Below w2.heap.size w2 W0 := by rw [hW0]; exact ((Below.refl _ _).alloc (Nat.le_refl _) _).alloc (by simp) _
  have hza : W0.heap.size = w2.heap.size + 2 := by rw [hW0]; simp
  have haa : W0.heap[w1.heap.size]? = some (.cells (S8v F) 35 (0, 0)) := by rw [hbw0.block _ (by omega)]; exact HA.out
  have hab : W0.heap[w1.heap.size + 1]? = some (.cells CK 36 (0, 0)) := by rw [hbw0.block _ (by omega)]; exact HB.out
  have hac : W0.heap[w2.heap.size]? = some (.cells (S8v F) 35 (0, 0)) := by rw [hW0, heap_alloc_old _ _ (by simp), heap_alloc_last]
  have had : W0.heap[w2.heap.size + 1]? = some (.cells CK 36 (0, 0)) := by
    rw [hW0]
    have h := heap_alloc_last (w2.alloc (.cells (S8v F) 35)) (.cells CK 36)
    simpa using h
  have hbW : Below w.heap.size w W0 := hbw.trans (hbw0.mono hbw.size)
  have HAA := Lib.hid haa
  have HAB := Lib.hid hab
  have HAC := Lib.hid hac
  have HAD := Lib.hid had
  have HZA := Lib.hid hza
  have HS64 := Lib.hid hi64
  rw [← hW0]
  clear haa hab hac had hza hW0 hbw hbw0 HA HB hw0 hi hm0 stK hKl
  go_loop [8, 9] (fun va vp => ∃ m : Nat, m ≤ 310 ∧ vp = .int .u64 ((m : Int) + 1) ∧ va = .int .i64 (Num.upto m).length ∧ ((Num.upto m).length ≤ i ∨ ((Num.upto m).length = i + 1 ∧ 1 ≤ m ∧ Num.prime (m + 1) = true))) (fun _ vp => 312 - (intOf vp).toNat)
  case atStart => exact ⟨0, by omega, rfl, rfl, .inl (Nat.zero_le _)⟩
  case round =>
    obtain ⟨m, hm, rfl, rfl, hor⟩ := hrel
    have HOR := Lib.hid hor
    clear hor
    by_cases hle : (Num.upto m).length ≤ i
    · have hm3 : m < 310 := by
        rcases Nat.lt_or_ge m 310 with h | h
        · exact h
        · obtain rfl : m = 310 := by omega
          rw [Num.upto_310] at hle
          have := HS64.out; omega
      have hpr : ∀ W : World, Calls Tryd.prog 23 #[.int .u64 ((m : Int) + 2)] W fun e w' => e = .returned (.bool (Num.prime (m + 2))) ∧ W = w' := fun W => prime_any (m + 2) W (by omega)
      have hadd : (m : Int) + 1 + 1 = (m : Int) + 2 := by omega
      cases hp : Num.prime (m + 2) with
      | false =>
        rw [hp] at hpr
        have HU := Lib.hid (Num.upto_no hp)
        have HL := Lib.hid hle
        clear hp
        go_wp2_with fail
        refine (hpr _).mono ?_
        rintro e w5 ⟨rfl, rfl⟩
        clear hpr hadd
        go_wp2
        go_round
        case rel => exact ⟨m + 1, by omega, by go_num, by rw [HU.out], .inl (by rw [HU.out]; exact HL.out)⟩
        case measure => simp [intOf]; omega
      | true =>
        rw [hp] at hpr
        have HU := Lib.hid (Num.upto_yes hp)
        have HL := Lib.hid hle
        have HP := Lib.hid hp
        have hl1 : (Num.upto (m + 1)).length = (Num.upto m).length + 1 := by rw [HU.out]; simp
        have HL1 := Lib.hid hl1
        have hlb : (Num.upto m).length < 64 := by have := HS64.out; omega
        clear hp hl1
        go_wp2_with fail
        refine (hpr _).mono ?_
        rintro e w5 ⟨rfl, rfl⟩
        clear hpr hadd
        go_wp2
        go_round
        case rel =>
          refine ⟨m + 1, by omega, by go_num, by rw [HL1.out]; go_num, ?_⟩
          rw [HL1.out]
          have := HL.out
          by_cases he : (Num.upto m).length = i
          · exact .inr ⟨by omega, by omega, HP.out⟩
          · exact .inl (by omega)
        case measure => simp [intOf]; omega
    · obtain ⟨hl, hm1, hp⟩ : (Num.upto m).length = i + 1 ∧ 1 ≤ m ∧ Num.prime (m + 1) = true := by
        rcases HOR.out with h | h
        · exact absurd h hle
        · exact h
      obtain ⟨q, rfl⟩ : ∃ q, m = q + 1 := ⟨m - 1, by omega⟩
      have hlq : (Num.upto q).length = i := by
        rw [Num.upto_yes hp] at hl
        simpa using hl
      have hK : Sha.rounds.getD i 0 = Num.behind (q + 2) 3 := third_at (by omega) hp hlq
      have hFst : i < 8 → Sha.first.l.getD i 0 = Num.behind (q + 2) 2 := first_at (by omega) hp hlq
      have HKK := Lib.hid hK
      have HFF := Lib.hid hFst
      have hle' : ¬ ((Num.upto (q + 1)).length : Int) ≤ (i : Int) := by omega
      clear hK hFst hl hlq hp hle HOR
      go_wp2_with fail
      have hcA : ∀ W, Below W0.heap.size W0 W → W.heap[w1.heap.size]? = some (.cells (S8v F) 35 (0, 0)) := fun W hW => by rw [hW.block _ (heap_lt HAA.out)]; exact HAA.out
      have hcB : ∀ W, Below W0.heap.size W0 W → W.heap[w1.heap.size + 1]? = some (.cells CK 36 (0, 0)) := fun W hW => by rw [hW.block _ (heap_lt HAB.out)]; exact HAB.out
      have hcC : ∀ W, Below W0.heap.size W0 W → W.heap[w2.heap.size]? = some (.cells (S8v F) 35 (0, 0)) := fun W hW => by rw [hW.block _ (heap_lt HAC.out)]; exact HAC.out
      have hcD : ∀ W, Below W0.heap.size W0 W → W.heap[w2.heap.size + 1]? = some (.cells CK 36 (0, 0)) := fun W hW => by rw [hW.block _ (heap_lt HAD.out)]; exact HAD.out
      have hra : ∀ (g : Nat) (C : Array Value) (t : TypeId) (W : World), W.heap[g]? = some (.cells C t (0, 0)) → W.rangeAt g 0 C.toList := fun g C t W h j v hv => by
        rw [cell_of_row _ _ _ _ _ _ h, Nat.zero_add]; simpa using hv
      have I35 : Hid ((Tryd.prog.info? 35).map (·.size) = some (S8v F).toList.length) := show (Tryd.prog.info? 35).map (·.size) = some 8 by kernel_rfl
      have I64 : Hid ((Tryd.prog.info? 36).map (·.size) = some CK.toList.length) := by
        have h : (Tryd.prog.info? 36).map (·.size) = some 64 := by kernel_rfl
        have h2 : CK.toList.length = 64 := by rw [HK.out]; rfl
        exact (h2.symm ▸ h : _ = _)
      have heq35 : ∀ W : World, (Op.equalIn 10000 35 (.agg #[.int .u32 (F.a : Nat), .int .u32 (F.b : Nat), .int .u32 (F.c : Nat), .int .u32 (F.d : Nat), .int .u32 (F.e : Nat), .int .u32 (F.f : Nat), .int .u32 (F.g : Nat), .int .u32 (F.h : Nat)]) (.agg #[.int .u32 (F.a : Nat), .int .u32 (F.b : Nat), .int .u32 (F.c : Nat), .int .u32 (F.d : Nat), .int .u32 (F.e : Nat), .int .u32 (F.f : Nat), .int .u32 (F.g : Nat), .int .u32 (F.h : Nat)])).run Tryd.prog W = .ok true W := fun W => by rw [HF.out]; kernel_rfl
      have heq36 : ∀ W : World, (Op.equalIn 10000 36 (.agg CK) (.agg CK)).run Tryd.prog W = .ok true W := fun W => by rw [HK.out]; kernel_rfl
      have k0 : (0 : Int) ≤ (i : Int) := by omega
      have k1 : (i : Int) < 64 := by have := HS64.out; omega
      have hb3 : ∀ W : World, Calls Tryd.prog 24 #[.int .u64 ((q : Int) + 1 + 1), .int .i64 3] W fun e w' => e = .returned (.int .u32 (Num.behind (q + 2) 3 : Nat)) ∧ Below W.heap.size W w' := fun W => behind_any (q + 2) 3 W (by omega) (by omega)
      have hb2 : ∀ W : World, Calls Tryd.prog 24 #[.int .u64 ((q : Int) + 1 + 1), .int .i64 2] W fun e w' => e = .returned (.int .u32 (Num.behind (q + 2) 2 : Nat)) ∧ Below W.heap.size W w' := fun W => behind_any (q + 2) 2 W (by omega) (by omega)
      generalize Num.behind (q + 2) 3 = y3 at *
      generalize Num.behind (q + 2) 2 = y2 at *
      refine wp_region_quiet_tail (C := Below W0.heap.size W0) 31 (by kernel_rfl) (by kernel_rfl) (show Below _ _ _ from (Below.refl _ _).drew) ?_
      simp only [List.take_succ_cons, List.take_zero, List.drop_succ_cons, List.drop_zero]
      refine wpQuiet_step (fun K hK => ?_)
      go_simp
      apply Exists.intro
      refine ⟨fun W hW => ?_, hK _ ?_⟩
      · exact (awake_any W (ht.keep (hbW.trans (hW.mono hbW.size)) hsz)).mono fun e w'' h => ⟨h.1, hW.trans (h.2.mono hW.size)⟩
      clear hK K
      iterate 1
        refine wpQuiet_step (fun K hK => ?_)
        go_simp
        apply Exists.intro
        refine ⟨fun W hW => ?_, hK _ ?_⟩
        · exact rfl
        clear hK K
      refine BigFrame.wpQuiet_want rfl (fun K hK => quiet_load_mid 35 _ rfl w1.heap.size 0 rfl (S8v F).toList _ (fun W hW => hra _ _ _ W (hcA W hW)) Tryd.underlying35 rfl I35.out (hK _ ?_))
      clear hK K
      refine BigFrame.wpQuiet_want rfl (fun K hK => quiet_load_mid 35 _ rfl w2.heap.size 0 rfl (S8v F).toList _ (fun W hW => hra _ _ _ W (hcC W hW)) Tryd.underlying35 rfl I35.out (hK _ ?_))
      clear hK K
      refine wpQuiet_step (fun K hK => ?_)
      go_simp
      refine ⟨.bool true, fun _ _ => rfl, hK _ ?_⟩
      clear hK K
      iterate 2
        refine wpQuiet_step (fun K hK => ?_)
        go_simp
        apply Exists.intro
        refine ⟨fun W hW => ?_, hK _ ?_⟩
        · exact rfl
        clear hK K
      refine BigFrame.wpQuiet_want rfl (fun K hK => quiet_load_mid 36 _ rfl (w1.heap.size + 1) 0 rfl CK.toList _ (fun W hW => hra _ _ _ W (hcB W hW)) Tryd.underlying36 rfl I64.out (hK _ ?_))
      clear hK K
      refine BigFrame.wpQuiet_want rfl (fun K hK => quiet_load_mid 36 _ rfl (w2.heap.size + 1) 0 rfl CK.toList _ (fun W hW => hra _ _ _ W (hcD W hW)) Tryd.underlying36 rfl I64.out (hK _ ?_))
      clear hK K
      refine wpQuiet_step (fun K hK => ?_)
      go_simp
      refine ⟨.bool true, fun _ _ => rfl, hK _ ?_⟩
      clear hK K
      iterate 3
        refine wpQuiet_step (fun K hK => ?_)
        go_simp
        apply Exists.intro
        refine ⟨fun W hW => ?_, hK _ ?_⟩
        · exact rfl
        clear hK K
      iterate 1
        refine wpQuiet_step (fun K hK => ?_)
        go_simp
        apply Exists.intro
        refine ⟨fun W hW => ?_, hK _ ?_⟩
        · exact rfl
        clear hK K
      refine wpQuiet_step (fun K hK => ?_)
      go_simp
      refine ⟨.int .u32 (y3 : Nat), fun W hW => ?_, hK _ ?_⟩
      · have hc : W.cell? ⟨w1.heap.size + 1, i, none⟩ = some (.int .u32 (y3 : Nat)) := heap_cell (hcB W hW) (by rw [HK.out, ← HKK.out]; simpa using u32s_get' Sha.rounds (j := i) HS64.out)
        go_simp
      clear hK K
      iterate 1
        refine wpQuiet_step (fun K hK => ?_)
        go_simp
        apply Exists.intro
        refine ⟨fun W hW => ?_, hK _ ?_⟩
        · exact rfl
        clear hK K
      refine wpQuiet_step (fun K hK => ?_)
      go_simp
      apply Exists.intro
      refine ⟨fun W hW => ?_, hK _ ?_⟩
      · exact (hb3 W).mono fun e w'' h => ⟨h.1, hW.trans (h.2.mono hW.size)⟩
      clear hK K
      refine wpQuiet_step (fun K hK => ?_)
      go_simp
      refine ⟨.bool true, fun _ _ => rfl, hK _ ?_⟩
      clear hK K
      by_cases h8 : 8 ≤ i
      · have h8' : (8 : Int) ≤ (i : Int) := by omega
        clear h8
        iterate 5
          refine wpQuiet_step (fun K hK => ?_)
          go_simp
          apply Exists.intro
          refine ⟨fun W hW => ?_, hK _ ?_⟩
          · exact rfl
          clear hK K
        iterate 6
          refine wpQuiet_step (fun K hK => ?_)
          go_simp
          refine hK _ ?_
          clear hK K
        iterate 2
          refine wpQuiet_step (fun K hK => ?_)
          go_simp
          apply Exists.intro
          refine ⟨fun W hW => ?_, hK _ ?_⟩
          · exact rfl
          clear hK K
        refine wpQuiet_nil ?_
        intro W hW
        go_wp2
        go_ret
        exact ⟨rfl, hbW.trans (hW.mono hbW.size)⟩
      · have h8' : ¬ (8 : Int) ≤ (i : Int) := by omega
        have h9' : decide ((8 : Int) ≤ (i : Int)) = false := by simpa using h8'
        have hi8 : i < 8 := by omega
        have hcell : (S8v F)[i]? = some (.int .u32 (y2 : Nat)) := by
          rw [HF.out, ← HFF.out hi8]
          have h := u32s_get' Sha.first.l (j := i) hi8
          have e : S8v Sha.first = (u32s Sha.first.l).toArray := rfl
          rw [e]
          simpa using h
        have k2 : (i : Int) < 8 := by omega
        have HCELL := Lib.hid hcell
        clear h8 hcell h8'
        iterate 7
          refine wpQuiet_step (fun K hK => ?_)
          go_simp
          apply Exists.intro
          refine ⟨fun W hW => ?_, hK _ ?_⟩
          · exact rfl
          clear hK K
        refine wpQuiet_step (fun K hK => ?_)
        go_simp
        refine ⟨.int .u32 (y2 : Nat), fun W hW => ?_, hK _ ?_⟩
        · have hc : W.cell? ⟨w1.heap.size, i, none⟩ = some (.int .u32 (y2 : Nat)) := heap_cell (hcA W hW) (HCELL.out)
          go_simp
        clear hK K
        iterate 1
          refine wpQuiet_step (fun K hK => ?_)
          go_simp
          apply Exists.intro
          refine ⟨fun W hW => ?_, hK _ ?_⟩
          · exact rfl
          clear hK K
        refine wpQuiet_step (fun K hK => ?_)
        go_simp
        apply Exists.intro
        refine ⟨fun W hW => ?_, hK _ ?_⟩
        · exact (hb2 W).mono fun e w'' h => ⟨h.1, hW.trans (h.2.mono hW.size)⟩
        clear hK K
        refine wpQuiet_step (fun K hK => ?_)
        go_simp
        refine ⟨.bool true, fun _ _ => rfl, hK _ ?_⟩
        clear hK K
        iterate 2
          refine wpQuiet_step (fun K hK => ?_)
          go_simp
          apply Exists.intro
          refine ⟨fun W hW => ?_, hK _ ?_⟩
          · exact rfl
          clear hK K
        refine wpQuiet_nil ?_
        intro W hW
        go_wp2
        go_ret
        exact ⟨rfl, hbW.trans (hW.mono hbW.size)⟩
#print axioms consts_any
end Go.Proofs.YtdiccgpgmddbdaaDoor
