/- The walk of the references' Behind: a root's bits behind the point. -/
import Derived.Test.YtdiccgpgmddbdaaDoorRefTimes
namespace Go.Proofs.YtdiccgpgmddbdaaDoor
open Go.RowKit

/-- The block g holds the numbers c. -/
structure Ints (w : World) (g : Nat) (c : List Nat) : Prop where
  lt : g < w.heap.size
  cell : ∀ j < c.length, w.cell? ⟨g, j, none⟩ = some (.int .i64 (c.getD j 0 : Nat))
theorem Ints.keep {w w' : World} {g : Nat} {c : List Nat} (h : Ints w g c) (hb : Below w.heap.size w w') : Ints w' g c :=
  ⟨Nat.lt_of_lt_of_le h.lt hb.size, fun j hj => by rw [hb.cell (p := ⟨g, j, none⟩) h.lt]; exact h.cell j hj⟩
theorem Ints.of_own {w : World} {base g n cap : Nat} {c : List Nat} (h : w.ownsRow base 3 1 (.slice (some ⟨g, 0, none⟩) n cap) n (i64s c)) : Ints w g c :=
  ⟨(h.lt g rfl).2, fun _ hj => own_cell h (i64s_get c hj)⟩
theorem Ints.of_digs {w wr : World} {g : Nat} {c : List Nat} (h : Digs w g c wr) : Ints wr g c := ⟨heap_lt h.heap, fun _ hj => h.cell hj⟩

theorem times_pow (g2 cap g3 cap3 q x : Nat) (W : World) (hx : x ≤ 2199023255552) (hq : q ≤ 3) (h1 : Ints W g2 (Num.digs (1 + 9 * q) (x ^ q))) (h2 : Ints W g3 (Num.digs 8 x)) :
    Calls Tryd.prog 42 #[.slice (some ⟨g2, 0, none⟩) (1 + 9 * q) cap, .slice (some ⟨g3, 0, none⟩) 8 cap3] W fun e w' =>
      ∃ gg cc, e = .returned (.slice (some ⟨gg, 0, none⟩) (1 + 9 * (q + 1)) cc) ∧ Ints w' gg (Num.digs (1 + 9 * (q + 1)) (x ^ (q + 1))) ∧ Below W.heap.size W w' := by
  have h := times_any g2 cap g3 cap3 _ _ W (Num.digs_small (1 + 9 * q) (x ^ q)) (Num.digs_small 8 x) (by rw [Num.digs_len]; omega) (by rw [Num.digs_len]; omega) h1.lt h2.lt h1.cell h2.cell
  rw [Num.digs_len, Num.digs_len, Num.val_digs _ _ (Num.power_lt hx), Num.val_digs 8 x (by omega), ← Nat.pow_succ, show 1 + 9 * q + 8 + 1 = 1 + 9 * (q + 1) by omega] at h
  exact h.mono fun e w' ⟨g, he, hd⟩ => ⟨g, _, he, Ints.of_digs hd, hd.below⟩
theorem atMost_pow (g2 cap g cap2 k x nl v : Nat) (L : List Nat) (W : World) (hx : x ≤ 2199023255552) (hk : k ≤ 3) (h1 : Ints W g2 (Num.digs (1 + 9 * k) (x ^ k))) (h2 : Ints W g L) (hl : L.length = nl) (hn : nl ≤ 40) (hs : Num.Small L) (hv : Num.val L = v) :
    Calls Tryd.prog 43 #[.slice (some ⟨g2, 0, none⟩) (1 + 9 * k) cap, .slice (some ⟨g, 0, none⟩) nl cap2] W fun e w' => e = .returned (.bool (decide (x ^ k ≤ v))) ∧ W = w' := by
  have h := atMost_any g2 cap g cap2 _ L W (Num.digs_small (1 + 9 * k) (x ^ k)) hs (by rw [Num.digs_len]; omega) (by omega) h1.cell h2.cell
  rw [Num.digs_len, Num.val_digs _ _ (Num.power_lt hx), hv, hl] at h
  exact h

set_option maxRecDepth 100000 in
set_option maxHeartbeats 4000000 in
theorem behind_any (p k : Nat) (w : World) (hp : p < 4294967296) (hk : k ≤ 3) :
    Calls Tryd.prog 24 #[.int .u64 (p : Int), .int .i64 (k : Int)] w fun e w' => e = .returned (.int .u32 (Num.behind p k : Nat)) ∧ Below w.heap.size w w' := by
  obtain ⟨i0, hi, hz0, hz1, hz2⟩ := info_parts info_i64
  have HP := Lib.hid hp
  clear hp
  go_enter Tryd.func24, Tryd.ntmps24
  go_wp2_with fail
  refine (bytes_any p w (by have := HP.out; omega)).mono ?_
  rintro e w1 ⟨g1, cap1, rfl, ho1, hb1⟩
  have HO1 := Lib.hid ho1
  clear ho1
  go_wp2_with fail
  go_loopw [5, 6] (fun v i wr => ∃ j g cap : Nat, j ≤ 4 * k ∧ i = .int .i64 j ∧ v = .slice (some ⟨g, 0, none⟩) (8 + j) cap ∧ wr.ownsRow w.heap.size 3 1 (.slice (some ⟨g, 0, none⟩) (8 + j) cap) (8 + j) (i64s (List.replicate j 0 ++ Num.digs 8 p)) ∧ Below w.heap.size w wr) (fun _ i _ => 4 * k - (intOf i).toNat)
  case atStart => exact ⟨0, g1, cap1, by omega, rfl, rfl, HO1.out, hb1⟩
  case round =>
    clear hb1 HO1
    obtain ⟨j, g, cap, hj, rfl, rfl, ho, hb⟩ := hrel
    have HO := Lib.hid ho
    have hbs := hb.size
    clear ho
    by_cases hlt : j < 4 * k
    · go_wp2_with (at_builtin; refine wpList_append_mine rfl _ _ 66 rfl w.heap.size 3 i0 (.int .i64 0) 1 8 Tryd.underlying66 hi hz0 hz1 hz2 rfl (by decide) (.slice (some ⟨wr.heap.size, 0, none⟩) 1 1) 1 [.int .i64 0] rfl (own_lit wr _ [.int .i64 0] 1 _ rfl hbs (by unfold maxLen; omega)) ⟨g, 0, none⟩ (8 + j) cap (i64s (List.replicate j 0 ++ Num.digs 8 p)) rfl ?c1 ?c2 (i64s_one _) (by omega) (by unfold maxLen; omega) (by omega) (by simp; omega) ?grow)
      case c1 => simp [Num.digs_len]; omega
      case c2 => exact (HO.out.alloc _).cells (g := g) rfl
      case grow =>
        intro g2 cap2 w2 hown2 hgrow2 hg1 hg2
        have hb2 : Below w.heap.size w w2 := (hb.alloc hbs _).grown hgrow2 (by simp; omega) (fun j e => by cases e; exact hbs)
        have HO2 := Lib.hid hown2
        clear hgrow2 hg1 hg2 hown2 hb
        go_wp2
        go_roundw
        case rel =>
          refine ⟨j + 1, g2, cap2, by omega, by go_num, by rw [show 1 + (8 + j) = 8 + (j + 1) by omega], ?_, hb2⟩
          have h := HO2.out
          rw [show 1 + (8 + j) = 8 + (j + 1) by omega] at h
          exact own_xs h rfl (by simp [i64s, List.replicate_succ])
        case measure => simp [intOf]; omega
    · obtain rfl : j = 4 * k := by omega
      obtain ⟨L, hL⟩ : ∃ L, L = List.replicate (4 * k) 0 ++ Num.digs 8 p := ⟨_, rfl⟩
      have hW : Ints wr g L := by rw [hL]; exact Ints.of_own HO.out
      have hLl : L.length = 8 + 4 * k := by rw [hL]; simp [Num.digs_len]; omega
      have hLs : Num.Small L := by rw [hL]; exact Num.small_zeros (Num.digs_small _ _)
      have hLv : Num.val L = p * 2 ^ (32 * k) := by rw [hL]; exact Num.want_val HP.out
      have HW := Lib.hid hW
      have HLL := Lib.hid hLl
      have HLS := Lib.hid hLs
      have HLV := Lib.hid hLv
      have hnl : 8 + 4 * k ≤ 40 := by omega
      clear HO hlt hj hL hW hLl hLs hLv
      generalize 8 + 4 * k = nl at *
      go_wp2_with fail
      go_loopw [7, 8] (fun vr vb wr => ∃ n r : Nat, n ≤ 41 ∧ vb = .int .i64 ((n : Int) - 1) ∧ vr = .int .u64 r ∧ r + 2 ^ n ≤ 2199023255552 ∧ Num.rootFrom p k n r = Num.rootFrom p k 41 0 ∧ Ints wr g L ∧ Below w.heap.size w wr) (fun _ vb _ => (intOf vb + 1).toNat)
      case atStart => exact ⟨41, 0, by omega, rfl, rfl, by decide, rfl, HW.out, hb⟩
      case round =>
        clear hb HW hbs
        obtain ⟨n, r, hn, rfl, rfl, hr, hroot, hW, hb⟩ := hrel
        have HR := Lib.hid hr
        have HT := Lib.hid hroot
        have HW := Lib.hid hW
        have hbs := hb.size
        clear hr hroot hW
        cases n with
        | zero =>
          have hr2 : (r : Int) < 18446744073709551616 := by have := HR.out; omega
          have HR2 := Lib.hid hr2
          clear hr2
          go_wp2
          go_ret
          refine ⟨ret_num ?_, hb⟩
          rw [Num.behind, ← HT.out]
          simp only [Num.rootFrom]
          first | rfl | (rw [IntKind.wrap_u32]; omega) | omega
        | succ m =>
          rw [show (((m + 1 : Nat) : Int) - 1) = (m : Int) by omega]
          go_wp2_with fail
          go_loop [9, 10] (fun vo vi => ∃ j : Nat, j ≤ m ∧ vi = .int .i64 j ∧ vo = .int .u64 (Num.two j : Nat)) (fun _ vi => m - (intOf vi).toNat)
          case atStart => exact ⟨0, by omega, rfl, rfl⟩
          case round =>
            obtain ⟨j, hj, rfl, rfl⟩ := hrel
            have h2n := Num.two_next j
            have h2l : Num.two j ≤ 1099511627776 := Num.two_le (show j ≤ 40 by omega)
            have H2 := Lib.hid h2n
            clear h2n
            by_cases hlt : j < m
            · generalize Num.two j = y at *
              have hy : IntKind.u64.wrap ((y : Int) * 2) = (y : Int) * 2 := by rw [IntKind.wrap_u64]; omega
              have HY := Lib.hid h2l
              clear h2l
              go_wp2
              go_round
              case rel => exact ⟨j + 1, by omega, by go_num, by rw [H2.out]; go_num⟩
              case measure => simp [intOf]; omega
            · obtain rfl : j = m := by omega
              have hX : r + Num.two j ≤ 2199023255552 := by
                have := HR.out
                rw [Nat.pow_succ] at this
                unfold Num.two
                omega
              have hroot := Num.rootFrom_next p k j r
              rw [HT.out] at hroot
              have hX2 : r + Num.two j + 2 ^ j ≤ 2199023255552 := by
                have := HR.out
                rw [Nat.pow_succ] at this
                unfold Num.two
                omega
              have HX := Lib.hid hX
              have HX2 := Lib.hid hX2
              have HTT := Lib.hid hroot
              have hoi : (Num.two j : Int) + r < 18446744073709551616 := by omega
              have hoi2 : (r : Int) + (Num.two j : Int) < 18446744073709551616 := by omega
              have HOI := Lib.hid hoi2
              have hadd : IntKind.u64.wrap ((r : Int) + (Num.two j : Int)) = (r : Int) + (Num.two j : Int) := by rw [IntKind.wrap_u64]; omega
              have hjn : ¬ (j : Int) + 1 ≤ j := by omega
              clear hX hX2 hroot h2l hlt hoi hoi2 hj
              have hby : ∀ W : World, Calls Tryd.prog 41 #[.int .u64 ((r : Int) + (Num.two j : Int))] W fun e w' => ∃ g cap, e = .returned (.slice (some ⟨g, 0, none⟩) 8 cap) ∧ Ints w' g (Num.digs 8 (r + Num.two j)) ∧ Below W.heap.size W w' := fun W =>
                (bytes_any (r + Num.two j) W (by have := HX.out; omega)).mono fun e w' ⟨g, cap, he, ho, hb⟩ => ⟨g, cap, he, Ints.of_own ho, hb⟩
              go_wp2_with fail
              go_loopw [11, 12] (fun v vi wr => ∃ q g2 cap2 : Nat, q ≤ k ∧ vi = .int .i64 q ∧ v = .slice (some ⟨g2, 0, none⟩) (1 + 9 * q) cap2 ∧ Ints wr g2 (Num.digs (1 + 9 * q) ((r + Num.two j) ^ q)) ∧ Ints wr g L ∧ Below w.heap.size w wr) (fun _ vi _ => k - (intOf vi).toNat)
              case atStart =>
                refine ⟨0, _, _, by omega, rfl, rfl, ?_, HW.out.keep ((Below.refl _ _).alloc (Nat.le_refl _) _), hb.alloc hbs _⟩
                exact Ints.of_own (cap := 1) (own_lit wr 0 (i64s [1]) 1 _ rfl (Nat.zero_le _) (by unfold maxLen; omega))
              case round =>
                clear hb HW hbs
                obtain ⟨q, g2, cap2, hq, rfl, rfl, hI, hW, hb⟩ := hrel
                have HI := Lib.hid hI
                have HW := Lib.hid hW
                have hbs := hb.size
                clear hI hW
                by_cases hlq : q < k
                · go_wp2_with fail
                  refine (hby _).mono ?_
                  rintro e w2 ⟨g3, cap3, rfl, hI3, hb3⟩
                  have HI2 := Lib.hid (HI.out.keep hb3)
                  have HI3 := Lib.hid hI3
                  have hb3' := hb.trans (hb3.mono hbs)
                  clear hI3
                  go_wp2_with fail
                  refine (times_pow g2 cap2 g3 cap3 q (r + Num.two j) w2 HX.out (by omega) HI2.out HI3.out).mono ?_
                  rintro e w3 ⟨g4, cap4, rfl, hI4, hb4⟩
                  have HI4 := Lib.hid hI4
                  have hb4' := hb3'.trans (hb4.mono hb3'.size)
                  have HW4 := Lib.hid ((HW.out.keep hb3).keep hb4)
                  clear hI4
                  go_wp2
                  go_roundw
                  case rel => exact ⟨q + 1, g4, cap4, by omega, by go_num, rfl, HI4.out, HW4.out, hb4'⟩
                  case measure => simp [intOf]; omega
                · obtain rfl : q = k := by omega
                  clear hlq
                  by_cases hle : (r + Num.two j) ^ q ≤ p * 2 ^ (32 * q)
                  · have hat := atMost_pow g2 cap2 g cap q (r + Num.two j) nl (p * 2 ^ (32 * q)) L wr HX.out hk HI.out HW.out HLL.out hnl HLS.out HLV.out
                    rw [decide_eq_true hle] at hat
                    have HLE := Lib.hid hle
                    clear hle
                    go_wp2_with fail
                    refine hat.mono ?_
                    rintro e w2 ⟨rfl, rfl⟩
                    clear hat
                    go_wp2
                    go_roundw
                    case rel => first | exact ⟨j, r + Num.two j, by omega, by go_num, by go_num, HX2.out, by have := HTT.out; rw [if_pos HLE.out] at this; exact this.symm, HW.out, hb⟩ | ((repeat apply Exists.intro); exact ⟨⟨j, r + Num.two j, by omega, by go_num, by go_num, HX2.out, by have := HTT.out; rw [if_pos HLE.out] at this; exact this.symm, HW.out, hb⟩, rfl⟩)
                    case measure => simp [intOf]
                  · have hat := atMost_pow g2 cap2 g cap q (r + Num.two j) nl (p * 2 ^ (32 * q)) L wr HX.out hk HI.out HW.out HLL.out hnl HLS.out HLV.out
                    rw [decide_eq_false hle] at hat
                    have HLE := Lib.hid hle
                    clear hle
                    go_wp2_with fail
                    refine hat.mono ?_
                    rintro e w2 ⟨rfl, rfl⟩
                    clear hat
                    go_wp2
                    go_roundw
                    case rel => first | exact ⟨j, r, by omega, by go_num, rfl, by have := HR.out; rw [Nat.pow_succ] at this; omega, by have := HTT.out; rw [if_neg HLE.out] at this; exact this.symm, HW.out, hb⟩ | ((repeat apply Exists.intro); exact ⟨⟨j, r, by omega, by go_num, rfl, by have := HR.out; rw [Nat.pow_succ] at this; omega, by have := HTT.out; rw [if_neg HLE.out] at this; exact this.symm, HW.out, hb⟩, rfl⟩)
                    case measure => simp [intOf]
#print axioms behind_any
end Go.Proofs.YtdiccgpgmddbdaaDoor
