/- sane. -/
import Derived.Test.YtlbaagjbehdmgaaGreatM31
namespace Go.Proofs.YtlbaagjbehdmgaaGreat
open Go.RowKit

theorem exS2_good : exS2.good := ⟨by unfold Sorted; decide, by decide⟩
theorem exS3_good : exS3.good := ⟨by unfold Sorted; decide, by decide⟩
theorem exS1_good : exS1.good := ⟨by unfold Sorted; decide, by decide⟩
theorem ex1 : addP exM.2.1 exS1 none 0 exE1 = (0, exA1.2.1, exS2, some exS1) := by
  have h1 := exA1_e
  have h2 := exA1_s
  show exA1 = _
  generalize exA1 = x at *
  obtain ⟨a, b, c⟩ := x
  dsimp only at h1 h2 ⊢
  rw [h1, h2]
theorem ex2 : addP exA1.2.1 exS2 (some exS1) 0 exE2 = (0, exA2.2.1, exS3, some exS2) := by
  have h1 := exA2_e
  have h2 := exA2_s
  have h3 : exA2 = addP exA1.2.1 exS2 (some exS1) 0 exE2 := by unfold exA2; rw [exA1_s]
  rw [← h3]
  generalize exA2 = x at *
  obtain ⟨a, b, c⟩ := x
  dsimp only at h1 h2 ⊢
  rw [h1, h2]
theorem ex3 : addP exA2.2.1 exS3 (some exS2) 0 exE3 = (0, exA3.2.1, exS4, some exS3) := by
  have h1 := exA3_e
  have h2 := exA3_s
  have h3 : exA3 = addP exA2.2.1 exS3 (some exS2) 0 exE3 := by unfold exA3; rw [exA2_s]
  rw [← h3]
  generalize exA3 = x at *
  obtain ⟨a, b, c⟩ := x
  dsimp only at h1 h2 ⊢
  rw [h1, h2]
theorem exO_o : openP exR.2 = (0, some (exS3, none)) := by
  have h1 := exO_e
  have h2 := exO_s
  show exO = _
  generalize exO = x at *
  obtain ⟨a, b⟩ := x
  dsimp only at h1 h2
  rw [h1, h2]
theorem exU : ∀ x ∈ usesOf exS4, x < exR.2.now.length := by
  rw [exR_n, show usesOf exS4 = [8, 2, 4, 5, 7] by kernel_rfl]
  decide
theorem ex_make {w W : World} {d : Nat} {fp : Nat → Prop} (hk : Keeps None' w W) (hd : IsDisk W d exD0 fp) (hf : ∀ k, fp k → w.heap.size ≤ k) :
    Calls Tryz.prog 54 #[.pointer (some ⟨d, 0, none⟩), .int .i64 2] W fun r w' => ∃ s, r = .returned (.tuple #[.pointer (some ⟨s, 0, none⟩), .int .i64 0]) ∧ ExAt w w' s d exS1 none exM.2.1 := by
  have h1 := make_any W d exD0 fp 2 hd (Nat.zero_le _)
  have e : makeP exD0 2 = (0, exM.2.1, some exS1) := by
    have h1 := exM_e
    have h2 := exM_s
    show exM = _
    generalize exM = x at *
    obtain ⟨a, b, c⟩ := x
    dsimp only at h1 h2 ⊢
    rw [h1, h2]
  rw [e] at h1
  refine h1.mono ?_
  rintro r w' ⟨fp', hst, s, rfl, hs, hst2⟩
  refine ⟨s, rfl, fp', ?_, hst.is, hk.trans' hst.keeps (fun i hi h => ?_), fun k h => ?_, Nat.le_trans hk.size hs⟩
  · have := exM_f
    dsimp only at hst2
    rw [this] at hst2
    exact hst2
  · have := hf i h; omega
  · rcases hst.fresh k h with h | h
    · exact hf k h
    · have := hk.size; omega

set_option maxRecDepth 100000 in
set_option maxHeartbeats 4000000 in
theorem sane_any (w : World) : Calls Tryz.prog 11 #[] w fun e w' => e = .returned (.bool true) ∧ Keeps None' w w' := by
  have hn := newdisk_good w 12 (by omega) (by omega)
  have HN := Lib.hid hn
  have hsum := sum_any ⟨#[]⟩
  have hqd : ∀ (W : World) (d : Nat), (binOp .eql 24 (.pointer (some ⟨d, 0, none⟩)) (.pointer none)).run Tryz.prog W = .ok (.bool false) W := fun W d => by kernel_rfl
  have hqs : ∀ (W : World) (d : Nat), (binOp .eql 50 (.pointer (some ⟨d, 0, none⟩)) (.pointer none)).run Tryz.prog W = .ok (.bool false) W := fun W d => by kernel_rfl
  have hqn : ∀ (W : World) (d : Nat), (binOp .neq 50 (.pointer (some ⟨d, 0, none⟩)) (.pointer none)).run Tryz.prog W = .ok (.bool true) W := fun W d => by kernel_rfl
  have HSUM := Lib.hid (fun (W : World) => show Calls Tryz.prog 58 #[.string ⟨#[]⟩] W fun e w' => e = .returned (.int .u64 14695981039346656037) ∧ W = w' from sum_any ⟨#[]⟩ W (by decide))
  clear hn hsum
  go_enter Tryz.func11, Tryz.ntmps11
  go_upto_region 4 with (first | (go_at_call 12; refine HN.out.mono ?_; rintro e W1 ⟨rfl, hk1, fp, hd1, hf1⟩; have HMK := Lib.hid (ex_make hk1 hd1 hf1); clear hk1 hd1 hf1))
  generalize w.heap.size + 2 = d at *
  go_upto_region 7 with (first | (go_at_call 54; refine HMK.out.mono ?_; rintro e W2 ⟨s, rfl, hx2⟩; have HF0 := Lib.hid (ex_free hx2 (by rw [exM_n]; omega) 10 exF0); clear hx2) | (go_at_call 37; refine HF0.out.mono ?_; rintro e W3 ⟨rfl, hx3⟩; have HX3 := Lib.hid hx3; clear hx3) | (go_at_call 58; refine (HSUM.out _).mono ?_; rintro e W4 ⟨rfl, rfl⟩))
  have hbe1 : ∀ W : World, (Instr.build 64 #[(2, .string ⟨#[97]⟩)]).run Tryz.prog W = .ok (.agg #[.int .i64 0, .int .i64 0, .string ⟨#[97]⟩]) W := fun W => by kernel_rfl
  have hbe3 : ∀ W : World, (Instr.build 64 #[(0, .int .i64 1)]).run Tryz.prog W = .ok (.agg #[.int .i64 1, .int .i64 0, .string ⟨#[]⟩]) W := fun W => by kernel_rfl
  have hadd1 : Calls Tryz.prog 44 #[.pointer (some ⟨s, 0, none⟩), .agg #[.int .i64 0, .int .i64 0, .string ⟨#[97]⟩]] W3 fun r w' => r = .returned (.int .i64 0) ∧ ExAt w w' s d exS2 (some exS1) exA1.2.1 := ex_add HX3.out exE1 ex1 (by rw [exM_n]; omega) (by rw [exM_w]; omega) exS1_good (by decide)
  have HADD1 := Lib.hid hadd1
  clear hadd1
  go_upto_region 9 with (first | (go_at_call 44; refine HADD1.out.mono ?_; rintro e W5 ⟨rfl, hx5⟩; have HF1 := Lib.hid (ex_free hx5 (by rw [exA1_n]; omega) 8 exF1); clear hx5) | (go_at_call 37; refine HF1.out.mono ?_; rintro e W6 ⟨rfl, hx6⟩; have HX6 := Lib.hid hx6; clear hx6))
  clear HADD1 HF0 HMK
  have hms : (Instr.makeSlice 91 (.int .i64 52) (.int .i64 52)).run Tryz.prog W6 = .ok (.slice (some ⟨W6.heap.size, 0, none⟩) 52 52) (W6.alloc (.cells (bvs (zeros 52)) 5)) := by kernel_rfl
  have hcv := run_bytes_str (P := Tryz.prog) (W6.alloc (.cells (bvs (zeros 52)) 5)) 91 5 9 Tryz.underlying91 Tryz.underlying5 Tryz.underlying9 W6.heap.size 0 52 52 (zeros 52) (by simp [zeros]) (fun t v ht => cell_of_blk (heap_alloc_new W6 _) (0 + t) (by rw [Nat.zero_add]; simpa [bvs] using ht))
  have hbe2 : ∀ (W : World) (b : ByteArray), (Instr.build 64 #[(1, .int .i64 1), (2, .string b)]).run Tryz.prog W = .ok (.agg #[.int .i64 0, .int .i64 1, .string b]) W := fun W b => by kernel_rfl
  have hx6a := HX6.out.keep ((Keeps.refl None' W6).alloc (.cells (bvs (zeros 52)) 5))
  have hadd2 : Calls Tryz.prog 44 #[.pointer (some ⟨s, 0, none⟩), .agg #[.int .i64 0, .int .i64 1, .string (str (zeros 52))]] (W6.alloc (.cells (bvs (zeros 52)) 5)) fun r w' => r = .returned (.int .i64 0) ∧ ExAt w w' s d exS3 (some exS2) exA2.2.1 := ex_add hx6a exE2 ex2 (by rw [exA1_n]; omega) (by rw [exA1_w]; omega) exS2_good (by decide)
  have HADD2 := Lib.hid hadd2
  have HBV : ∃ z, z = bvs (zeros 52) := ⟨_, rfl⟩
  obtain ⟨z, hz⟩ := HBV
  rw [← hz] at hms hcv HADD2
  have HSTR : ∃ z, z = str (zeros 52) := ⟨_, rfl⟩
  obtain ⟨zs, hzs⟩ := HSTR
  rw [← hzs] at hcv HADD2
  clear hadd2 hx6a hz hzs
  go_upto_region 11 with (first | (go_at_call 44; refine HADD2.out.mono ?_; rintro e W7 ⟨rfl, hx7⟩; have HF2 := Lib.hid (ex_free hx7 (by rw [exA2_n]; omega) 5 exF2); clear hx7) | (go_at_call 37; refine HF2.out.mono ?_; rintro e W8 ⟨rfl, hx8⟩; have HX8 := Lib.hid hx8; clear hx8))
  have hadd3 : Calls Tryz.prog 44 #[.pointer (some ⟨s, 0, none⟩), .agg #[.int .i64 1, .int .i64 0, .string ⟨#[]⟩]] W8 fun r w' => r = .returned (.int .i64 0) ∧ ExAt w w' s d exS4 (some exS3) exA3.2.1 := ex_add HX8.out exE3 ex3 (by rw [exA2_n]; omega) (by rw [exA2_w]; omega) exS3_good (by decide)
  have HADD3 := Lib.hid hadd3
  clear hadd3 HADD2 HF2 hms hcv hbe1 hbe2 HX6 HF1
  go_upto_region 13 with (first | (go_at_call 44; refine HADD3.out.mono ?_; rintro e W9 ⟨rfl, hx9⟩; have HF3 := Lib.hid (ex_free hx9 (by rw [exA3_n]; omega) 4 exF3); clear hx9) | (go_at_call 37; refine HF3.out.mono ?_; rintro e W10 ⟨rfl, hx10⟩; have HX10 := Lib.hid hx10; clear hx10))
  have hrot : Calls Tryz.prog 25 #[.pointer (some ⟨d, 0, none⟩), .int .i64 8, .int .i64 0, .int .u8 1] W10 fun r w' => r = .returned (.int .i64 0) ∧ ExAt w w' s d exS4 (some exS3) exR.2 := ex_rot HX10.out 8 0 1 (by rw [exA3_n]; omega) (by omega)
  have HROT := Lib.hid hrot
  clear hrot HADD3 HF3
  go_upto_region 15 with (first | (go_at_call 25; refine HROT.out.mono ?_; rintro e W11 ⟨rfl, hx11⟩; have HRTN := Lib.hid (ex_rotten hx11 [8] exRot exU (by rw [show usesOf exS4 = [8, 2, 4, 5, 7] by kernel_rfl]; decide) (by rw [exR_n]; decide)); clear hx11) | (go_at_call 59; refine HRTN.out.mono ?_; rintro e W12 ⟨ar, cr, rfl, his, hx12⟩; have HIS := Lib.hid his; have HX12 := Lib.hid hx12; clear his hx12))
  have HOP := Lib.hid (ex_open HX12.out exO_o exR_f)
  clear HROT HRTN HX10 HX8
  have hbs1 : ∀ W : World, (Instr.buildSlice 47 1 #[(0, .int .i64 8)]).run Tryz.prog W = .ok (.slice (some ⟨W.heap.size, 0, none⟩) 1 1) (W.alloc (.cells #[.int .i64 8] 3)) := fun W => by kernel_rfl
  have hbe3 : ∀ W : World, (Instr.build 64 #[(0, .int .i64 1)]).run Tryz.prog W = .ok (.agg #[.int .i64 1, .int .i64 0, .string ⟨#[]⟩]) W := fun W => by kernel_rfl
  have hqe : ∀ W : World, (binOp .eql 64 (.agg #[.int .i64 1, .int .i64 0, .string ⟨#[]⟩]) (.agg #[.int .i64 1, .int .i64 0, .string ⟨#[]⟩])).run Tryz.prog W = .ok (.bool true) W := fun W => by kernel_rfl
  have hnl : exS3.entries.length = 2 := by kernel_rfl
  have hnl4 : exS4.entries.length = 3 := by kernel_rfl
  have HE1 := Lib.hid hnl
  have HE2 := Lib.hid hnl4
  clear hnl hnl4
  go_wp2_with (first
    | (go_at_call 45; refine HOP.out.mono ?_; rintro e W13 ⟨t, rfl, hst13, hx13, hk13⟩; obtain ⟨ct, ft, hT⟩ := hst13; have HKW13 := Lib.hid (show Keeps None' w W13 from hx13.elim fun _ h => h.2.2.1); obtain ⟨fps, ⟨cs, fs, hS⟩, _⟩ := hx13; have HT := Lib.hid hT; have HS := Lib.hid hS; have htl := lt_of_block hT.blk; have hsl := lt_of_block hS.blk; have HEQ := Lib.hid ((equal_any _ _ [8] [8] _ (islice_keep (islice_keep HIS.out hk13) ((Keeps.refl None' W13).alloc _)) (islice_one W13 8) (by decide)).mono (fun e w' h => (⟨h.1.trans (by rfl), h.2⟩ : e = .returned (.bool true) ∧ Keeps None' (W13.alloc (.cells #[.int .i64 8] 3)) w'))); clear hT hS hk13)
    | (go_at_call 60; refine HEQ.out.mono ?_; rintro e W14 ⟨rfl, hk14⟩; have hk14w := ((Keeps.refl None' W13).alloc (.cells #[.int .i64 8] 3)).trans hk14; have t0 := (hk14w.cell (p := ⟨t, 0, none⟩) htl (fun h => h)).trans HT.out.c0; have HK14 := Lib.hid hk14w; have HAT := Lib.hid (ex_all (HT.out.cur.keep hk14w (spares_none _)) HE1.out); clear hk14 hk14w)
    | (go_at_call 36; refine HAT.out.mono ?_; rintro e W15 ⟨a15, c15, rfl, -, hk15⟩; have s0 := ((HK14.out.trans hk15).cell (p := ⟨s, 0, none⟩) hsl (fun h => h)).trans HS.out.c0; have HK15 := Lib.hid (HK14.out.trans hk15); have HAS := Lib.hid (ex_all (HS.out.cur.keep (HK14.out.trans hk15) (spares_none _)) HE2.out); clear HAT hk15)
    | (go_at_call 36; refine HAS.out.mono ?_; rintro e W16 ⟨a16, c16, rfl, -, hk16⟩; have s1 := ((HK15.out.trans hk16).cell (p := ⟨s, 0, none⟩) hsl (fun h => h)).trans HS.out.c0; have HK16 := Lib.hid (HK15.out.trans hk16); have HAS2 := Lib.hid (ex_all (HS.out.cur.keep (HK15.out.trans hk16) (spares_none _)) HE2.out); clear HAS hk16)
    | (go_at_call 36; refine HAS2.out.mono ?_; rintro e W17 ⟨a17, c17, rfl, ho17, hk17⟩; have HK17 := Lib.hid (HK16.out.trans hk17); obtain ⟨g17, cap17, cur17, e17, -⟩ := own_block ho17 (by omega); injection e17 with e17 _ e18; subst e17; subst e18; have r0 := own_range ho17 6 (.int .i64 1) rfl; have r1 := own_range ho17 7 (.int .i64 0) rfl; have r2 := own_range ho17 8 (.string ⟨#[]⟩) rfl; clear HAS2 hk17 ho17))
  go_ret
  exact ⟨rfl, HKW13.out.trans HK17.out⟩
end Go.Proofs.YtlbaagjbehdmgaaGreat
