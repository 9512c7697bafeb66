/- Make. -/
import Derived.Test.YtlbaagjbehdmgaaGreatM21
namespace Go.Proofs.YtlbaagjbehdmgaaGreat
open Go.RowKit

/-- the state of a store that has just been made -/
def firstSt (houses : Nat) : St := ⟨0, houses, 1, [], []⟩
/-- Make, of a disk -/
def makeP (D : Dsk) (houses : Int) : Int × Dsk × Option St :=
  if houses < 1 ∨ 8 < houses then (1, D, none) else
  if D.down then (91, D, none) else
  if D.now.length < 2 then (92, D, none) else
  let r1 := D.all [(0, zeros 64), (1, zeros 64)]
  if r1.1 ≠ 0 then (r1.1, r1.2, none) else
  let r2 := r1.2.all [(0, sealP 0 (rootRaw (firstSt houses.toNat)))]
  if r2.1 ≠ 0 then (r2.1, r2.2, none) else (0, r2.2, some (firstSt houses.toNat))
/-- what Make leaves: no store and an error, or a store -/
def MkRet (w : World) (d : Nat) (fp : Nat → Prop) (R : Int × Dsk × Option St) (e : Ending) (w' : World) : Prop :=
  ∃ fp', DStep w d fp w' R.2.1 fp' ∧ match R.2.2 with
    | none => e = .returned (.tuple #[.pointer none, .int .i64 R.1])
    | some S => ∃ s, e = .returned (.tuple #[.pointer (some ⟨s, 0, none⟩), .int .i64 0]) ∧ w.heap.size ≤ s ∧ IsStore w' s d S none R.2.1.falls
attribute [local go_sem ↓] buildWr_eq sliceWr_eq
theorem run_blank (w : World) (i : Int) : (buildWr #[(0, .int .i64 i)]).run Tryz.prog w = .ok (.agg (#[.int .i64 i] ++ bvs (zeros 64))) w := by kernel_rfl
theorem run_slice2 (w : World) : (sliceWr 2 #[(0, .agg (#[.int .i64 0] ++ bvs (zeros 64))), (1, .agg (#[.int .i64 1] ++ bvs (zeros 64)))]).run Tryz.prog w = .ok (.slice (some ⟨w.heap.size, 0, none⟩) 2 2) (w.alloc (.cells ((writeCells [(0, zeros 64), (1, zeros 64)]).toArray) 110)) := by kernel_rfl
theorem build_first (w : World) (h : Int) : (Instr.build 119 #[(1, .int .i64 h), (2, .int .u64 1)]).run Tryz.prog w = .ok (.agg #[.int .i64 0, .int .i64 h, .int .u64 1, .slice none 0 0, .slice none 0 0]) w := by kernel_rfl
theorem build_store (w : World) (a b : Option Addr) (f : Int) : (Instr.build 56 #[(0, .pointer a), (2, .pointer b), (3, .int .i64 f)]).run Tryz.prog w = .ok (.agg #[.pointer a, .pointer none, .pointer b, .int .i64 f]) w := by kernel_rfl
theorem own_writes2 {w : World} {g : Nat} (h : w.heap[g]? = some (.cells ((writeCells [(0, zeros 64), (1, zeros 64)]).toArray) 110 (0, 0))) : w.ownsRow 0 110 65 (.slice (some ⟨g, 0, none⟩) 2 2) [((0 : Nat), zeros 64), (1, zeros 64)].length (writeCells [(0, zeros 64), (1, zeros 64)]) := by
  have hl : (writeCells [(0, zeros 64), (1, zeros 64)]).length = 130 := by rw [writeCells_length _ (fun x hx => by simp at hx; rcases hx with h | h <;> rw [h] <;> simp [zeros])]; rfl
  refine ⟨hl, .inr ⟨g, 2, _, rfl, Nat.zero_le _, h, Nat.le_refl _, by unfold maxLen; omega, by rw [List.size_toArray, hl], ?_⟩⟩
  rw [List.take_of_length_le]
  rw [List.toList_toArray, hl]
  exact Nat.le_refl _
theorem first_ok (h : Nat) (h1 : 1 ≤ h) (h8 : h ≤ 8) : (firstSt h).ok := ⟨Nat.zero_le _, h1, h8, by simp [firstSt], Nat.zero_le _, Nat.zero_le _, (fun x hx => by cases hx), (fun p hp => by cases hp)⟩

set_option maxRecDepth 100000 in
set_option maxHeartbeats 2000000 in
theorem make_any (w : World) (d : Nat) (D : Dsk) (fp : Nat → Prop) (houses : Int) (h : IsDisk w d D fp) (hr : D.writes.length ≤ 20000) :
    Calls Tryz.prog 54 #[.pointer (some ⟨d, 0, none⟩), .int .i64 houses] w fun e w' => MkRet w d fp (makeP D houses) e w' := by
  have HD := Lib.hid h
  have hpg := pages_any w d D fp h
  have HPG := Lib.hid hpg
  have hq : ∀ W : World, (binOp .eql 24 (.pointer (some ⟨d, 0, none⟩)) (.pointer none)).run Tryz.prog W = .ok (.bool false) W := fun W => by kernel_rfl
  obtain ⟨sv, nv, wv, hd, hfp⟩ := h
  have c4 := hd.c4
  have hfew := hd.ok.few
  clear hd hfp hpg
  by_cases b1 : houses < 1
  · have HP := Lib.hid (show makeP D houses = (1, D, none) by simp [makeP, b1])
    go_enter Tryz.func54, Tryz.ntmps54
    go_wp2
    go_ret2
    refine ⟨fp, ?_⟩
    rw [HP.out]
    exact ⟨DStep.refl HD.out, rfl⟩
  by_cases b2 : 8 < houses
  · have HP := Lib.hid (show makeP D houses = (1, D, none) by simp [makeP, b2])
    go_enter Tryz.func54, Tryz.ntmps54
    go_wp2
    go_ret2
    refine ⟨fp, ?_⟩
    rw [HP.out]
    exact ⟨DStep.refl HD.out, rfl⟩
  have hnb : ¬ (houses < 1 ∨ 8 < houses) := by omega
  by_cases hd : D.down = true
  · have HP := Lib.hid (show makeP D houses = (91, D, none) by unfold makeP; rw [if_neg hnb, if_pos hd])
    rw [hd] at c4
    clear hd hnb
    go_enter Tryz.func54, Tryz.ntmps54
    go_wp2
    go_ret2
    refine ⟨fp, ?_⟩
    rw [HP.out]
    exact ⟨DStep.refl HD.out, rfl⟩
  have hd' : D.down = false := by simpa using hd
  rw [hd'] at c4
  by_cases h2 : D.now.length < 2
  · have HP := Lib.hid (show makeP D houses = (92, D, none) by unfold makeP; rw [if_neg hnb, if_neg hd, if_pos h2])
    have h2I : (D.now.length : Int) < 2 := by omega
    clear hd hd' hnb
    go_enter Tryz.func54, Tryz.ntmps54
    go_wp2_with (first | (refine HPG.out.mono ?_; rintro e W1 ⟨rfl, rfl⟩))
    go_ret2
    refine ⟨fp, ?_⟩
    rw [HP.out]
    exact ⟨DStep.refl HD.out, rfl⟩
  have h2I : ¬ ((D.now.length : Int) < 2) := by omega
  have hP := (show makeP D houses = (let r1 := D.all [(0, zeros 64), (1, zeros 64)]
      if r1.1 ≠ 0 then (r1.1, r1.2, none) else
      let r2 := r1.2.all [(0, sealP 0 (rootRaw (firstSt houses.toNat)))]
      if r2.1 ≠ 0 then (r2.1, r2.2, none) else (0, r2.2, some (firstSt houses.toNat))) by unfold makeP; rw [if_neg hnb, if_neg hd, if_neg h2])
  dsimp only at hP
  obtain ⟨n, rfl⟩ := Int.eq_ofNat_of_zero_le (show 0 ≤ houses by omega)
  rw [Int.toNat_natCast] at hP
  have hok := first_ok n (by omega) (by omega)
  have hsl := run_slice2
  have hbl := run_blank
  have hbf := build_first
  have hbs := build_store
  have hz64 : (zeros 64).length = 64 := by simp [zeros]
  have hpl := sealP_length 0 _ (rootRaw_length (firstSt n))
  have hpa : ∀ W b, IsState W b (firstSt n) → Calls Tryz.prog 98 #[.pointer (some ⟨b, 0, none⟩)] W fun e w' => e = .returned (.agg (bvs (sealP 0 (rootRaw (firstSt n))))) ∧ Keeps None' W w' := fun W b h => page_any b (firstSt n) W h
  have HPA := Lib.hid hpa
  clear hpa
  generalize hPGE : sealP 0 (rootRaw (firstSt n)) = pg at *
  have HPGE := Lib.hid hPGE
  clear hPGE
  have hbw := fun (W : World) (i : Int) => run_buildWr W i _ hpl
  have hsw := fun (W : World) (i : Int) => run_sliceWr1 W i _ hpl
  have hall1 := fun (W : World) (hk : Keeps None' w W) (gg : Nat) (hgg : W.heap[gg]? = some (.cells ((writeCells [(0, zeros 64), (1, zeros 64)]).toArray) 110 (0, 0))) (hge : w.heap.size ≤ gg) =>
    allW_any W d D fp (.slice (some ⟨gg, 0, none⟩) 2 2) [(0, zeros 64), (1, zeros 64)] 0 (HD.out.keep hk (fun _ _ h => h)) (own_writes2 hgg) (fun b hb hf => by
      cases hb
      have := HD.out.lt gg hf
      omega) (fun x hx => by simp at hx; rcases hx with h | h <;> rw [h] <;> exact hz64) (by simp) (by omega)
  have HA1 := Lib.hid hall1
  have hlen1 : (D.all [(0, zeros 64), (1, zeros 64)]).2.writes.length ≤ 50000 := by
    have := Dsk.all_writes [(0, zeros 64), (1, zeros 64)] D
    simp at this
    omega
  have HOK := Lib.hid hok
  clear hall1 hnb hd hd' h2 hok
  generalize hR1 : D.all [(0, zeros 64), (1, zeros 64)] = R1 at *
  clear hR1
  obtain ⟨E1, D1⟩ := R1
  dsimp only at *
  have HPE := Lib.hid hP
  clear hP
  go_enter Tryz.func54, Tryz.ntmps54
  go_upto_region 8 with (first | (go_at_call 29; refine HPG.out.mono ?_; rintro e W1 ⟨rfl, rfl⟩) | (go_at_call 97; refine (HA1.out _ ((Keeps.refl None' w).alloc _) _ (heap_alloc_new _ _) (Nat.le_refl _)).mono ?_; rintro e W2 ⟨rfl, fp2, hS2⟩; have HS2 := Lib.hid hS2; clear hS2))
  have hS20 : DStep w d fp W2 D1 fp2 := by
    refine ⟨HS2.out.is, (((Keeps.refl None' w).alloc _).mono (fun _ _ h => h.elim)).trans HS2.out.keeps, fun k hk => (HS2.out.fresh k hk).imp id (fun h => Nat.le_trans ((Keeps.refl None' w).alloc _).size h)⟩
  have HS := Lib.hid hS20
  clear hS20 HS2 HA1 hsl
  by_cases hE : E1 = 0
  case neg =>
    have HP := Lib.hid (show makeP D n = (E1, D1, none) by rw [HPE.out, if_pos hE])
    clear HPE
    go_wp2
    go_ret2
    refine ⟨fp2, ?_⟩
    rw [HP.out]
    exact ⟨HS.out, rfl⟩
  subst hE
  have hP2 : makeP D n = (if (D1.all [(0, pg)]).1 ≠ 0 then ((D1.all [(0, pg)]).1, (D1.all [(0, pg)]).2, none) else (0, (D1.all [(0, pg)]).2, some (firstSt n))) := by
    rw [HPE.out]; simp
  have hall2 := fun (W : World) (hk : Keeps None' W2 W) (gg : Nat) (hgg : W.heap[gg]? = some (.cells (#[.int .i64 ((0 : Nat) : Int)] ++ bvs pg) 110 (0, 0))) (hge : W2.heap.size ≤ gg) =>
    allW_any W d D1 fp2 (.slice (some ⟨gg, 0, none⟩) 1 1) [(0, pg)] 0 (HS.out.is.keep hk (fun _ _ h => h)) (own_write1 hpl hgg 0 (Nat.zero_le _)) (fun b hb hf => by
      cases hb
      have := HS.out.is.lt gg hf
      omega) (fun x hx => by simp at hx; rw [hx]; exact hpl) (by simp) hlen1
  have HA2 := Lib.hid hall2
  have HPE2 := Lib.hid hP2
  clear hall2 hP2 HPE
  generalize hR2 : D1.all [(0, pg)] = R2 at *
  clear hR2
  obtain ⟨E2, D2⟩ := R2
  dsimp only at *
  go_upto_region 11 with (first | fail)
  have hSt : ∀ W, Keeps None' W2 W → W.heap[W2.heap.size]? = some (.cells #[.int .i64 0, .int .i64 (n : Int), .int .u64 1, .slice none 0 0, .slice none 0 0] 119 (0, 0)) → IsState W W2.heap.size (firstSt n) := fun W hk hb => ⟨_, _, ⟨hb, .inl ⟨rfl, rfl⟩, .inl ⟨rfl, rfl⟩, HOK.out⟩⟩
  refine gen_wp (fun W => Keeps None' W2 W ∧ IsState W W2.heap.size (firstSt n)) ⟨(Keeps.refl _ _).alloc _, hSt _ ((Keeps.refl _ _).alloc _) (heap_alloc_new _ _)⟩ ?_
  rintro W3 ⟨hk3, hn3⟩
  have HN3 := Lib.hid hn3
  have HK3 := Lib.hid hk3
  clear hSt hk3 hn3 hbf
  go_upto_region 12 with (first | (go_at_call 98; refine (HPA.out _ _ HN3.out).mono ?_; rintro e W4 ⟨rfl, hk4⟩; have HK4 := Lib.hid (HK3.out.trans hk4); have HN4 := Lib.hid (HN3.out.keep hk4 (spares_none _)); clear hk4) | (go_at_call 97; refine (HA2.out _ (HK4.out.alloc _) _ (heap_alloc_new _ _) HK4.out.size).mono ?_; rintro e W5 ⟨rfl, fp5, hS5⟩; have HS5 := Lib.hid hS5; clear hS5))
  have hS50 : DStep w d fp W5 D2 fp5 := by
    refine ⟨HS5.out.is, (HS.out.keeps.trans' (HK4.out.alloc _) (fun _ _ h => h.elim)).trans' HS5.out.keeps (fun i hi h => (HS.out.fresh i h).elim id (fun h' => absurd hi (by omega))), fun k hk => ?_⟩
    rcases HS5.out.fresh k hk with h | h
    · exact HS.out.fresh k h
    · exact .inr (Nat.le_trans (Nat.le_trans HS.out.keeps.size (HK4.out.alloc (.cells (#[.int .i64 ((0 : Nat) : Int)] ++ bvs pg) 110)).size) h)
  have hN5 : IsState W5 W2.heap.size (firstSt n) := (HN4.out.keep ((Keeps.refl None' W4).alloc _) (spares_none _)).keep HS5.out.keeps (HS.out.is.keep (HK4.out.alloc _) (fun _ _ h => h)).spares
  have HSS := Lib.hid hS50
  have HN5 := Lib.hid hN5
  have hw5 : w.heap.size ≤ W5.heap.size := hS50.keeps.size
  clear hS50 hN5 HA2 HPA hbw hsw hbl
  by_cases hE2 : E2 = 0
  case neg =>
    have HP := Lib.hid (show makeP D n = (E2, D2, none) by rw [HPE2.out, if_pos hE2])
    clear HPE2
    go_wp2
    go_ret2
    refine ⟨fp5, ?_⟩
    rw [HP.out]
    exact ⟨HSS.out, rfl⟩
  subst hE2
  have HP := Lib.hid (show makeP D n = (0, D2, some (firstSt n)) by rw [HPE2.out]; simp)
  obtain ⟨sv5, nv5, wv5, hd5, _⟩ := HSS.out.is
  have c5 := hd5.c5
  have hfin : ∀ W, Keeps None' W5 W → W.heap[W5.heap.size]? = some (.cells #[.pointer (some ⟨W2.heap.size, 0, none⟩), .pointer none, .pointer (some ⟨d, 0, none⟩), .int .i64 D2.falls] 56 (0, 0)) → MkRet w d fp (makeP D n) (.returned (.tuple #[.pointer (some ⟨W5.heap.size, 0, none⟩), .int .i64 0])) W := fun W hk hb => by
    refine ⟨fp5, ?_⟩
    rw [HP.out]
    refine ⟨⟨HSS.out.is.keep hk (fun _ _ h => h), HSS.out.keeps.trans' hk (fun _ _ h => h.elim), HSS.out.fresh⟩, W5.heap.size, rfl, hw5, W2.heap.size, _, hb, HN5.out.keep hk (spares_none _), rfl⟩
  have HFIN := Lib.hid hfin
  clear HPE2 hfin hd5
  go_wp2
  go_ret2
  exact HFIN.out _ ((Keeps.refl _ _).alloc _) (heap_alloc_new _ _)
end Go.Proofs.YtlbaagjbehdmgaaGreat
