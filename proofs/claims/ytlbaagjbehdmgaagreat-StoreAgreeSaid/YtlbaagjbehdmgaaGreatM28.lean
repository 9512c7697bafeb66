/- store.Open. -/
import Derived.Test.YtlbaagjbehdmgaaGreatM27
import Derived.Test.YtlbaagjbehdmgaaGreatM22
namespace Go.Proofs.YtlbaagjbehdmgaaGreat
open Go.RowKit

/-- the root to go on from, and the former one -/
def pickP : Option St → Option St → Option (St × Option St)
  | some a, some b => if a.gen < b.gen then some (b, some a) else some (a, some b)
  | some a, none => some (a, none)
  | none, some b => some (b, none)
  | none, none => none
/-- Open, of a disk -/
def openP (D : Dsk) : Int × Option (St × Option St) :=
  if D.down then (91, none) else
  if D.now.length < 2 then (93, none) else
  match pickP (rootP D.now 0) (rootP D.now 1) with
  | none => (93, none)
  | some x => (0, some x)
/-- what Open leaves: no store and an error, or a store -/
def OpRet (w : World) (d : Nat) (falls : Int) (R : Int × Option (St × Option St)) (e : Ending) (w' : World) : Prop :=
  Keeps None' w w' ∧ match R.2 with
    | none => e = .returned (.tuple #[.pointer none, .int .i64 R.1])
    | some x => ∃ s, e = .returned (.tuple #[.pointer (some ⟨s, 0, none⟩), .int .i64 0]) ∧ w.heap.size ≤ s ∧ IsStore w' s d x.1 x.2 falls

set_option maxRecDepth 100000 in
set_option maxHeartbeats 4000000 in
theorem open_any (w : World) (d : Nat) (D : Dsk) (fp : Nat → Prop) (h : IsDisk w d D fp) :
    Calls Tryz.prog 45 #[.pointer (some ⟨d, 0, none⟩)] w fun e w' => OpRet w d D.falls (openP D) e w' := by
  have HPG := Lib.hid (pages_any w d D fp h)
  have hq : ∀ W : World, (binOp .eql 24 (.pointer (some ⟨d, 0, none⟩)) (.pointer none)).run Tryz.prog W = .ok (.bool false) W := fun W => by kernel_rfl
  obtain ⟨sv, nv, wv, hd, hfp⟩ := h
  have c4 := hd.c4
  have hfew := hd.ok.few
  by_cases hdn : D.down = true
  · have HP := Lib.hid (show openP D = (91, none) by simp [openP, hdn])
    rw [hdn] at c4
    clear hd hfp
    go_enter Tryz.func45, Tryz.ntmps45
    go_wp2
    go_ret2
    rw [HP.out]
    exact ⟨Keeps.refl _ _, rfl⟩
  have hdn' : D.down = false := by simpa using hdn
  rw [hdn'] at c4
  by_cases h2 : D.now.length < 2
  · have HP := Lib.hid (show openP D = (93, none) by simp [openP, hdn, h2])
    have h2I : (D.now.length : Int) < 2 := by omega
    clear hd hfp hdn hdn'
    go_enter Tryz.func45, Tryz.ntmps45
    go_wp2_with (first | (refine HPG.out.mono ?_; rintro e W1 ⟨rfl, rfl⟩))
    go_ret2
    rw [HP.out]
    exact ⟨Keeps.refl _ _, rfl⟩
  have h2I : ¬ ((D.now.length : Int) < 2) := by omega
  obtain ⟨gn, cap, cur, rfl, hgb, hcap, hmax, -⟩ := own_block hd.now hd.pos
  have hr0 := fun W (hW : Keeps None' w W) => root_any W gn cap 0 D.now (own_keep hd.now hW (fun _ _ h => h)) hd.ok.now64 hfew (by omega) (by omega)
  have hr1 := fun W (hW : Keeps None' w W) => root_any W gn cap 1 D.now (own_keep hd.now hW (fun _ _ h => h)) hd.ok.now64 hfew (by omega) (by omega)
  have hP : openP D = (match pickP (rootP D.now 0) (rootP D.now 1) with
      | none => (93, none)
      | some x => (0, some x)) := by simp [openP, hdn, h2]
  have c1 := hd.c1
  have c5 := hd.c5
  have hdl := lt_of_block hd.blk
  have hbs : ∀ (W : World) (a b : Option Addr) (f : Int), (Instr.build 56 #[(0, .pointer a), (1, .pointer b), (2, .pointer (some ⟨d, 0, none⟩)), (3, .int .i64 f)]).run Tryz.prog W = .ok (.agg #[.pointer a, .pointer b, .pointer (some ⟨d, 0, none⟩), .int .i64 f]) W := fun W a b f => by kernel_rfl
  have HR0 := Lib.hid hr0
  have HR1 := Lib.hid hr1
  have hfin : ∀ W1 W (a : Nat) (F : Option St) (fv : Option Addr) (S : St), Keeps None' w W1 → Keeps None' W1 W → openP D = (0, some (S, F)) → IsState W1 a S → FormerAt W1 (.pointer fv) F → W.heap[W1.heap.size]? = some (.cells #[.pointer (some ⟨a, 0, none⟩), .pointer fv, .pointer (some ⟨d, 0, none⟩), .int .i64 D.falls] 56 (0, 0)) → OpRet w d D.falls (openP D) (.returned (.tuple #[.pointer (some ⟨W1.heap.size, 0, none⟩), .int .i64 0])) W := fun W1 W a F fv S hw1 hk hp ha hf hb => by
    rw [hp]
    exact ⟨hw1.trans hk, _, rfl, hw1.size, a, .pointer fv, hb, ha.keep hk (spares_none _), hf.keep hk (spares_none _)⟩
  have HFIN := Lib.hid hfin
  clear hd hfp hdn hdn' h2 hr0 hr1 hgb hfin
  go_enter Tryz.func45, Tryz.ntmps45
  cases hA : rootP D.now 0 with
  | none =>
    rw [hA] at HR0 hP
    cases hB : rootP D.now 1 with
    | none =>
      rw [hB] at HR1 hP
      have HP := Lib.hid hP
      clear hP hA hB
      go_upto_region 9 with (first | (go_at_call 29; refine HPG.out.mono ?_; rintro e W1 ⟨rfl, rfl⟩) | (go_at_call 80; refine (HR1.out _ hk1).mono ?_; rintro e W2 ⟨v2, rfl, hk2⟩; have c52 := (((hk1.trans hk2).cell (p := ⟨d, 5, none⟩) hdl (fun h => h)).trans c5)) | (go_at_call 80; refine (HR0.out _ (Keeps.refl _ _)).mono ?_; rintro e W1 ⟨v1, rfl, hk1⟩; have c11 := (hk1.cell (p := ⟨d, 1, none⟩) hdl (fun h => h)).trans c1))
      go_quiet (fail)
      go_wp2
      go_ret2
      rw [HP.out]
      exact ⟨(hk1.trans hk2).drewN _, rfl⟩
    | some b =>
      rw [hB] at HR1 hP
      have HP := Lib.hid (show openP D = (0, some (b, none)) from hP)
      clear hP hA hB
      go_upto_region 9 with (first | (go_at_call 29; refine HPG.out.mono ?_; rintro e W1 ⟨rfl, rfl⟩) | (go_at_call 80; refine (HR1.out _ hk1).mono ?_; rintro e W2 ⟨bb, rfl, hbb, hsb, hk2⟩; have c52 := (((hk1.trans hk2).cell (p := ⟨d, 5, none⟩) hdl (fun h => h)).trans c5); have HSB := Lib.hid hsb; clear hsb) | (go_at_call 80; refine (HR0.out _ (Keeps.refl _ _)).mono ?_; rintro e W1 ⟨v1, rfl, hk1⟩; have c11 := (hk1.cell (p := ⟨d, 1, none⟩) hdl (fun h => h)).trans c1))
      go_quiet (fail)
      go_wp2
      go_ret2
      exact HFIN.out (W2.drewN _) _ bb none none b ((hk1.trans hk2).drewN _) ((Keeps.refl None' _).alloc _) HP.out (HSB.out.keep ((Keeps.refl None' _).drewN _) (spares_none _)) rfl (heap_alloc_new _ _)
  | some a =>
    rw [hA] at HR0 hP
    cases hB : rootP D.now 1 with
    | none =>
      rw [hB] at HR1 hP
      have HP := Lib.hid (show openP D = (0, some (a, none)) from hP)
      clear hP hA hB
      go_upto_region 9 with (first | (go_at_call 29; refine HPG.out.mono ?_; rintro e W1 ⟨rfl, rfl⟩) | (go_at_call 80; refine (HR1.out _ hk1).mono ?_; rintro e W2 ⟨v2, rfl, hk2⟩; have c52 := (((hk1.trans hk2).cell (p := ⟨d, 5, none⟩) hdl (fun h => h)).trans c5)) | (go_at_call 80; refine (HR0.out _ (Keeps.refl _ _)).mono ?_; rintro e W1 ⟨ab, rfl, hab, hsa, hk1⟩; have c11 := (hk1.cell (p := ⟨d, 1, none⟩) hdl (fun h => h)).trans c1; have HSA := Lib.hid hsa; clear hsa))
      go_quiet (fail)
      go_wp2
      go_ret2
      exact HFIN.out (W2.drewN _) _ ab none none a ((hk1.trans hk2).drewN _) ((Keeps.refl None' _).alloc _) HP.out (HSA.out.keep (hk2.drewN _) (spares_none _)) rfl (heap_alloc_new _ _)
    | some b =>
      rw [hB] at HR1 hP
      clear hA hB
      have HP0 := Lib.hid hP
      clear hP
      go_upto_region 9 with (first | (go_at_call 29; refine HPG.out.mono ?_; rintro e W1 ⟨rfl, rfl⟩) | (go_at_call 80; refine (HR1.out _ hk1).mono ?_; rintro e W2 ⟨bb, rfl, hbb, hsb, hk2⟩; have c52 := (((hk1.trans hk2).cell (p := ⟨d, 5, none⟩) hdl (fun h => h)).trans c5); have HSB := Lib.hid hsb; clear hsb) | (go_at_call 80; refine (HR0.out _ (Keeps.refl _ _)).mono ?_; rintro e W1 ⟨ab, rfl, hab, hsa, hk1⟩; have c11 := (hk1.cell (p := ⟨d, 1, none⟩) hdl (fun h => h)).trans c1; have HSA := Lib.hid hsa; clear hsa))
      have g4 : W2.cell? ⟨ab, 2, none⟩ = some (.int .u64 (a.gen : Int)) := by
        obtain ⟨_, _, h⟩ := HSA.out.keep hk2 (spares_none _)
        exact h.c2
      have g6 : W2.cell? ⟨bb, 2, none⟩ = some (.int .u64 (b.gen : Int)) := by
        obtain ⟨_, _, h⟩ := HSB.out
        exact h.c2
      by_cases hg : a.gen < b.gen
      · have HP := Lib.hid (show openP D = (0, some (b, some a)) by rw [HP0.out]; simp [pickP, hg])
        have hgI : decide (a.gen < b.gen) = true := decide_eq_true hg
        clear hg HP0
        go_quiet (fail)
        go_wp2
        go_ret2
        exact HFIN.out (W2.drewN _) _ bb (some a) (some ⟨ab, 0, none⟩) b ((hk1.trans hk2).drewN _) ((Keeps.refl None' _).alloc _) HP.out (HSB.out.keep ((Keeps.refl None' _).drewN _) (spares_none _)) ⟨ab, rfl, HSA.out.keep (hk2.drewN _) (spares_none _)⟩ (heap_alloc_new _ _)
      · have HP := Lib.hid (show openP D = (0, some (a, some b)) by rw [HP0.out]; simp [pickP, hg])
        have hgI : decide (a.gen < b.gen) = false := decide_eq_false hg
        clear hg HP0
        go_quiet (fail)
        go_wp2
        go_ret2
        exact HFIN.out (W2.drewN _) _ ab (some b) (some ⟨bb, 0, none⟩) a ((hk1.trans hk2).drewN _) ((Keeps.refl None' _).alloc _) HP.out (HSA.out.keep (hk2.drewN _) (spares_none _)) ⟨bb, rfl, HSB.out.keep ((Keeps.refl None' _).drewN _) (spares_none _)⟩ (heap_alloc_new _ _)
end Go.Proofs.YtlbaagjbehdmgaaGreat
