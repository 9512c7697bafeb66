/- Disk.Write. -/
import Derived.Deep.RegionLaw
import Derived.Test.YtlbaagjbehdmgaaGreatM08
namespace Go.Proofs.YtlbaagjbehdmgaaGreat
open Go.RowKit

theorem new_cells (W : World) (l : List Value) (t : TypeId) : ∀ j u, l[j]? = some u → (W.alloc (.cells l.toArray t)).cell? ((⟨W.heap.size, 0, none⟩ : Addr).add j) = some u := fun j u h => by
  rw [Addr.add_mid, Nat.zero_add]
  exact cell_of_blk (heap_alloc_new W (.cells l.toArray t)) j (by simpa using h)
theorem one_cells (k : Nat) (s : List UInt8) : ∀ u ∈ Value.int .i64 (k : Int) :: s.map bv, u.oneCell' = true := fun u hu => by
  rcases List.mem_cons.1 hu with rfl | hu
  · rfl
  · obtain ⟨x, _, rfl⟩ := List.mem_map.1 hu
    rfl
/-- a whole page read, kept shut -/
def loadPg (x : Value) : Sem Value := Instr.loadAt 108 x
theorem loadPg_eq (x : Value) : Instr.loadAt 108 x = loadPg x := rfl
attribute [local go_sem ↓] loadPg_eq

theorem info_write3 : (Tryz.prog.info? 110).map (fun i => (i.zero, i.size, i.bytes)) = some (some (.agg (#[.int .i64 0] ++ bvs (zeros 64))), 65, 72) := by kernel_rfl
theorem hasP_of {D : Dsk} {k : Nat} (h : k < D.now.length) : hasP D k = true := by simp [hasP]; omega

theorem zeroCells_write : Tryz.zeroCells110 = #[Value.int .i64 0] ++ bvs (zeros 64) := by kernel_rfl
theorem fold_write (k : Nat) (s : List UInt8) (hs : s.length = 64) :
    List.foldl (fun (cs : Array Value) (x : Value × Nat) => cs.setIfInBounds (1 + x.snd) x.fst) (Tryz.zeroCells110.setIfInBounds 0 (Value.int IntKind.i64 ↑k)) (List.map bv s).zipIdx = (.int .i64 (k : Int) :: s.map bv).toArray := by
  rw [foldl_lay, zeroCells_write]
  have e : (#[Value.int .i64 0] ++ bvs (zeros 64)).setIfInBounds 0 (Value.int IntKind.i64 ↑k) = #[Value.int .i64 k] ++ bvs (zeros 64) := by simp
  rw [e]
  have := lay_behind (Value.int .i64 k) (bvs (zeros 64)) (s.map bv).toArray (by simp [zeros, hs])
  simpa using this

theorem foldl_lay0 : ∀ (l : List Value) (k : Nat) (cs : Array Value), List.foldl (fun (cs : Array Value) (x : Value × Nat) => cs.setIfInBounds x.snd x.fst) cs (l.zipIdx k) = layA cs k l
  | [], _, _ => rfl
  | v :: r, k, cs => by
    simp only [List.zipIdx_cons, List.foldl_cons, layA]
    exact foldl_lay0 r (k + 1) _
theorem fold_slice (k : Nat) (s : List UInt8) (hs : s.length = 64) : ∀ C : Array Value, C.size = 65 → C[0]? = some (.int .i64 (k : Int)) →
    List.foldl (fun (cs : Array Value) (x : Value × Nat) => cs.setIfInBounds x.snd x.fst) C ((s.map bv).zipIdx 1) = (.int .i64 (k : Int) :: s.map bv).toArray := fun C hC h0 => by
  rw [foldl_lay0]
  apply Array.ext_getElem?
  intro j
  rw [layA_get _ _ _ _ (by simp [hs, hC])]
  cases j with
  | zero => rw [if_neg (by omega), h0]; rfl
  | succ j =>
    by_cases hj : j < 64
    · rw [if_pos (by simp [hs]; omega)]; simp
    · rw [if_neg (by simp [hs]; omega), Array.getElem?_eq_none (by omega), Array.getElem?_eq_none (by simp [hs]; omega)]

set_option maxRecDepth 100000 in
set_option maxHeartbeats 2000000 in
theorem write_good (w : World) (d k : Nat) (D : Dsk) (fp : Nat → Prop) (s : List UInt8) (h : IsDisk w d D fp) (hd : D.down = false) (hk : k < D.now.length) (hs : s.length = 64) (hr : D.writes.length < 100000) :
    Calls Tryz.prog 14 #[.pointer (some ⟨d, 0, none⟩), .int .i64 k, .string (str s)] w fun e w' => DRet w d fp (.int .i64 (D.put k s).wres) (D.put k s).fails.2 e w' := by
  have hh := has_any w d D fp k h
  rw [hasP_of hk] at hh
  obtain ⟨sv, nv, wv, h, rfl⟩ := h
  obtain ⟨g, cap, cur, rfl, _⟩ := own_block h.now h.pos
  have c4 := h.c4
  rw [hd] at c4
  have c1 := h.c1
  have c2 := h.c2
  have hl := h.ok.few
  have hkl : (k : Int) < (D.now.length : Int) := by omega
  have hsz : (str s).size = 64 := by simp [hs]
  have hcopy := run_copy_str (P := Tryz.prog) w 91 9 3 5 g (k * 64) 64 64 s Tryz.underlying91 info_u8 hs (own_there h.now (k * 64) s.length (by rw [hs]; omega))
  have HH := Lib.hid hh
  have HC := Lib.hid hcopy
  have HD := Lib.hid h
  clear hh hcopy h
  go_enter Tryz.func14, Tryz.ntmps14
  go_wp2_with fail
  refine HH.out.mono ?_
  rintro e w1 ⟨rfl, rfl⟩
  have hcopy := HC.out
  go_wp2
  have hdg : d ≠ g := fun e => by
    obtain ⟨cs, hc⟩ := own_type HD.out.now (b := g) rfl
    rw [← e, HD.out.blk] at hc
    injection hc with hc
    injection hc with _ hc
    revert hc; decide
  have hK0 := keeps_setCells g (s.map bv) (k * 64) w
  have c1W : (w.setCells g (k * 64) (s.map bv)).cell? ⟨d, 1, none⟩ = some (.slice (some ⟨g, 0, none⟩) D.now.length cap) := (hK0.cell (p := ⟨d, 1, none⟩) (lt_of_block HD.out.blk) (fun e => hdg e)).trans c1
  have c2W : (w.setCells g (k * 64) (s.map bv)).cell? ⟨d, 2, none⟩ = some wv := (hK0.cell (p := ⟨d, 2, none⟩) (lt_of_block HD.out.blk) (fun e => hdg e)).trans c2
  have hrW : (w.setCells g (k * 64) (s.map bv)).rangeAt g (k * 64) (s.map bv) := World.rangeAt_setCells_same _ _ _ _ (by rw [List.length_map]; exact own_there HD.out.now (k * 64) s.length (by rw [hs]; omega))
  have hownW : (w.setCells g (k * 64) (s.map bv)).ownsRow 0 110 65 wv D.writes.length (writeCells D.writes) := own_keep HD.out.writes hK0 (fun b hb e => by
    obtain ⟨cs, hc⟩ := own_type HD.out.now (b := g) rfl
    exact own_ne_type HD.out.writes hc (by decide) (by rw [hb, show b = g from e]))
  have hfold := fold_write k s hs
  have hfold2 := fold_slice k s hs
  have hload : (loadPg (.pointer (some ⟨g, k * 64, none⟩))).run Tryz.prog (w.setCells g (k * 64) (s.map bv)).drew = .ok (.agg (s.map bv).toArray) (w.setCells g (k * 64) (s.map bv)).drew := run_loadAt_mid (P := Tryz.prog) (w.setCells g (k * 64) (s.map bv)).drew g (k * 64) 108 (s.map bv) _ hrW Tryz.underlying108 rfl (by rw [info_page]; simp [hs])
  obtain ⟨i0, hi, hz1, hz2, hz3⟩ := info_parts info_write3
  have hlt : d < (w.setCells g (k * 64) (s.map bv)).heap.size := Nat.lt_of_lt_of_le (lt_of_block HD.out.blk) hK0.size
  have hdw : some d ≠ wv.ownBlock := fun e => own_ne_type HD.out.writes HD.out.blk (by decide) e.symm
  have f2W : (w.setCells g (k * 64) (s.map bv)).frozen? ⟨d, 2, none⟩ = false := (hK0.frozen (p := ⟨d, 2, none⟩) (lt_of_block HD.out.blk) (fun e => hdg e)).trans (free_of_blk HD.out.blk 2)
  generalize hW : w.setCells g (k * 64) (s.map bv) = W at *
  have HW := Lib.hid hW
  clear hW hcopy c1 c2
  go_region_law (first | (refine step_append_own rfl _ _ _ rfl 0 110 i0 _ 65 72 Tryz.underlying99 hi hz1 hz2 hz3 (by simp [zeros, Value.cells]) (by decide) wv D.writes.length (writeCells D.writes) rfl (by exact own_keep hownW (((Keeps.refl None' W).alloc _).drew) (fun _ _ h => h)) ⟨W.heap.size, 0, none⟩ 1 1 (.int .i64 k :: s.map bv) rfl (by simp [hs]) (by exact new_cells W _ _) (one_cells k s) (by unfold maxLen; omega) (by omega) (Nat.zero_le _) ?_; intro v' w2 hown' hgrow hfr; have hown2 := Lib.hid hown'; have hgrow2 := Lib.hid hgrow; have hfr2 := Lib.hid hfr; clear hfr; obtain ⟨g', cap', rfl⟩ := ownsRow_succ hown'; clear hown'; have c2V := (hgrow.cell (a := ⟨d, 2, none⟩) (v := wv) (by exact ((Keeps.refl None' W).alloc _).cell (p := ⟨d, 2, none⟩) hlt (fun h => h) ▸ c2W) hdw); have f2V := (World.frozen?_of_block (hgrow.block d (by simp; omega) hdw)).trans ((((Keeps.refl None' W).alloc _).frozen (p := ⟨d, 2, none⟩) hlt (fun h => h)).trans f2W); clear hgrow))
  all_goals
    have hP := put_disk HD.out hk hs hr _ (by rw [Nat.mul_comm 64 k, HW.out]; exact hgrow2.out) hown2.out (fun i hi => (hfr2.out i hi).imp id (fun h => by
      have h1 := hK0.size
      simp at h
      omega))
    have HST := Lib.hid hP.2
    have HF := Lib.hid (fails_any _ d _ _ hP.2.is)
    clear hP hK0 hrW hownW hload c1W c2W f2W c2V f2V
    try simp only [Exit.then]
    go_wp2_with fail
    refine HF.out.mono ?_
    rintro e w4 ⟨rfl, hS⟩
    have HS := Lib.hid (HST.out.trans hS)
    clear hS HST HF
    by_cases hf : (D.put k s).fails.1 = true
    · have HFF := Lib.hid hf
      rw [hf]
      clear hf
      go_wp2
      go_ret
      exact ⟨ret_int (wres_of HFF.out), _, HS.out⟩
    · have hf' : (D.put k s).fails.1 = false := by simpa using hf
      have HFF := Lib.hid hf'
      rw [hf']
      clear hf hf'
      go_wp2
      go_ret
      exact ⟨ret_int (wres_of HFF.out), _, HS.out⟩

theorem DRet.mono_v {w : World} {d : Nat} {fp : Nat → Prop} {v v' : Value} {D D' : Dsk} {e : Ending} {w' : World} (h : DRet w d fp v D e w') (hv : v = v') (hD : D = D') : DRet w d fp v' D' e w' := by subst hv; subst hD; exact h
theorem DStep.refl {w : World} {d : Nat} {D : Dsk} {fp : Nat → Prop} (h : IsDisk w d D fp) : DStep w d fp w D fp := ⟨h, Keeps.refl _ _, fun _ hk => .inl hk⟩

set_option maxRecDepth 100000 in
set_option maxHeartbeats 1000000 in
theorem write_any (w : World) (d : Nat) (i : Int) (D : Dsk) (fp : Nat → Prop) (s : List UInt8) (h : IsDisk w d D fp) (hr : D.writes.length < 100000) :
    Calls Tryz.prog 14 #[.pointer (some ⟨d, 0, none⟩), .int .i64 i, .string (str s)] w fun e w' => DRet w d fp (.int .i64 (D.write i s).1) (D.write i s).2 e w' := by
  by_cases hd : D.down = true
  · have HR := Lib.hid (show D.write i s = (91, D) by simp [Dsk.write, hd])
    have HS := Lib.hid (DStep.refl h)
    obtain ⟨sv, nv, wv, h, rfl⟩ := h
    have c4 := h.c4
    rw [hd] at c4
    clear h hd
    go_enter Tryz.func14, Tryz.ntmps14
    go_wp2
    go_ret
    exact ⟨ret_int (by rw [HR.out]), _, by rw [HR.out]; exact HS.out⟩
  have hd' : D.down = false := by simpa using hd
  have hh := has_any w d D fp i h
  by_cases hp : hasP D i = true
  · obtain ⟨h1, h2⟩ : 0 ≤ i ∧ i < D.now.length := by simpa [hasP] using hp
    by_cases hs : s.length = 64
    · obtain ⟨k, rfl⟩ := Int.eq_ofNat_of_zero_le h1
      refine (write_good w d k D fp s h hd' (by omega) hs hr).mono fun e w' hR => hR.mono_v ?_ ?_
      · simp [Dsk.write, hd', hp, hs]
      · simp [Dsk.write, hd', hp, hs]
    · have HR := Lib.hid (show D.write i s = (1, D) by simp [Dsk.write, hd', hs])
      have HS := Lib.hid (DStep.refl h)
      have hsz : (str s).size = s.length := str_size s
      have hne : ¬ ((s.length : Int) = 64) := by omega
      have hne2 : (((s.length : Nat) : Int) != 64) = true := by rw [bne_iff_ne]; exact hne
      rw [hp] at hh
      obtain ⟨sv, nv, wv, h, rfl⟩ := h
      have c4 := h.c4
      rw [hd'] at c4
      have HH := Lib.hid hh
      clear h hd hd' hp hh h1 h2 hs hne
      go_enter Tryz.func14, Tryz.ntmps14
      go_wp2_with fail
      refine HH.out.mono ?_
      rintro e w1 ⟨rfl, rfl⟩
      go_wp2
      go_ret
      exact ⟨ret_int (by rw [HR.out]), _, by rw [HR.out]; exact HS.out⟩
  · have hp' : hasP D i = false := by simpa using hp
    have HR := Lib.hid (show D.write i s = (1, D) by simp [Dsk.write, hd', hp'])
    have HS := Lib.hid (DStep.refl h)
    rw [hp'] at hh
    obtain ⟨sv, nv, wv, h, rfl⟩ := h
    have c4 := h.c4
    rw [hd'] at c4
    have HH := Lib.hid hh
    clear h hd hd' hp hp' hh
    go_enter Tryz.func14, Tryz.ntmps14
    go_wp2_with fail
    refine HH.out.mono ?_
    rintro e w1 ⟨rfl, rfl⟩
    go_wp2
    go_ret
    exact ⟨ret_int (by rw [HR.out]), _, by rw [HR.out]; exact HS.out⟩
end Go.Proofs.YtlbaagjbehdmgaaGreat
