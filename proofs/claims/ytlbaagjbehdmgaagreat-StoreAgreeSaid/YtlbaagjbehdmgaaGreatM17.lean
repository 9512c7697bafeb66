/- Disk.Rot. Disk.Rot: the walk. -/
import Derived.Laws.BitsAllLaws
import Derived.Test.YtlbaagjbehdmgaaGreatM16
namespace Go.Proofs.YtlbaagjbehdmgaaGreat
open Go.RowKit

def flipAt (p : List UInt8) (place : Nat) (by_ : UInt8) : List UInt8 := p.set place ((p[place]?).getD 0 ^^^ by_)
def flipPg (l : List (List UInt8)) (k place : Nat) (by_ : UInt8) : List (List UInt8) := l.set k (flipAt ((l[k]?).getD []) place by_)
def Dsk.rot (D : Dsk) (i place : Int) (by_ : UInt8) : Int × Dsk :=
  if hasP D i && decide (0 ≤ place) && decide (place < 64) then
    (0, if D.writes.any (fun x => (x.1 : Int) == i) then { D with safe := flipPg D.safe i.toNat place.toNat by_ }
        else { D with safe := flipPg D.safe i.toNat place.toNat by_, now := flipPg D.now i.toNat place.toNat by_ })
  else (1, D)

theorem byte_set (l : List (List UInt8)) (h : ∀ p ∈ l, p.length = 64) (k : Nat) (hk : k < l.length) (j : Nat) (hj : j < 64) (x : UInt8) :
    pageCells (l.set k (l[k].set j x)) = lay (pageCells l) (k * 64 + j) [bv x] := by
  have hlk := h _ (List.getElem_mem hk)
  have hfl := flatten_length l h
  have e : (l.set k (l[k].set j x)).flatten = lay l.flatten (k * 64 + j) [x] := by
    rw [flatten_set l h k hk _ (by simp [hlk])]
    apply List.ext_getElem?
    intro m
    have hsl : (l[k].set j x).length = 64 := by rw [List.length_set, hlk]
    have h1l : ([x] : List UInt8).length = 1 := rfl
    rw [lay_get _ _ _ _ (by rw [hfl, hsl]; omega), lay_get _ _ _ _ (by rw [hfl, h1l]; omega), hsl, h1l]
    by_cases h1 : 64 * k ≤ m ∧ m < 64 * k + 64
    · rw [if_pos h1, List.getElem?_set]
      by_cases h2 : j = m - 64 * k
      · rw [if_pos h2, if_pos (by omega), if_pos (by omega), show m - (k * 64 + j) = 0 by omega]
        rfl
      · rw [if_neg h2, if_neg (by omega)]
        have := flatten_get l h k (m - 64 * k) (by omega) hk
        rw [show 64 * k + (m - 64 * k) = m by omega] at this
        exact this.symm
    · rw [if_neg h1, if_neg (by omega)]
  rw [pageCells, e, show [bv x] = [x].map bv from rfl, ← lay_map]
  rfl

/-- a byte is laid into the safe pages -/
theorem safe_byte {w : World} {d g cap i j : Nat} {nv wv : Value} {D : Dsk} {x : UInt8} (h : DiskAt w d (.slice (some ⟨g, 0, none⟩) D.safe.length cap) nv wv D) (hi : i < D.safe.length) (hj : j < 64) :
    DiskAt (w.setCell ⟨g, i * 64 + j, none⟩ (bv x)) d (.slice (some ⟨g, 0, none⟩) D.safe.length cap) nv wv { D with safe := D.safe.set i (D.safe[i].set j x) } := by
  have hdg : d ≠ g := fun e => by
    obtain ⟨cs, hc⟩ := own_type h.safe (b := g) rfl
    rw [← e, h.blk] at hc
    injection hc with hc
    injection hc with _ hc
    revert hc; decide
  have hgw : wv.ownBlock ≠ some g := fun e => by
    obtain ⟨cs, hc⟩ := own_type h.safe (b := g) rfl
    exact own_ne_type h.writes hc (by decide) e
  have hK := Keeps.set1 w g (i * 64 + j) (bv x)
  have hs := own_lay h.safe (i * 64 + j) [bv x] (by simp; omega)
  have hpc := byte_set D.safe h.ok.safe64 i hi j hj x
  refine ⟨hK.blk h.blk (fun e => hdg e), ?_, own_keep h.now hK (fun b hb e => h.apart (by rw [hb]; exact congrArg some (Eq.symm e))), own_keep h.writes hK (fun b hb e => hgw (by rw [hb]; exact congrArg some e)), h.apart, ?_, h.pos, h.room, h.arm, h.fall⟩
  · show World.ownsRow _ 0 108 64 _ (D.safe.set i (D.safe[i].set j x)).length (pageCells (D.safe.set i (D.safe[i].set j x)))
    rw [hpc, List.length_set]
    exact hs
  · obtain ⟨a1, a2, a3, a4, a5⟩ := h.ok
    refine ⟨by simp [a1], a2, fun q hq => ?_, a4, a5⟩
    rcases List.mem_or_eq_of_mem_set hq with h' | h'
    · exact a3 q h'
    · rw [h', List.length_set]; exact a3 _ (List.getElem_mem hi)
/-- a byte is laid into the present pages -/
theorem now_byte {w : World} {d g cap i j : Nat} {sv wv : Value} {D : Dsk} {x : UInt8} (h : DiskAt w d sv (.slice (some ⟨g, 0, none⟩) D.now.length cap) wv D) (hi : i < D.now.length) (hj : j < 64) :
    DiskAt (w.setCell ⟨g, i * 64 + j, none⟩ (bv x)) d sv (.slice (some ⟨g, 0, none⟩) D.now.length cap) wv { D with now := D.now.set i (D.now[i].set j x) } := by
  have hdg : d ≠ g := fun e => by
    obtain ⟨cs, hc⟩ := own_type h.now (b := g) rfl
    rw [← e, h.blk] at hc
    injection hc with hc
    injection hc with _ hc
    revert hc; decide
  have hgw : wv.ownBlock ≠ some g := fun e => by
    obtain ⟨cs, hc⟩ := own_type h.now (b := g) rfl
    exact own_ne_type h.writes hc (by decide) e
  have hgs : sv.ownBlock ≠ some g := fun e => h.apart (by rw [e]; rfl)
  have hK := Keeps.set1 w g (i * 64 + j) (bv x)
  have hs := own_lay h.now (i * 64 + j) [bv x] (by simp; omega)
  have hpc := byte_set D.now h.ok.now64 i hi j hj x
  refine ⟨hK.blk h.blk (fun e => hdg e), own_keep h.safe hK (fun b hb e => hgs (by rw [hb]; exact congrArg some e)), ?_, own_keep h.writes hK (fun b hb e => hgw (by rw [hb]; exact congrArg some e)), h.apart, ?_, by simpa using h.pos, h.room, h.arm, h.fall⟩
  · show World.ownsRow _ 0 108 64 _ (D.now.set i (D.now[i].set j x)).length (pageCells (D.now.set i (D.now[i].set j x)))
    rw [hpc, List.length_set]
    exact hs
  · obtain ⟨a1, a2, a3, a4, a5⟩ := h.ok
    refine ⟨by simp [a1], by simpa using a2, a3, fun q hq => ?_, fun y hy => by simpa using a5 y hy⟩
    rcases List.mem_or_eq_of_mem_set hq with h' | h'
    · exact a4 q h'
    · rw [h', List.length_set]; exact a4 _ (List.getElem_mem hi)
end Go.Proofs.YtlbaagjbehdmgaaGreat

namespace Go.Proofs.YtlbaagjbehdmgaaGreat
open Go.RowKit

set_option maxRecDepth 100000 in
set_option maxHeartbeats 2000000 in
theorem rot_bad (w : World) (d : Nat) (D : Dsk) (fp : Nat → Prop) (i place : Int) (by_ : UInt8) (h : IsDisk w d D fp) (hb : (hasP D i && decide (0 ≤ place) && decide (place < 64)) = false) :
    Calls Tryz.prog 25 #[.pointer (some ⟨d, 0, none⟩), .int .i64 i, .int .i64 place, .int .u8 (by_.toNat : Int)] w fun e w' => e = .returned (.int .i64 1) ∧ Keeps None' w w' := by
  have hK : Keeps None' w (w.alloc (.cells #[.int .i64 i] 3)) := (Keeps.refl _ _).alloc _
  have hisV : IsDisk (w.alloc (.cells #[.int .i64 i] 3)) d D fp := by
    obtain ⟨sv, nv, wv, hd, hf⟩ := h
    exact ⟨sv, nv, wv, hd.keep hK (fun _ _ h => h), hf⟩
  have HH := Lib.hid (has_any _ d D fp i hisV)
  clear h hisV
  by_cases h1 : hasP D i = true
  · by_cases h2 : 0 ≤ place
    · have h3 : ¬ place < 64 := fun h3 => by simp [h1, h2, h3] at hb
      rw [h1] at HH
      clear hb h1
      go_enter Tryz.func25, Tryz.ntmps25
      go_wp2_with (first | (refine HH.out.mono ?_; rintro r W1 ⟨rfl, rfl⟩))
      go_ret
      exact ⟨rfl, hK⟩
    · rw [h1] at HH
      clear hb h1
      go_enter Tryz.func25, Tryz.ntmps25
      go_wp2_with (first | (refine HH.out.mono ?_; rintro r W1 ⟨rfl, rfl⟩))
      go_ret
      exact ⟨rfl, hK⟩
  · have h1' : hasP D i = false := by simpa using h1
    rw [h1'] at HH
    clear hb h1 h1'
    go_enter Tryz.func25, Tryz.ntmps25
    go_wp2_with (first | (refine HH.out.mono ?_; rintro r W1 ⟨rfl, rfl⟩))
    go_ret
    exact ⟨rfl, hK⟩

theorem flipPg_eq (l : List (List UInt8)) (k : Nat) (hk : k < l.length) (j : Nat) (hj : j < l[k].length) (by_ : UInt8) : flipPg l k j by_ = l.set k (l[k].set j (l[k][j] ^^^ by_)) := by
  simp [flipPg, flipAt, hk, hj]
theorem DStep.none {w w1 w2 : World} {d : Nat} {fp fp1 : Nat → Prop} {D : Dsk} (h : DStep w d fp w1 D fp1) (k : Keeps None' w1 w2) : DStep w d fp w2 D fp1 := by
  refine ⟨?_, h.keeps.trans' k (fun _ _ h => h.elim), h.fresh⟩
  obtain ⟨sv, nv, wv, hd, hf⟩ := h.is
  exact ⟨sv, nv, wv, hd.keep k (fun _ _ h => h), hf⟩
theorem rot_eq (D : Dsk) (k j : Nat) (by_ : UInt8) (hk : k < D.now.length) (hj : j < 64) : (D.rot k j by_).2 = if D.writes.any (fun x => (x.1 : Int) == (k : Int)) then { D with safe := flipPg D.safe k j by_ } else { D with safe := flipPg D.safe k j by_, now := flipPg D.now k j by_ } := by
  have h1 := hasP_of hk
  unfold Dsk.rot
  rw [if_pos (by rw [h1]; simp; omega)]
  simp only [Int.toNat_natCast]

theorem xor_u8 (x y : UInt8) : bits .xor .u8 (x.toNat : Int) (y.toNat : Int) = ((x ^^^ y).toNat : Int) := by
  rw [u8_xor_nat _ _ x.toNat_lt y.toNat_lt, UInt8.toNat_xor]

set_option maxRecDepth 100000 in
set_option maxHeartbeats 2000000 in
theorem rot_good (w : World) (d : Nat) (D : Dsk) (fp : Nat → Prop) (k j : Nat) (by_ : UInt8) (h : IsDisk w d D fp) (hk : k < D.now.length) (hj : j < 64) :
    Calls Tryz.prog 25 #[.pointer (some ⟨d, 0, none⟩), .int .i64 (k : Int), .int .i64 (j : Int), .int .u8 (by_.toNat : Int)] w fun e w' => DRet w d fp (.int .i64 0) (D.rot k j by_).2 e w' := by
  have hK : Keeps None' w (w.alloc (.cells #[.int .i64 (k : Int)] 3)) := (Keeps.refl _ _).alloc _
  have hbx : (w.alloc (.cells #[.int .i64 (k : Int)] 3)).cell? ⟨w.heap.size, 0, none⟩ = some (.int .i64 (k : Int)) := cell_of_blk (heap_alloc_new _ _) 0 rfl
  obtain ⟨sv, nv, wv, hd, rfl⟩ := h
  have hV := hd.keep hK (fun _ _ h => h)
  have HH := Lib.hid (has_any _ d D _ k ⟨sv, nv, wv, hV, rfl⟩)
  rw [hasP_of hk] at HH
  obtain ⟨gs, caps, curs, rfl, _⟩ := own_block hV.safe (by rw [hV.ok.same]; exact hV.pos)
  obtain ⟨gn, capn, curn, rfl, _⟩ := own_block hV.now hV.pos
  have HV := Lib.hid hV
  have HK := Lib.hid hK
  have hkI : (k : Int) < (D.now.length : Int) := by omega
  have hjI : (j : Int) < 64 := by omega
  have hgsl : gs < w.heap.size := (own_type hd.safe (b := gs) rfl).elim (fun _ h => lt_of_block h)
  have hgnl : gn < w.heap.size := (own_type hd.now (b := gn) rfl).elim (fun _ h => lt_of_block h)
  clear hd hV hK
  go_enter Tryz.func25, Tryz.ntmps25
  go_wp2_with (first | (refine HH.out.mono ?_; rintro r W1 ⟨rfl, rfl⟩))
  generalize w.alloc (.cells #[.int .i64 (k : Int)] 3) = V at *
  have hks : k < D.safe.length := by rw [HV.out.ok.same]; exact hk
  have hlen : D.safe[k].length = 64 := HV.out.ok.safe64 _ (List.getElem_mem hks)
  have hjl : j < D.safe[k].length := by omega
  have hcell : V.drew.cell? ⟨gs, k * 64 + j, none⟩ = some (bv (D.safe[k][j])) := by
    have := own_range HV.out.safe (k * 64 + j) (bv (D.safe[k][j])) (by
      rw [pageCells, List.getElem?_map, show k * 64 + j = 64 * k + j by omega, flatten_get D.safe HV.out.ok.safe64 k j hj hks]
      simp [hjl])
    rw [Nat.zero_add] at this
    exact this
  have hfr : V.drew.frozen? ⟨gs, k * 64 + j, none⟩ = false := by
    have := (own_there HV.out.safe (k * 64 + j) 1 (by omega)) 0 (by omega)
    exact this.2
  have hc0 : V.drew.cell? ⟨d, 0, none⟩ = some (.slice (some ⟨gs, 0, none⟩) D.safe.length caps) := HV.out.c0
  have hbxd : V.drew.cell? ⟨w.heap.size, 0, none⟩ = some (.int .i64 (k : Int)) := hbx
  have hksI : (k : Int) < (D.safe.length : Int) := by omega
  have hxor := xor_u8 (D.safe[k][j]) by_
  have hV1 := safe_byte (x := D.safe[k][j] ^^^ by_) (HV.out.keep ((Keeps.refl None' V).drew) (fun _ _ h => h)) hks hj
  have HV1 := Lib.hid hV1
  clear hV1
  have HFS := Lib.hid (flipPg_eq D.safe k hks j hjl by_)
  have HROT := Lib.hid (rot_eq D k j by_ hk hj)
  generalize D.safe[k][j] = x at *
  unfold bv at hcell HV1
  generalize hY : (x ^^^ by_).toNat = y at *
  have HY := Lib.hid hY
  clear hY
  refine wp_region_still_tail 13 (by kernel_rfl) (by kernel_rfl) ?_
  simp only [List.take_succ_cons, List.take_zero, List.drop_succ_cons, List.drop_zero]
  iterate 13 still_step
  refine wpStill_nil ?_
  change wpList _ _ _ _ _ V.drew
  have hK1 := Keeps.set1 V.drew gs (k * 64 + j) (.int .u8 (y : Int))
  have HK1 := Lib.hid hK1
  have c2 := HV1.out.c2
  have hbx2 : (V.drew.setCell ⟨gs, k * 64 + j, none⟩ (.int .u8 (y : Int))).cell? ⟨w.heap.size, 0, none⟩ = some (.int .i64 (k : Int)) := (hK1.cell (p := ⟨w.heap.size, 0, none⟩) (block_lt_of_cell hbxd) (fun e => by
    have e' : w.heap.size = gs := e
    omega)).trans hbxd
  have HRC := Lib.hid (rotContains_any _ _ D.writes _ (k : Int) hbx2 HV1.out.writes (fun x hx => (HV.out.ok.at_ x hx).2) (by have := HV.out.room; omega))
  clear hK1 hc0
  have hS1 : DStep w d (dfp d (.slice (some ⟨gs, 0, none⟩) D.safe.length caps) (.slice (some ⟨gn, 0, none⟩) D.now.length capn) wv) (V.drew.setCell ⟨gs, k * 64 + j, none⟩ (.int .u8 (y : Int))) { D with safe := D.safe.set k (D.safe[k].set j (x ^^^ by_)) } (dfp d (.slice (some ⟨gs, 0, none⟩) D.safe.length caps) (.slice (some ⟨gn, 0, none⟩) D.now.length capn) wv) :=
    ⟨⟨_, _, _, HV1.out, rfl⟩, (HK.out.drew.mono (fun _ _ h => h.elim)).trans' HK1.out (fun i _ e => .inr (.inl (by rw [e]; rfl))), fun _ h => .inl h⟩
  have HS1 := Lib.hid hS1
  clear hS1
  have c2' : (V.setCell ⟨gs, k * 64 + j, none⟩ (.int .u8 (y : Int))).cell? ⟨d, 2, none⟩ = some wv := c2
  generalize hB : (D.writes.any fun x => (x.1 : Int) == (k : Int)) = B at *
  have HB := Lib.hid hB
  clear hB
  cases B with
  | true =>
    go_wp2_with (first | (refine HRC.out.mono ?_; rintro r W4 ⟨rfl, hk4⟩))
    have hE : (D.rot k j by_).2 = { D with safe := D.safe.set k (D.safe[k].set j (x ^^^ by_)) } := by rw [HROT.out, ← HFS.out]; simp
    have HE := Lib.hid hE
    have HS2 := Lib.hid (HS1.out.none hk4)
    clear hE hk4
    go_ret
    exact ⟨rfl, _, by rw [HE.out]; exact HS2.out⟩
  | false =>
    go_wp2_with (first | (refine HRC.out.mono ?_; rintro r W4 ⟨rfl, hk4⟩))
    have hlen2 : D.now[k].length = 64 := HV.out.ok.now64 _ (List.getElem_mem hk)
    have hjl2 : j < D.now[k].length := by omega
    have hE : (D.rot k j by_).2 = { D with safe := D.safe.set k (D.safe[k].set j (x ^^^ by_)), now := D.now.set k (D.now[k].set j (D.now[k][j] ^^^ by_)) } := by rw [HROT.out, ← HFS.out, ← flipPg_eq D.now k hk j hjl2 by_]; simp
    have HE := Lib.hid hE
    clear hE
    have HV4 := Lib.hid (HV1.out.keep hk4.drew (fun _ _ h => h))
    have HS2 := Lib.hid (HS1.out.none hk4.drew)
    have hcellN : W4.drew.cell? ⟨gn, k * 64 + j, none⟩ = some (bv (D.now[k][j])) := by
      have := own_range HV4.out.now (k * 64 + j) (bv (D.now[k][j])) (by
        rw [pageCells, List.getElem?_map, show k * 64 + j = 64 * k + j by omega, flatten_get D.now HV.out.ok.now64 k j hj hk]
        simp [hjl2])
      rw [Nat.zero_add] at this
      exact this
    have hfrN : W4.drew.frozen? ⟨gn, k * 64 + j, none⟩ = false := by
      have := (own_there HV4.out.now (k * 64 + j) 1 (by omega)) 0 (by omega)
      exact this.2
    have hc1N : W4.drew.cell? ⟨d, 1, none⟩ = some (.slice (some ⟨gn, 0, none⟩) D.now.length capn) := HV4.out.c1
    have hbxN : W4.drew.cell? ⟨w.heap.size, 0, none⟩ = some (.int .i64 (k : Int)) := (hk4.drew.cell (p := ⟨w.heap.size, 0, none⟩) (block_lt_of_cell hbx2) (fun h => h)).trans hbx2
    have hxor2 := xor_u8 (D.now[k][j]) by_
    have HV5 := Lib.hid (now_byte (D := { D with safe := D.safe.set k (D.safe[k].set j (x ^^^ by_)) }) (x := D.now[k][j] ^^^ by_) HV4.out hk hj)
    have HK5 := Lib.hid (Keeps.set1 W4.drew gn (k * 64 + j) (bv (D.now[k][j] ^^^ by_)))
    clear hcell hfr hxor hbx2 c2 c2' hk4
    generalize D.now[k][j] = z at *
    unfold bv at hcellN HV5 HK5
    generalize hZ : (z ^^^ by_).toNat = u at *
    clear hZ
    refine wp_region_still_tail 13 (by kernel_rfl) (by kernel_rfl) ?_
    simp only [List.take_succ_cons, List.take_zero, List.drop_succ_cons, List.drop_zero]
    iterate 13 still_step
    refine wpStill_nil ?_
    change wpList _ _ _ _ _ W4.drew
    go_wp2
    have HFIN := Lib.hid (show DStep w d (dfp d (.slice (some ⟨gs, 0, none⟩) D.safe.length caps) (.slice (some ⟨gn, 0, none⟩) D.now.length capn) wv) (W4.drew.setCell ⟨gn, k * 64 + j, none⟩ (.int .u8 (u : Int))) _ _ from ⟨⟨_, _, _, HV5.out, rfl⟩, HS2.out.keeps.trans' HK5.out (fun i _ e => .inr (.inr (.inl (by rw [e]; rfl)))), fun _ h => .inl h⟩)
    go_ret
    exact ⟨rfl, _, by rw [HE.out]; exact HFIN.out⟩
end Go.Proofs.YtlbaagjbehdmgaaGreat
