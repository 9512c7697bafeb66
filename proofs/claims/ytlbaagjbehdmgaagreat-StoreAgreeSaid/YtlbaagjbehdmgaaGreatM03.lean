/- The sum of a page. A page with its sum. -/
import Derived.Deep.RegionWith
import Derived.Deep.MidRow
import Derived.Laws.BytesArg
import Derived.Test.YtlbaagjbehdmgaaGreatM01
namespace Go.Proofs.YtlbaagjbehdmgaaGreat
open Go.RowKit

/-- bytes as a string -/
def str (l : List UInt8) : ByteArray := ⟨l.toArray⟩
@[simp] theorem str_data (l : List UInt8) : (str l).data.toList = l := by simp [str]
@[simp] theorem str_size (l : List UInt8) : (str l).size = l.length := by simp [str, ByteArray.size]
theorem run_bytes_str {P : Program} (w : World) (src e dst : TypeId) (hs : P.underlying src = some (.slice e)) (he : P.underlying e = some (.int .u8)) (hd : P.underlying dst = some .string)
    (b off len cap : Nat) (l : List UInt8) (hlen : l.length = len) (h : w.rangeAt b off (l.map bv)) :
    (convert src dst (.slice (some ⟨b, off, none⟩) len cap)).run P w = .ok (.string (str l)) w := by
  have := run_convert_bytes_arg (P := P) w src e hs he b off len cap (l.map fun x => (x.toNat : Int)) (by simpa using hlen) (fun i hi => by
    have hi' : i < l.length := by omega
    have := h i (bv l[i]) (by simp [hi'])
    rw [this]
    simp [bv, hi']) dst hd
  rw [this]
  congr 3
  simp only [strOfNums, str, ByteArray.mk.injEq, List.map_map]
  congr 1
  conv => rhs; rw [← List.map_id l]
  apply List.map_congr_left
  intro x _
  simp

theorem rangeAt_alloc {w : World} {b o : Nat} {l : List Value} (h : w.rangeAt b o l) (x : Obj) : (w.alloc x).rangeAt b o l := fun j v hv => by
  have h1 := h j v hv
  have hlt : b < w.heap.size := block_lt_of_cell (a := ⟨b, o + j, none⟩) h1
  rw [← h1]
  exact World.cell?_of_block (w := w) (Below.heap_alloc _ _ _ hlt)

theorem two_bytes_str {P : Program} (w : World) (src e dst : TypeId) (hs : P.underlying src = some (.slice e)) (he : P.underlying e = some (.int .u8)) (hd : P.underlying dst = some .string) (x y : Int) :
    (convert src dst (.slice (some ⟨w.heap.size, 0, none⟩) 2 2)).run P (w.alloc (.cells #[.int .u8 x, .int .u8 y] e)).drew =
      .ok (.string (str [UInt8.ofNat x.toNat, UInt8.ofNat y.toNat])) (w.alloc (.cells #[.int .u8 x, .int .u8 y] e)).drew := by
  have hb := heap_alloc_new w (.cells #[.int .u8 x, .int .u8 y] e)
  have := run_convert_bytes_arg (P := P) (w.alloc (.cells #[.int .u8 x, .int .u8 y] e)).drew src e hs he w.heap.size 0 2 2 [x, y] rfl (fun i hi => by
    refine cell_of_blk (t := e) (fr := (0, 0)) hb (0 + i) ?_
    match i, hi with
    | 0, _ => rfl
    | 1, _ => rfl) dst hd
  rw [this]
  rfl

theorem two_bytes_str' {P : Program} (w : World) (src e dst : TypeId) (hs : P.underlying src = some (.slice e)) (he : P.underlying e = some (.int .u8)) (hd : P.underlying dst = some .string) (x y : Int) :
    (convert src dst (.slice (some ⟨w.heap.size, 0, none⟩) 2 2)).run P (w.alloc (.cells #[.int .u8 x, .int .u8 y] e)) =
      .ok (.string (str [UInt8.ofNat x.toNat, UInt8.ofNat y.toNat])) (w.alloc (.cells #[.int .u8 x, .int .u8 y] e)) := by
  have hb := heap_alloc_new w (.cells #[.int .u8 x, .int .u8 y] e)
  have := run_convert_bytes_arg (P := P) (w.alloc (.cells #[.int .u8 x, .int .u8 y] e)) src e hs he w.heap.size 0 2 2 [x, y] rfl (fun i hi => by
    refine cell_of_blk (t := e) (fr := (0, 0)) hb (0 + i) ?_
    match i, hi with
    | 0, _ => rfl
    | 1, _ => rfl) dst hd
  rw [this]
  rfl

theorem u8_byte (n : Nat) : UInt8.ofNat (IntKind.u8.wrap (n : Int)).toNat = UInt8.ofNat (n % 256) := by
  congr 1
theorem low2 (n : Nat) : [UInt8.ofNat (IntKind.u8.wrap (n : Int)).toNat, UInt8.ofNat (IntKind.u8.wrap ((n : Int) / 256)).toNat] = low 2 n := by
  have h : ((n : Int) / 256) = ((n / 256 : Nat) : Int) := by simp
  rw [h, u8_byte, u8_byte]
  simp [low, List.range_succ]

/-- what is summed of a page -/
def sumOf (p : List UInt8) (at_ : Nat) : Nat := fnv (p.take 56 ++ low 2 at_)

set_option maxRecDepth 100000 in
set_option maxHeartbeats 1000000 in
theorem psum_any (b off : Nat) (at_ : Nat) (w : World) (p : List UInt8) (hl : p.length = 64) (h : w.rangeAt b off (p.map bv)) :
    Calls Tryz.prog 148 #[.pointer (some ⟨b, off, none⟩), .int .i64 at_] w fun e w' => e = .returned (.int .u64 (sumOf p at_)) ∧ Keeps None' w w' := by
  have h56 : w.rangeAt b off ((p.take 56).map bv) := fun j v hv => h j v (by
    rw [List.map_take] at hv
    rw [List.getElem?_take] at hv
    split at hv
    · exact hv
    · cases hv)
  have hr := fun (w' : World) (h' : w'.rangeAt b off ((p.take 56).map bv)) => run_bytes_str (P := Tryz.prog) w' 91 5 9 Tryz.underlying91 Tryz.underlying5 Tryz.underlying9 b off 56 64 (p.take 56) (by simp [hl]) h'
  have h0 := hr w h56
  have hr2 : ∀ x y : Int, (convert 91 9 (.slice (some ⟨w.heap.size, 0, none⟩) 2 2)).run Tryz.prog (w.alloc (.cells #[.int .u8 x, .int .u8 y] 5)).drew =
      .ok (.string (str [UInt8.ofNat x.toNat, UInt8.ofNat y.toNat])) (w.alloc (.cells #[.int .u8 x, .int .u8 y] 5)).drew := fun x y => two_bytes_str _ _ _ _ Tryz.underlying91 Tryz.underlying5 Tryz.underlying9 x y
  have hsz : (str (p.take 56)).size = 56 := by simp [hl]
  have h1 := fun (x y : Int) => hr _ (rangeAt_alloc h56 (.cells #[.int .u8 x, .int .u8 y] 5))
  have h2 : ∀ x y : Int, (convert 91 9 (.slice (some ⟨b, off, none⟩) 56 64)).run Tryz.prog (w.alloc (.cells #[.int .u8 x, .int .u8 y] 5)).drew = .ok (.string (str (p.take 56))) (w.alloc (.cells #[.int .u8 x, .int .u8 y] 5)).drew := fun x y => hr _ (rangeAt_alloc h56 (.cells #[.int .u8 x, .int .u8 y] 5))
  have h3 : (convert 91 9 (.slice (some ⟨b, off, none⟩) 56 64)).run Tryz.prog w.drew = .ok (.string (str (p.take 56))) w.drew := hr _ h56
  clear h h0 h1
  go_enter Tryz.func148, Tryz.ntmps148
  go_wp2
  go_region_with ((go_at_call 58; refine (sum_any _ _ (by simp [ByteArray.size_append]; omega)).mono ?_; rintro e w' ⟨rfl, rfl⟩))
  all_goals (go_wp2; go_ret)
  all_goals exact ⟨ret_int (by rw [low2]; rfl), ((Keeps.refl None' w).alloc _).drew⟩
end Go.Proofs.YtlbaagjbehdmgaaGreat

namespace Go.Proofs.YtlbaagjbehdmgaaGreat
open Go.RowKit

def zeros (n : Nat) : List UInt8 := List.replicate n 0
/-- a page with its sum -/
def sealP (at_ : Nat) (p : List UInt8) : List UInt8 := lay p 56 (low 8 (sumOf p at_))
theorem sealP_length (at_ : Nat) (p : List UInt8) (h : p.length = 64) : (sealP at_ p).length = 64 := by
  unfold sealP; rw [lay_length _ _ _ (by simp [h])]; exact h
theorem bvs64 : bvs (zeros 64) = (List.replicate 64 (Value.int .u8 0)).toArray := by simp [bvs, zeros, bv]
theorem info_page : (Tryz.prog.info? 108).map (·.size) = some 64 := by kernel_rfl

set_option maxRecDepth 100000 in
set_option maxHeartbeats 1000000 in
theorem sealed_any (at_ : Nat) (w : World) (p : List UInt8) (hl : p.length = 64) :
    Calls Tryz.prog 140 #[.agg (bvs p), .int .i64 at_] w fun e w' => e = .returned (.agg (bvs (sealP at_ p))) ∧ Keeps None' w w' := by
  go_enter Tryz.func140, Tryz.ntmps140
  go_wp2_with fail
  refine gen_wp (fun W => W.heap[w.heap.size]? = some (.cells (bvs p) 108 (0, 0)) ∧ W.heap[w.heap.size + 1]? = some (.cells (bvs (zeros 64)) 108 (0, 0)) ∧ Keeps None' w W) ⟨heap_alloc2_old _ _ _, heap_alloc2_new _ _ _, ((Keeps.refl _ _).alloc _).alloc _⟩ ?_
  rintro W ⟨hb, hz, hk⟩
  have hr : W.drew.rangeAt w.heap.size 0 (p.map bv) := rangeAt_of_blk hb 0 _ (by simp [bvs])
  go_region_with (first | (go_at_call 148; refine (psum_any _ _ at_ _ p hl hr).mono ?_; rintro e w1 ⟨rfl, hk1⟩; have hb1 := hk1.blk hb (fun h => h); have hz1 := hk1.blk hz (fun h => h)) | (go_at_call 139; refine (put_any _ 56 8 8 _ _ p 108 (by omega) (by omega) (fnv_le _) hb1).mono ?_; rintro e w2 ⟨rfl, hb2, hk2, -⟩))
  have hz2 := hk2.blk hz1 (fun h => by simp [One] at h)
  have hr2 : w2.rangeAt w.heap.size 0 ((sealP at_ p).map bv) := rangeAt_of_blk hb2 0 _ (by intro i v h; simp [bvs, sealP, sumOf] at h ⊢; exact h)
  have hth : w2.there (w.heap.size + 1) 0 64 := there_of_blk hz2 0 64 (by simp [zeros])
  have hK : Keeps None' w w2 := ((hk.drew.trans hk1).trans' hk2 (fun i hi h => by simp [One] at h; omega))
  clear hk hk1 hk2 hb hz hb1 hz1 hr hb2
  simp only [Exit.then]
  go_wp2_with (first | (refine wpList_load_mid rfl _ _ rfl w.heap.size 0 rfl _ _ hr2 Tryz.underlying108 rfl (by rw [info_page]; simp [sealP_length, hl]) ?_) | (refine wpList_store_mid rfl _ _ _ rfl (w.heap.size + 1) 0 _ rfl rfl (by simpa [sealP_length, hl] using hth) (by rw [info_page]; simp [sealP_length, hl]) (by simp [bv, Value.oneCell']) ?_))
  try simp only [Exit.then, Exit.inBlock]
  refine bodyPost_ret (results_cell_mid rfl _ _ _ _ _ _ rfl (World.rangeAt_setCells_same _ _ _ _ (by simpa [sealP_length, hl] using hth)) Tryz.underlying108 rfl (by rw [info_page]; simp [sealP_length, hl])) rfl ⟨rfl, ?_⟩
  exact hK.setCells _ _ _ (by omega)
end Go.Proofs.YtlbaagjbehdmgaaGreat
