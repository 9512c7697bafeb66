/- slices.Sorted(slices.Values(l)); slices.Equal. -/
import Derived.Test.YtlbaagjbehdmgaaGreatM14
import Derived.Test.YtlbaagjbehdmgaaGreatM15
namespace Go.Proofs.YtlbaagjbehdmgaaGreat
open Go.RowKit Go.Shelf Go.Sort

theorem values_any (a : Option Addr) (len cap : Nat) (w : World) :
    Calls Tryz.prog 104 #[.slice a len cap] w fun e w' => e = .returned (.func (.func 146) #[] #[.pointer (some ⟨w.heap.size, 0, none⟩)]) ∧ w' = w.alloc (.cells #[.slice a len cap] 47) := by
  go_enter Tryz.func104, Tryz.ntmps104
  go_wp2
  go_ret
  exact ⟨rfl, rfl⟩
theorem collect_any (Bx : Nat) (sl : Value) (zs : List Int) (w : World) (hlen : zs.length ≤ 1000000) (hBx : Bx < w.heap.size) (hcx : w.cell? ⟨Bx, 0, none⟩ = some sl) (hI : ZInts w.heap.size w sl zs) :
    Calls Tryz.prog 144 #[.func (.func 146) #[] #[.pointer (some ⟨Bx, 0, none⟩)]] w fun e W' => ∃ v, e = .returned v ∧ W'.ownsRow w.heap.size 3 1 v zs.length (zs.map (Value.int .i64)) ∧ Below w.heap.size w W' := by
  have HA := Lib.hid (appendSeq_any Bx sl zs w hlen hBx hcx hI)
  go_enter Tryz.func144, Tryz.ntmps144
  go_wp2_with (first | (go_at_call 159; refine HA.out.mono ?_; rintro e W1 ⟨v, rfl, hown, hb⟩))
  go_ret
  exact ⟨v, rfl, hown, hb⟩
theorem sort_any (blk cap : Nat) (zs : List Int) (w : World) (hH : Holds (Value.int .i64) w blk 0 zs.toArray) (hblk : blk < w.heap.size) (hsz : zs.length < 4611686018427387904) :
    Calls Tryz.prog 145 #[.slice (some ⟨blk, 0, none⟩) zs.length cap] w fun e w' =>
      e = .returned (.tuple #[]) ∧ ∃ n os, w' = grow (putRow (Value.int .i64) (Sort.ahead w n) blk 0 (zs.mergeSort fun x y => decide (x ≤ y)).toArray) os :=
  AnyM.slices_Sort_int Tryz.sortA blk 0 cap zs w hH hblk hsz
theorem sort_none (p : Option Addr) (cap : Nat) (w : World) : Calls Tryz.prog 145 #[.slice p 0 cap] w fun e w' => e = .returned (.tuple #[]) ∧ w' = w :=
  AnyM.slices_Sort_int_none Tryz.sortA p cap w
/-- numbers, the least first -/
def sortZ (zs : List Int) : List Int := zs.mergeSort fun x y => decide (x ≤ y)
set_option maxHeartbeats 1000000 in
theorem sorted_any (Bx : Nat) (sl : Value) (zs : List Int) (w : World) (hlen : zs.length ≤ 1000000) (hBx : Bx < w.heap.size) (hcx : w.cell? ⟨Bx, 0, none⟩ = some sl) (hI : ZInts w.heap.size w sl zs) :
    Calls Tryz.prog 103 #[.func (.func 146) #[] #[.pointer (some ⟨Bx, 0, none⟩)]] w fun e W' => ∃ v, e = .returned v ∧ W'.ownsRow w.heap.size 3 1 v zs.length ((sortZ zs).map (Value.int .i64)) ∧ Below w.heap.size w W' := by
  have HA := Lib.hid (collect_any Bx sl zs w hlen hBx hcx hI)
  go_enter Tryz.func103, Tryz.ntmps103
  go_upto_region 2 with (first | (go_at_call 144; refine HA.out.mono ?_; rintro e W1 ⟨v, rfl, hown, hb⟩))
  rcases hown.2 with ⟨rfl, hz⟩ | ⟨gb, cap, cur, rfl, hbase, hgb, r1, r2, r3, r4⟩
  · have hss : zs = [] := List.eq_nil_of_length_eq_zero hz
    subst hss
    go_wp2_with (first | (go_at_call 145; refine (sort_none none 0 W1).mono ?_; rintro e w' ⟨rfl, rfl⟩))
    go_ret
    exact ⟨.slice none 0 0, rfl, by simpa [sortZ] using hown, hb⟩
  · have hH : Holds (Value.int .i64) W1 gb 0 zs.toArray := holds_of_block_i hgb (by simpa using r4)
    have hgl : gb < W1.heap.size := (Array.getElem?_eq_some_iff.1 hgb).1
    have HS := Lib.hid (sort_any gb cap zs W1 hH hgl (by omega))
    clear hH
    go_wp2_with (first | (go_at_call 145; refine HS.out.mono ?_; rintro e w' ⟨rfl, nn, os, rfl⟩))
    go_ret
    exact ⟨_, rfl, ownsRow_sorted_i (by simp) hbase hgb r1 r2 r3, hb.grown (grownBy_sorted_i _) hb.size (fun j hj => by cases hj; exact hbase)⟩
end Go.Proofs.YtlbaagjbehdmgaaGreat
