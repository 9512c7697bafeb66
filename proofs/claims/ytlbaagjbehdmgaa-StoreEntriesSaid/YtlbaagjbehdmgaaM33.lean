/- StoreEntries. -/
import Derived.Test.YtlbaagjbehdmgaaM32
import Derived.Test.YtlbaagjbehdmgaaM06
namespace Go.Proofs.Ytlbaagjbehdmgaa
open Go.RowKit

set_option maxRecDepth 100000 in
set_option maxHeartbeats 2000000 in
theorem entriesLaw_any (h n : Int) (l : List UInt8) (s : ByteArray) (w : World) (hb : l.length ≤ maxLen) (hs : s.size ≤ maxLen) :
    Calls Try.prog 3 #[.agg #[.int .i64 h, .int .i64 n, .string (str l)], .string s] w fun e w' => e = .returned (.bool true) ∧ Keeps None' w w' := by
  have hbs : (str l).size = l.length := str_size l
  have HSN := Lib.hid (fun W => sane_any W)
  have hbx := heap_alloc_new w (.cells #[.int .i64 h, .int .i64 n, .string (str l)] 23)
  have hk0 : Keeps None' w (w.alloc (.cells #[.int .i64 h, .int .i64 n, .string (str l)] 23)) := (Keeps.refl _ _).alloc _
  have hc : ∀ W, Keeps None' (w.alloc (.cells #[.int .i64 h, .int .i64 n, .string (str l)] 23)) W → W.cell? ⟨w.heap.size, 0, none⟩ = some (.int .i64 h) ∧ W.cell? ⟨w.heap.size, 1, none⟩ = some (.int .i64 n) ∧ W.cell? ⟨w.heap.size, 2, none⟩ = some (.string (str l)) := fun W hW => by
    have hb := hW.blk hbx (fun h => h)
    exact ⟨cell_of_blk hb 0 rfl, cell_of_blk hb 1 rfl, cell_of_blk hb 2 rfl⟩
  have HCE := Lib.hid hc
  clear hc hbx
  by_cases c1 : 5000 < l.length
  · have c1I : (5000 : Int) < (l.length : Int) := by omega
    go_enter Try.func3, Try.ntmps3
    go_wp2_with (first | (go_at_call 6; refine (HSN.out _).mono ?_; rintro e W1 ⟨rfl, hk1⟩; obtain ⟨a0, a1, a2⟩ := HCE.out W1 hk1))
    go_ret
    exact ⟨rfl, hk0.trans hk1⟩
  have c1I : ¬ ((5000 : Int) < (l.length : Int)) := by omega
  by_cases c2 : 5000 < s.size
  · have c2I : (5000 : Int) < (s.size : Int) := by omega
    go_enter Try.func3, Try.ntmps3
    go_wp2_with (first | (go_at_call 6; refine (HSN.out _).mono ?_; rintro e W1 ⟨rfl, hk1⟩; obtain ⟨a0, a1, a2⟩ := HCE.out W1 hk1))
    go_ret
    exact ⟨rfl, hk0.trans hk1⟩
  have c2I : ¬ ((5000 : Int) < (s.size : Int)) := by omega
  have HCK := Lib.hid (fun (W : World) => show Calls Try.prog 7 #[.agg #[.int .i64 h, .int .i64 n, .string (str l)]] W fun r w' => r = .returned (.int .i64 (chk ⟨h, n, l⟩)) ∧ Keeps None' W w' from check_any ⟨h, n, l⟩ W)
  have HRK := Lib.hid (fun (W : World) => show Calls Try.prog 8 #[.agg #[.int .i64 h, .int .i64 n, .string (str l)]] W fun r w' => r = .returned (.int .i64 (chk ⟨h, n, l⟩)) ∧ Keeps None' W w' from rcheck_any ⟨h, n, l⟩ W)
  have HSM := Lib.hid (fun (W : World) => sum_any s W (by omega))
  have HRS := Lib.hid (fun (W : World) => rsum_any s W (by omega))
  generalize chk ⟨h, n, l⟩ = c at *
  generalize fnv s.data.toList = f at *
  go_enter Try.func3, Try.ntmps3
  go_upto_region 5 with (first | (go_at_call 6; refine (HSN.out _).mono ?_; rintro e W1 ⟨rfl, hk1⟩; have HK1 := Lib.hid hk1; obtain ⟨a0, a1, a2⟩ := HCE.out W1 hk1; clear hk1))
  clear a0 a1 a2
  go_region_held3 (fun W => W.cell? ⟨w.heap.size, 0, none⟩ = some (.int .i64 h) ∧ W.cell? ⟨w.heap.size, 1, none⟩ = some (.int .i64 n) ∧ W.cell? ⟨w.heap.size, 2, none⟩ = some (.string (str l)))
    (first | exact HCE.out _ HKb.out | exact HCE.out _ HKa.out | exact HCE.out _ HK1.out.drew)
    (first
    | (go_at_call 7; refine (HCK.out _).mono ?_; rintro r W3 ⟨rfl, hk3⟩; first | (have HKb := Lib.hid (HKa.out.trans hk3); clear hk3) | (have HKa := Lib.hid (HK1.out.drew.trans hk3); clear hk3))
    | (go_at_call 8; refine (HRK.out _).mono ?_; rintro r W3 ⟨rfl, hk3⟩; first | (have HKb := Lib.hid (HKa.out.trans hk3); clear hk3) | (have HKa := Lib.hid (HK1.out.drew.trans hk3); clear hk3))
    | (go_at_call 9; refine (HSM.out _).mono ?_; rintro r W4 ⟨rfl, rfl⟩)
    | (go_at_call 10; refine (HRS.out _).mono ?_; rintro r W4 ⟨rfl, rfl⟩))
  all_goals
    try simp only [Exit.then]
    go_wp2
    go_ret
    exact ⟨rfl, hk0.trans HKb.out⟩
end Go.Proofs.Ytlbaagjbehdmgaa
