/- store.get: the number that bytes are, the lowest first, by a range over slices.Backward. -/
import Derived.RangeFuncBox
import Derived.RangeFuncLeaves
import Derived.RangeFuncWrites
import Derived.RangeFuncBound
import Derived.Shelf.Abstract
import Derived.OwnWalkIn
import Derived.TacticsInMore
import Derived.LoopNIn
import Derived.LoopIn
import Derived.Test.YtlbaagjbehdmgaaGreatM03
namespace Go.Proofs.YtlbaagjbehdmgaaGreat
open Go.RowKit Go.Shelf

attribute [local go_sem] Oper.semAt_some

/-- the blocks below n₀ but nb stand -/
def KB (n₀ nb : Nat) (W W' : World) : Prop := ∀ k, k < n₀ → k ≠ nb → W'.heap[k]? = W.heap[k]?
theorem KB.trans {n₀ nb : Nat} {A B C : World} (h : KB n₀ nb A B) (k : KB n₀ nb B C) : KB n₀ nb A C := fun i hi hn => (k i hi hn).trans (h i hi hn)
theorem KB.refl (n₀ nb : Nat) (A : World) : KB n₀ nb A A := fun _ _ _ => rfl
theorem KB.cell {n₀ nb : Nat} {w w' : World} (h : KB n₀ nb w w') {p : Addr} (hp : p.block < n₀) (hn : p.block ≠ nb) : w'.cell? p = w.cell? p := World.cell?_of_block (w := w) (h p.block hp hn)
theorem kb_b {n₀ nb : Nat} {w : World} (hn : n₀ ≤ w.heap.size) (W : World) (l : Nat) (o o' : Obj) (hl : w.heap.size ≤ l) (h : W.heap[l]? = some o) (hc : o.isCells = false) (hw : o.isWalk = false) : KB n₀ nb W (W.putObj l o') :=
  fun k hk _ => (belowK_b (w := w) hn W l o o' hl h hc hw).block k hk

/-- the number that bytes are, the lowest first -/
def num : List UInt8 → Nat
  | [] => 0
  | x :: l => x.toNat + 256 * num l
theorem num_lt : ∀ l : List UInt8, num l < 256 ^ l.length
  | [] => by simp [num]
  | x :: l => by
    have := num_lt l
    have hx := x.toNat_lt
    simp only [num, List.length_cons, Nat.pow_succ]
    omega
/-- the fold over what has come, from behind -/
def numR (pre : List UInt8) : Nat := num pre.reverse
theorem numR_snoc (pre : List UInt8) (x : UInt8) : numR (pre ++ [x]) = x.toNat + 256 * numR pre := by simp [numR, num]

set_option maxRecDepth 100000 in
set_option maxHeartbeats 2000000 in
/-- the closure of slices.Backward: for every loop body that keeps what lay below n₀ -/
theorem back1_in (F : Fence) (n : Nat) (h7 : F.fn 163) (hro : F.round = none) (hn : 1 ≤ n) (l Bs n₀ nb b off cap : Nat) (zs : List UInt8) (hreach : zs.length ≤ 1000000) (hb : b < n₀) (hbn : b ≠ nb) (J Jx : List (UInt8 × Nat) → World → Prop)
    (hY : ∀ pre x W, J pre W → pre.length < zs.length → YieldAt F (n - 1) Tryz.prog l #[.int .i64 (x.2 : Int), bv x.1] W fun e W' =>
      (e = .returned (.bool true) ∧ J (pre ++ [x]) W' ∧ KB n₀ nb W W') ∨ (e = .returned (.bool false) ∧ Jx (pre ++ [x]) W'))
    (W : World) (hBs : W.cell? ⟨Bs, 0, none⟩ = some (.slice (some ⟨b, off, none⟩) zs.length cap)) (hBl : Bs < n₀) (hBn : Bs ≠ nb) (hc : W.rangeAt b off (zs.map bv)) (h0 : J [] W) :
    CallsIn F n Tryz.prog 163 #[.func (.yield l) #[] #[], .pointer (some ⟨Bs, 0, none⟩)] W fun e W' => (∃ v, e = .returned v) ∧
      ((∃ ys, ys = zs.zipIdx.reverse ∧ J ys W') ∨ (∃ pre, pre <+: zs.zipIdx.reverse ∧ Jx pre W')) := by
  refine callsIn_of_wp Tryz.func163 rfl h7 ?_ hro
  simp only [Tryz.ntmps163, List.size_toArray, List.length_cons, List.length_nil, Nat.reduceAdd, Nat.reduceSub, Array.replicate_succ, Array.replicate_zero, List.push_toArray, List.append_toArray, List.nil_append, List.cons_append]
  gi_wp2
  gi_loopw [3] (fun i wr => ∃ k : Nat, k ≤ zs.length ∧ i = .int .i64 ((zs.length : Int) - 1 - k) ∧ J (zs.zipIdx.reverse.take k) wr ∧ KB n₀ nb W wr)
    (fun i _ => (intOf i + 1).toNat)
  case atStart => exact ⟨0, Nat.zero_le _, by simp, by simpa using h0, KB.refl _ _ _⟩
  case round =>
    obtain ⟨k, hk, rfl, hJs, hnx⟩ := hrel
    by_cases hlt : k < zs.length
    · have hBs' := (hnx.cell (p := ⟨Bs, 0, none⟩) hBl hBn).trans hBs
      have hi : zs.length - 1 - k < zs.length := by omega
      have hcx := (hnx.cell (p := ⟨b, off + (zs.length - 1 - k), none⟩) hb hbn).trans (hc (zs.length - 1 - k) (bv zs[zs.length - 1 - k]) (by simp [hi]))
      have hx : zs.zipIdx.reverse.take (k + 1) = zs.zipIdx.reverse.take k ++ [(zs[zs.length - 1 - k], zs.length - 1 - k)] := by
        rw [List.take_succ_eq_append_getElem (by simpa using hlt)]; simp
      have hpre : (zs.zipIdx.reverse.take (k + 1)) <+: zs.zipIdx.reverse := List.take_prefix _ _
      obtain ⟨fn, tmps, assign, body, hy, hR⟩ := hY _ (zs[zs.length - 1 - k], zs.length - 1 - k) wr hJs (by simp; omega)
      dsimp only at hy
      have e1 : ((zs.length : Int) - 1 - k) = ((zs.length - 1 - k : Nat) : Int) := by omega
      have e2 : ((zs.length - 1 - k : Nat) : Int) + 1 = (zs.length : Int) - k := by omega
      have e3 : ((zs.length - 1 - k : Nat) : Int) - 1 = (zs.length : Int) - 1 - (k + 1 : Nat) := by omega
      generalize zs[zs.length - 1 - k] = x at *
      generalize hj : zs.length - 1 - k = j at *
      have HX := Lib.hid hx
      have HJ := Lib.hid hj
      have H2 := Lib.hid e2
      have H3 := Lib.hid e3
      clear hx hj e2 e3
      rw [e1]
      have H1 := Lib.hid e1
      clear e1
      gi_wp2
      refine hR.mono ?_
      rintro e W3 (⟨rfl, hJ3, hk3⟩ | ⟨rfl, hJx3⟩)
      · gi_wp2
        go_roundw
        case rel => exact ⟨k + 1, by omega, by rw [H3.out], by rw [HX.out]; exact hJ3, hnx.trans hk3⟩
        case measure => simp [intOf]
      · gi_wp2
        refine bodyPost_ret (results_none rfl _ _ _) rfl ?_
        exact ⟨⟨_, rfl⟩, .inr ⟨_, hpre, by rw [HX.out]; exact hJx3⟩⟩
    · obtain rfl : k = zs.length := by omega
      gi_wp2
      go_end0
      exact ⟨⟨_, rfl⟩, .inl ⟨_, rfl, by rw [List.take_of_length_le (by simp)] at hJs; exact hJs⟩⟩

/-- slices.Backward(s): the slice is boxed; the function value captures the box. -/
theorem backward_in (F : Fence) (n : Nat) (h5 : F.fn 155) (hro : F.round = none) (a : Option Addr) (len cap : Nat) (w : World) :
    CallsIn F n Tryz.prog 155 #[.slice a len cap] w fun e w' => e = .returned (.func (.func 163) #[] #[.pointer (some ⟨w.heap.size, 0, none⟩)]) ∧ w' = w.alloc (.cells #[.slice a len cap] 91) := by
  refine callsIn_of_wp Tryz.func155 rfl h5 ?_ hro
  simp only [Tryz.ntmps155, List.size_toArray, List.length_cons, List.length_nil, Nat.reduceAdd, Nat.reduceSub, Array.replicate_succ, Array.replicate_zero, List.push_toArray, List.append_toArray, List.nil_append, List.cons_append]
  gi_wp2
  go_ret
  exact ⟨rfl, rfl⟩

theorem back_stops (F : Fence) (n : Nat) (h7 : F.fn 163) (hro : F.round = none) (hn : 1 ≤ n) (Bs n₀ nb b off cap : Nat) (zs : List UInt8) (hreach : zs.length ≤ 1000000) (w : World) (hBs : Bs < n₀) (hBn : Bs ≠ nb) (hb : b < n₀) (hbn : b ≠ nb) (hn₀ : n₀ ≤ w.heap.size)
    (hc : w.cell? ⟨Bs, 0, none⟩ = some (.slice (some ⟨b, off, none⟩) zs.length cap)) (hI : w.rangeAt b off (zs.map bv)) :
    SeqStopsK F n Tryz.prog 163 #[.pointer (some ⟨Bs, 0, none⟩)] (fun x : UInt8 × Nat => #[Value.int .i64 (x.2 : Int), bv x.1]) (KB n₀ nb) (fun ys => ys = zs.zipIdx.reverse) (fun pre => pre <+: zs.zipIdx.reverse) zs.length w := fun l J Jx W hW _ _ hY h0 => by
  have hW' := hW.mono hn₀
  have hc' := (hW'.cell (p := ⟨Bs, 0, none⟩) hBs).trans hc
  exact back1_in F n h7 hro hn l Bs n₀ nb b off cap zs hreach hb hbn J Jx hY W hc' hBs hBn (fun j v hj => (hW'.cell (p := ⟨b, off + j, none⟩) hb).trans (hI j v hj)) h0

theorem wrap_byte (x : UInt8) : IntKind.u64.wrap (x.toNat : Int) = (x.toNat : Int) := by
  have := x.toNat_lt
  exact IntWalk.u64_in _ (by omega)
theorem or_step (m : Nat) (x : UInt8) (hm : m < 72057594037927936) : bits .or .u64 ((m : Int) * 256) (IntKind.u64.wrap (x.toNat : Int)) = ((x.toNat + 256 * m : Nat) : Int) := by
  have hx := x.toNat_lt
  have e : ((m : Int) * 256) = ((m * 256 : Nat) : Int) := by omega
  rw [wrap_byte, e, u64_or_nat (m * 256) x.toNat (by omega) (by omega)]
  have h := Nat.two_pow_add_eq_or_of_lt (i := 8) (b := x.toNat) (by omega) m
  rw [Nat.mul_comm m 256, ← h, Nat.add_comm]

set_option maxRecDepth 100000 in
set_option maxHeartbeats 2000000 in
theorem get_any (b off cap : Nat) (zs : List UInt8) (h8 : zs.length ≤ 8) (w : World) (hb : b < w.heap.size) (hI : w.rangeAt b off (zs.map bv)) :
    Calls Tryz.prog 121 #[.slice (some ⟨b, off, none⟩) zs.length cap] w fun e W' => e = .returned (.int .u64 (num zs)) ∧ Keeps None' w W' := by
  refine (callsIn_wide (n := 3)).1 ?_
  refine callsIn_of_wp_marks Tryz.func121 rfl trivial ?_ rfl
  simp only [Tryz.ntmps121, List.size_toArray, List.length_cons, List.length_nil, Nat.reduceAdd, Nat.reduceSub, Array.replicate_succ, Array.replicate_zero, List.push_toArray, List.append_toArray, List.nil_append, List.cons_append]
  gi_wp2_with (refine ⟨trivial, ?_⟩; gi_at_call 155; refine (backward_in Fence.wide 2 trivial rfl _ _ _ _).mono ?_; rintro e w' ⟨rfl, rfl⟩)
  have bS := Boxed.new w 93 (.int .u64 0)
  have bN := Boxed.new (w.alloc (.cells #[.int .u64 0] 93)) 91 (.slice (some ⟨b, off, none⟩) zs.length cap)
  rw [World.size_alloc] at bN
  have hB0 : Below w.heap.size w ((w.alloc (.cells #[.int .u64 0] 93)).alloc (.cells #[.slice (some ⟨b, off, none⟩) zs.length cap] 91)) := ((Below.refl _ w).alloc (Nat.le_refl _) _).alloc (by simp) _
  have h1 : 1 ≤ 3 := by omega
  have hro : Fence.wide.round = none := rfl
  refine wpIn_rangeFunc_ownG hro h1 (gf := 163) (lb := #[.pointer (some ⟨w.heap.size + 1, 0, none⟩)]) rfl trivial (enters_of Tryz.func163 (by kernel_rfl) rfl)
    (back_stops Fence.wide 2 trivial rfl (by omega) (w.heap.size + 1) (w.heap.size + 2) w.heap.size b off cap zs (by omega) _ (by simp) (by simp) (by omega) (by omega) (by simp) bN.cell (rangeAt_alloc (rangeAt_alloc hI _) _)) KB.trans (kb_b (by simp only [World.size_alloc]; omega)) (Below.refl _ _) (fun _ => rfl)
    (fun pre W => (W.cell? ⟨w.heap.size, 0, none⟩ = some (.int .u64 (numR (pre.map Prod.fst))) ∧ W.frozen? ⟨w.heap.size, 0, none⟩ = false ∧ pre.length ≤ zs.length) ∧ Below w.heap.size w W)
    (fun _ _ _ => False)
    (OwnFrom.and (Own.from (fun s A B row hs hg hr => ⟨cell_kept hs.1 hg hr, (frozen_kept hs.1 hg hr).trans hs.2.1, hs.2.2⟩) _) (ownFrom_below (Nat.le_refl _) (by simp; omega)))
    (fun _ _ _ _ _ hs _ _ => hs)
    ⟨⟨(bS.alloc _).cell, (bS.alloc _).frozen, Nat.zero_le _⟩, hB0⟩
    (fun x => { tmps := #[.slice (some ⟨b, off, none⟩) zs.length cap, undef, .int .u64 0, .pointer (some ⟨w.heap.size, 0, none⟩), undef, bv x.1, .slice (some ⟨b, off, none⟩) zs.length cap, .func (.func 163) #[] #[.pointer (some ⟨w.heap.size + 1, 0, none⟩)], .int .i64 (x.2 : Int), bv x.1, undef, undef, undef, undef, undef, undef], defers := [] }) ?assign ?body ?done ?stop
  case assign =>
    intro l x W K hK
    gi_wp2
    exact hK
  case body =>
    rintro l pre x W ⟨⟨hc, hf, hl⟩, hB⟩ hlt
    have hle : numR (pre.map Prod.fst) < 72057594037927936 := by
      have h := num_lt (pre.map Prod.fst).reverse
      have h2 : (256 : Nat) ^ (pre.map Prod.fst).reverse.length ≤ 256 ^ 7 := Nat.pow_le_pow_right (by decide) (by simp; omega)
      exact Nat.lt_of_lt_of_le h h2
    have HS := Lib.hid (or_step (numR (pre.map Prod.fst)) x.1 hle)
    have hbv : bv x.1 = .int .u8 (x.1.toNat : Int) := rfl
    gi_wp2
    rw [HS.out]
    have hn : numR ((pre ++ [x]).map Prod.fst) = x.1.toNat + 256 * numR (pre.map Prod.fst) := by rw [List.map_append]; exact numR_snoc _ _
    refine ⟨(KeepsOthers.setCell _ _ _).from _, fun k _ hk => Below.heap_setCell _ _ _ _ hk, ⟨by rw [hn]; exact World.cell?_setCell_same' _ _ _ (by rw [hc]; rfl), by rw [World.frozen?_setCell]; exact hf, by simp; omega⟩, hB.setCell (p := ⟨w.heap.size, 0, none⟩) (Nat.le_refl _) _⟩
  case done =>
    rintro D ys W hD rfl ⟨⟨hc, _⟩, hB⟩ hK
    gi_wp2
    refine ⟨by simp, .inl ⟨_, _, rfl, run_takeDeferred hK, ?_⟩⟩
    refine ⟨.int .u64 (num zs), ?_, rfl, Keeps.of_below (hB.trans (belowK_b (w := w) (Nat.le_refl _) W D _ _ (by simp at hD; omega) hK rfl rfl))⟩
    refine (results_tmp (t := 2) rfl _ _ _).trans ?_
    simp [numR]
  case stop =>
    rintro D c pre W _ _ h _
    exact h.elim
end Go.Proofs.YtlbaagjbehdmgaaGreat
