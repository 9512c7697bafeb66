/- The pages of an entry. -/
import Derived.Test.YtlbaagjbehdmgaaGreatM11
namespace Go.Proofs.YtlbaagjbehdmgaaGreat
open Go.RowKit

attribute [local go_sem ↓] loadPg_eq storePg_eq

/-- the i-th piece of an entry -/
def pieceOf (e : Ent) (i : Nat) : List UInt8 := ((payload e).drop (i * 53)).take 53
def pieceRaw (pages : List Nat) (e : Ent) (i : Nat) : List UInt8 := lay (lay (lay (zeros 64) 0 (low 2 (nextOf pages i))) 2 [UInt8.ofNat (pieceOf e i).length]) 3 (pieceOf e i)
def pieceWrite (pages : List Nat) (e : Ent) (i : Nat) : Nat × List UInt8 := ((pages[i]?).getD 0, sealP ((pages[i]?).getD 0) (pieceRaw pages e i))
/-- the writes of an entry -/
def pieceWrites (e : Ent) (pages : List Nat) : List (Nat × List UInt8) := (List.range pages.length).map (pieceWrite pages e)
theorem pieceOf_le (e : Ent) (i : Nat) : (pieceOf e i).length ≤ 53 := by simp [pieceOf]; omega
theorem pieceRaw_length (pages : List Nat) (e : Ent) (i : Nat) : (pieceRaw pages e i).length = 64 := by
  have hz : (zeros 64).length = 64 := by simp [zeros]
  have h1 : (lay (zeros 64) 0 (low 2 (nextOf pages i))).length = 64 := by rw [lay_length _ _ _ (by rw [low_length, hz]; omega), hz]
  have h2 : (lay (lay (zeros 64) 0 (low 2 (nextOf pages i))) 2 [UInt8.ofNat (pieceOf e i).length]).length = 64 := by rw [lay_length _ _ _ (by rw [h1]; simp), h1]
  unfold pieceRaw
  rw [lay_length _ _ _ (by rw [h2]; have := pieceOf_le e i; omega), h2]

/-- the cells of an entry with its pages -/
def placedVal (e : Ent) (pv : Value) : Value := .agg #[.int .i64 e.house, .int .i64 e.no, .string (str e.body), pv]

structure PiecesAt (w : World) (e : Ent) (pages : List Nat) (pv : Value) (k : Nat) (v : Value) (wr : World) : Prop where
  own : wr.ownsRow w.heap.size 110 65 v k (writeCells ((List.range k).map (pieceWrite pages e)))
  keeps : Keeps None' w wr
  box : wr.heap[w.heap.size]? = some (.cells #[.int .i64 e.house, .int .i64 e.no, .string (str e.body), pv] 121 (0, 0))

/-- a new row of writes -/
def FreshWrites (w : World) (l : List (Nat × List UInt8)) (e : Ending) (w' : World) : Prop := ∃ v, e = .returned v ∧ w'.ownsRow w.heap.size 110 65 v l.length (writeCells l) ∧ Keeps None' w w'

theorem extract_str (l : List UInt8) (a b : Nat) : (str l).extract a b = str ((l.drop a).take (b - a)) := by
  apply ByteArray.ext
  simp [str]

/-- a string copied into a longer row -/
theorem run_copy_short {P : Program} (w : World) (dT sT ty elem : TypeId) (b o dLen dCap : Nat) (l : List UInt8)
    (hu : P.underlying dT = some (.slice elem)) (hs : (P.info? elem).map (·.size) = some 1) (hl : l.length ≤ dLen) (ht : w.there b o l.length) :
    (Builtin.copy_ #[dT, sT] ty #[.slice (some ⟨b, o, none⟩) dLen dCap, .string (str l)]).run P w = .ok (goInt l.length) (w.setCells b o (l.map bv)) := by
  have hst := run_storeCells_cells (P := P) b o (l.map bv) 0 w (fun j hj => by simpa using (ht j (by simpa using hj)).1) (fun j hj => by simpa using (ht j (by simpa using hj)).2) (by simp [bv, Value.oneCell'])
  cases hq : P.info? elem with
  | none => simp [hq] at hs
  | some i =>
    have hm : Nat.min l.length dLen = l.length := Nat.min_eq_left hl
    have he : List.take l.length (List.map (fun b : UInt8 => Value.int IntKind.u8 (b.toNat : Int)) l) = l.map bv := by
      rw [List.take_of_length_le (by simp)]; rfl
    simp only [Nat.add_zero] at hst
    simp [Builtin.copy_, run_underlying hu, Builtin.lenOf, Builtin.firstCells, sizeOf, typeInfo, hq, hm]
    rw [he, hst]
    simp
theorem layA_bvs (p : List UInt8) (o : Nat) (l : List UInt8) (h : o + l.length ≤ p.length) : layA (bvs p) o (l.map bv) = bvs (lay p o l) := by
  apply Array.ext_getElem?
  intro j
  rw [layA_get _ _ _ _ (by simpa [bvs] using h), bvs_get, bvs_get, lay_get _ _ _ _ h]
  simp only [List.length_map]
  split <;> simp

theorem list_buildWr {w : World} {ops : Array Oper} {rest : List Oper} {o : Oper} {a : Act} {Q : Exit → Act → World → Prop} (hgd : o.guard = none) (x y : Operand) (ho : o.op = .build 110 #[(0, x), (1, y)])
    (i : Int) (cs : Array Value) (hx : a.eval x = .int .i64 i) (hy : a.eval y = .agg cs) (hl : cs.size = 64)
    (h : wpList Tryz.prog ops Q rest (a.put o.dst (.agg (#[.int .i64 i] ++ cs))) w) : wpList Tryz.prog ops Q (o :: rest) a w :=
  wpList_plain hgd fun _ hK => by
    have hr := run_build_write w i cs hl
    unfold Oper.wp execOp
    simp only [ho, List.map_toArray, List.map_cons, List.map_nil, hx, hy, Sem.run_bind, hr, Result.andThen_ok, Sem.run_pure]
    exact hK _ _ h
theorem list_sliceWr {w : World} {ops : Array Oper} {rest : List Oper} {o : Oper} {a : Act} {Q : Exit → Act → World → Prop} (hgd : o.guard = none) (x : Operand) (ho : o.op = .buildSlice 99 1 #[(0, x)])
    (cs : Array Value) (hx : a.eval x = .agg cs) (hl : cs.size = 65)
    (h : wpList Tryz.prog ops Q rest (a.put o.dst (.slice (some ⟨w.heap.size, 0, none⟩) 1 1)) (w.alloc (.cells cs 110))) : wpList Tryz.prog ops Q (o :: rest) a w :=
  wpList_plain hgd fun _ hK => by
    have hr := run_buildSlice_one (P := Tryz.prog) w 99 110 65 _ cs Tryz.underlying99 info_write (zero_write w) (by simp [zeros]) hl (by omega) (by omega)
    unfold Oper.wp execOp
    simp only [ho, List.map_toArray, List.map_cons, List.map_nil, hx, Sem.run_bind, hr, Result.andThen_ok, Sem.run_pure]
    exact hK _ _ h

set_option maxRecDepth 100000 in
set_option maxHeartbeats 4000000 in
theorem writes_any (e : Ent) (pages : List Nat) (pv : Value) (w : World) (hv : e.valid = true) (hr : RInts w pv pages) (hl : pages.length = npieces e) (hx : ∀ x ∈ pages, x ≤ 100000) :
    Calls Tryz.prog 118 #[placedVal e pv] w fun r w' => FreshWrites w (pieceWrites e pages) r w' := by
  have hlen : e.body.length ≤ 180 := by simp [Ent.valid] at hv; omega
  have hn4 : pages.length ≤ 4 := by rw [hl]; unfold npieces; omega
  have hlo : ∀ k, k < pages.length → k * 53 ≤ e.body.length + 2 := fun k hk => by rw [hl] at hk; unfold npieces at hk; omega
  clear hl
  obtain ⟨ap, capp, rfl⟩ := hr.shape
  have hpay := payload_any e hv
  have hpl := payload_length e
  have hbox := heap_alloc_new w (.cells #[.int .i64 e.house, .int .i64 e.no, .string (str e.body), .slice ap pages.length capp] 121)
  unfold placedVal
  unfold Ent.val at hpay
  have HP := Lib.hid hpay
  clear hpay
  go_enter Tryz.func118, Tryz.ntmps118
  go_wp2_with fail
  refine (HP.out _).mono ?_
  rintro r w1 ⟨rfl, hk1⟩
  have h0 : PiecesAt w e pages (.slice ap pages.length capp) 0 (.slice none 0 0) w1 := ⟨World.ownsRow_nil _ _ _ _, ((Keeps.refl None' w).alloc _).trans hk1, hk1.blk hbox (fun h => h)⟩
  have cp := cell_of_blk h0.box 3 (v := .slice ap pages.length capp) rfl
  have hsz : (str (payload e)).size = e.body.length + 2 := by rw [str_size, hpl]
  clear hk1 hbox
  go_wp2
  go_loopw [2, 14] (fun v i wr => ∃ k : Nat, k ≤ pages.length ∧ i = .int .i64 k ∧ PiecesAt w e pages (.slice ap pages.length capp) k v wr) (fun _ i _ => pages.length - (intOf i).toNat)
  case atStart => exact ⟨0, Nat.zero_le _, rfl, h0⟩
  case round =>
    obtain ⟨k, hk, rfl, hA⟩ := hrel
    have cpr := cell_of_blk hA.box 3 (v := .slice ap pages.length capp) rfl
    clear h0 cp
    by_cases hlt : k < pages.length
    · have hrr := hr.keep hA.keeps (fun _ _ _ h => h.elim)
      obtain ⟨bp, op, capq, csp, hpe, _, hbp, hcp⟩ : ∃ b off cap cs, (Value.slice ap pages.length capp) = .slice (some ⟨b, off, none⟩) pages.length cap ∧ (pages ≠ [] ∧ pages.length ≤ cap) ∧ wr.heap[b]? = some (.cells cs 3 (0, 0)) ∧ ∀ (i x : Nat), pages[i]? = some x → cs[off + i]? = some (.int .i64 x) := by
        rcases hrr with ⟨_, h⟩ | h
        · rw [h] at hlt; simp at hlt
        · exact h
      injection hpe with ha hb' hc'
      subst ha
      subst hc'
      have cpk := cell_of_blk hbp (op + k) (hcp k pages[k] (by simp [hlt]))
      have hxk : pages[k] ≤ 100000 := hx _ (List.getElem_mem hlt)
      have hat : (pages[k]?).getD 0 = pages[k] := by simp [hlt]
      have hlo' := hlo k hlt
      have hex : ∀ n : Nat, n = min (e.body.length + 2) ((k + 1) * 53) → (str (payload e)).extract (k * 53) n = str (pieceOf e k) := fun n hn => by
        rw [extract_str, pieceOf]
        congr 1
        by_cases h : e.body.length + 2 ≤ (k + 1) * 53
        · rw [List.take_of_length_le (by simp [hpl]; omega), List.take_of_length_le (by simp [hpl]; omega)]
        · rw [show n - k * 53 = 53 by omega]
      have HAT := Lib.hid hat
      have HEX := Lib.hid hex
      have HR := Lib.hid hrr
      have HA := Lib.hid hA
      have hraw := pieceRaw_length pages e k
      have hpc := pieceOf_le e k
      generalize hP : pages[k] = x at *
      have HPX := Lib.hid hP
      have HRAW := Lib.hid (show pieceRaw pages e k = lay (lay (lay (zeros 64) 0 (low 2 (nextOf pages k))) 2 [UInt8.ofNat (pieceOf e k).length]) 3 (pieceOf e k) from rfl)
      clear hat hex hP hbp hcp hrr hA
      have hnx : ((nextOf pages k : Nat) : Int) ≤ 18446744073709551615 := by
        have : nextOf pages k ≤ 100000 := by
          unfold nextOf
          cases h : pages[k + 1]? with
          | none => simp
          | some y => simpa using hx y (List.mem_of_getElem? h)
        omega
      have hkn : (k : Int) < (pages.length : Int) := by omega
      have hln : ((str (pieceOf e k)).size : Int) = ((pieceOf e k).length : Int) := by rw [str_size]
      have hln2 : (str (pieceOf e k)).size = (pieceOf e k).length := str_size _
      by_cases hc : e.body.length + 2 ≤ (k + 1) * 53
      all_goals
        go_wp2_with fail
        first | rw [HEX.out (e.body.length + 2) (by omega)] | rw [HEX.out ((k + 1) * 53) (by omega)]
        generalize pieceOf e k = q at *
        refine gen_wp (fun W => W.heap[wr.heap.size]? = some (.cells (bvs (zeros 64)) 108 (0, 0)) ∧ Keeps None' wr W) ⟨heap_alloc_new _ _, (Keeps.refl _ _).alloc _⟩ ?_
        rintro W0 ⟨hz0, hk0⟩
        have cpd : W0.drew.cell? ⟨w.heap.size, 3, none⟩ = some (.slice (some ⟨bp, op, none⟩) pages.length capp) := (hk0.cell (p := ⟨w.heap.size, 3, none⟩) (lt_of_block HA.out.box) (fun h => h)).trans cpr
        have hz0' : W0.drew.heap[wr.heap.size]? = some (.cells (bvs (zeros 64)) 108 (0, 0)) := hz0
        have HN := Lib.hid (next_any W0.drew _ pages k (HR.out.keep hk0.drew (fun _ _ _ h => h.elim)) hlt (by omega) hx)
        clear hz0 cpr cpk
        go_region_with (first | (go_at_call 154; refine HN.out.mono ?_; rintro e w' ⟨rfl, rfl⟩) | (go_at_call 139; refine (put_any _ 0 2 64 _ _ (zeros 64) 108 (by simp [zeros]) (by omega) hnx hz0').mono ?_; rintro e W1 ⟨rfl, hb1, hk1, -⟩))
        try simp only [Exit.then]
        have hK1 : Keeps None' wr W1 := hk0.drew.trans' hk1 (fun i hi e => by cases e; omega)
        have hp0 : (lay (zeros 64) 0 (low 2 (nextOf pages k))).length = 64 := by rw [lay_length _ _ _ (by simp [zeros])]; simp [zeros]
        generalize lay (zeros 64) 0 (low 2 (nextOf pages k)) = p0 at *
        have cp2 := cell_of_blk hb1 2 (v := bv (p0[2]'(by omega))) (by rw [bvs_get, List.getElem?_eq_getElem (by omega)]; rfl)
        have fp2 := free_of_blk hb1 2
        clear hz0' hk0 hk1 cpd HN
        have hu8 : (Value.int .u8 ((q.length : Nat) : Int)) = bv (UInt8.ofNat q.length) := u8_small _ (by omega)
        have hb2 : (W1.setCell ⟨wr.heap.size, 2, none⟩ (.int .u8 ((q.length : Nat) : Int))).heap[wr.heap.size]? = some (.cells (bvs (lay p0 2 [UInt8.ofNat q.length])) 108 (0, 0)) := by rw [heap_setCell_same _ _ _ _ _ _ hb1, hu8, bvs_set _ _ _ (by omega)]
        have hK2 : Keeps None' wr (W1.setCell ⟨wr.heap.size, 2, none⟩ (.int .u8 ((q.length : Nat) : Int))) := hK1.setCell _ _ (fun h => absurd h (Nat.lt_irrefl _))
        have hp1 : (lay p0 2 [UInt8.ofNat q.length]).length = 64 := by rw [lay_length _ _ _ (by simp; omega)]; exact hp0
        clear hu8 hb1 hK1
        go_wp2_with fail
        generalize W1.setCell ⟨wr.heap.size, 2, none⟩ (.int .u8 ((q.length : Nat) : Int)) = W2 at *
        generalize lay p0 2 [UInt8.ofNat q.length] = p1 at *
        refine (head_2 _).mono ?_
        rintro r W' ⟨rfl, rfl⟩
        have hcopy := run_copy_short (P := Tryz.prog) W2 91 9 3 5 wr.heap.size 3 61 61 q Tryz.underlying91 info_u8 (by omega) (there_of_blk hb2 3 _ (by simp; omega))
        have hb3 : (W2.setCells wr.heap.size 3 (q.map bv)).heap[wr.heap.size]? = some (.cells (bvs (lay p1 3 q)) 108 (0, 0)) := by rw [heap_setCells_same _ _ _ _ _ _ hb2, layA_bvs _ _ _ (by omega)]
        have hp2 : (lay p1 3 q).length = 64 := by rw [lay_length _ _ _ (by omega)]; exact hp1
        have hK3 : Keeps None' wr (W2.setCells wr.heap.size 3 (q.map bv)) := hK2.setCells _ _ _ (Nat.le_refl _)
        have hrange : (W2.setCells wr.heap.size 3 (q.map bv)).rangeAt wr.heap.size 0 ((lay p1 3 q).map bv) := rangeAt_of_blk hb3 0 _ (by simp [bvs])
        generalize hW3 : W2.setCells wr.heap.size 3 (q.map bv) = W3 at *
        generalize lay p1 3 q = p2 at *
        have hse : Calls Tryz.prog 140 #[.agg (p2.map bv).toArray, .int .i64 x] W3 fun e w' => e = .returned (.agg (bvs (sealP x p2))) ∧ Keeps None' W3 w' := sealed_any x W3 p2 hp2
        have HSE := Lib.hid hse
        have hip : (Tryz.prog.info? 108).map (·.size) = some (p2.map bv).length := by rw [info_page]; simp [hp2]
        clear hse hW3 hb3 hK2 hb2
        go_wp2_with (first | (refine wpList_load_mid rfl _ _ rfl wr.heap.size 0 rfl _ _ hrange Tryz.underlying108 rfl hip ?_))
        refine HSE.out.mono ?_
        rintro r W4 ⟨rfl, hk4⟩
        have hK4 : Keeps None' wr W4 := hK3.trans hk4
        have hp4 : (sealP x p2).length = 64 := sealP_length _ _ hp2
        have hownW := own_keep (HA.out.own) hK4 (fun _ _ h => h)
        obtain ⟨i0, hi, hz1, hz2, hz3⟩ := info_parts info_write3
        have hws : w.heap.size ≤ W4.heap.size := Nat.le_trans HA.out.keeps.size hK4.size
        clear HSE hrange hip hK3 hk4 hp1
        go_wp2_with (first | (refine list_buildWr rfl _ _ rfl x (bvs (sealP x p2)) rfl rfl (by simpa [bvs] using hp4) ?_) | (refine list_sliceWr rfl _ rfl (#[.int .i64 (x : Int)] ++ bvs (sealP x p2)) rfl (by simp [bvs, hp4]) ?_) | (refine list_append_own rfl _ _ _ rfl w.heap.size 110 i0 _ 65 72 Tryz.underlying99 hi hz1 hz2 hz3 (by simp [zeros, Value.cells]) (by decide) u2 k (writeCells ((List.range k).map (pieceWrite pages e))) rfl (own_keep hownW ((Keeps.refl None' W4).alloc _) (fun _ _ h => h)) ⟨W4.heap.size, 0, none⟩ 1 1 (.int .i64 x :: (sealP x p2).map bv) rfl (by simp [hp4]) (by simpa [bvs] using new_cells W4 (.int .i64 x :: (sealP x p2).map bv) 110) (one_cells x _) (by unfold maxLen; omega) (by omega) (by simp; omega) ?_; intro v' w2 hown' hgrow hfr))
        have hpw : pieceWrite pages e k = (x, sealP x p2) := by rw [pieceWrite, HAT.out, HRAW.out]
        have hnew : writeCells ((List.range k).map (pieceWrite pages e)) ++ (.int .i64 x :: (sealP x p2).map bv) = writeCells ((List.range (k + 1)).map (pieceWrite pages e)) := by
          rw [List.range_succ, List.map_append, show ∀ a b, writeCells (a ++ b) = writeCells a ++ writeCells b from fun a b => by simp [writeCells]]
          simp [writeCells, hpw]
        have hnext : PiecesAt w e pages (.slice (some ⟨bp, op, none⟩) pages.length capp) (k + 1) v' w2 := by
          refine ⟨?_, (HA.out.keeps.trans (hK4.alloc _)).trans' (grownBy_keeps hgrow) (fun i hi e => ?_), (grownBy_keeps hgrow).blk ((hK4.alloc _).blk HA.out.box (fun h => h)) (fun e => own_ne_type HA.out.own HA.out.box (by decide) e.symm)⟩
          · rw [← hnew]; exact hown'
          · have := (HA.out.own.lt i e.symm).1
            omega
        clear hown' hgrow hfr hownW HA
        go_roundw
        case rel => exact ⟨k + 1, by omega, by go_num, hnext⟩
        case measure => simp [intOf]; omega
    · obtain rfl : k = pages.length := by omega
      have HA := Lib.hid hA
      clear hA cpr
      go_wp2
      go_ret
      refine ⟨_, rfl, ?_, HA.out.keeps⟩
      have := HA.out.own
      rw [show (pieceWrites e pages).length = pages.length by simp [pieceWrites]]
      exact this
end Go.Proofs.YtlbaagjbehdmgaaGreat
