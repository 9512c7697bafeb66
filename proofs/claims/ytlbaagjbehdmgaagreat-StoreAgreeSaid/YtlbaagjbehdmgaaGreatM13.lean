/- The pages of the index. -/
import Derived.Lib.SliceRun
import Derived.Deep.DeepCutAuto
import Derived.Test.YtlbaagjbehdmgaaGreatM12
namespace Go.Proofs.YtlbaagjbehdmgaaGreat
open Go.RowKit

attribute [local go_sem ↓] loadPg_eq storePg_eq

/-- the entries that an index page names -/
def namedOf (S : St) (i : Nat) : List Placed := (S.entries.drop (i * 26)).take 26
/-- the first page of an entry -/
def firstOf (l : List Placed) (j : Nat) : Nat := match l[j]? with | some p => p.pages.headD 0 | none => 0
/-- the first pages of k entries laid into a page -/
def nameInto (l : List Placed) (k : Nat) (p : List UInt8) : List UInt8 := (List.range k).foldl (fun p j => lay p (3 + 2 * j) (low 2 (firstOf l j))) p
def idxHead (S : St) (i : Nat) : List UInt8 := lay (lay (zeros 64) 0 (low 2 (nextOf S.index i))) 2 [UInt8.ofNat (namedOf S i).length]
def idxRaw (S : St) (i : Nat) : List UInt8 := nameInto (namedOf S i) (namedOf S i).length (idxHead S i)
def idxWrite (S : St) (i : Nat) : Nat × List UInt8 := ((S.index[i]?).getD 0, sealP ((S.index[i]?).getD 0) (idxRaw S i))
def idxWrites (S : St) : List (Nat × List UInt8) := (List.range S.index.length).map (idxWrite S)
theorem namedOf_le (S : St) (i : Nat) : (namedOf S i).length ≤ 26 := by simp [namedOf]; omega
theorem nameInto_succ (l : List Placed) (k : Nat) (p : List UInt8) : nameInto l (k + 1) p = lay (nameInto l k p) (3 + 2 * k) (low 2 (firstOf l k)) := by simp [nameInto, List.range_succ]
theorem nameInto_length (l : List Placed) (p : List UInt8) (hp : p.length = 64) : ∀ k, k ≤ 26 → (nameInto l k p).length = 64 := by
  intro k
  induction k with
  | zero => intro _; exact hp
  | succ k ih => intro hk; rw [nameInto_succ, lay_length _ _ _ (by rw [ih (by omega), low_length]; omega)]; exact ih (by omega)

structure IdxAt (w : World) (S : St) (k : Nat) (v : Value) (wr : World) : Prop where
  own : wr.ownsRow w.heap.size 110 65 v k (writeCells ((List.range k).map (idxWrite S)))
  keeps : Keeps None' w wr
  page : ∃ p : List UInt8, p.length = 64 ∧ wr.heap[w.heap.size]? = some (.cells (bvs p) 108 (0, 0))

theorem run_slice_pg2 (W : World) (g a : Nat) (h : a + 2 ≤ 64) :
    (Instr.sliceAt 108 (.pointer (some ⟨g, 0, none⟩)) (some (.int .i64 (a : Int))) (some (.int .i64 ((a : Int) + 2))) none).run Tryz.prog W = .ok (.slice (some ⟨g, a, none⟩) 2 (64 - a)) W := by
  have hs := run_sizeOf (w := W) info_u8
  have e1 : ((a : Int) + 2).toNat = a + 2 := by omega
  have e2 : ¬ (64 = a) := by omega
  have e3 : a + 2 - a = 2 := by omega
  have hl : Tryz.prog.arrayLen 108 = 64 := by kernel_rfl
  have hel : Tryz.prog.elem 108 = 5 := by kernel_rfl
  have := run_sliceAt_array_lh (P := Tryz.prog) W 108 ⟨g, 0, none⟩ (by rw [hl, hel]; exact Tryz.underlying108) .i64 .i64 a (a + 2) (by omega) (by omega) (by rw [hl]; omega)
  rw [this, hel, hs, hl, Result.andThen_ok, slicedAt, e1, Int.toNat_natCast, if_neg e2, e3, Addr.add_mid, Nat.mul_one, Nat.zero_add]

structure InAt (w wr : World) (l : List Placed) (p : List UInt8) (j : Nat) (v : World) : Prop where
  blk : v.heap[w.heap.size]? = some (.cells (bvs (nameInto l j p)) 108 (0, 0))
  keeps : Keeps (One w.heap.size) wr v

theorem layA_zero (p : List UInt8) (hp : p.length = 64) : layA (bvs p) 0 (List.replicate 64 (.int .u8 0)) = bvs (zeros 64) := by
  have h64 : 0 + (zeros 64).length ≤ p.length := by rw [zeros, List.length_replicate]; omega
  have := layA_bvs p 0 (zeros 64) h64
  have hz : (zeros 64).length = 64 := by rw [zeros, List.length_replicate]
  have h0 : (zeros 64).map bv = List.replicate 64 (.int .u8 0) := by rw [zeros, List.map_replicate]; rfl
  rw [h0] at this
  refine this.trans (congrArg bvs ?_)
  unfold lay
  rw [List.take_zero, List.nil_append, List.drop_eq_nil_of_le (by omega), List.append_nil]

set_option maxRecDepth 100000 in
set_option maxHeartbeats 4000000 in
theorem indexWrites_any (b : Nat) (S : St) (w : World) (h : IsState w b S) (hn : S.index.length = (S.entries.length + 25) / 26) :
    Calls Tryz.prog 119 #[.pointer (some ⟨b, 0, none⟩)] w fun r w' => FreshWrites w (idxWrites S) r w' := by
  obtain ⟨ev, iv, h⟩ := h
  have hlt := lt_of_block h.blk
  have c4 := h.c4
  obtain ⟨ai, capi, rfl⟩ := h.index.shape
  obtain ⟨ae, capE, rfl⟩ := h.entries.shape
  have hix := h.ok.index
  have hfew := h.ok.few
  have H := Lib.hid h
  have hlo : ∀ k, k < S.index.length → k * 26 < S.entries.length := fun k hk => by omega
  clear h hn
  go_enter Tryz.func119, Tryz.ntmps119
  go_wp2_with fail
  have h0 : IdxAt w S 0 (.slice none 0 0) (w.alloc (.cells (bvs (zeros 64)) 108)) := ⟨World.ownsRow_nil _ _ _ _, (Keeps.refl None' w).alloc _, _, by simp [zeros], heap_alloc_new _ _⟩
  go_loopw [2, 15] (fun v i wr => ∃ k : Nat, k ≤ S.index.length ∧ i = .int .i64 k ∧ IdxAt w S k v wr) (fun _ i _ => S.index.length - (intOf i).toNat)
  case atStart => exact ⟨0, Nat.zero_le _, rfl, h0⟩
  case round =>
    obtain ⟨k, hk, rfl, hA⟩ := hrel
    obtain ⟨wo, hwo⟩ : ∃ x, x = wr := ⟨_, rfl⟩
    subst hwo
    have hS := H.out.keep hA.keeps (spares_none _)
    clear h0
    by_cases hlt : k < S.index.length
    · obtain ⟨bi, oi, capq, csi, hie, _, hbi, hci⟩ : ∃ b off cap cs, (Value.slice ai S.index.length capi) = .slice (some ⟨b, off, none⟩) S.index.length cap ∧ (S.index ≠ [] ∧ S.index.length ≤ cap) ∧ wo.heap[b]? = some (.cells cs 3 (0, 0)) ∧ ∀ (i x : Nat), S.index[i]? = some x → cs[off + i]? = some (.int .i64 x) := by
        rcases hS.index with ⟨_, h⟩ | h
        · rw [h] at hlt; simp at hlt
        · exact h
      injection hie with ha hb' hc'
      subst ha
      subst hc'
      have cpk := cell_of_blk hbi (oi + k) (hci k S.index[k] (by simp [hlt]))
      have hxk : S.index[k] ≤ 100000 := by have := H.out.ok.ixs _ (List.getElem_mem hlt); omega
      have hat : (S.index[k]?).getD 0 = S.index[k] := by simp [hlt]
      obtain ⟨p, hp, hpb⟩ := hA.page
      have hclear := Lib.run_clear_slice (P := Tryz.prog) wo 91 5 0 (.int .u8 0) Tryz.underlying91 (fun _ => by kernel_rfl) rfl rfl w.heap.size 0 64 64 (by omega) (fun j hj => (there_of_blk hpb 0 64 (by simp [bvs, hp]) j hj).1) (fun j hj => (there_of_blk hpb 0 64 (by simp [bvs, hp]) j hj).2)
      have hb1 : (wo.setCells w.heap.size 0 (List.replicate 64 (.int .u8 0))).heap[w.heap.size]? = some (.cells (bvs (zeros 64)) 108 (0, 0)) := by rw [heap_setCells_same _ _ _ _ _ _ hpb, layA_zero p hp]
      have hk1 := keeps_setCells w.heap.size (List.replicate 64 (.int .u8 0)) 0 wo
      have hkw : Keeps None' w (wo.setCells w.heap.size 0 (List.replicate 64 (.int .u8 0))) := hA.keeps.trans' hk1 (fun i hi e => by cases e; omega)
      have HA := Lib.hid hA
      have HPB := Lib.hid hpb
      have HAT := Lib.hid hat
      generalize hX : S.index[k] = x at *
      have HX := Lib.hid hX
      generalize hW1 : wo.setCells w.heap.size 0 (List.replicate 64 (.int .u8 0)) = W1 at *
      have hlo' := hlo k hlt
      have hS1 := H.out.keep hkw (spares_none _)
      obtain ⟨be, oe, cape, cse, hee, ⟨_, hcap⟩, hbe, hce⟩ : ∃ b off cap cs, (Value.slice ae S.entries.length capE) = .slice (some ⟨b, off, none⟩) S.entries.length cap ∧ (S.entries ≠ [] ∧ S.entries.length ≤ cap) ∧ W1.heap[b]? = some (.cells cs 121 (0, 0)) ∧
          ∀ (i : Nat) (p : Placed), S.entries[i]? = some p → ∃ pv, RInts W1 pv p.pages ∧ cs[off + i * 4]? = some (.int .i64 p.e.house) ∧ cs[off + i * 4 + 1]? = some (.int .i64 p.e.no) ∧ cs[off + i * 4 + 2]? = some (.string (str p.e.body)) ∧ cs[off + i * 4 + 3]? = some pv := by
        rcases hS1.entries with ⟨_, h⟩ | h
        · rw [h] at hlo'; simp at hlo'
        · exact h
      injection hee with ha hb' hc'
      subst ha
      subst hc'
      have hc3 := hS1.c3
      have HS1 := Lib.hid hS1
      have hnl : (namedOf S k).length = min S.entries.length ((k + 1) * 26) - k * 26 := by simp [namedOf]; omega
      have HNL := Lib.hid hnl
      have HCE := Lib.hid hce
      clear hat hX hA hbi hci hpb hnl hS1 hce hbe
      go_wp2_with fail
      have hc3d : W1.drew.cell? ⟨b, 3, none⟩ = some (.slice (some ⟨be, oe, none⟩) S.entries.length capE) := hc3
      obtain ⟨hi, hi1, hi2, hi3, hi4⟩ : ∃ hi : Nat, k * 26 ≤ hi ∧ hi ≤ S.entries.length ∧ hi = min S.entries.length ((k + 1) * 26) ∧ hi ≤ capE := ⟨_, by omega, by omega, rfl, by omega⟩
      have hw1 : IntKind.i64.wrap ((k : Int) * 26) = (k : Int) * 26 := IntWalk.i64_in _ (by omega)
      have hw2 : IntKind.i64.wrap ((k : Int) + 1) = (k : Int) + 1 := IntWalk.i64_in _ (by omega)
      have hw3 : IntKind.i64.wrap (((k : Int) + 1) * 26) = ((k : Int) + 1) * 26 := IntWalk.i64_in _ (by omega)
      have hif : (if ((k : Int) + 1) * 26 < (S.entries.length : Int) then ((k : Int) + 1) * 26 else (S.entries.length : Int)) = (hi : Int) := by split <;> omega
      have HI3 := Lib.hid hi3
      have hi5 : (k : Int) * 26 ≤ (hi : Int) := by omega
      have hi6 : (hi : Int) ≤ (capE : Int) := by omega
      have hi7 : k * 26 < capE := by omega
      have hi8 : ¬ (capE = ((k : Int) * 26).toNat) := by omega
      have hi9 : ¬ (capE = k * 26) := by omega
      clear hi3
      go_cut [6, 15] (fun s6 s15 wx => s6 = .slice (some ⟨be, oe + k * 26 * 4, none⟩) (hi - k * 26) (capE - k * 26) ∧ s15 = .int .i64 k ∧ wx = W1.drew)
      case first =>
        go_region_with (first | fail)
        all_goals (go_wp2_with fail; go_meet; exact ⟨rfl, rfl, rfl⟩)
      case rest =>
        obtain ⟨rfl, rfl, rfl⟩ := hcut
        go_wp2_with fail
        have hnl : (namedOf S k).length = hi - k * 26 := by rw [HNL.out, HI3.out]
        have HNL2 := Lib.hid hnl
        have hkey : (namedOf S k).length = hi - k * 26 := hnl
        have hel : ∀ j, j < hi - k * 26 → ∃ p, S.entries[k * 26 + j]? = some p ∧ (namedOf S k)[j]? = some p := fun j hj => by
          have hlt : k * 26 + j < S.entries.length := by omega
          refine ⟨S.entries[k * 26 + j], List.getElem?_eq_getElem hlt, ?_⟩
          rw [namedOf, List.getElem?_take_of_lt (by have := namedOf_le S k; omega), List.getElem?_drop, List.getElem?_eq_getElem hlt]
        have HEL := Lib.hid hel
        have hn26 : hi - k * 26 ≤ 26 := by have := namedOf_le S k; omega
        have hz0' : W1.drew.drew.heap[w.heap.size]? = some (.cells (bvs (zeros 64)) 108 (0, 0)) := hb1
        have hc4d : W1.drew.drew.cell? ⟨b, 4, none⟩ = some (.slice (some ⟨bi, oi, none⟩) S.index.length capi) := HS1.out.c4
        have HN := Lib.hid (next_any W1.drew.drew _ S.index k (HS1.out.index.keep ((Keeps.refl None' W1).drew.drew) (fun _ _ _ h => h.elim)) hlt (by omega) (fun x hx => by have := H.out.ok.ixs x hx; omega))
        have hnx : ((nextOf S.index k : Nat) : Int) ≤ 18446744073709551615 := by
          have : nextOf S.index k ≤ 100000 := by
            unfold nextOf
            cases h : S.index[k + 1]? with
            | none => simp
            | some y => have := H.out.ok.ixs y (List.mem_of_getElem? h); simp; omega
          omega
        clear hc3 hc3d hb1 hif hw1 hw2 hw3 hclear hnl hkey hel
        generalize hi - k * 26 = nn at *
        go_region_with (first | (go_at_call 154; refine HN.out.mono ?_; rintro e w' ⟨rfl, rfl⟩) | (go_at_call 139; refine (put_any _ 0 2 64 _ _ (zeros 64) 108 (by simp [zeros]) (by omega) hnx hz0').mono ?_; rintro e W2 ⟨rfl, hb2, hk2, -⟩))
        try simp only [Exit.then]
        have HHD := Lib.hid (show idxHead S k = lay (lay (zeros 64) 0 (low 2 (nextOf S.index k))) 2 [UInt8.ofNat nn] by rw [idxHead, HNL2.out])
        have hk02 : Keeps None' w W2 := hkw.drew.drew.trans' hk2 (fun i hi e => by cases e; omega)
        have hp0 : (lay (zeros 64) 0 (low 2 (nextOf S.index k))).length = 64 := by rw [lay_length _ _ _ (by simp [zeros])]; simp [zeros]
        generalize lay (zeros 64) 0 (low 2 (nextOf S.index k)) = p0 at *
        have cp2 := cell_of_blk hb2 2 (v := bv (p0[2]'(by omega))) (by rw [bvs_get, List.getElem?_eq_getElem (by omega)]; rfl)
        have fp2 := free_of_blk hb2 2
        have hu8 : (Value.int .u8 ((nn : Nat) : Int)) = bv (UInt8.ofNat nn) := u8_small _ (by omega)
        have hb3 : (W2.setCell ⟨w.heap.size, 2, none⟩ (.int .u8 ((nn : Nat) : Int))).heap[w.heap.size]? = some (.cells (bvs (lay p0 2 [UInt8.ofNat nn])) 108 (0, 0)) := by rw [heap_setCell_same _ _ _ _ _ _ hb2, hu8, bvs_set _ _ _ (by omega)]
        have hK3 : Keeps None' w (W2.setCell ⟨w.heap.size, 2, none⟩ (.int .u8 ((nn : Nat) : Int))) := hk02.setCell _ _ (fun h => absurd h (Nat.lt_irrefl _))
        have hp1 : (lay p0 2 [UInt8.ofNat nn]).length = 64 := by rw [lay_length _ _ _ (by simp; omega)]; exact hp0
        clear hu8 hz0' hc4d hk02
        go_wp2_with fail
        have hK3r : Keeps (One w.heap.size) wo (W2.setCell ⟨w.heap.size, 2, none⟩ (.int .u8 ((nn : Nat) : Int))) := ((hk1.drew.drew).trans hk2).setCell _ _ (fun _ => rfl)
        generalize hW3 : W2.setCell ⟨w.heap.size, 2, none⟩ (.int .u8 ((nn : Nat) : Int)) = W3 at *
        have HHD2 := Lib.hid hK3
        generalize lay p0 2 [UInt8.ofNat nn] = p1 at *
        have h0 : InAt w wo (namedOf S k) p1 0 W3 := ⟨hb3, hK3r⟩
        clear hW3 cp2 fp2 hb2 hk2 hK3 hb3 hK3r hk1 hkw HN
        go_loopw [51] (fun i v => ∃ j : Nat, j ≤ nn ∧ i = .int .i64 j ∧ InAt w wo (namedOf S k) p1 j v) (fun i _ => nn - (intOf i).toNat)
        case atStart => exact ⟨0, Nat.zero_le _, rfl, h0⟩
        case round =>
          obtain ⟨j, hj, rfl, hI⟩ := hrel
          clear h0
          by_cases hjn : j < nn
          · obtain ⟨q, hq1, hq2⟩ := HEL.out j hjn
            have hkv : Keeps None' w wr := HA.out.keeps.trans' hI.keeps (fun i hi e => by cases e; omega)
            have hSv := H.out.keep hkv (spares_none _)
            obtain ⟨be', oe', cape', cse', hee', _, hbe', hce'⟩ : ∃ b off cap cs, (Value.slice (some ⟨be, oe, none⟩) S.entries.length capE) = .slice (some ⟨b, off, none⟩) S.entries.length cap ∧ (S.entries ≠ [] ∧ S.entries.length ≤ cap) ∧ wr.heap[b]? = some (.cells cs 121 (0, 0)) ∧
                ∀ (i : Nat) (p : Placed), S.entries[i]? = some p → ∃ pv, RInts wr pv p.pages ∧ cs[off + i * 4]? = some (.int .i64 p.e.house) ∧ cs[off + i * 4 + 1]? = some (.int .i64 p.e.no) ∧ cs[off + i * 4 + 2]? = some (.string (str p.e.body)) ∧ cs[off + i * 4 + 3]? = some pv := by
              rcases hSv.entries with ⟨h, _⟩ | h
              · cases h
              · exact h
            injection hee' with ha hb' hc'
            injection ha with ha
            injection ha with ha1 ha2
            subst ha1
            subst ha2
            subst hc'
            obtain ⟨pv, hpv, hc0, hc1, hc2, hc3⟩ := hce' _ q hq1
            have hqe := H.out.ok.each q (List.mem_of_getElem? hq1)
            obtain ⟨y, ys, hys⟩ : ∃ y ys, q.pages = y :: ys := by
              cases h : q.pages with
              | nil => exact absurd h hqe.2.1
              | cons y ys => exact ⟨y, ys, rfl⟩
            have HYS := Lib.hid hys
            rw [hys] at hpv
            obtain ⟨bq, oq, capq, rfl, hcq⟩ := hpv.head
            have hy : (y : Int) ≤ 1024 := by have := hqe.2.2.2 y (by rw [hys]; exact List.mem_cons_self); omega
            have hyl : ys.length ≤ 1024 := by have := hqe.2.2.1; rw [hys] at this; simp at this; omega
            rw [show oe + (k * 26 + j) * 4 = oe + k * 26 * 4 + j * 4 by omega] at hc0 hc1 hc2 hc3
            have d0 := cell_of_blk hbe' _ hc0
            have d1 := cell_of_blk hbe' _ hc1
            have d2 := cell_of_blk hbe' _ hc2
            have d3 := cell_of_blk hbe' _ hc3
            have HI := Lib.hid hI
            have HSV := Lib.hid hSv
            have HQ2 := Lib.hid hq2
            have hwy : IntKind.u64.wrap (y : Int) = (y : Int) := IntWalk.u64_in _ (by omega)
            clear hI hSv hq1 hq2 hce' hbe' hc0 hc1 hc2 hc3 hqe hys hpv
            go_wp2_with (first | (refine (head_1 _).mono ?_; rintro r W' ⟨rfl, rfl⟩))
            obtain ⟨a, ha⟩ : ∃ a : Nat, 3 + 2 * (j : Int) = (a : Int) := ⟨3 + 2 * j, by omega⟩
            have ha2 : 3 + 2 * j = a := by omega
            have HA2 := Lib.hid ha2
            have hal : a ≤ 55 := by omega
            rw [ha]
            refine gen_wp (fun W => W.cell? ⟨wr.heap.size, 3, none⟩ = some (.slice (some ⟨bq, oq, none⟩) (ys.length + 1) capq) ∧ W.cell? ⟨bq, oq, none⟩ = some (.int .i64 y) ∧ Keeps None' wr W) ⟨cell_of_blk (heap_alloc_new _ _) 3 rfl, (((Keeps.refl None' wr).alloc _).cell (p := ⟨bq, oq, none⟩) (block_lt_of_cell hcq) (fun h => h)).trans hcq, (Keeps.refl _ _).alloc _⟩ ?_
            rintro W4 ⟨hn3, hq3, hk4⟩
            have hn3' : W4.drew.cell? ⟨wr.heap.size, 3, none⟩ = some (.slice (some ⟨bq, oq, none⟩) (ys.length + 1) capq) := hn3
            have hq3' : W4.drew.cell? ⟨bq, oq, none⟩ = some (.int .i64 y) := hq3
            have hb4 : W4.drew.heap[w.heap.size]? = some (.cells (bvs (nameInto (namedOf S k) j p1)) 108 (0, 0)) := hk4.drew.blk HI.out.blk (fun h => h)
            have hl4 := nameInto_length (namedOf S k) p1 hp1 j (by omega)
            have hfirst : firstOf (namedOf S k) j = y := by have h := HYS.out; simp [firstOf, HQ2.out, h]
            have HF := Lib.hid hfirst
            have hy2 : (y : Int) ≤ 18446744073709551615 := by omega
            have hsl := run_slice_pg2 W4.drew w.heap.size a (by omega)
            have hwa : IntKind.i64.wrap ((a : Int) + 2) = (a : Int) + 2 := IntWalk.i64_in _ (by omega)
            clear ha ha2 hfirst hn3 hq3 hcq d0 d1 d2 d3
            generalize hP : nameInto (namedOf S k) j p1 = pj at *
            have HP := Lib.hid hP
            clear hP
            go_region_with (first | (go_at_call 139; refine (put_any _ a 2 (64 - a) _ _ pj 108 (by omega) (by omega) hy2 hb4).mono ?_; rintro e W5 ⟨rfl, hb5, hk5, -⟩))
            all_goals
              try simp only [Exit.then]
              have hnext : InAt w wo (namedOf S k) p1 (j + 1) W5 := ⟨by rw [nameInto_succ, HP.out, HF.out, HA2.out]; exact hb5, (HI.out.keeps.trans' hk4.drew (fun _ _ h => h.elim)).trans hk5⟩
              clear hb5 hk5 hb4 HSV
              go_wp2
              go_roundw
              case rel => first | exact ⟨j + 1, by omega, by go_num, hnext⟩ | ((repeat apply Exists.intro); exact ⟨⟨j + 1, by omega, by go_num, hnext⟩, rfl⟩)
              case measure => simp [intOf]; omega
          · obtain rfl : j = nn := by omega
            have hidx : idxRaw S k = nameInto (namedOf S k) j p1 := by rw [idxRaw, HNL2.out, HHD.out]
            have hl2 := nameInto_length (namedOf S k) p1 hp1 j (by omega)
            have hb3 := hI.blk
            have hkI := hI.keeps
            have HRAW := Lib.hid hidx
            clear hidx hI hnx
            generalize nameInto (namedOf S k) j p1 = p2 at *
            have hrange : wr.rangeAt w.heap.size 0 (p2.map bv) := rangeAt_of_blk hb3 0 _ (by simp [bvs])
            have hse : Calls Tryz.prog 140 #[.agg (p2.map bv).toArray, .int .i64 x] wr fun e w' => e = .returned (.agg (bvs (sealP x p2))) ∧ Keeps None' wr w' := sealed_any x wr p2 hl2
            have HSE := Lib.hid hse
            have hip : (Tryz.prog.info? 108).map (·.size) = some (p2.map bv).length := by rw [info_page]; simp [hl2]
            clear hse
            go_wp2_with (first | (refine wpList_load_mid rfl _ _ rfl w.heap.size 0 rfl _ _ hrange Tryz.underlying108 rfl hip ?_))
            refine HSE.out.mono ?_
            rintro r W4 ⟨rfl, hk4⟩
            have hb4 := hk4.blk hb3 (fun h => h)
            have hK4 : Keeps (One w.heap.size) wo W4 := hkI.trans' hk4 (fun _ _ h => h.elim)
            have hp4 : (sealP x p2).length = 64 := sealP_length _ _ hl2
            have hne : u2.ownBlock ≠ some w.heap.size := own_ne_type (own_keep HA.out.own (S := None') (Keeps.refl _ _) (fun _ _ h => h)) HPB.out (by decide)
            have hownW := own_keep (HA.out.own) hK4 (fun b hb e => hne (by rw [hb, show b = w.heap.size from e]))
            obtain ⟨i0, hi, hz1, hz2, hz3⟩ := info_parts info_write3
            have hws : w.heap.size ≤ W4.heap.size := Nat.le_trans HA.out.keeps.size hK4.size
            clear HSE hrange hip hk4 hp1
            go_wp2_with (first | (refine list_buildWr rfl _ _ rfl x (bvs (sealP x p2)) rfl rfl (by simpa [bvs] using hp4) ?_) | (refine list_sliceWr rfl _ rfl (#[.int .i64 (x : Int)] ++ bvs (sealP x p2)) rfl (by simp [bvs, hp4]) ?_) | (refine list_append_own rfl _ _ _ rfl w.heap.size 110 i0 _ 65 72 Tryz.underlying99 hi hz1 hz2 hz3 (by simp [zeros, Value.cells]) (by decide) u2 k (writeCells ((List.range k).map (idxWrite S))) rfl (own_keep hownW ((Keeps.refl None' W4).alloc _) (fun _ _ h => h)) ⟨W4.heap.size, 0, none⟩ 1 1 (.int .i64 x :: (sealP x p2).map bv) rfl (by simp [hp4]) (by simpa [bvs] using new_cells W4 (.int .i64 x :: (sealP x p2).map bv) 110) (one_cells x _) (by unfold maxLen; omega) (by omega) (by simp; omega) ?_; intro v' w2 hown' hgrow hfr))
            have hpw : idxWrite S k = (x, sealP x p2) := by rw [idxWrite, HAT.out, HRAW.out]
            have hnew : writeCells ((List.range k).map (idxWrite S)) ++ (.int .i64 x :: (sealP x p2).map bv) = writeCells ((List.range (k + 1)).map (idxWrite S)) := by
              rw [List.range_succ, List.map_append, show ∀ a b, writeCells (a ++ b) = writeCells a ++ writeCells b from fun a b => by simp [writeCells]]
              simp [writeCells, hpw]
            have hnext : IdxAt w S (k + 1) v' w2 := by
              refine ⟨?_, (HA.out.keeps.trans' (hK4.alloc _) (fun i hi e => by cases e; omega)).trans' (grownBy_keeps hgrow) (fun i hi e => ?_), p2, hl2, (grownBy_keeps hgrow).blk (((Keeps.refl None' W4).alloc _).blk hb4 (fun h => h)) (fun e => hne e.symm)⟩
              · rw [← hnew]; exact hown'
              · have := (HA.out.own.lt i e.symm).1
                omega
            clear hown' hgrow hfr hownW HA
            go_roundw
            case rel => exact ⟨k + 1, by omega, by go_num, hnext⟩
            case measure => simp [intOf]; omega
    · obtain rfl : k = S.index.length := by omega
      have HA := Lib.hid hA
      clear hA
      go_wp2
      go_ret
      refine ⟨_, rfl, ?_, HA.out.keeps⟩
      have := HA.out.own
      rw [show (idxWrites S).length = S.index.length by simp [idxWrites]]
      exact this
end Go.Proofs.YtlbaagjbehdmgaaGreat
