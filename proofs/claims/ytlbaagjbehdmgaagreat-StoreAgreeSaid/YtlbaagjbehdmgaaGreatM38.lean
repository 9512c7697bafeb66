/- Law helpers: few, little; whether an entry of a list has a property. Law helpers: lists of entries compared, picked, their pages counted. Stores that live; made. Take of a store that lives; after. equal, of stores that have the same. -/
import Derived.Test.YtlbaagjbehdmgaaGreatM37
import Derived.Test.YtlbaagjbehdmgaaGreatM35
import Derived.Deep.RegionHeld3
import Derived.Test.YtlbaagjbehdmgaaGreatM16
namespace Go.Proofs.YtlbaagjbehdmgaaGreat
open Go.RowKit

/-- a function value that answers p -/
def Answers (w : World) (F : Nat) (caps : Array Value) (p : Ent → Bool) : Prop := ∀ (e : Ent) (W : World), Keeps None' w W → Calls Tryz.prog F (#[.agg #[.int .i64 e.house, .int .i64 e.no, .string (str e.body)]] ++ caps) W fun r w' => r = .returned (.bool (p e)) ∧ Keeps None' W w'
def IdxE (w : World) (L : List Ent) (p : Ent → Bool) (e : Ending) (w' : World) : Prop := ∃ n : Int, e = .returned (.int .i64 n) ∧ (0 ≤ n ↔ L.any p = true) ∧ Keeps None' w w'
set_option maxRecDepth 100000 in
set_option maxHeartbeats 1000000 in
theorem indexE_any (F : Nat) (caps : Array Value) (p : Ent → Bool) (w : World) (v : Value) (L : List Ent) (hv : EntSl w v L) (hL : L.length ≤ 100000) (hF : ∀ args W, (callFunc F args).run Tryz.prog W = .ok (.enter F args) W) (hA : Answers w F caps p) :
    Calls Tryz.prog 82 #[v, .func (.func F) #[] caps] w fun e w' => IdxE w L p e w' := by
  obtain ⟨va, vcap, rfl⟩ := hv.shape
  have HV := Lib.hid hv
  have HA := Lib.hid hA
  clear hv hA
  go_enter Tryz.func82, Tryz.ntmps82
  go_wp2_with fail
  go_loopw [8] (fun j wr => ∃ k : Nat, k ≤ L.length ∧ j = .int .i64 k ∧ Keeps None' w wr ∧ (L.take k).any p = false) (fun j _ => L.length - (intOf j).toNat)
  case atStart => exact ⟨0, Nat.zero_le _, rfl, Keeps.refl _ _, rfl⟩
  case round =>
    obtain ⟨k, hk, rfl, hkp, hno⟩ := hrel
    have HK := Lib.hid hkp
    by_cases hlt : k < L.length
    · obtain ⟨b, off, rfl, hblt, hcap, d0, d1, d2⟩ := (HV.out.keep hkp).get k hlt
      have hts := List.take_succ_eq_append_getElem hlt
      have hkI : (k : Int) < (L.length : Int) := by omega
      have HC := Lib.hid (HA.out L[k] wr hkp)
      have hany : L[k] ∈ L := List.getElem_mem hlt
      have HNO := Lib.hid hno
      have HTS := Lib.hid hts
      clear hkp hno hts
      generalize L[k] = E at *
      cases hp : p E with
      | true =>
        have HY := Lib.hid (show L.any p = true from List.any_eq_true.2 ⟨E, hany, hp⟩)
        rw [hp] at HC
        clear hp
        go_wp2_with (first | (refine HC.out.mono ?_; rintro r W4 ⟨rfl, hk4⟩))
        go_ret
        exact ⟨_, rfl, ⟨fun _ => HY.out, fun _ => by omega⟩, HK.out.trans hk4⟩
      | false =>
        have HN := Lib.hid (show (L.take (k + 1)).any p = false by rw [HTS.out, List.any_append, HNO.out]; simp [hp])
        rw [hp] at HC
        clear hp
        go_wp2_with (first | (refine HC.out.mono ?_; rintro r W4 ⟨rfl, hk4⟩))
        go_roundw
        case rel => exact ⟨k + 1, by omega, by go_num, HK.out.trans hk4, HN.out⟩
        case measure => simp [intOf]; omega
    · obtain rfl : k = L.length := by omega
      rw [List.take_length] at hno
      have HN2 := Lib.hid hno
      clear hno hkp
      go_wp2
      go_ret
      exact ⟨_, rfl, ⟨fun h => absurd h (by decide), fun h => by rw [HN2.out] at h; cases h⟩, HK.out⟩
set_option maxHeartbeats 1000000 in
theorem containsE_any (F : Nat) (caps : Array Value) (p : Ent → Bool) (w : World) (v : Value) (L : List Ent) (hv : EntSl w v L) (hL : L.length ≤ 100000) (hF : ∀ args W, (callFunc F args).run Tryz.prog W = .ok (.enter F args) W) (hA : Answers w F caps p) :
    Calls Tryz.prog 47 #[v, .func (.func F) #[] caps] w fun e w' => e = .returned (.bool (L.any p)) ∧ Keeps None' w w' := by
  have HI := Lib.hid (indexE_any F caps p w v L hv hL hF hA)
  clear hv hA
  go_enter Tryz.func47, Tryz.ntmps47
  go_wp2_with (first | (refine HI.out.mono ?_; rintro r W4 ⟨n, rfl, hn, hk4⟩; have HN := Lib.hid hn; clear hn))
  go_ret
  have hn := HN.out
  refine ⟨ret_bool ?_, hk4⟩
  cases ha : L.any p with
  | true => exact decide_eq_true (hn.2 ha)
  | false => exact decide_eq_false (fun h => by rw [hn.1 h] at ha; cases ha)
def fewP (L : List Ent) : Bool := decide (L.length ≤ 24) && !(L.any fun e => decide (200 < e.body.length))
set_option maxHeartbeats 1000000 in
theorem few1_any (e : Ent) (w : World) : Calls Tryz.prog 108 #[.agg #[.int .i64 e.house, .int .i64 e.no, .string (str e.body)]] w fun r w' => r = .returned (.bool (decide (200 < e.body.length))) ∧ Keeps None' w w' := by
  have hs : (str e.body).size = e.body.length := str_size e.body
  go_enter Tryz.func108, Tryz.ntmps108
  go_wp2
  go_ret
  exact ⟨ret_bool (by rw [Bool.eq_iff_iff]; simp; omega), (Keeps.refl _ _).alloc _⟩
set_option maxHeartbeats 1000000 in
theorem few_any (w : World) (v : Value) (L : List Ent) (hv : EntSl w v L) : Calls Tryz.prog 69 #[v] w fun r w' => r = .returned (.bool (fewP L)) ∧ Keeps None' w w' := by
  obtain ⟨va, vcap, rfl⟩ := hv.shape
  by_cases h : L.length ≤ 24
  · have HC := Lib.hid (containsE_any 108 #[] _ w _ L hv (by omega) (fun _ _ => by kernel_rfl) (fun e W _ => few1_any e W))
    have HF := Lib.hid (show fewP L = !(L.any fun e => decide (200 < e.body.length)) by simp [fewP, h])
    clear hv
    go_enter Tryz.func69, Tryz.ntmps69
    go_wp2_with (first | (refine HC.out.mono ?_; rintro r W4 ⟨rfl, hk4⟩))
    go_ret
    exact ⟨by rw [HF.out]; rfl, hk4⟩
  · have HF := Lib.hid (show fewP L = false by simp [fewP, h])
    have hb : decide (L.length ≤ 24) = false := decide_eq_false h
    clear hv
    go_enter Tryz.func69, Tryz.ntmps69
    go_wp2
    go_ret
    exact ⟨by rw [HF.out]; rfl, Keeps.refl _ _⟩
def littleP (h p : Int) (L : List Ent) : Bool := decide (1 ≤ h) && decide (h ≤ 8) && decide (2 ≤ p) && decide (p ≤ 100) && fewP L
/-- a world as a value -/
def worldV (h p : Int) (v : Value) : Value := .agg #[.int .i64 h, .int .i64 p, v]
set_option maxHeartbeats 2000000 in
theorem little_any (w : World) (h p : Int) (v : Value) (L : List Ent) (hv : EntSl w v L) : Calls Tryz.prog 32 #[.agg #[.int .i64 h, .int .i64 p, v]] w fun r w' => r = .returned (.bool (littleP h p L)) ∧ Keeps None' w w' := by
  obtain ⟨va, vcap, rfl⟩ := hv.shape
  have HFW := Lib.hid (fun W (hk : Keeps None' w W) => few_any W _ L (hv.keep hk))
  clear hv
  have hk0 : Keeps None' w (w.alloc (.cells #[.int .i64 h, .int .i64 p, .slice va L.length vcap] 46)) := (Keeps.refl _ _).alloc _
  by_cases h1 : 1 ≤ h
  case neg =>
    have HP := Lib.hid (show littleP h p L = false by simp [littleP, h1])
    have hb : decide (1 ≤ h) = false := decide_eq_false h1
    go_enter Tryz.func32, Tryz.ntmps32
    go_wp2
    go_ret
    exact ⟨by rw [HP.out]; rfl, hk0⟩
  by_cases h2 : h ≤ 8
  case neg =>
    have HP := Lib.hid (show littleP h p L = false by simp [littleP, h2])
    have hb : decide (h ≤ 8) = false := decide_eq_false h2
    go_enter Tryz.func32, Tryz.ntmps32
    go_wp2
    go_ret
    exact ⟨by rw [HP.out]; rfl, hk0⟩
  by_cases h3 : 2 ≤ p
  case neg =>
    have HP := Lib.hid (show littleP h p L = false by simp [littleP, h3])
    have hb : decide (2 ≤ p) = false := decide_eq_false h3
    go_enter Tryz.func32, Tryz.ntmps32
    go_wp2
    go_ret
    exact ⟨by rw [HP.out]; rfl, hk0⟩
  by_cases h4 : p ≤ 100
  case neg =>
    have HP := Lib.hid (show littleP h p L = false by simp [littleP, h4])
    have hb : decide (p ≤ 100) = false := decide_eq_false h4
    go_enter Tryz.func32, Tryz.ntmps32
    go_wp2
    go_ret
    exact ⟨by rw [HP.out]; rfl, hk0⟩
  have HP := Lib.hid (show littleP h p L = fewP L by simp [littleP, h1, h2, h3, h4])
  go_enter Tryz.func32, Tryz.ntmps32
  go_wp2_with (first | (refine (HFW.out _ hk0).mono ?_; rintro r W4 ⟨rfl, hk4⟩))
  go_ret
  exact ⟨by rw [HP.out]; rfl, hk0.trans hk4⟩
end Go.Proofs.YtlbaagjbehdmgaaGreat

namespace Go.Proofs.YtlbaagjbehdmgaaGreat
open Go.RowKit

theorem run_neq_ent (a b : Ent) (w : World) : (binOp .neq 64 (.agg #[.int .i64 a.house, .int .i64 a.no, .string (str a.body)]) (.agg #[.int .i64 b.house, .int .i64 b.no, .string (str b.body)])).run Tryz.prog w = .ok (.bool (!decide (a = b))) w := by
  obtain ⟨ah, an, ab⟩ := a
  obtain ⟨bh, bn, bb⟩ := b
  have hd : decide (Ent.mk ah an ab = Ent.mk bh bn bb) = (ah == bh && (an == bn && ab == bb)) := by
    rw [Bool.eq_iff_iff]
    simp only [decide_eq_true_eq, Ent.mk.injEq, Bool.and_eq_true, beq_iff_eq]
  rw [hd]
  have hst : Tryz.prog.stoodInHeld 64 = false := by kernel_rfl
  have hstr := str_eq ab bb
  by_cases h1 : (ah == bh) = true
  · by_cases h2 : (an == bn) = true
    · simp [go_sem, Tryz.underlying64, Tryz.underlying3, Tryz.underlying9, hst, h1, h2, hstr]
      by_cases h3 : ab = bb <;> simp [h3]
    · have h2' : (an == bn) = false := by simpa using h2
      simp [go_sem, Tryz.underlying64, Tryz.underlying3, Tryz.underlying9, hst, h1, h2']
  · have h1' : (ah == bh) = false := by simpa using h1
    simp [go_sem, Tryz.underlying64, Tryz.underlying3, Tryz.underlying9, hst, h1']
theorem takeE_step {l m : List Ent} {k : Nat} (x y : Ent) (hx : l[k]? = some x) (hy : m[k]? = some y) (ht : l.take k = m.take k) (e : x = y) : l.take (k + 1) = m.take (k + 1) := by
  obtain ⟨h1, rfl⟩ := List.getElem?_eq_some_iff.1 hx
  obtain ⟨h2, rfl⟩ := List.getElem?_eq_some_iff.1 hy
  rw [List.take_succ_eq_append_getElem h1, List.take_succ_eq_append_getElem h2, ht, e]
set_option maxRecDepth 100000 in
set_option maxHeartbeats 2000000 in
theorem equalE_any (v1 v2 : Value) (l m : List Ent) (w : World) (h1 : EntSl w v1 l) (h2 : EntSl w v2 m) (hl : l.length ≤ 100000) :
    Calls Tryz.prog 43 #[v1, v2] w fun e w' => e = .returned (.bool (decide (l = m))) ∧ Keeps None' w w' := by
  obtain ⟨a1, c1, rfl⟩ := h1.shape
  obtain ⟨a2, c2, rfl⟩ := h2.shape
  have HC1 := Lib.hid h1
  have HC2 := Lib.hid h2
  clear h1 h2
  by_cases hlen : l.length = m.length
  case neg =>
    have HN := Lib.hid (show decide (l = m) = false from decide_eq_false (fun e => hlen (by rw [e])))
    have hI : ((l.length : Int) != (m.length : Int)) = true := by rw [bne_iff_ne]; omega
    clear hlen
    go_enter Tryz.func43, Tryz.ntmps43
    go_wp2
    go_ret
    exact ⟨ret_bool HN.out.symm, Keeps.refl _ _⟩
  have hI : ((l.length : Int) != (m.length : Int)) = false := by rw [hlen]; simp
  have HL := Lib.hid hlen
  clear hlen
  go_enter Tryz.func43, Tryz.ntmps43
  go_wp2
  go_loopw [13] (fun i wr => ∃ k : Nat, k ≤ l.length ∧ i = .int .i64 k ∧ Keeps None' w wr ∧ l.take k = m.take k) (fun i _ => l.length - (intOf i).toNat)
  case atStart => exact ⟨0, Nat.zero_le _, rfl, Keeps.refl _ _, by simp⟩
  case round =>
    obtain ⟨k, hk, rfl, hkw, htk⟩ := hrel
    by_cases hkl : k < l.length
    case neg =>
      obtain rfl : k = l.length := by omega
      have hlm := HL.out
      have HY := Lib.hid (show decide (l = m) = true from decide_eq_true (by
        rw [List.take_length] at htk
        rw [hlm, List.take_length] at htk
        exact htk))
      have HK := Lib.hid hkw
      clear htk hlm hkw
      go_wp2
      go_ret
      exact ⟨ret_bool HY.out.symm, HK.out⟩
    have hlm := HL.out
    have hkm : k < m.length := by omega
    obtain ⟨b1, o1, rfl, hb1, hc1, x0, x1, x2⟩ := (HC1.out.keep hkw).get k hkl
    obtain ⟨b2, o2, rfl, hb2, hc2, y0, y1, y2⟩ := (HC2.out.keep hkw).get k hkm
    have hkI : (k : Int) < (l.length : Int) := by omega
    have hkI2 : (k : Int) < (m.length : Int) := by omega
    have HTK := Lib.hid (fun (e : l[k] = m[k]) => takeE_step l[k] m[k] (by simp [hkl]) (by simp [hkm]) htk e)
    have HNE := Lib.hid (fun (e : ¬ l[k] = m[k]) => show decide (l = m) = false from decide_eq_false (fun h => e (by subst h; rfl)))
    have HK := Lib.hid hkw
    clear htk hkw hlm
    generalize l[k] = x at *
    generalize m[k] = y at *
    have hneq := fun W => run_neq_ent x y W
    by_cases hxy : x = y
    · have HT := Lib.hid (HTK.out hxy)
      have hd : decide (x = y) = true := decide_eq_true hxy
      simp only [hd, Bool.not_true] at hneq
      clear hxy hd HTK HNE
      obtain ⟨xh, xn, xb⟩ := x
      obtain ⟨yh, yn, yb⟩ := y
      dsimp only at *
      go_wp2_with fail
      go_quiet (fail)
      go_wp2
      go_roundw
      case rel => exact ⟨k + 1, by omega, by go_num, HK.out.drewN _, HT.out⟩
      case measure => simp [intOf]; omega
    · have HN := Lib.hid (HNE.out hxy)
      have hd : decide (x = y) = false := decide_eq_false hxy
      simp only [hd, Bool.not_false] at hneq
      clear hxy hd HTK HNE
      obtain ⟨xh, xn, xb⟩ := x
      obtain ⟨yh, yn, yb⟩ := y
      dsimp only at *
      go_wp2_with fail
      go_quiet (fail)
      go_wp2
      go_ret
      exact ⟨ret_bool HN.out.symm, HK.out.drewN _⟩
/-- v reads as the numbers zs -/
def IntSl (w : World) (v : Value) (zs : List Int) : Prop :=
  (∃ a cap, v = .slice a 0 cap ∧ zs = []) ∨ ∃ b off cap, v = .slice (some ⟨b, off, none⟩) zs.length cap ∧ b < w.heap.size ∧ zs.length ≤ cap ∧ w.rangeAt b off (zs.map (Value.int .i64))
theorem IntSl.keep {w w' : World} {v : Value} {L : List Int} (h : IntSl w v L) (k : Keeps None' w w') : IntSl w' v L := by
  rcases h with h | ⟨b, off, cap, hv, hb, hc, hr⟩
  · exact .inl h
  · exact .inr ⟨b, off, cap, hv, Nat.lt_of_lt_of_le hb k.size, hc, k.range hr (fun h => h)⟩
theorem IntSl.shape {w : World} {v : Value} {L : List Int} (h : IntSl w v L) : ∃ a cap, v = .slice a L.length cap := by
  rcases h with ⟨a, cap, rfl, rfl⟩ | ⟨b, off, cap, rfl, _⟩
  · exact ⟨_, _, rfl⟩
  · exact ⟨_, _, rfl⟩
theorem IntSl.get {w : World} {a : Option Addr} {cap : Nat} {L : List Int} (h : IntSl w (.slice a L.length cap) L) (i : Nat) (hi : i < L.length) :
    ∃ b off, a = some ⟨b, off, none⟩ ∧ b < w.heap.size ∧ L.length ≤ cap ∧ w.cell? ⟨b, off + i, none⟩ = some (.int .i64 L[i]) := by
  rcases h with ⟨a', cap', _, h⟩ | ⟨b, off, cap', he, hb, hc, hr⟩
  · rw [h] at hi; simp at hi
  · injection he with h1 h2 h3
    subst h1; subst h3
    exact ⟨b, off, rfl, hb, hc, hr i _ (by simp [hi])⟩
/-- the entries at indices -/
def pickE (L : List Ent) (zs : List Int) : List Ent := zs.filterMap fun i => if 0 ≤ i then L[i.toNat]? else none
theorem pickE_snoc (L : List Ent) (zs : List Int) (i : Int) : pickE L (zs ++ [i]) = pickE L zs ++ (match (if 0 ≤ i then L[i.toNat]? else none) with | some e => [e] | none => []) := by
  unfold pickE
  rw [List.filterMap_append]
  congr 1
  cases h : (if 0 ≤ i then L[i.toNat]? else none) <;> simp [h]
theorem pickE_len (L : List Ent) (zs : List Int) : (pickE L zs).length ≤ zs.length := List.length_filterMap_le _ _
theorem pickE_mem {L : List Ent} {zs : List Int} {e : Ent} (h : e ∈ pickE L zs) : e ∈ L := by
  obtain ⟨i, _, hi⟩ := List.mem_filterMap.1 h
  split at hi
  · exact List.mem_of_getElem? hi
  · cases hi
def EntsFresh (w : World) (L : List Ent) (e : Ending) (w' : World) : Prop := ∃ v, e = .returned v ∧ w'.ownsRow w.heap.size 64 3 v L.length (entCells L) ∧ Keeps None' w w'
structure PickAt (w : World) (L : List Ent) (zs : List Int) (k : Nat) (v : Value) (wr : World) : Prop where
  own : wr.ownsRow (w.heap.size + 1) 64 3 v (pickE L (zs.take k)).length (entCells (pickE L (zs.take k)))
  keeps : Keeps None' w wr
theorem slice_ent1 (w : World) (h n : Int) (s : ByteArray) : (Instr.buildSlice 44 1 #[(0, .agg #[.int .i64 h, .int .i64 n, .string s])]).run Tryz.prog w = .ok (.slice (some ⟨w.heap.size, 0, none⟩) 1 1) (w.alloc (.cells #[.int .i64 h, .int .i64 n, .string s] 64)) :=
  run_buildSlice_one (P := Tryz.prog) w 44 64 3 _ _ Tryz.underlying44 (by kernel_rfl) (zeroEnt w) rfl rfl (by omega) (by omega)
set_option maxRecDepth 100000 in
set_option maxHeartbeats 2000000 in
theorem pick_any (w : World) (h p : Int) (v vz : Value) (L : List Ent) (zs : List Int) (hv : EntSl w v L) (hz : IntSl w vz zs) (hZ : zs.length ≤ 100000) :
    Calls Tryz.prog 33 #[.agg #[.int .i64 h, .int .i64 p, v], vz] w fun e w' => EntsFresh w (pickE L zs) e w' := by
  obtain ⟨va, vcap, rfl⟩ := hv.shape
  obtain ⟨za, zcap, rfl⟩ := hz.shape
  have HV := Lib.hid hv
  have HZ := Lib.hid hz
  clear hv hz
  obtain ⟨i0, hi, hz0, hz1, hz2⟩ := info_parts info_ent3
  have hbs := slice_ent1
  go_enter Tryz.func33, Tryz.ntmps33
  go_wp2_with fail
  have hblk := heap_alloc_new w (.cells #[.int .i64 h, .int .i64 p, .slice va L.length vcap] 46)
  have hk0 : Keeps None' w (w.alloc (.cells #[.int .i64 h, .int .i64 p, .slice va L.length vcap] 46)) := (Keeps.refl _ _).alloc _
  have hbx : ∀ W, Keeps None' (w.alloc (.cells #[.int .i64 h, .int .i64 p, .slice va L.length vcap] 46)) W → W.cell? ⟨w.heap.size, 2, none⟩ = some (.slice va L.length vcap) ∧ w.heap.size < W.heap.size := fun W hW => by
    have hb := hW.blk hblk (fun h => h)
    exact ⟨cell_of_blk hb 2 rfl, lt_of_block hb⟩
  have HBX := Lib.hid hbx
  have HK0 := Lib.hid hk0
  clear hblk hk0 hbx
  go_loopw [5, 10] (fun v i wr => ∃ k : Nat, k ≤ zs.length ∧ i = .int .i64 k ∧ PickAt w L zs k v wr ∧ Keeps None' (w.alloc (.cells #[.int .i64 h, .int .i64 p, .slice va L.length vcap] 46)) wr) (fun _ i _ => zs.length - (intOf i).toNat)
  case atStart => exact ⟨0, Nat.zero_le _, rfl, ⟨by simpa [pickE, entCells] using World.ownsRow_nil _ _ _ _, HK0.out⟩, Keeps.refl _ _⟩
  case round =>
    obtain ⟨k, hk, rfl, hA, hK⟩ := hrel
    by_cases hlt : k < zs.length
    · obtain ⟨zb, zo, rfl, hzb, hzc, hzv⟩ := (HZ.out.keep hA.keeps).get k hlt
      obtain ⟨x2, xlt⟩ := HBX.out wr hK
      have hts := List.take_succ_eq_append_getElem hlt
      have hsn : pickE L (zs.take (k + 1)) = pickE L (zs.take k) ++ (match (if 0 ≤ zs[k] then L[zs[k].toNat]? else none) with | some e => [e] | none => []) := by rw [hts, pickE_snoc]
      have hkI : (k : Int) < (zs.length : Int) := by omega
      have hpl : (pickE L (zs.take k)).length ≤ k := Nat.le_trans (pickE_len _ _) (by simp; omega)
      have HA := Lib.hid hA
      have HK := Lib.hid hK
      have HSN := Lib.hid hsn
      clear hA hK hts hsn
      generalize zs[k] = z at *
      by_cases h0 : 0 ≤ z
      case neg =>
        have hb0 : decide (0 ≤ z) = false := decide_eq_false h0
        have hnx : pickE L (zs.take (k + 1)) = pickE L (zs.take k) := by rw [HSN.out, if_neg h0]; simp
        have HNX := Lib.hid (fun W (hW : Keeps None' wr W) => (⟨by rw [hnx]; exact own_keep HA.out.own hW (fun _ _ h => h), HA.out.keeps.trans hW⟩ : PickAt w L zs (k + 1) u5 W))
        clear hnx
        go_wp2
        go_roundw
        case rel => exact ⟨k + 1, by omega, by go_num, HNX.out _ (Keeps.refl _ _), HK.out⟩
        case measure => simp [intOf]; omega
      by_cases h1 : z < (L.length : Int)
      case neg =>
        have hb1 : decide (z < (L.length : Int)) = false := decide_eq_false h1
        have hnx : pickE L (zs.take (k + 1)) = pickE L (zs.take k) := by rw [HSN.out, if_pos h0, List.getElem?_eq_none (by omega)]; simp
        have HNX := Lib.hid (fun W (hW : Keeps None' wr W) => (⟨by rw [hnx]; exact own_keep HA.out.own hW (fun _ _ h => h), HA.out.keeps.trans hW⟩ : PickAt w L zs (k + 1) u5 W))
        clear hnx
        go_wp2
        go_roundw
        case rel => exact ⟨k + 1, by omega, by go_num, HNX.out _ (Keeps.refl _ _), HK.out⟩
        case measure => simp [intOf]; omega
      obtain ⟨m, rfl⟩ : ∃ m : Nat, z = (m : Int) := ⟨z.toNat, by omega⟩
      have hml : m < L.length := by omega
      obtain ⟨b, off, rfl, hblt, hcap, d0, d1, d2⟩ := (HV.out.keep HA.out.keeps).get m hml
      have hnx : pickE L (zs.take (k + 1)) = pickE L (zs.take k) ++ [L[m]] := by rw [HSN.out, if_pos h0, Int.toNat_natCast, List.getElem?_eq_getElem hml]
      have HNX := Lib.hid hnx
      have hws : w.heap.size ≤ wr.heap.size := HA.out.keeps.size
      clear hnx
      generalize L[m] = E at *
      go_wp2_with (at_builtin; refine list_append_own rfl _ _ _ rfl (w.heap.size + 1) 64 i0 _ 3 32 Tryz.underlying44 hi hz0 hz1 hz2 rfl (by decide) _ _ _ rfl (own_keep HA.out.own ((Keeps.refl None' wr).alloc _) (fun _ _ h => h)) ⟨wr.heap.size, 0, none⟩ 1 1 [.int .i64 E.house, .int .i64 E.no, .string (str E.body)] rfl ?qc1 ?qc2 (entCells_one _) ?qc4 ?qc5 ?qc6 ?_)
      case qc1 => rfl
      case qc2 =>
        intro j u hj
        rw [Addr.add_lit, Nat.zero_add]
        exact cell_of_blk (heap_alloc_new wr _) j (by simpa using hj)
      case qc4 => unfold maxLen; omega
      case qc5 => omega
      case qc6 => simp; omega
      intro v' w2 hown hgrow hfr
      have hnext : PickAt w L zs (k + 1) v' w2 ∧ Keeps None' (w.alloc (.cells #[.int .i64 h, .int .i64 p, .slice (some ⟨b, off, none⟩) L.length vcap] 46)) w2 := by
        have hnew : ∀ i, some i = u5.ownBlock → w.heap.size < i := fun i e => by
          have := (HA.out.own.lt i e.symm).1
          omega
        refine ⟨⟨?_, (HA.out.keeps.alloc _).trans' (grownBy_keeps hgrow) (fun i hi e => ?_)⟩, (HK.out.alloc _).trans' (grownBy_keeps hgrow) (fun i hi e => ?_)⟩
        · rw [HNX.out, entCells_append, List.length_append]
          simpa [entCells] using hown
        · have := hnew i e; omega
        · have := hnew i e; simp at hi; omega
      clear hown hgrow hfr
      go_wp2
      go_roundw
      case rel => exact ⟨k + 1, by omega, by go_num, hnext.1, hnext.2⟩
      case measure => simp [intOf]; omega
    · obtain rfl : k = zs.length := by omega
      have hown := hA.own
      rw [List.take_length] at hown
      have HO := Lib.hid hown
      have HKK := Lib.hid hA.keeps
      clear hown hA hK
      go_wp2
      go_ret
      exact ⟨_, rfl, own_base HO.out (by omega), HKK.out⟩
/-- how many pages entries and their index have -/
def pagesTo (L : List Ent) (k : Nat) : Nat := (L.length + 25) / 26 + ((L.take k).map npieces).sum
def pagesE (L : List Ent) : Nat := (L.length + 25) / 26 + (L.map npieces).sum
theorem pagesTo_succ (L : List Ent) (k : Nat) (hk : k < L.length) : pagesTo L (k + 1) = pagesTo L k + (L[k].body.length + 2 + 52) / 53 := by
  unfold pagesTo
  rw [List.take_succ_eq_append_getElem hk, List.map_append, List.sum_append]
  simp only [List.map_cons, List.map_nil, List.sum_cons, List.sum_nil]
  unfold npieces; omega
set_option maxHeartbeats 1000000 in
theorem pagesE_any (w : World) (v : Value) (L : List Ent) (hv : EntSl w v L) (hL : L.length ≤ 10000) (hb : ∀ e ∈ L, e.body.length ≤ 1000) :
    Calls Tryz.prog 35 #[v] w fun e w' => e = .returned (.int .i64 (pagesE L : Int)) ∧ Keeps None' w w' := by
  obtain ⟨va, vcap, rfl⟩ := hv.shape
  have HV := Lib.hid hv
  have HB := Lib.hid hb
  clear hv hb
  have h0 : ((L.length : Int) + 25) / 26 = ((pagesTo L 0 : Nat) : Int) := by simp [pagesTo]
  have HE := Lib.hid h0
  clear h0
  go_enter Tryz.func35, Tryz.ntmps35
  go_wp2_with fail
  go_loopw [3, 12] (fun n i wr => ∃ k : Nat, k ≤ L.length ∧ i = .int .i64 k ∧ n = .int .i64 (pagesTo L k : Int) ∧ pagesTo L k ≤ 10000 + k * 20 ∧ Keeps None' w wr) (fun _ i _ => L.length - (intOf i).toNat)
  case atStart => exact ⟨0, Nat.zero_le _, rfl, by rw [HE.out], by unfold pagesTo; simp; omega, Keeps.refl _ _⟩
  case round =>
    obtain ⟨k, hk, rfl, rfl, hpb, hK⟩ := hrel
    by_cases hlt : k < L.length
    · obtain ⟨b, off, rfl, hblt, hcap, d0, d1, d2⟩ := (HV.out.keep hK).get k hlt
      have hkI : (k : Int) < (L.length : Int) := by omega
      have hsn := pagesTo_succ L k hlt
      have hbl := HB.out L[k] (List.getElem_mem hlt)
      have hss : (str L[k].body).size = L[k].body.length := str_size _
      have HSN := Lib.hid hsn
      have HK := Lib.hid hK
      clear hsn hK
      generalize L[k] = E at *
      generalize hq : pagesTo L k = q at *
      have hqI : (q : Int) ≤ 10000000 := by omega
      go_wp2
      go_roundw
      case rel => exact ⟨k + 1, by omega, by go_num, by rw [HSN.out]; go_num, by rw [HSN.out]; omega, HK.out.alloc _⟩
      case measure => simp [intOf]; omega
    · obtain rfl : k = L.length := by omega
      have he : pagesTo L L.length = pagesE L := by unfold pagesTo pagesE; rw [List.take_length]
      rw [he] at *
      have HE2 := Lib.hid he
      have HK := Lib.hid hK
      clear he hK
      go_wp2
      go_ret
      exact ⟨rfl, HK.out⟩
end Go.Proofs.YtlbaagjbehdmgaaGreat

namespace Go.Proofs.YtlbaagjbehdmgaaGreat
open Go.RowKit

/-- a store on a disk, both made behind base -/
structure Live (base : Nat) (w : World) (s d : Nat) (fp : Nat → Prop) (D : Dsk) (S : St) (F : Option St) (falls : Int) : Prop where
  store : IsStore w s d S F falls
  disk : IsDisk w d D fp
  new : ∀ k, fp k → base ≤ k
  news : base ≤ s
/-- what a store's calls may write -/
def foot (fp : Nat → Prop) (s : Nat) : Nat → Prop := fun k => fp k ∨ k = s
theorem IsStore.lt {w : World} {s d : Nat} {S : St} {F : Option St} {falls : Int} (h : IsStore w s d S F falls) : s < w.heap.size := by
  obtain ⟨cb, fv, h⟩ := h
  exact lt_of_block h.blk
theorem Live.lt {base : Nat} {w : World} {s d : Nat} {fp : Nat → Prop} {D : Dsk} {S : St} {F : Option St} {falls : Int} (h : Live base w s d fp D S F falls) {k : Nat} (hk : foot fp s k) : k < w.heap.size := by
  rcases hk with hk | hk
  · exact h.disk.lt _ hk
  · rw [hk]; exact h.store.lt
theorem Live.ge {base : Nat} {w : World} {s d : Nat} {fp : Nat → Prop} {D : Dsk} {S : St} {F : Option St} {falls : Int} (h : Live base w s d fp D S F falls) {k : Nat} (hk : foot fp s k) : base ≤ k := by
  rcases hk with hk | hk
  · exact h.new k hk
  · rw [hk]; exact h.news
theorem Live.spares {base : Nat} {w : World} {s d : Nat} {fp : Nat → Prop} {D : Dsk} {S : St} {F : Option St} {falls : Int} (h : Live base w s d fp D S F falls) : Spares (foot fp s) w := fun b cs t fr hb hh => by
  rcases hb with hb | hb
  · exact h.disk.spares b cs t fr hb hh
  · obtain ⟨cb, fv, hs⟩ := h.store
    rw [hb, hs.blk] at hh
    injection hh with hh
    injection hh with _ hh _
    subst hh; decide
theorem Live.keepP {base : Nat} {w w' : World} {s d : Nat} {fp : Nat → Prop} {D : Dsk} {S : St} {F : Option St} {falls : Int} (h : Live base w s d fp D S F falls) {P : Nat → Prop} (k : Keeps P w w') (hp : ∀ b, foot fp s b → ¬ P b) (hs : Spares P w) : Live base w' s d fp D S F falls := by
  refine ⟨?_, h.disk.keep k (fun b hb => hp b (.inl hb)), h.new, h.news⟩
  obtain ⟨cb, fv, hst⟩ := h.store
  exact ⟨cb, fv, hst.keep k hs (hp s (.inr rfl))⟩
theorem Live.keep {base : Nat} {w w' : World} {s d : Nat} {fp : Nat → Prop} {D : Dsk} {S : St} {F : Option St} {falls : Int} (h : Live base w s d fp D S F falls) (k : Keeps None' w w') : Live base w' s d fp D S F falls := h.keepP k (fun _ _ h => h) (spares_none _)
/-- a row of entries is apart of a store -/
theorem Live.row {base : Nat} {w : World} {s d : Nat} {fp : Nat → Prop} {D : Dsk} {S : St} {F : Option St} {falls : Int} (h : Live base w s d fp D S F falls) {bs n : Nat} {v : Value} {xs : List Value} (hr : w.ownsRow bs 64 3 v n xs) : ∀ b, v.ownBlock = some b → ¬ foot fp s b := fun b hb hf => by
  obtain ⟨cs, hc⟩ := own_type hr hb
  rcases hf with hf | hf
  · exact h.disk.not_of_type hc (by decide) (by decide) (by decide) hf
  · obtain ⟨cb, fv, hs⟩ := h.store
    rw [hf, hs.blk] at hc
    injection hc with hc
    injection hc with _ hc _
    exact absurd hc (by decide)
/-- what a call of the store leaves -/
theorem Live.step {base : Nat} {w w' : World} {s d : Nat} {fp fp' : Nat → Prop} {D D' : Dsk} {S S' : St} {F F' : Option St} {falls : Int} (h : Live base w s d fp D S F falls) (hb : base ≤ w.heap.size) (t : SStep w s d fp w' D' S' F' falls fp') : Live base w' s d fp' D' S' F' falls :=
  ⟨t.store, t.disk, fun k hk => (t.fresh k hk).elim (h.new k) (fun h => Nat.le_trans hb h), h.news⟩
/-- two stores apart -/
def Apart (fp1 : Nat → Prop) (s1 : Nat) (fp2 : Nat → Prop) (s2 : Nat) : Prop := ∀ k, foot fp1 s1 k → ¬ foot fp2 s2 k
theorem Apart.symm {fp1 : Nat → Prop} {s1 : Nat} {fp2 : Nat → Prop} {s2 : Nat} (h : Apart fp1 s1 fp2 s2) : Apart fp2 s2 fp1 s1 := fun k a b => h k b a
/-- a store made later is apart -/
theorem apart_later {base base2 : Nat} {w w2 : World} {s d s2 d2 : Nat} {fp fp2 : Nat → Prop} {D D2 : Dsk} {S S2 : St} {F F2 : Option St} {falls falls2 : Int} (h : Live base w s d fp D S F falls) (h2 : Live base2 w2 s2 d2 fp2 D2 S2 F2 falls2) (hb : w.heap.size ≤ base2) : Apart fp s fp2 s2 := fun k a b => by
  have := h.lt a
  have := h2.ge b
  omega
/-- the other store, when one has turned -/
theorem Live.other {base base2 : Nat} {w w' : World} {s d s2 d2 : Nat} {fp fp' fp2 : Nat → Prop} {D D' D2 : Dsk} {S S' S2 : St} {F F' F2 : Option St} {falls falls2 : Int} (h : Live base w s d fp D S F falls) (h2 : Live base2 w s2 d2 fp2 D2 S2 F2 falls2) (ap : Apart fp s fp2 s2) (t : SStep w s d fp w' D' S' F' falls fp') :
    Live base2 w' s2 d2 fp2 D2 S2 F2 falls2 ∧ Apart fp' s fp2 s2 := by
  refine ⟨h2.keepP t.keeps (fun b hb hf => ap b hf hb) h.spares, fun k a b => ?_⟩
  rcases a with a | a
  · rcases t.fresh k a with c | c
    · exact ap k (.inl c) b
    · have := h2.lt b; omega
  · exact ap k (.inr a) b
theorem SStep.all {W0 w w' : World} {s d : Nat} {fp fp' : Nat → Prop} {D D' : Dsk} {S S' : St} {F F' : Option St} {falls : Int} (h : Live W0.heap.size w s d fp D S F falls) (k : Keeps None' W0 w) (t : SStep w s d fp w' D' S' F' falls fp') : Keeps None' W0 w' :=
  k.trans' t.keeps (fun i hi hf => by have := h.ge (k := i) hf; omega)

/-- what made leaves -/
def MadeRet (w : World) (h n : Nat) (e : Ending) (w' : World) : Prop :=
  ∃ d s fp D, e = .returned (.tuple #[.pointer (some ⟨d, 0, none⟩), .pointer (some ⟨s, 0, none⟩)]) ∧ Live w.heap.size w' s d fp D (firstSt h) none 0 ∧ Inv D (firstSt h) none ∧ D.armed = 0 ∧ D.falls = 0 ∧ D.now.length = n ∧ Keeps None' w w'
theorem newDsk_ok (n : Nat) (h : n ≤ 1024) : (newDsk n).ok := by
  refine ⟨rfl, by simp [newDsk]; omega, fun p hp => ?_, fun p hp => ?_, fun x hx => by cases hx⟩
  · simp only [newDsk, List.mem_replicate] at hp; rw [hp.2]; simp [zeros]
  · simp only [newDsk, List.mem_replicate] at hp; rw [hp.2]; simp [zeros]
set_option maxRecDepth 100000 in
set_option maxHeartbeats 2000000 in
theorem made_any (w : World) (h n : Nat) (p : Int) (va : Option Addr) (vl vcap : Nat) (h1 : 1 ≤ h) (h8 : h ≤ 8) (hn : 2 ≤ n) (hn2 : n ≤ 1024) :
    Calls Tryz.prog 38 #[.agg #[.int .i64 (h : Int), .int .i64 p, .slice va vl vcap], .int .i64 (n : Int)] w fun e w' => MadeRet w h n e w' := by
  have hqd : ∀ (W : World) (d : Nat), (binOp .eql 24 (.pointer (some ⟨d, 0, none⟩)) (.pointer none)).run Tryz.prog W = .ok (.bool false) W := fun W d => by kernel_rfl
  have hqs : ∀ (W : World) (d : Nat), (binOp .eql 50 (.pointer (some ⟨d, 0, none⟩)) (.pointer none)).run Tryz.prog W = .ok (.bool false) W := fun W d => by kernel_rfl
  have hk0 : Keeps None' w (w.alloc (.cells #[.int .i64 (h : Int), .int .i64 p, .slice va vl vcap] 46)) := (Keeps.refl _ _).alloc _
  have hblk := heap_alloc_new w (.cells #[.int .i64 (h : Int), .int .i64 p, .slice va vl vcap] 46)
  have HND := Lib.hid (fun (W : World) => show Calls Tryz.prog 12 #[.int .i64 (n : Int)] W fun e w' => ∃ d fp, e = .returned (.tuple #[.pointer (some ⟨d, 0, none⟩), .int .i64 0]) ∧ Keeps None' W w' ∧ IsDisk w' d (newDsk n) fp ∧ ∀ k, fp k → W.heap.size ≤ k from (newdisk_good W n (by omega) hn2).mono fun e w' ⟨h1, h2, fp, h3, h4⟩ => ⟨_, fp, h1, h2, h3, h4⟩)
  obtain ⟨D', he, hinv, ha, hf, hl⟩ := make_inv (D := newDsk n) (houses := h) (newDsk_ok n hn2) rfl rfl rfl rfl (by simp [newDsk]; exact hn) h1 h8
  have HE := Lib.hid he
  have HFIN := Lib.hid (show Inv D' (firstSt h) none ∧ D'.armed = 0 ∧ D'.falls = 0 ∧ D'.now.length = n from ⟨hinv, ha, hf, by rw [hl]; simp [newDsk]⟩)
  have HMK := Lib.hid (fun (W : World) (d : Nat) (fp : Nat → Prop) (hd : IsDisk W d (newDsk n) fp) => show Calls Tryz.prog 54 #[.pointer (some ⟨d, 0, none⟩), .int .i64 (h : Int)] W fun e w' => ∃ fp' s, DStep W d fp w' D' fp' ∧ e = .returned (.tuple #[.pointer (some ⟨s, 0, none⟩), .int .i64 0]) ∧ W.heap.size ≤ s ∧ IsStore w' s d (firstSt h) none 0 by
    have hm := make_any W d (newDsk n) fp (h : Int) hd (by simp [newDsk])
    rw [HE.out] at hm
    refine hm.mono ?_
    rintro e w' ⟨fp', hst, s, rfl, hs, hst2⟩
    dsimp only at hst2
    rw [hf] at hst2
    exact ⟨fp', s, hst, rfl, hs, hst2⟩)
  have HK0 := Lib.hid hk0
  have HBLK := Lib.hid hblk
  clear he hinv ha hf hl hk0 hblk
  go_enter Tryz.func38, Tryz.ntmps38
  go_wp2_with (first
    | (go_at_call 12; refine (HND.out _).mono ?_; rintro e W1 ⟨d, fp, rfl, hk1, hd1, hf1⟩; have hb1 := hk1.blk HBLK.out (fun h => h); have c0 := cell_of_blk hb1 0 rfl; have HMK1 := Lib.hid (HMK.out W1 _ fp hd1); have HK1 := Lib.hid hk1; have HF1 := Lib.hid hf1; clear hk1 hd1 hf1 hb1)
    | (go_at_call 54; refine HMK1.out.mono ?_; rintro e W2 ⟨fp2, s, hst, rfl, hs, hs2⟩; have HST := Lib.hid hst; have HS2 := Lib.hid hs2; clear hst hs2))
  go_ret2
  have hk01 := HK0.out.trans HK1.out
  refine ⟨_, s, fp2, D', rfl, ⟨HS2.out, HST.out.is, fun k hk => ?_, by have := hk01.size; omega⟩, HFIN.out.1, HFIN.out.2.1, HFIN.out.2.2.1, HFIN.out.2.2.2, hk01.trans' HST.out.keeps (fun i hi h => ?_)⟩
  · rcases HST.out.fresh k hk with h | h
    · have := HF1.out k h; have := HK0.out.size; omega
    · have := hk01.size; omega
  · have := HF1.out i h
    have := HK0.out.size
    omega
end Go.Proofs.YtlbaagjbehdmgaaGreat

namespace Go.Proofs.YtlbaagjbehdmgaaGreat
open Go.RowKit

theorem ByH.tkOk {S : St} {B : Nat → List (List UInt8)} (hb : ByH S B) : TkOk S.houses 0 0 S.entries := ⟨B, hb.ents, Nat.zero_le _, hb.len⟩
theorem take_live {base : Nat} {w : World} {s d : Nat} {fp : Nat → Prop} {D : Dsk} {S : St} {F : Option St} {falls : Int} (h : Live base w s d fp D S F falls) (hi : Inv D S F) {B : Nat → List (List UInt8)} (hb : ByH S B) (v : Value) (L : List Ent) (hL : L.length ≤ 100000) (hv : EntSl w v L) :
    Calls Tryz.prog 39 #[.pointer (some ⟨s, 0, none⟩), v] w fun e w' => TkRet w s d fp (takeP D S F falls L) falls e w' :=
  Take_any w s d D fp S F falls v L h.store h.disk hi.legal.two (by rw [hi.wr]; simp) hb.tkOk hL hv
theorem tookLive {base : Nat} {w : World} {s d : Nat} {fp : Nat → Prop} {D : Dsk} {S : St} {F : Option St} (h : Live base w s d fp D S F D.falls) (hi : Inv D S F) {B : Nat → List (List UInt8)} (hb : ByH S B) (v : Value) (L : List Ent) (hL : L.length ≤ 100000) (hv : EntSl w v L) {n : Nat} {D' : Dsk} {S' : St} {F' : Option St} (t : Took' D S F L B n D' S' F') :
    Calls Tryz.prog 39 #[.pointer (some ⟨s, 0, none⟩), v] w fun e w' => e = .returned (.tuple #[.int .i64 (n : Int), .int .i64 0]) ∧ ∃ fp', SStep w s d fp w' D' S' F' D.falls fp' := by
  have := take_live h hi hb v L hL hv
  rw [t.eq] at this
  exact this

/-- what after leaves -/
structure AftAt (base : Nat) (w : World) (h : Nat) (L : List Ent) (s d : Nat) (fp : Nat → Prop) (D : Dsk) (S : St) (F : Option St) : Prop where
  live : Live base w s d fp D S F 0
  inv : Inv D S F
  armed : D.armed = 0
  falls : D.falls = 0
  len : D.now.length = 1024
  houses : S.houses = h
  byH : ByH S (newB L (fun _ => []))
  gen : S.gen ≤ 2
  former : ∀ T, F = some T → T = firstSt h
def AftRet (w : World) (h : Nat) (L : List Ent) (e : Ending) (w' : World) : Prop := ∃ s d fp D S F, e = .returned (.pointer (some ⟨s, 0, none⟩)) ∧ AftAt w.heap.size w' h L s d fp D S F ∧ Keeps None' w w'
theorem new_len (L : List Ent) (h : Nat) : (joinH (newB L (fun _ => [])) h).length ≤ L.length := by
  refine join_sub_len fun e he => ?_
  rcases join_new_mem (fun _ _ => by simp) he with h1 | h1
  · obtain ⟨_, _, _, _, h2, _⟩ := joinH_mem.1 h1
    simp at h2
  · exact h1
set_option maxRecDepth 100000 in
set_option maxHeartbeats 2000000 in
theorem after_any (w : World) (h : Nat) (p : Int) (va : Option Addr) (vl vcap : Nat) (v : Value) (L : List Ent) (h1 : 1 ≤ h) (h8 : h ≤ 8) (hL : L.length ≤ 48) (hv : EntSl w v L) :
    Calls Tryz.prog 34 #[.agg #[.int .i64 (h : Int), .int .i64 p, .slice va vl vcap], v] w fun e w' => AftRet w h L e w' := by
  have hqs : ∀ (W : World) (d : Nat), (binOp .eql 50 (.pointer (some ⟨d, 0, none⟩)) (.pointer none)).run Tryz.prog W = .ok (.bool false) W := fun W d => by kernel_rfl
  have hk0 : Keeps None' w (w.alloc (.cells #[.int .i64 (h : Int), .int .i64 p, .slice va vl vcap] 46)) := (Keeps.refl _ _).alloc _
  have HM := Lib.hid (fun W => made_any W h 1024 p va vl vcap h1 h8 (by omega) (by omega))
  have HK0 := Lib.hid hk0
  have hb := firstSt_byH h
  have hlen := new_len L h
  obtain ⟨la, lcap, rfl⟩ := hv.shape
  have HV := Lib.hid hv
  have HT := Lib.hid (fun (W : World) (s d : Nat) (fp : Nat → Prop) (D : Dsk) (hl : Live (w.heap.size) W s d fp D (firstSt h) none 0) (hi : Inv D (firstSt h) none) (ha : D.armed = 0) (hf : D.falls = 0) (hn : D.now.length = 1024) (hk : Keeps None' w W) => show ∃ n D' S' F', Took' D (firstSt h) none L (fun _ => []) n D' S' F' ∧ Calls Tryz.prog 39 #[.pointer (some ⟨s, 0, none⟩), .slice la L.length lcap] W fun e w' => e = .returned (.tuple #[.int .i64 (n : Int), .int .i64 0]) ∧ ∃ fp', SStep W s d fp w' D' S' F' 0 fp' by
    obtain ⟨n, D', S', F', t⟩ := hi.take_big hb ha (by simp [firstSt]) L hn (by simp [firstSt]) (by simp) (Nat.le_trans hlen (by omega))
    have hl' := hl
    rw [← hf] at hl'
    have := tookLive hl' hi hb _ L (by omega) (hv.keep hk) t
    rw [hf] at this
    exact ⟨n, D', S', F', t, this⟩)
  clear hk0 hb hlen hv
  go_enter Tryz.func34, Tryz.ntmps34
  go_wp2_with (first
    | (go_at_call 38; refine (HM.out _).mono ?_; rintro e W1 ⟨d, s, fp, D, rfl, hlv, hiv, ha, hf, hn, hk⟩; have hk1 := HK0.out.trans hk; obtain ⟨n, D', S', F', ht, hc⟩ := HT.out W1 s d fp D (by exact ⟨hlv.store, hlv.disk, fun k hh => Nat.le_trans HK0.out.size (hlv.new k hh), Nat.le_trans HK0.out.size hlv.news⟩) hiv ha hf hn hk1; have HC := Lib.hid hc; have HTK := Lib.hid ht; have HLV := Lib.hid (show Live w.heap.size W1 s d fp D (firstSt h) none 0 from ⟨hlv.store, hlv.disk, fun k hh => Nat.le_trans HK0.out.size (hlv.new k hh), Nat.le_trans HK0.out.size hlv.news⟩); have HIV := Lib.hid hiv; have HK1 := Lib.hid hk1; have HAF := Lib.hid (⟨ha, hf, hn⟩ : D.armed = 0 ∧ D.falls = 0 ∧ D.now.length = 1024); clear hlv hiv ha hf hn hk hk1 ht hc)
    | (go_at_call 39; refine HC.out.mono ?_; rintro e W2 ⟨rfl, fp2, hs2⟩; have HS2 := Lib.hid hs2; clear hs2))
  go_ret
  obtain ⟨a1, a2, a3⟩ := HAF.out
  have t := HTK.out
  refine ⟨s, d, fp2, D', S', F', rfl, ⟨HLV.out.step HK1.out.size HS2.out, t.inv, by rw [t.armed]; exact a1, by rw [t.falls]; exact a2, by rw [t.len]; exact a3, t.houses, t.byH, Nat.le_trans t.gen (by simp [firstSt]), fun T hT => ?_⟩, HS2.out.all HLV.out HK1.out⟩
  rcases t.ends with ⟨_, _, _, e⟩ | ⟨_, e, _⟩
  · rw [e] at hT; cases hT
  · rw [e] at hT; exact (Option.some.inj hT).symm
end Go.Proofs.YtlbaagjbehdmgaaGreat

namespace Go.Proofs.YtlbaagjbehdmgaaGreat
open Go.RowKit

theorem haveOf_congr {S1 S2 : St} (h : entsOf S1 = entsOf S2) (hh : S1.houses = S2.houses) : haveOf S1 = haveOf S2 := by
  have hl : S1.entries.length = S2.entries.length := by rw [← entries_len, ← entries_len, h]
  unfold haveOf haveTo
  rw [h, hh, hl]
theorem iSlice_blk {w : World} {b : Nat} {l : List Nat} (h : w.heap[b]? = some (.cells (ints l).toArray 3 (0, 0))) : ISlice w (.slice (some ⟨b, 0, none⟩) l.length l.length) l := by
  refine ⟨_, _, rfl, fun j x hx => ⟨b, 0, rfl, ?_⟩⟩
  refine cell_of_blk h _ ?_
  rw [Nat.zero_add]
  simp [ints, hx]
/-- Have, as a slice of numbers -/
theorem have_sl (b : Nat) (S : St) (w : World) (h : IsState w b S) (hh : ∀ p ∈ S.entries, p.e.house < S.houses) :
    Calls Tryz.prog 42 #[.pointer (some ⟨b, 0, none⟩)] w fun e w' => ∃ a c, e = .returned (.slice a (haveOf S).length c) ∧ ISlice w' (.slice a (haveOf S).length c) (haveOf S) ∧ Keeps None' w w' := by
  refine (have_any b S w h hh).mono ?_
  rintro e w' ⟨rfl, hb, hk⟩
  have hl : S.houses = (haveOf S).length := (haveTo_length S _).symm
  rw [hl]
  exact ⟨_, _, rfl, iSlice_blk hb, hk⟩
theorem all_sl (b : Nat) (S : St) (w : World) (h : IsState w b S) :
    Calls Tryz.prog 36 #[.pointer (some ⟨b, 0, none⟩)] w fun e w' => ∃ a c, e = .returned (.slice a (entsOf S).length c) ∧ w'.ownsRow w.heap.size 64 3 (.slice a (entsOf S).length c) (entsOf S).length (entCells (entsOf S)) ∧ EntSl w' (.slice a (entsOf S).length c) (entsOf S) ∧ Keeps None' w w' := by
  refine (all_any b S w h).mono ?_
  rintro e w' ⟨v, rfl, ho, hk⟩
  rw [← entries_len] at ho
  have hs := EntSl.of_own ho
  obtain ⟨a, c, rfl⟩ := hs.shape
  exact ⟨a, c, rfl, ho, hs, hk⟩
set_option maxRecDepth 100000 in
set_option maxHeartbeats 4000000 in
theorem same_any (w : World) (s1 s2 b1 b2 : Nat) (S1 S2 : St) (h1 : w.cell? ⟨s1, 0, none⟩ = some (.pointer (some ⟨b1, 0, none⟩))) (h2 : w.cell? ⟨s2, 0, none⟩ = some (.pointer (some ⟨b2, 0, none⟩))) (hS1 : IsState w b1 S1) (hS2 : IsState w b2 S2)
    (hh1 : ∀ p ∈ S1.entries, p.e.house < S1.houses) (hh2 : ∀ p ∈ S2.entries, p.e.house < S2.houses) (he : entsOf S1 = entsOf S2) (hh : S1.houses = S2.houses) :
    Calls Tryz.prog 40 #[.pointer (some ⟨s1, 0, none⟩), .pointer (some ⟨s2, 0, none⟩)] w fun e w' => e = .returned (.bool true) ∧ Keeps None' w w' := by
  have hv := haveOf_congr he hh
  have hle : (entsOf S1).length ≤ 100000 := by have := hS1.elim fun _ h => h.elim fun _ h => h.ok.few; rw [entries_len]; omega
  have hlh : (haveOf S1).length ≤ 10000000 := by have := hS1.elim fun _ h => h.elim fun _ h => h.ok.houses; unfold haveOf; rw [haveTo_length]; omega
  have HA1 := Lib.hid (fun (W : World) (k : Keeps None' w W) => all_sl b1 S1 W (hS1.keep k (spares_none _)))
  have HA2 := Lib.hid (fun (W : World) (k : Keeps None' w W) => all_sl b2 S2 W (hS2.keep k (spares_none _)))
  have HV1 := Lib.hid (fun (W : World) (k : Keeps None' w W) => have_sl b1 S1 W (hS1.keep k (spares_none _)) hh1)
  have HV2 := Lib.hid (fun (W : World) (k : Keeps None' w W) => have_sl b2 S2 W (hS2.keep k (spares_none _)) hh2)
  have HH1 := Lib.hid (fun (W : World) (k : Keeps None' w W) => houses_any b1 S1 W (hS1.keep k (spares_none _)))
  have HH2 := Lib.hid (fun (W : World) (k : Keeps None' w W) => houses_any b2 S2 W (hS2.keep k (spares_none _)))
  rw [← he] at HA2
  rw [← hv] at HV2
  rw [← hh] at HH2
  have HC1 := Lib.hid (fun (W : World) (k : Keeps None' w W) => (k.cell (p := ⟨s1, 0, none⟩) (block_lt_of_cell h1) (fun h => h)).trans h1)
  have HC2 := Lib.hid (fun (W : World) (k : Keeps None' w W) => (k.cell (p := ⟨s2, 0, none⟩) (block_lt_of_cell h2) (fun h => h)).trans h2)
  have HEQ := Lib.hid (fun (W : World) (v1 v2 : Value) (k1 : EntSl W v1 (entsOf S1)) (k2 : EntSl W v2 (entsOf S1)) => show Calls Tryz.prog 43 #[v1, v2] W fun e w' => e = .returned (.bool true) ∧ Keeps None' W w' by
    have := equalE_any v1 v2 _ _ W k1 k2 hle
    simpa using this)
  have HEI := Lib.hid (fun (W : World) (v1 v2 : Value) (k1 : ISlice W v1 (haveOf S1)) (k2 : ISlice W v2 (haveOf S1)) => show Calls Tryz.prog 60 #[v1, v2] W fun e w' => e = .returned (.bool true) ∧ Keeps None' W w' by
    have := equal_any v1 v2 _ _ W k1 k2 hlh
    simpa using this)
  have HK := Lib.hid (Keeps.refl None' w)
  generalize entsOf S1 = L at *
  generalize haveOf S1 = Z at *
  have hle' : (L.length : Int) ≤ 100000 := by omega
  have hhq : ((S1.houses : Int) == (S1.houses : Int)) = true := by simp
  generalize S1.houses = H at *
  clear hv hS1 hS2 hh1 hh2 he hh hle hlh
  go_enter Tryz.func40, Tryz.ntmps40
  go_wp2_with fail
  go_region_held3 (fun W => W.cell? ⟨s1, 0, none⟩ = some (.pointer (some ⟨b1, 0, none⟩)) ∧ W.cell? ⟨s2, 0, none⟩ = some (.pointer (some ⟨b2, 0, none⟩)))
    (first | exact ⟨HC1.out _ HK6.out, HC2.out _ HK6.out⟩ | exact ⟨HC1.out _ HK5.out, HC2.out _ HK5.out⟩ | exact ⟨HC1.out _ HK4.out, HC2.out _ HK4.out⟩ | exact ⟨HC1.out _ HK3.out, HC2.out _ HK3.out⟩ | exact ⟨HC1.out _ HK2.out, HC2.out _ HK2.out⟩ | exact ⟨HC1.out _ HK1.out, HC2.out _ HK1.out⟩ | exact ⟨HC1.out _ HK.out.drew, HC2.out _ HK.out.drew⟩ | exact ⟨HC1.out _ HK.out, HC2.out _ HK.out⟩)
    (first
    | (go_at_call 36; first
        | ((with_reducible refine (HA2.out _ HK1.out).mono ?_); rintro e W2 ⟨a2, c2, rfl, -, hE2, hk2⟩; have HE2 := Lib.hid hE2; have HE1 := Lib.hid (HE1.out.keep hk2); have HK2 := Lib.hid (HK1.out.trans hk2); clear hE2 hk2)
        | ((with_reducible refine (HA1.out _ HK1.out).mono ?_); rintro e W2 ⟨a1, c1, rfl, -, hE1, hk2⟩; have HE1 := Lib.hid hE1; have HE2 := Lib.hid (HE2.out.keep hk2); have HK2 := Lib.hid (HK1.out.trans hk2); clear hE1 hk2)
        | ((with_reducible refine (HA1.out _ HK.out.drew).mono ?_); rintro e W1 ⟨a1, c1, rfl, -, hE1, hk1⟩; have HE1 := Lib.hid hE1; have HK1 := Lib.hid (HK.out.drew.trans hk1); clear hE1 hk1)
        | ((with_reducible refine (HA2.out _ HK.out.drew).mono ?_); rintro e W1 ⟨a2, c2, rfl, -, hE2, hk1⟩; have HE2 := Lib.hid hE2; have HK1 := Lib.hid (HK.out.drew.trans hk1); clear hE2 hk1))
    | (go_at_call 43; refine (HEQ.out _ _ _ HE1.out HE2.out).mono ?_; rintro e W3 ⟨rfl, hk3⟩; have HK3 := Lib.hid (HK2.out.trans hk3); clear hk3)
    | (go_at_call 42; first
        | ((with_reducible refine (HV2.out _ HK4.out).mono ?_); rintro e W5 ⟨a4, c4, rfl, hI2, hk5⟩; have HI2 := Lib.hid hI2; have HI1 := Lib.hid (HI1.out.keep hk5); have HK5 := Lib.hid (HK4.out.trans hk5); clear hI2 hk5)
        | ((with_reducible refine (HV1.out _ HK4.out).mono ?_); rintro e W5 ⟨a3, c3, rfl, hI1, hk5⟩; have HI1 := Lib.hid hI1; have HI2 := Lib.hid (HI2.out.keep hk5); have HK5 := Lib.hid (HK4.out.trans hk5); clear hI1 hk5)
        | ((with_reducible refine (HV1.out _ HK3.out).mono ?_); rintro e W4 ⟨a3, c3, rfl, hI1, hk4⟩; have HI1 := Lib.hid hI1; have HK4 := Lib.hid (HK3.out.trans hk4); clear hI1 hk4)
        | ((with_reducible refine (HV2.out _ HK3.out).mono ?_); rintro e W4 ⟨a4, c4, rfl, hI2, hk4⟩; have HI2 := Lib.hid hI2; have HK4 := Lib.hid (HK3.out.trans hk4); clear hI2 hk4))
    | (go_at_call 60; refine (HEI.out _ _ _ HI1.out HI2.out).mono ?_; rintro e W6 ⟨rfl, hk6⟩; have HK6 := Lib.hid (HK5.out.trans hk6); clear hk6)
    | (go_at_call 76; first
        | ((with_reducible refine (HH1.out _ HK6.out).mono ?_); rintro e W7 ⟨rfl, rfl⟩)
        | ((with_reducible refine (HH2.out _ HK6.out).mono ?_); rintro e W7 ⟨rfl, rfl⟩)))
  all_goals
    try simp only [Exit.then]
    go_wp2
    go_ret
    exact ⟨rfl, HK6.out⟩
end Go.Proofs.YtlbaagjbehdmgaaGreat
