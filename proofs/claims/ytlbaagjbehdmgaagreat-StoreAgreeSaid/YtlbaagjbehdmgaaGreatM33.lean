/- The entries of a house from a number on. state.Houses, state.Entries. -/
import Derived.Test.YtlbaagjbehdmgaaGreatM15
namespace Go.Proofs.YtlbaagjbehdmgaaGreat
open Go.RowKit

def fromE (house no : Int) (e : Ent) : Bool := e.house == house && decide (no ≤ e.no)
def fromOf (S : St) (house no : Int) : List Ent := (entsOf S).filter (fromE house no)
def fromTo (S : St) (house no : Int) (k : Nat) : List Ent := ((entsOf S).take k).filter (fromE house no)
theorem fromTo_succ (S : St) (house no : Int) (k : Nat) (h : k < S.entries.length) : fromTo S house no (k + 1) = if fromE house no S.entries[k].e = true then fromTo S house no k ++ [S.entries[k].e] else fromTo S house no k := by
  have hk : k < (entsOf S).length := by simpa [entsOf] using h
  have : (entsOf S)[k] = S.entries[k].e := by simp [entsOf]
  unfold fromTo
  rw [List.take_succ_eq_append_getElem hk, List.filter_append, this]
  by_cases hp : fromE house no S.entries[k].e = true
  · rw [if_pos hp]; simp [hp]
  · rw [if_neg hp]; simp [hp]
structure FromAt (w : World) (S : St) (house no : Int) (k : Nat) (v : Value) (wr : World) : Prop where
  own : wr.ownsRow w.heap.size 64 3 v (fromTo S house no k).length (entCells (fromTo S house no k))
  keeps : Keeps None' w wr

set_option maxRecDepth 100000 in
set_option maxHeartbeats 2000000 in
theorem from_any (b : Nat) (S : St) (w : World) (house no : Int) (h : IsState w b S) :
    Calls Tryz.prog 79 #[.pointer (some ⟨b, 0, none⟩), .int .i64 house, .int .i64 no] w fun e w' => FreshRow w 64 3 (fromOf S house no).length (entCells (fromOf S house no)) e w' := by
  obtain ⟨ev, iv, h⟩ := h
  have hlt := lt_of_block h.blk
  have c3 := h.c3
  obtain ⟨ae, capE, rfl⟩ := h.entries.shape
  have hfew := h.ok.few
  have H := Lib.hid h
  clear h
  have h0 : FromAt w S house no 0 (.slice none 0 0) w := ⟨by simpa [fromTo, entCells] using World.ownsRow_nil w w.heap.size 64 3, Keeps.refl _ _⟩
  go_enter Tryz.func79, Tryz.ntmps79
  go_wp2
  go_loopw [6, 14] (fun v i wr => ∃ k : Nat, k ≤ S.entries.length ∧ i = .int .i64 k ∧ FromAt w S house no k v wr) (fun _ i _ => S.entries.length - (intOf i).toNat)
  case atStart => exact ⟨0, Nat.zero_le _, rfl, h0⟩
  case round =>
    obtain ⟨k, hk, rfl, hA⟩ := hrel
    clear h0
    by_cases hkl : k < S.entries.length
    · have hS := H.out.keep hA.keeps (spares_none _)
      obtain ⟨be, oe, pv, rfl, hblt, hcap, hpv, d0, d1, d2, d3⟩ := hS.entries.get k hkl
      obtain ⟨ap, capp, rfl⟩ := hpv.shape
      have hek := fromTo_succ S house no k hkl
      have hfl : (fromTo S house no k).length ≤ k := Nat.le_trans (List.length_filter_le _ _) (by simp; omega)
      generalize S.entries[k] = p at *
      obtain ⟨i0, hi, hz0, hz1, hz2⟩ := info_parts info_ent3
      have hkI : (k : Int) < (S.entries.length : Int) := by omega
      have HA := Lib.hid hA
      have HEK := Lib.hid hek
      have hws : w.heap.size ≤ wr.heap.size := hA.keeps.size
      clear hA hek hpv hS
      by_cases hp : p.e.house = house
      · have hpb : (p.e.house == house) = true := by simpa using hp
        by_cases hq : no ≤ p.e.no
        · have hqb : decide (no ≤ p.e.no) = true := decide_eq_true hq
          have hek := HEK.out
          rw [if_pos (by simp [fromE, hp, hq])] at hek
          have HE2 := Lib.hid hek
          clear hek HEK hp
          go_wp2_with (at_builtin; refine list_append_own rfl _ _ _ rfl w.heap.size 64 i0 _ 3 32 Tryz.underlying44 hi hz0 hz1 hz2 rfl (by decide) _ _ _ rfl (own_keep HA.out.own (((Keeps.refl None' wr).alloc _).alloc _) (fun _ _ h => h)) ⟨wr.heap.size + 1, 0, none⟩ 1 1 [.int .i64 p.e.house, .int .i64 p.e.no, .string (str p.e.body)] rfl ?qc1 ?qc2 (entCells_one _) ?qc4 ?qc5 ?qc6 ?_)
          case qc1 => rfl
          case qc2 =>
            intro j u hj
            rw [Addr.add_lit, Nat.zero_add]
            exact cell_of_blk (heap_alloc2_new wr _ _) j (by simpa using hj)
          case qc4 => unfold maxLen; omega
          case qc5 => omega
          case qc6 => simp; omega
          intro v' w2 hown hgrow hfr
          have hnext : FromAt w S house no (k + 1) v' w2 := by
            refine ⟨?_, ((HA.out.keeps.alloc _).alloc _).trans' (grownBy_keeps hgrow) (fun i hi e => ?_)⟩
            · rw [HE2.out, entCells_append, List.length_append]
              simpa [entCells] using hown
            · have := (HA.out.own.lt i e.symm).1
              omega
          clear hown hgrow hfr HA
          go_wp2
          go_roundw
          case rel => exact ⟨k + 1, by omega, by go_num, hnext⟩
          case measure => simp [intOf]; omega
        · have hqb : decide (no ≤ p.e.no) = false := decide_eq_false hq
          have hek := HEK.out
          rw [if_neg (by simp [fromE, hq])] at hek
          have hnext : ∀ W, Keeps None' wr W → FromAt w S house no (k + 1) u6 W := fun W hW => ⟨by rw [hek]; exact own_keep HA.out.own hW (fun _ _ h => h), HA.out.keeps.trans hW⟩
          have HNX := Lib.hid hnext
          clear hek HEK hp hnext
          go_wp2
          go_roundw
          case rel => exact ⟨k + 1, by omega, by go_num, HNX.out _ ((Keeps.refl None' wr).alloc _)⟩
          case measure => simp [intOf]; omega
      · have hpb : (p.e.house == house) = false := by simpa using hp
        have hek := HEK.out
        rw [if_neg (by simp [fromE, hp])] at hek
        have hnext : ∀ W, Keeps None' wr W → FromAt w S house no (k + 1) u6 W := fun W hW => ⟨by rw [hek]; exact own_keep HA.out.own hW (fun _ _ h => h), HA.out.keeps.trans hW⟩
        have HNX := Lib.hid hnext
        clear hek HEK hp hnext
        go_wp2
        go_roundw
        case rel => exact ⟨k + 1, by omega, by go_num, HNX.out _ ((Keeps.refl None' wr).alloc _)⟩
        case measure => simp [intOf]; omega
    · obtain rfl : k = S.entries.length := by omega
      have hown := hA.own
      have he : fromTo S house no S.entries.length = fromOf S house no := by unfold fromTo fromOf; rw [List.take_of_length_le (by simp [entsOf])]
      rw [he] at hown
      have HO := Lib.hid hown
      have HK := Lib.hid hA.keeps
      clear hown hA he
      go_wp2
      go_ret
      exact ⟨_, rfl, HO.out, HK.out⟩
end Go.Proofs.YtlbaagjbehdmgaaGreat

namespace Go.Proofs.YtlbaagjbehdmgaaGreat
open Go.RowKit

set_option maxHeartbeats 1000000 in
theorem houses_any (b : Nat) (S : St) (w : World) (h : IsState w b S) :
    Calls Tryz.prog 76 #[.pointer (some ⟨b, 0, none⟩)] w fun e w' => e = .returned (.int .i64 (S.houses : Int)) ∧ w = w' := by
  obtain ⟨ev, iv, h⟩ := h
  have c1 := h.c1
  clear h
  go_enter Tryz.func76, Tryz.ntmps76
  go_wp2
  go_ret
  exact ⟨rfl, rfl⟩
def entsP (S : St) (house : Int) : Int × List Ent := if house < 0 ∨ (S.houses : Int) ≤ house then (1, []) else (0, fromOf S house 0)
def EntsRet (w : World) (R : Int × List Ent) (e : Ending) (w' : World) : Prop :=
  ∃ v, e = .returned (.tuple #[v, .int .i64 R.1]) ∧ w'.ownsRow w.heap.size 64 3 v R.2.length (entCells R.2) ∧ Keeps None' w w'
set_option maxHeartbeats 1000000 in
theorem entsH_any (b : Nat) (S : St) (w : World) (house : Int) (h : IsState w b S) :
    Calls Tryz.prog 84 #[.pointer (some ⟨b, 0, none⟩), .int .i64 house] w fun e w' => EntsRet w (entsP S house) e w' := by
  have HF := Lib.hid (from_any b S w house 0 h)
  obtain ⟨ev, iv, h⟩ := h
  have c1 := h.c1
  clear h
  by_cases h0 : house < 0
  · have HP := Lib.hid (show entsP S house = (1, []) by simp [entsP, h0])
    go_enter Tryz.func84, Tryz.ntmps84
    go_wp2
    go_ret2
    rw [HP.out]
    exact ⟨_, rfl, World.ownsRow_nil _ _ _ _, Keeps.refl _ _⟩
  by_cases h1 : (S.houses : Int) ≤ house
  · have HP := Lib.hid (show entsP S house = (1, []) by simp [entsP, h1])
    go_enter Tryz.func84, Tryz.ntmps84
    go_wp2
    go_ret2
    rw [HP.out]
    exact ⟨_, rfl, World.ownsRow_nil _ _ _ _, Keeps.refl _ _⟩
  have HP := Lib.hid (show entsP S house = (0, fromOf S house 0) by simp [entsP, h0, h1])
  go_enter Tryz.func84, Tryz.ntmps84
  go_wp2_with (first | (go_at_call 79; refine HF.out.mono ?_; rintro e W1 ⟨v, rfl, ho, hk⟩))
  go_ret2
  rw [HP.out]
  exact ⟨_, rfl, ho, hk⟩
end Go.Proofs.YtlbaagjbehdmgaaGreat
