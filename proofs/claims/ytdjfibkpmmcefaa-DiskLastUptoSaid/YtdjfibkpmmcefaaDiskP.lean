/- The law DiskLast of annalslaw01: the walk. -/
import Derived.Test.YtdjfibkpmmcefaaDiskO
namespace Go.Proofs.Ytdjfibkpmmcefaa
open Go.RowKit

def iV (a : Int) : Value := .int .i64 a
/-- What stands at the head of each round of the law's first loop: the disk, the bytes last written, in block g. -/
def LastRel (w0 : World) (b bs cx g : Nat) (X : List Value) (wr : World) (n : Nat) : Prop :=
  ∃ D pv last, DiskAt wr b D bs cx X pv ∧ LastInv D last ∧ D.pend.length = n ∧ wr.heap[g]? = some (.cells (bytesV last).toArray 5 (0, 0)) ∧ (∀ x ∈ dfp b bs pv, w0.heap.size ≤ x ∧ x ≠ g) ∧ w0.heap.size ≤ g ∧ Kept [] w0 wr

set_option maxRecDepth 100000 in
set_option maxHeartbeats 16000000 in
theorem Dk.last (lat lsz : List Int) (va vz : Value) (fa fz : List Nat) (w : World) (hva : Reads w va (lat.map iV) fa) (hvz : Reads w vz (lsz.map iV) fz) (hla : lat.length ≤ 1048576) :
    Calls Try.prog 5 #[va, vz] w fun e w' => e = .returned (.bool true) ∧ Kept [] w w' := by
  have HA := hva
  have HZ := hvz
  obtain ⟨aa, ac, rfl, -⟩ := hva
  obtain ⟨za, zc, rfl, -⟩ := hvz
  rw [List.length_map] at HA HZ ⊢
  rw [List.length_map]
  replace HA := Lib.hid HA
  replace HZ := Lib.hid HZ
  obtain ⟨i0, hi, hz0, hz1, hz2⟩ := info_parts (show (Try.prog.info? 5).map (fun i => (i.zero, i.size, i.bytes)) = some (some (.int .u8 0), 1, 1) by kernel_rfl)
  have HI := Lib.hid (And.intro hi (And.intro hz0 (And.intro hz1 hz2)))
  clear hi hz0 hz1 hz2
  go_enter Try.func5, Try.ntmps5
  go_wp2_with fail
  refine (Dk.awake _).mono ?_
  rintro e w1 ⟨rfl, hk1⟩
  go_wp2_with fail
  refine (Dk.newI 4 _ _ rfl (by omega) (by omega)).mono ?_
  rintro e w2 ⟨b, bs, cx, X, pv, rfl, hD, hge, hk2⟩
  have hkw2 : Kept [] w w2 := hk1.trans hk2 (by simp)
  go_wp2_with (at_make; refine wpList_make_full _ rfl _ _ _ rfl w2.heap.size 5 i0 (.int .u8 0) 1 Try.underlying23 HI.out.1 HI.out.2.1 HI.out.2.2.1 .i64 .i64 4 4 4 rfl rfl rfl rfl (by rw [HI.out.2.2.2]; omega) (by unfold maxLen; omega) (Nat.le_refl _) ?_; intro w3 ho3 hg3; have HO3 := Lib.hid ho3; clear ho3)
  have hm3 : (madeCells (Value.int .u8 0).cells (4 * 1)).toList = bytesV [0, 0, 0, 0] := by
    rw [show (Value.int .u8 0).cells = (List.replicate 1 (Value.int .u8 0)).toArray from rfl, made_replicate _ _ _ (by omega)]; rfl
  have hb3 := (owns_exact HO3.out).1
  rw [hm3] at hb3
  obtain ⟨g, hg⟩ : ∃ g, g = w2.heap.size := ⟨_, rfl⟩
  rw [← hg] at hb3
  have hk23 : Kept [] w2 w3 := (Kept.refl _ _).grown hg3 (by simp)
  have hkw3 : Kept [] w w3 := hkw2.trans hk23 (by simp)
  have hrel0 : LastRel w b bs cx g X w3 0 := ⟨DD.zero 4, pv, [0, 0, 0, 0], hD.kept hk23 (by simp), LastInv.start, rfl, hb3, fun x hx => ⟨by have := hge x hx; have := hk1.size; omega, by have := hD.lt x hx; omega⟩, by have := hkw2.size; omega, hkw3⟩
  have HREL := Lib.hid hrel0
  clear hm3 hb3 hrel0 hg3
  rw [← hg]
  have HG := Lib.hid hg
  clear hg
  go_loopw [8, 29] (fun nv i wr => ∃ k n : Nat, k ≤ lat.length ∧ n ≤ k ∧ nv = .int .i64 n ∧ i = .int .i64 k ∧ LastRel w b bs cx g X wr n) (fun _ i _ => lat.length - (intOf i).toNat)
  case atStart => exact ⟨0, 0, by omega, by omega, rfl, rfl, HREL.out⟩
  case round =>
    obtain ⟨k, n, hk, hnk, rfl, rfl, D, pvk, last, hDk, hinv, hpn, hblk, hdf, hgw, hkw⟩ := hrel
    have HINV := Lib.hid hinv
    have HPN := Lib.hid hpn
    have HBLK := Lib.hid hblk
    clear hinv hpn hblk
    by_cases hlt : k < lat.length
    · obtain ⟨vb, vo, rfl, hvb, hcell⟩ := Reads.at iV HA.out k hlt
      have hc : wr.cell? ⟨vb, vo + k, none⟩ = some (.int .i64 lat[k]) := (hkw.cell (p := ⟨vb, vo + k, none⟩) (World.block_lt_of_cell? w _ (hcell k hlt)) (by simp)).trans (hcell k hlt)
      generalize lat[k] = s at *
      have k0 : (0 : Int) ≤ (k : Int) := by omega
      have k1 : (k : Int) < (lat.length : Int) := by omega
      have hu := wrap_u8_nat k
      generalize UInt8.ofNat (k + 1) = x0 at *
      have hdis : ∀ x ∈ dfp b bs pvk, x ≠ g := fun x hx => (hdf x hx).2
      clear hcell
      go_wp2_with fail
      refine (Dk.fullI x0 _ _ rfl).mono ?_
      rintro e wf ⟨gf, rfl, hgf, hgfl, hkf⟩
      have hDf := hDk.kept hkf (by simp)
      have hkwf : Kept [] w wf := hkw.trans hkf (by simp)
      have hblkf := (hkf.block g (lt_of_block HBLK.out) (by simp)).trans HBLK.out
      have hgfd : gf ∉ dfp b bs pvk := fun hm => by have := hDk.lt gf hm; omega
      have hrgf := block_range hgf
      have HBF := Lib.hid hblkf
      have HRF := Lib.hid hrgf
      have HGF := Lib.hid hgf
      clear hblkf hrgf hgf
      by_cases hkz : k < lsz.length
      · obtain ⟨zb, zo, rfl, hzb, hzcell⟩ := Reads.at iV HZ.out k hkz
        have hcz : wf.cell? ⟨zb, zo + k, none⟩ = some (.int .i64 lsz[k]) := (hkwf.cell (p := ⟨zb, zo + k, none⟩) (World.block_lt_of_cell? w _ (hzcell k hkz)) (by simp)).trans (hzcell k hkz)
        generalize lsz[k] = z at *
        have kz1 : (k : Int) < (lsz.length : Int) := by omega
        clear hzcell
        by_cases hz0 : 0 ≤ z
        · by_cases hz256 : z < 256
          · obtain ⟨m, hm⟩ := Int.eq_ofNat_of_zero_le hz0
            subst hm
            have m256 : (m : Int) ≤ 256 := by omega
            go_wp2_with fail
            by_cases hs0 : 0 ≤ s
            · by_cases hs4 : s < 4
              · have hs3 : decide (3 < s) = false := by simp; omega
                have hmn : ((m : Int) == 256) = false := by simp; omega
                have hmn2 : ((m : Int) != 256) = true := by simp; omega
                refine (Dk.write_length b bs cx X _ pvk _ m _ s _ hDf (by omega) (by rw [HINV.out.secs]; omega) (by omega)).mono ?_
                rintro e w5 ⟨rfl, rfl⟩
                go_wp2
                go_roundw
                case rel => exact ⟨k + 1, n, by omega, by omega, rfl, by go_num, D, pvk, last, hDf, HINV.out, HPN.out, HBF.out, hdf, hgw, hkwf⟩
                case measure => simp [intOf]; omega
              · have hs3 : 3 < s := by omega
                refine (Dk.write_no b bs cx X _ pvk _ s _ hDf (by rw [HINV.out.secs]; omega)).mono ?_
                rintro e w5 ⟨rfl, rfl⟩
                go_wp2
                go_roundw
                case rel => exact ⟨k + 1, n, by omega, by omega, rfl, by go_num, D, pvk, last, hDf, HINV.out, HPN.out, HBF.out, hdf, hgw, hkwf⟩
                case measure => simp [intOf]; omega
            · have hsn : s < 0 := by omega
              refine (Dk.write_no b bs cx X _ pvk _ s _ hDf (by rw [HINV.out.secs]; omega)).mono ?_
              rintro e w5 ⟨rfl, rfl⟩
              go_wp2
              go_roundw
              case rel => exact ⟨k + 1, n, by omega, by omega, rfl, by go_num, D, pvk, last, hDf, HINV.out, HPN.out, HBF.out, hdf, hgw, hkwf⟩
              case measure => simp [intOf]; omega
          · have hz3 : decide (z < 256) = false := by simp; omega
            go_wp2_with fail
            by_cases hs0 : 0 ≤ s
            · by_cases hs4 : s < 4
              · skip
                obtain ⟨q, hq⟩ := Int.eq_ofNat_of_zero_le hs0
                subst hq
                refine (Dk.writeI b bs gf 0 256 cx q _ X _ pvk (sect x0) _ rfl hDf (by rw [HINV.out.secs]; omega) HRF.out (length_sect _) hgfd (by rw [HPN.out]; omega)).mono ?_
                rintro e w5 ⟨pv5, rfl, hD5, hb5, hk5⟩
                have hblk5 := (hk5.block g (lt_of_block HBF.out) (fun hm => hdis g hm rfl)).trans HBF.out
                have hkw5 : Kept [] w w5 := hkwf.trans hk5 (fun x hx => .inr (hdf x hx).1)
                have hql : q < last.length := by rw [HINV.out.len]; omega
                have hc5 : w5.cell? ⟨g, q, none⟩ = some (.int .u8 (last[q]).toNat) := by rw [cell_of_row _ _ _ _ _ _ hblk5]; simp [bytesV, hql]
                have hf5 : w5.frozen? ⟨g, q, none⟩ = false := frozen_of_row _ _ _ _ _ hblk5
                have hdf5 : ∀ x ∈ dfp b bs pv5, w.heap.size ≤ x ∧ x ≠ g := fun x hx => by
                  simp only [dfp, List.mem_cons, Option.mem_toList] at hx
                  rcases hx with rfl | rfl | hx
                  · exact hdf _ (by simp [dfp])
                  · exact hdf _ (by simp [dfp])
                  · rcases hb5 x hx with h | h
                    · exact hdf _ (by simp [dfp, h])
                    · have := lt_of_block HBF.out; have := hkwf.size; omega
                have q0 : (0 : Int) ≤ (q : Int) := by omega
                have q4 : (q : Int) < 4 := by omega
                have q3 : decide (3 < (q : Int)) = false := by simp; omega
                have HB5 := Lib.hid hblk5
                generalize last[q] = y0 at hc5
                clear hblk5 hql
                go_wp2_with fail
                refine (Dk.pendingI b bs cx X _ pv5 _ ((hD5.kept ((Kept.refl [g] _).setCell (by simp) _) (fun x hx => by simpa using (hdf5 x hx).2)))).mono ?_
                rintro e w6 ⟨rfl, rfl⟩
                rw [show (D.write q (sect x0)).pend.length = n + 1 by simp only [DD.write, List.length_append, HPN.out]; rfl]
                go_wp2
                go_roundw
                case rel =>
                  refine ⟨k + 1, n + 1, by omega, by omega, by go_num, by go_num, _, pv5, last.set q x0, hD5.kept ((Kept.refl [g] _).setCell (by simp) _) (fun x hx => by simpa using (hdf5 x hx).2), HINV.out.write q (by omega) x0, by simp only [DD.write, List.length_append, HPN.out]; rfl, ?_, hdf5, hgw, hkw5.setCell (.inr hgw) _⟩
                  rw [heap_setCell_same w5 _ q _ _ _ HB5.out]
                  simp [bytesV, List.map_set]
                case measure => simp [intOf]; omega
              · have hs3 : 3 < s := by omega
                refine (Dk.write_no b bs cx X _ pvk _ s _ hDf (by rw [HINV.out.secs]; omega)).mono ?_
                rintro e w5 ⟨rfl, rfl⟩
                go_wp2
                go_roundw
                case rel => exact ⟨k + 1, n, by omega, by omega, rfl, by go_num, D, pvk, last, hDf, HINV.out, HPN.out, HBF.out, hdf, hgw, hkwf⟩
                case measure => simp [intOf]; omega
            · have hsn : s < 0 := by omega
              refine (Dk.write_no b bs cx X _ pvk _ s _ hDf (by rw [HINV.out.secs]; omega)).mono ?_
              rintro e w5 ⟨rfl, rfl⟩
              go_wp2
              go_roundw
              case rel => exact ⟨k + 1, n, by omega, by omega, rfl, by go_num, D, pvk, last, hDf, HINV.out, HPN.out, HBF.out, hdf, hgw, hkwf⟩
              case measure => simp [intOf]; omega
        · have hz3 : decide (0 ≤ z) = false := by simp; omega
          go_wp2_with fail
          by_cases hs0 : 0 ≤ s
          · by_cases hs4 : s < 4
            · skip
              obtain ⟨q, hq⟩ := Int.eq_ofNat_of_zero_le hs0
              subst hq
              refine (Dk.writeI b bs gf 0 256 cx q _ X _ pvk (sect x0) _ rfl hDf (by rw [HINV.out.secs]; omega) HRF.out (length_sect _) hgfd (by rw [HPN.out]; omega)).mono ?_
              rintro e w5 ⟨pv5, rfl, hD5, hb5, hk5⟩
              have hblk5 := (hk5.block g (lt_of_block HBF.out) (fun hm => hdis g hm rfl)).trans HBF.out
              have hkw5 : Kept [] w w5 := hkwf.trans hk5 (fun x hx => .inr (hdf x hx).1)
              have hql : q < last.length := by rw [HINV.out.len]; omega
              have hc5 : w5.cell? ⟨g, q, none⟩ = some (.int .u8 (last[q]).toNat) := by rw [cell_of_row _ _ _ _ _ _ hblk5]; simp [bytesV, hql]
              have hf5 : w5.frozen? ⟨g, q, none⟩ = false := frozen_of_row _ _ _ _ _ hblk5
              have hdf5 : ∀ x ∈ dfp b bs pv5, w.heap.size ≤ x ∧ x ≠ g := fun x hx => by
                simp only [dfp, List.mem_cons, Option.mem_toList] at hx
                rcases hx with rfl | rfl | hx
                · exact hdf _ (by simp [dfp])
                · exact hdf _ (by simp [dfp])
                · rcases hb5 x hx with h | h
                  · exact hdf _ (by simp [dfp, h])
                  · have := lt_of_block HBF.out; have := hkwf.size; omega
              have q0 : (0 : Int) ≤ (q : Int) := by omega
              have q4 : (q : Int) < 4 := by omega
              have q3 : decide (3 < (q : Int)) = false := by simp; omega
              have HB5 := Lib.hid hblk5
              generalize last[q] = y0 at hc5
              clear hblk5 hql
              go_wp2_with fail
              refine (Dk.pendingI b bs cx X _ pv5 _ ((hD5.kept ((Kept.refl [g] _).setCell (by simp) _) (fun x hx => by simpa using (hdf5 x hx).2)))).mono ?_
              rintro e w6 ⟨rfl, rfl⟩
              rw [show (D.write q (sect x0)).pend.length = n + 1 by simp only [DD.write, List.length_append, HPN.out]; rfl]
              go_wp2
              go_roundw
              case rel =>
                refine ⟨k + 1, n + 1, by omega, by omega, by go_num, by go_num, _, pv5, last.set q x0, hD5.kept ((Kept.refl [g] _).setCell (by simp) _) (fun x hx => by simpa using (hdf5 x hx).2), HINV.out.write q (by omega) x0, by simp only [DD.write, List.length_append, HPN.out]; rfl, ?_, hdf5, hgw, hkw5.setCell (.inr hgw) _⟩
                rw [heap_setCell_same w5 _ q _ _ _ HB5.out]
                simp [bytesV, List.map_set]
              case measure => simp [intOf]; omega
            · have hs3 : 3 < s := by omega
              refine (Dk.write_no b bs cx X _ pvk _ s _ hDf (by rw [HINV.out.secs]; omega)).mono ?_
              rintro e w5 ⟨rfl, rfl⟩
              go_wp2
              go_roundw
              case rel => exact ⟨k + 1, n, by omega, by omega, rfl, by go_num, D, pvk, last, hDf, HINV.out, HPN.out, HBF.out, hdf, hgw, hkwf⟩
              case measure => simp [intOf]; omega
          · have hsn : s < 0 := by omega
            refine (Dk.write_no b bs cx X _ pvk _ s _ hDf (by rw [HINV.out.secs]; omega)).mono ?_
            rintro e w5 ⟨rfl, rfl⟩
            go_wp2
            go_roundw
            case rel => exact ⟨k + 1, n, by omega, by omega, rfl, by go_num, D, pvk, last, hDf, HINV.out, HPN.out, HBF.out, hdf, hgw, hkwf⟩
            case measure => simp [intOf]; omega
      · have hkz0 : decide (k < lsz.length) = false := by simp; omega
        go_wp2_with fail
        by_cases hs0 : 0 ≤ s
        · by_cases hs4 : s < 4
          · skip
            obtain ⟨q, hq⟩ := Int.eq_ofNat_of_zero_le hs0
            subst hq
            refine (Dk.writeI b bs gf 0 256 cx q _ X _ pvk (sect x0) _ rfl hDf (by rw [HINV.out.secs]; omega) HRF.out (length_sect _) hgfd (by rw [HPN.out]; omega)).mono ?_
            rintro e w5 ⟨pv5, rfl, hD5, hb5, hk5⟩
            have hblk5 := (hk5.block g (lt_of_block HBF.out) (fun hm => hdis g hm rfl)).trans HBF.out
            have hkw5 : Kept [] w w5 := hkwf.trans hk5 (fun x hx => .inr (hdf x hx).1)
            have hql : q < last.length := by rw [HINV.out.len]; omega
            have hc5 : w5.cell? ⟨g, q, none⟩ = some (.int .u8 (last[q]).toNat) := by rw [cell_of_row _ _ _ _ _ _ hblk5]; simp [bytesV, hql]
            have hf5 : w5.frozen? ⟨g, q, none⟩ = false := frozen_of_row _ _ _ _ _ hblk5
            have hdf5 : ∀ x ∈ dfp b bs pv5, w.heap.size ≤ x ∧ x ≠ g := fun x hx => by
              simp only [dfp, List.mem_cons, Option.mem_toList] at hx
              rcases hx with rfl | rfl | hx
              · exact hdf _ (by simp [dfp])
              · exact hdf _ (by simp [dfp])
              · rcases hb5 x hx with h | h
                · exact hdf _ (by simp [dfp, h])
                · have := lt_of_block HBF.out; have := hkwf.size; omega
            have q0 : (0 : Int) ≤ (q : Int) := by omega
            have q4 : (q : Int) < 4 := by omega
            have q3 : decide (3 < (q : Int)) = false := by simp; omega
            have HB5 := Lib.hid hblk5
            generalize last[q] = y0 at hc5
            clear hblk5 hql
            go_wp2_with fail
            refine (Dk.pendingI b bs cx X _ pv5 _ ((hD5.kept ((Kept.refl [g] _).setCell (by simp) _) (fun x hx => by simpa using (hdf5 x hx).2)))).mono ?_
            rintro e w6 ⟨rfl, rfl⟩
            rw [show (D.write q (sect x0)).pend.length = n + 1 by simp only [DD.write, List.length_append, HPN.out]; rfl]
            go_wp2
            go_roundw
            case rel =>
              refine ⟨k + 1, n + 1, by omega, by omega, by go_num, by go_num, _, pv5, last.set q x0, hD5.kept ((Kept.refl [g] _).setCell (by simp) _) (fun x hx => by simpa using (hdf5 x hx).2), HINV.out.write q (by omega) x0, by simp only [DD.write, List.length_append, HPN.out]; rfl, ?_, hdf5, hgw, hkw5.setCell (.inr hgw) _⟩
              rw [heap_setCell_same w5 _ q _ _ _ HB5.out]
              simp [bytesV, List.map_set]
            case measure => simp [intOf]; omega
          · have hs3 : 3 < s := by omega
            refine (Dk.write_no b bs cx X _ pvk _ s _ hDf (by rw [HINV.out.secs]; omega)).mono ?_
            rintro e w5 ⟨rfl, rfl⟩
            go_wp2
            go_roundw
            case rel => exact ⟨k + 1, n, by omega, by omega, rfl, by go_num, D, pvk, last, hDf, HINV.out, HPN.out, HBF.out, hdf, hgw, hkwf⟩
            case measure => simp [intOf]; omega
        · have hsn : s < 0 := by omega
          refine (Dk.write_no b bs cx X _ pvk _ s _ hDf (by rw [HINV.out.secs]; omega)).mono ?_
          rintro e w5 ⟨rfl, rfl⟩
          go_wp2
          go_roundw
          case rel => exact ⟨k + 1, n, by omega, by omega, rfl, by go_num, D, pvk, last, hDf, HINV.out, HPN.out, HBF.out, hdf, hgw, hkwf⟩
          case measure => simp [intOf]; omega
    · have hkl : k = lat.length := by omega
      subst hkl
      clear hlt
      obtain ⟨wp, hwp⟩ : ∃ wp : World, wp = wr := ⟨_, rfl⟩
      subst hwp
      have hrelP : LastRel w b bs cx g X wp n ∧ n < 2 ^ 32 := ⟨⟨D, pvk, last, hDk, HINV.out, HPN.out, HBLK.out, hdf, hgw, hkw⟩, by omega⟩
      have HRP := Lib.hid hrelP
      clear hrelP hDk HINV HPN HBLK hdf
      go_wp2_with fail
      go_loopw [8, 13] (fun nv p wr => ∃ (n k : Nat), n < 2 ^ 32 ∧ k ≤ 2 ∧ nv = .int .i64 n ∧ p = .int .i64 k ∧ LastRel w b bs cx g X wr n) (fun _ p _ => 2 - (intOf p).toNat)
      case atStart => exact ⟨n, 0, HRP.out.2, by omega, rfl, rfl, HRP.out.1⟩
      case round =>
        obtain ⟨n, k, hn32, hk, rfl, rfl, D, pvk, last, hDk, hinv, hpn, hblk, hdf, hgw, hkw⟩ := hrel
        have HINV := Lib.hid hinv
        have HPN := Lib.hid hpn
        have HBLK := Lib.hid hblk
        clear hinv hpn hblk
        by_cases hlt : k < 2
        · have k0 : (0 : Int) ≤ (k : Int) := by omega
          have k1 : (k : Int) < 2 := by omega
          obtain ⟨wq, hwq⟩ : ∃ wq : World, wq = wr := ⟨_, rfl⟩
          subst hwq
          go_wp2_with fail
          go_loopw [102] (fun i wr => ∃ j : Nat, j ≤ 4 ∧ i = .int .i64 j ∧ Kept [] wq wr) (fun i _ => 4 - (intOf i).toNat)
          case atStart => exact ⟨0, by omega, rfl, Kept.refl _ _⟩
          case round =>
            obtain ⟨j, hj, rfl, hkj⟩ := hrel
            by_cases hj4 : j < 4
            · have j0 : (0 : Int) ≤ (j : Int) := by omega
              have j1 : (j : Int) < 4 := by omega
              have hblkj := (hkj.block g (lt_of_block HBLK.out) (by simp)).trans HBLK.out
              have hcj : wr.cell? ⟨g, j, none⟩ = some (.int .u8 (last.getD j 0).toNat) := by
                rw [cell_of_row _ _ _ _ _ _ hblkj]
                simp [bytesV, List.getElem?_eq_getElem (show j < last.length by rw [HINV.out.len]; exact hj4)]
              have hrd := HINV.out.read j hj4
              generalize last.getD j 0 = x0 at *
              have HRD := Lib.hid hrd
              clear hblkj hrd
              go_wp2_with fail
              refine (Dk.readI b bs j cx _ X _ pvk _ rfl (hDk.kept hkj (by simp)) (by rw [HINV.out.secs]; omega) (by rw [HPN.out]; omega)).mono ?_
              rintro e wt ⟨g10, c10, rfl, ho10, hl10, hg10, hk10⟩
              rw [HRD.out] at ho10
              obtain ⟨Y10, hY10⟩ := owns_block ho10
              have hsC : ∀ w', Kept [] wt w' → (convert 23 9 (.slice (some ⟨g10, 0, none⟩) 256 c10)).run Try.prog w' = .ok (.string (strOf (sect x0))) w' := fun w' hq => run_string_of w' _ _ _ Try.underlying23 Try.underlying5 Try.underlying9 ((reads_of_block (n := 256) (cap := c10) hY10 (by rw [length_bytesV]; exact length_sect _)).kept hq (by simp))
              have HSC := Lib.hid hsC
              have hkj10 : Kept [] wq wt := hkj.trans hk10 (by simp)
              clear hsC hY10 ho10 hl10
              go_wp2
              have hS0 : Kept [] wt wt.drew := (Kept.refl _ _).drew
              refine wp_region_T 10 (fun w' => Kept [] wt w') (by kernel_rfl) (by simp) (by kernel_rfl) ?_
              refine wpT_take (i := 0) (v := ?_) rfl (by kernel_rfl) (fun _ _ _ h => h) (by assumption) (.inl ⟨rfl, ?_⟩) ?_
              rotate_left
              · intro w' hS; go_simp; try with_reducible rfl
              simp only [Act.put, List.setIfInBounds_toArray, List.set_cons_zero, List.set_cons_succ]
              refine wpT_take (i := 1) (v := ?_) rfl (by kernel_rfl) (fun _ _ _ h => h) (by assumption) (.inl ⟨rfl, ?_⟩) ?_
              rotate_left
              · intro w' hS; go_simp; try with_reducible rfl
              simp only [Act.put, List.setIfInBounds_toArray, List.set_cons_zero, List.set_cons_succ]
              refine wpT_take (i := 2) (v := ?_) rfl (by kernel_rfl) (fun _ _ _ h => h) (by assumption) (.inl ⟨rfl, ?_⟩) ?_
              rotate_left
              · intro w' hS; go_simp; try with_reducible rfl
              simp only [Act.put, List.setIfInBounds_toArray, List.set_cons_zero, List.set_cons_succ]
              refine wpT_take (i := 3) (v := ?_) rfl (by kernel_rfl) (fun _ _ _ h => h) (by assumption) (.inl ⟨rfl, ?_⟩) ?_
              rotate_left
              · intro w' hS; go_simp; try with_reducible rfl
              simp only [Act.put, List.setIfInBounds_toArray, List.set_cons_zero, List.set_cons_succ]
              refine wpT_take (i := 4) (v := ?_) rfl (by kernel_rfl) (fun _ _ _ h => h) (by assumption) (.inl ⟨rfl, ?_⟩) ?_
              rotate_left
              · intro w' hS; have hq := HSC.out w' hS; clear hS; go_simp; try with_reducible rfl
              simp only [Act.put, List.setIfInBounds_toArray, List.set_cons_zero, List.set_cons_succ]
              refine wpT_take (i := 5) (v := ?_) rfl (by kernel_rfl) (fun _ _ _ h => h) (by assumption) (.inl ⟨rfl, ?_⟩) ?_
              rotate_left
              · intro w' hS; go_simp; try with_reducible rfl
              simp only [Act.put, List.setIfInBounds_toArray, List.set_cons_zero, List.set_cons_succ]
              refine wpT_one (i := 6) rfl rfl (by kernel_rfl) (fun K hK => ?_)
              go_simp
              refine (Dk.fullI x0 _ _ rfl).mono ?_
              rintro e wf ⟨gf, rfl, hgf, hgfl, hkf⟩
              have hS1 : wf = wf := rfl
              have hkf2 : Kept [] wt wf := hS0.trans hkf (by simp)
              refine hK (fun w' => w' = wf) _ _ (fun u hu => by rw [hu]; exact hkf2) rfl ?_
              clear hK K
              try simp only [Act.put, List.setIfInBounds_toArray, List.set_cons_zero, List.set_cons_succ]
              have hsD : (convert 23 9 (.slice (some ⟨gf, 0, none⟩) 256 256)).run Try.prog wf = .ok (.string (strOf (sect x0))) wf := run_string_of wf _ _ _ Try.underlying23 Try.underlying5 Try.underlying9 (reads_of_block (Y := []) (n := 256) (cap := 256) (by rw [List.append_nil]; exact hgf) (by rw [length_bytesV]; exact length_sect _))
              have HSD := Lib.hid hsD
              clear hsD
              refine wpT_take (i := 7) (v := ?_) rfl (by kernel_rfl) (fun _ _ _ h => h) (by assumption) (.inl ⟨rfl, ?_⟩) ?_
              rotate_left
              · intro w' hS; have hq := HSD.out; subst hS; go_simp; try with_reducible rfl
              simp only [Act.put, List.setIfInBounds_toArray, List.set_cons_zero, List.set_cons_succ]
              refine wpT_take (i := 8) (v := ?_) rfl (by kernel_rfl) (fun _ _ _ h => h) (by assumption) (.inl ⟨rfl, ?_⟩) ?_
              rotate_left
              · intro w' hS; go_simp; try with_reducible rfl
              simp only [Act.put, List.setIfInBounds_toArray, List.set_cons_zero, List.set_cons_succ]
              refine wpT_take (i := 9) (v := ?_) rfl (by kernel_rfl) (fun _ _ _ h => h) (by assumption) (.inl ⟨rfl, ?_⟩) ?_
              rotate_left
              · intro w' hS; go_simp; try with_reducible rfl
              simp only [Act.put, List.setIfInBounds_toArray, List.set_cons_zero, List.set_cons_succ]
              refine wpT_done (by kernel_rfl) ?_
              simp only [List.drop_succ_cons, List.drop_zero, List.drop_nil]
              go_wp2
              go_roundw
              case rel => exact ⟨j + 1, by omega, by go_num, hkj10.trans hkf2 (by simp)⟩
              case measure => simp [intOf]; omega
            · have hDj := hDk.kept hkj (by simp)
              go_wp2_with fail
              refine (Dk.sync b bs cx X _ pvk _ hDj (by rw [HPN.out]; omega)).mono ?_
              rintro e ws ⟨rfl, hDs, hks⟩
              rw [HPN.out]
              have hbs2 : ∀ x ∈ [b, bs], w.heap.size ≤ x ∧ x ≠ g := fun x hx => hdf x (by simp [dfp] at hx ⊢; rcases hx with h | h <;> simp [h])
              have hblks := (hks.block g (by have := lt_of_block HBLK.out; have := hkj.size; omega) (fun hm => (hbs2 g hm).2 rfl)).trans ((hkj.block g (lt_of_block HBLK.out) (by simp)).trans HBLK.out)
              have HBS := Lib.hid hblks
              clear hblks
              go_wp2
              go_roundw
              case rel => exact ⟨0, k + 1, by omega, by omega, rfl, by go_num, D.sync, _, last, hDs, HINV.out.sync hDj.ok, rfl, HBS.out, fun x hx => hbs2 x (by simpa [dfp, Value.ownBlock] using hx), hgw, (hkw.trans hkj (by simp)).trans hks (fun x hx => .inr (hbs2 x hx).1)⟩
              case measure => simp [intOf]; omega
        · go_wp2
          go_ret
          exact ⟨rfl, hkw⟩
end Go.Proofs.Ytdjfibkpmmcefaa
