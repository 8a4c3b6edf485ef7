/- The law DiskKeeps of annalslaw01: the walk. -/
import Derived.Test.YtdjfibkpmmcefaaDiskJ
import Derived.Test.YtdjfibkpmmcefaaLaw
namespace Go.Proofs.Ytdjfibkpmmcefaa
open Go.RowKit

set_option maxRecDepth 100000 in
set_option maxHeartbeats 4000000 in
theorem Dk.keeps (l : List UInt8) (v : Value) (fp : List Nat) (at_ : Int) (w : World) (hv : Reads w v (bytesV l) fp) (hfp : ∀ x ∈ fp, x < w.heap.size) (hlen : l.length ≤ 1048576) :
    Calls Try.prog 4 #[v, .int .i64 at_] w fun e w' => e = .returned (.bool true) ∧ Kept [] w w' := by
  have hv0 := hv
  obtain ⟨va, vc, rfl, _⟩ := hv
  rw [length_bytesV] at hv0 ⊢
  have HV := Lib.hid hv0
  clear hv0
  go_enter Try.func4, Try.ntmps4
  go_wp2_with fail
  refine (Dk.awake _).mono ?_
  rintro e w1 ⟨rfl, hk1⟩
  go_wp2_with fail
  refine (Dk.newI 4 _ _ rfl (by omega) (by omega)).mono ?_
  rintro e w2 ⟨b, bs, cx, X, pv, rfl, hD, hge, hk2⟩
  have hk02 : Kept [] w w2 := hk1.trans hk2 (by simp)
  have hv2 := HV.out.kept hk02 (by simp)
  go_wp2_with (first | (at_builtin; refine wpList_append_k (v := .slice (some ⟨w2.heap.size, 0, none⟩) 0 0) (x := .slice va l.length vc) (m := l.length) (news := bytesV l) rfl (.tmp 24) (.tmp 25) _ _ rfl Dk.elemB rfl (empty_row w2 _ 1) rfl (by have := Src.ofReads (P := Try.prog) Try.underlying23 (hv2.kept ((Kept.refl [] w2).alloc (.cells #[] 5)) (by simp)) one_bytesV; rw [length_bytesV] at this; exact this) (by unfold maxLen; omega) (by omega) (Nat.zero_le _) ?_; intro v3 w3 hA; have ho3 := hA.own; simp only [Nat.zero_add, List.nil_append] at ho3; obtain ⟨p3, c3, hv3⟩ := owns_slice ho3; subst hv3; have HA := Lib.hid hA; clear hA; have HO3 := Lib.hid ho3; clear ho3) | (at_builtin; refine wpList_append_k (v := .slice p3 l.length c3) (x := .slice (some ⟨w3.heap.size, 0, none⟩) 1 1) (m := 1) (news := [.int .u8 77]) rfl (.tmp 26) (.tmp 27) _ _ rfl Dk.elemB rfl (HO3.out.alloc _) rfl (Src.ofBlock Try.underlying23 (by exact heap_alloc_new w3 _) 1 1 (by simp) (by simp [Value.oneCell'])) (by unfold maxLen; omega) (by omega) (Nat.zero_le _) ?_; intro v4 w4 hA4; obtain ⟨g, c4, hv4, hg, hgl⟩ := hA4.slice (by omega); subst hv4; have hcap : ((l.length : Nat) : Int) ≤ (c4 : Int) := (by have := owns_cap hA4.own; omega); have HA4 := Lib.hid hA4; clear hA4; have Hg := Lib.hid hg; clear hg))
  have hk24 : Kept [] w2 w4 := ((((Kept.refl [] w2).alloc _).trans HA.out.kept (by simp [Value.ownBlock])).alloc _).trans HA4.out.kept (by
    intro x hx
    rcases HA.out.blk x (by simpa using hx) with h | h
    · simp only [Value.ownBlock, Option.some.injEq] at h; right; omega
    · simp at h; right; omega)
  have hz3 := HA.out.kept.size
  simp only [size_alloc_k] at hz3
  have hg2 : w2.heap.size ≤ g := by
    rcases Hg.out with h | h
    · rcases HA.out.blk g h with h | h
      · simp only [Value.ownBlock, Option.some.injEq] at h; omega
      · simp at h; omega
    · simp at h; omega
  obtain ⟨X4, hX4⟩ := owns_block HA4.out.own
  rw [List.append_assoc, List.singleton_append] at hX4
  have hD4 := hD.kept hk24 (by simp)
  have hgd : ∀ x ∈ dfp b bs pv, x ≠ g := fun x hx => by have := hD.lt x hx; omega
  by_cases hat : 0 ≤ at_ ∧ at_ < 4
  · by_cases h256 : l.length = 256
    · obtain ⟨n, hn⟩ := Int.eq_ofNat_of_zero_le hat.1
      subst hn
      have hrg : w4.rangeAt g 0 (bytesV l) := fun j v hv => by
        have := cells_from hX4 0 (bytesV l) (by simp) j v hv
        rwa [Addr.add_mid] at this
      have h256' : (.slice (some ⟨g, 0, none⟩) l.length c4 : Value) = .slice (some ⟨g, 0, none⟩) 256 c4 := by rw [h256]
      have hwr := Dk.writeI b bs g 0 c4 cx n _ X _ pv l w4 rfl hD4 (by simp [DD.zero]; omega) hrg h256 (fun hm => hgd g hm rfl) (by simp [DD.zero])
      rw [← h256'] at hwr
      refine hwr.mono ?_
      have H256 := Lib.hid h256
      clear hwr h256' h256
      rintro e w5 ⟨pv5, rfl, hD5, hb5, hk5⟩
      have hgW := (hk5.block g (lt_of_block hX4) (fun hm => hgd g hm rfl)).trans hX4
      have hkW : Kept [] w w5 := (hk02.trans hk24 (by simp)).trans hk5 (fun x hx => .inr (by have := hge x hx; have := hk1.size; omega))
      have hs1 : (convert 23 9 (.slice (some ⟨g, 0, none⟩) l.length c4)).run Try.prog w5 = .ok (.string (strOf l)) w5 := run_string_of w5 _ _ _ Try.underlying23 Try.underlying5 Try.underlying9 (reads_of_block (n := l.length) (cap := c4) hgW (by rw [length_bytesV]))
      have hs2 : (convert 23 9 (.slice va l.length vc)).run Try.prog w5 = .ok (.string (strOf l)) w5 := run_string_of w5 _ _ _ Try.underlying23 Try.underlying5 Try.underlying9 (HV.out.kept hkW (by simp))
      have hc77 : w5.cell? ⟨g, l.length, none⟩ = some (.int .u8 77) := by rw [cell_of_row w5 _ _ _ _ _ hgW]; simp [bytesV]
      have hcap1 : ((l.length : Nat) : Int) + 1 ≤ (c4 : Int) := by have := owns_cap HA4.out.own; omega
      have hl0 : (0 : Int) ≤ (l.length : Int) := by omega
      have HGW := Lib.hid hgW
      clear hgW
      go_wp2
      go_loopw [55] (fun i wr => ∃ (k : Nat) (L : List UInt8), k ≤ l.length ∧ L.length = l.length ∧ i = .int .i64 k ∧ Hid (wr.heap[g]? = some (.cells (bytesV L ++ (.int .u8 77 :: X4)).toArray 5 (0, 0))) ∧ Kept [g] w5 wr) (fun i _ => l.length - (intOf i).toNat)
      case atStart => exact ⟨0, l, Nat.zero_le _, rfl, rfl, HGW.out, Kept.refl _ _⟩
      case round =>
        obtain ⟨k, L, hk, hL, rfl, hrow, hkp⟩ := hrel
        by_cases hlt : k < l.length
        · have hc : wr.cell? ⟨g, k, none⟩ = some (.int .u8 (L[k]'(by omega)).toNat) := by
            rw [cell_of_row wr _ _ _ _ _ hrow.out]; simp [bytesV, List.getElem?_append_left, hL, hlt]
          have hf : wr.frozen? ⟨g, k, none⟩ = false := frozen_of_row wr _ _ _ _ hrow.out
          obtain ⟨u, hu⟩ := wrap_u8 ((((L[k]'(by omega)).toNat : Nat) : Int) + 1)
          have hb := (L[k]'(by omega)).toNat_lt
          generalize hx : (L[k]'(by omega)) = x0 at hc hu hb
          have HL := Lib.hid hL
          clear hL hx
          have k0 : (0 : Int) ≤ (k : Int) := by omega
          have k1 : (k : Int) < (l.length : Int) := by omega
          go_wp2
          go_roundw
          case rel =>
            refine ⟨k + 1, L.set k u, by omega, by rw [List.length_set]; exact HL.out, by go_num, ?_, hkp.setCell (.inl (by simp)) _⟩
            show _ = _
            rw [heap_setCell_same wr _ k _ _ _ hrow.out]
            simp [bytesV, List.set_append_left, HL.out, hlt]
          case measure => simp [intOf]; omega
        · have hgd5 : ∀ x ∈ dfp b bs pv5, x ≠ g := fun x hx => by
            simp only [dfp, List.mem_cons, Option.mem_toList] at hx
            rcases hx with rfl | rfl | hx
            · exact hgd _ (by simp [dfp])
            · exact hgd _ (by simp [dfp])
            · rcases hb5 x hx with h | h
              · exact hgd _ (by simp [dfp, h])
              · have := lt_of_block hX4; omega
          have hDr := hD5.kept hkp (by simpa using hgd5)
          have hrd : ((DD.zero 4).write n l).read n = l := by simp [DD.read, DD.readK, DD.write, DD.zero]
          go_wp2_with fail
          refine (Dk.readI b bs n cx _ X _ pv5 _ rfl hDr (by simp [DD.write, DD.zero]; omega) (by simp [DD.write, DD.zero])).mono ?_
          rintro e w6 ⟨g6, c6, rfl, ho6, hl6, hg6, hk6⟩
          have hDr6 := hDr.kept hk6 (by simp)
          rw [hrd] at ho6
          obtain ⟨X6, hX6⟩ := owns_block ho6
          have hs6 : (convert 23 9 (.slice (some ⟨g6, 0, none⟩) 256 c6)).run Try.prog w6 = .ok (.string (strOf l)) w6 := run_string_of w6 _ _ _ Try.underlying23 Try.underlying5 Try.underlying9 (reads_of_block (n := 256) (cap := c6) hX6 (by rw [length_bytesV]; exact H256.out))
          have hk06 : Kept [] w w6 := (hkW.trans hkp (by have := hk02.size; simp; omega)).trans hk6 (by simp)
          have HX6 := Lib.hid hX6
          clear hX6 ho6 hrd hl6
          go_wp2
          go_loopw [80] (fun i wr => ∃ (k : Nat) (L : List UInt8), k ≤ 256 ∧ L.length = 256 ∧ i = .int .i64 k ∧ Hid (wr.heap[g6]? = some (.cells (bytesV L ++ X6).toArray 5 (0, 0))) ∧ Kept [g6] w6 wr) (fun i _ => 256 - (intOf i).toNat)
          case atStart => exact ⟨0, l, Nat.zero_le _, H256.out, rfl, HX6.out, Kept.refl _ _⟩
          case round =>
            obtain ⟨k, L, hk, hL, rfl, hrow, hkp6⟩ := hrel
            by_cases hlt : k < 256
            · have hc : wr.cell? ⟨g6, k, none⟩ = some (.int .u8 (L[k]'(by omega)).toNat) := by
                rw [cell_of_row wr _ _ _ _ _ hrow.out]; simp [bytesV, List.getElem?_append_left, hL, hlt]
              have hf : wr.frozen? ⟨g6, k, none⟩ = false := frozen_of_row wr _ _ _ _ hrow.out
              obtain ⟨u, hu⟩ := wrap_u8 ((((L[k]'(by omega)).toNat : Nat) : Int) + 1)
              have hb := (L[k]'(by omega)).toNat_lt
              generalize hx : (L[k]'(by omega)) = x0 at hc hu hb
              have HL := Lib.hid hL
              clear hL hx
              have k0 : (0 : Int) ≤ (k : Int) := by omega
              have k1 : (k : Int) < (256 : Int) := by omega
              go_wp2
              go_roundw
              case rel =>
                refine ⟨k + 1, L.set k u, by omega, by rw [List.length_set]; exact HL.out, by go_num, ?_, hkp6.setCell (.inl (by simp)) _⟩
                show _ = _
                rw [heap_setCell_same wr _ k _ _ _ hrow.out]
                simp [bytesV, List.set_append_left, HL.out, hlt]
              case measure => simp [intOf]; omega
            · have hDr7 := hDr6.kept hkp6 (by simpa using fun x hx => (show x ≠ g6 by have := hDr.lt x hx; omega))
              have hrd7 : ((DD.zero 4).write n l).read n = l := by simp [DD.read, DD.readK, DD.write, DD.zero]
              go_wp2_with fail
              refine (Dk.readI b bs n cx _ X _ pv5 _ rfl hDr7 (by simp [DD.write, DD.zero]; omega) (by simp [DD.write, DD.zero])).mono ?_
              rintro e w8 ⟨g8, c8, rfl, ho8, hl8, hg8, hk8⟩
              rw [hrd7] at ho8
              obtain ⟨X8, hX8⟩ := owns_block ho8
              have hk08 : Kept [] w w8 := (hk06.trans hkp6 (by have := hk02.size; have := hkp.size; have := hkW.size; simp; omega)).trans hk8 (by simp)
              have hs8 : (convert 23 9 (.slice (some ⟨g8, 0, none⟩) 256 c8)).run Try.prog w8 = .ok (.string (strOf l)) w8 := run_string_of w8 _ _ _ Try.underlying23 Try.underlying5 Try.underlying9 (reads_of_block (n := 256) (cap := c8) hX8 (by rw [length_bytesV]; exact H256.out))
              have hs9 : (convert 23 9 (.slice va l.length vc)).run Try.prog w8 = .ok (.string (strOf l)) w8 := run_string_of w8 _ _ _ Try.underlying23 Try.underlying5 Try.underlying9 (HV.out.kept hk08 (by simp))
              clear hX8 ho8 hrd7 hl8
              go_wp2
              go_ret
              exact ⟨rfl, hk08⟩
    · obtain ⟨n, hn⟩ := Int.eq_ofNat_of_zero_le hat.1
      subst hn
      refine (Dk.write_length b bs cx X _ pv _ _ _ _ _ hD4 hat.1 (by simp [DD.zero]; omega) h256).mono ?_
      rintro e w5 ⟨rfl, rfl⟩
      have hgW := hX4
      have hkW : Kept [] w w4 := hk02.trans hk24 (by simp)
      have hs1 : (convert 23 9 (.slice (some ⟨g, 0, none⟩) l.length c4)).run Try.prog w4 = .ok (.string (strOf l)) w4 := run_string_of w4 _ _ _ Try.underlying23 Try.underlying5 Try.underlying9 (reads_of_block (n := l.length) (cap := c4) hgW (by rw [length_bytesV]))
      have hs2 : (convert 23 9 (.slice va l.length vc)).run Try.prog w4 = .ok (.string (strOf l)) w4 := run_string_of w4 _ _ _ Try.underlying23 Try.underlying5 Try.underlying9 (HV.out.kept hkW (by simp))
      have hc77 : w4.cell? ⟨g, l.length, none⟩ = some (.int .u8 77) := by rw [cell_of_row w4 _ _ _ _ _ hgW]; simp [bytesV]
      have hcap1 : ((l.length : Nat) : Int) + 1 ≤ (c4 : Int) := by have := owns_cap HA4.out.own; omega
      have hl0 : (0 : Int) ≤ (l.length : Int) := by omega
      have HGW := Lib.hid hgW
      clear hgW
      go_wp2
      go_loopw [55] (fun i wr => ∃ (k : Nat) (L : List UInt8), k ≤ l.length ∧ L.length = l.length ∧ i = .int .i64 k ∧ Hid (wr.heap[g]? = some (.cells (bytesV L ++ (.int .u8 77 :: X4)).toArray 5 (0, 0))) ∧ Kept [g] w4 wr) (fun i _ => l.length - (intOf i).toNat)
      case atStart => exact ⟨0, l, Nat.zero_le _, rfl, rfl, HGW.out, Kept.refl _ _⟩
      case round =>
        obtain ⟨k, L, hk, hL, rfl, hrow, hkp⟩ := hrel
        by_cases hlt : k < l.length
        · have hc : wr.cell? ⟨g, k, none⟩ = some (.int .u8 (L[k]'(by omega)).toNat) := by
            rw [cell_of_row wr _ _ _ _ _ hrow.out]; simp [bytesV, List.getElem?_append_left, hL, hlt]
          have hf : wr.frozen? ⟨g, k, none⟩ = false := frozen_of_row wr _ _ _ _ hrow.out
          obtain ⟨u, hu⟩ := wrap_u8 ((((L[k]'(by omega)).toNat : Nat) : Int) + 1)
          have hb := (L[k]'(by omega)).toNat_lt
          generalize hx : (L[k]'(by omega)) = x0 at hc hu hb
          have HL := Lib.hid hL
          clear hL hx
          have k0 : (0 : Int) ≤ (k : Int) := by omega
          have k1 : (k : Int) < (l.length : Int) := by omega
          go_wp2
          go_roundw
          case rel =>
            refine ⟨k + 1, L.set k u, by omega, by rw [List.length_set]; exact HL.out, by go_num, ?_, hkp.setCell (.inl (by simp)) _⟩
            show _ = _
            rw [heap_setCell_same wr _ k _ _ _ hrow.out]
            simp [bytesV, List.set_append_left, HL.out, hlt]
          case measure => simp [intOf]; omega
        · have hDr := hD4.kept hkp (by simpa using hgd)
          go_wp2_with fail
          refine (Dk.readI b bs n cx _ X _ pv _ rfl hDr (by simp [DD.zero]; omega) (by simp [DD.zero])).mono ?_
          rintro e w6 ⟨g6, c6, rfl, ho6, hl6, hg6, hk6⟩
          have hDr6 := hDr.kept hk6 (by simp)
          go_wp2_with fail
          refine (Dk.pendingI b bs cx X _ pv _ hDr6).mono ?_
          rintro e w9 ⟨rfl, rfl⟩
          rw [show (DD.zero 4).pend.length = 0 from rfl]
          go_wp2
          go_ret
          exact ⟨rfl, (hkW.trans hkp (by have := hk02.size; simp; omega)).trans hk6 (by simp)⟩
  · refine (Dk.write_no b bs cx X _ pv _ at_ _ hD4 (by simp [DD.zero]; omega)).mono ?_
    rintro e w5 ⟨rfl, rfl⟩
    have hgW := hX4
    have hkW : Kept [] w w4 := hk02.trans hk24 (by simp)
    have hs1 : (convert 23 9 (.slice (some ⟨g, 0, none⟩) l.length c4)).run Try.prog w4 = .ok (.string (strOf l)) w4 := run_string_of w4 _ _ _ Try.underlying23 Try.underlying5 Try.underlying9 (reads_of_block (n := l.length) (cap := c4) hgW (by rw [length_bytesV]))
    have hs2 : (convert 23 9 (.slice va l.length vc)).run Try.prog w4 = .ok (.string (strOf l)) w4 := run_string_of w4 _ _ _ Try.underlying23 Try.underlying5 Try.underlying9 (HV.out.kept hkW (by simp))
    have hc77 : w4.cell? ⟨g, l.length, none⟩ = some (.int .u8 77) := by rw [cell_of_row w4 _ _ _ _ _ hgW]; simp [bytesV]
    have hcap1 : ((l.length : Nat) : Int) + 1 ≤ (c4 : Int) := by have := owns_cap HA4.out.own; omega
    have hl0 : (0 : Int) ≤ (l.length : Int) := by omega
    have HGW := Lib.hid hgW
    clear hgW
    go_wp2
    go_loopw [55] (fun i wr => ∃ (k : Nat) (L : List UInt8), k ≤ l.length ∧ L.length = l.length ∧ i = .int .i64 k ∧ Hid (wr.heap[g]? = some (.cells (bytesV L ++ (.int .u8 77 :: X4)).toArray 5 (0, 0))) ∧ Kept [g] w4 wr) (fun i _ => l.length - (intOf i).toNat)
    case atStart => exact ⟨0, l, Nat.zero_le _, rfl, rfl, HGW.out, Kept.refl _ _⟩
    case round =>
      obtain ⟨k, L, hk, hL, rfl, hrow, hkp⟩ := hrel
      by_cases hlt : k < l.length
      · have hc : wr.cell? ⟨g, k, none⟩ = some (.int .u8 (L[k]'(by omega)).toNat) := by
          rw [cell_of_row wr _ _ _ _ _ hrow.out]; simp [bytesV, List.getElem?_append_left, hL, hlt]
        have hf : wr.frozen? ⟨g, k, none⟩ = false := frozen_of_row wr _ _ _ _ hrow.out
        obtain ⟨u, hu⟩ := wrap_u8 ((((L[k]'(by omega)).toNat : Nat) : Int) + 1)
        have hb := (L[k]'(by omega)).toNat_lt
        generalize hx : (L[k]'(by omega)) = x0 at hc hu hb
        have HL := Lib.hid hL
        clear hL hx
        have k0 : (0 : Int) ≤ (k : Int) := by omega
        have k1 : (k : Int) < (l.length : Int) := by omega
        go_wp2
        go_roundw
        case rel =>
          refine ⟨k + 1, L.set k u, by omega, by rw [List.length_set]; exact HL.out, by go_num, ?_, hkp.setCell (.inl (by simp)) _⟩
          show _ = _
          rw [heap_setCell_same wr _ k _ _ _ hrow.out]
          simp [bytesV, List.set_append_left, HL.out, hlt]
        case measure => simp [intOf]; omega
      · have hDr := hD4.kept hkp (by simpa using hgd)
        go_wp2_with fail
        refine (Dk.read_no b bs cx X _ pv at_ _ hDr (by simp [DD.zero]; omega)).mono ?_
        rintro e w6 ⟨rfl, rfl⟩
        go_wp2_with fail
        refine (Dk.pendingI b bs cx X _ pv _ hDr).mono ?_
        rintro e w9 ⟨rfl, rfl⟩
        rw [show (DD.zero 4).pend.length = 0 from rfl]
        go_wp2
        go_ret
        exact ⟨rfl, hkW.trans hkp (by have := hk02.size; simp; omega)⟩
end Go.Proofs.Ytdjfibkpmmcefaa
