/- The law DiskDurable of annalslaw01: the walk. -/
import Derived.Test.YtdjfibkpmmcefaaDiskL
namespace Go.Proofs.Ytdjfibkpmmcefaa
open Go.RowKit

set_option maxRecDepth 100000 in
set_option maxHeartbeats 8000000 in
theorem Dk.durable (la : List UInt8) (keep : List Bool) (va vk dk : Value) (fa fk : List Nat) (kind at0 tear at_ : Int) (w : World) (hva : Reads w va (bytesV la) fa) (hvk : Reads w vk (boolsV keep) fk)
    (hfk : ∀ x ∈ fk, x < w.heap.size) (hla : la.length ≤ 1048576) :
    Calls Try.prog 7 #[va, .agg #[.int .i64 kind, .int .i64 at0, dk, vk, .int .i64 tear, .int .i64 at_]] w fun e w' => e = .returned (.bool true) ∧ Kept [] w w' := by
  have HA := hva
  have HK := Lib.hid hvk
  obtain ⟨aa, ac, rfl, -⟩ := hva
  obtain ⟨ka, kc, rfl, hkd⟩ := reads_bool hvk
  rw [length_bytesV] at HA ⊢
  replace HA := Lib.hid HA
  have HKD := Lib.hid hkd
  clear hvk hkd
  go_enter Try.func7, Try.ntmps7
  go_wp2_with fail
  refine (Dk.awake _).mono ?_
  rintro e w1 ⟨rfl, hk1⟩
  have hbox := heap_alloc_new w (.cells #[.int .i64 kind, .int .i64 at0, dk, .slice ka keep.length kc, .int .i64 tear, .int .i64 at_] 47)
  have hbox1 := (hk1.block w.heap.size (by simp) (by simp)).trans hbox
  have HBX := Lib.hid hbox1
  have hkw1 : Kept [] w w1 := ((Kept.refl [] w).alloc _).trans hk1 (by simp)
  have hsz1 : w.heap.size < w1.heap.size := lt_of_block hbox1
  clear hbox hbox1 hk1
  go_wp2_with fail
  refine (Dk.newI 8 _ _ rfl (by omega) (by omega)).mono ?_
  rintro e w2 ⟨b, bs, cx, X, pv, rfl, hD, hge, hk2⟩
  have hkw2 : Kept [] w w2 := hkw1.trans hk2 (by simp)
  have hge0 : ∀ x ∈ dfp b bs pv, w.heap.size ≤ x := fun x hx => by have := hge x hx; omega
  go_wp2_with fail
  go_loopw [33] (fun i wr => ∃ k : Nat, k ≤ la.length ∧ i = .int .i64 k ∧ Evo w2 b bs cx X pv wr ((DD.zero 8).puts 8 (la.take k))) (fun i _ => la.length - (intOf i).toNat)
  case atStart => exact ⟨0, Nat.zero_le _, rfl, by rw [List.take_zero, DD.puts_nil]; exact Evo.start hD⟩
  case round =>
    obtain ⟨k, hk, rfl, pvk, hDk, hbk, hkk⟩ := hrel
    by_cases hlt : k < la.length
    · obtain ⟨vb, vo, rfl, hvb, hcell⟩ := Reads.bytes_at HA.out k hlt
      have hkw : Kept [] w wr := hkw2.trans hkk (fun x hx => .inr (hge0 x hx))
      have hc := (hkw.cell (p := ⟨vb, vo + k, none⟩) (World.block_lt_of_cell? w _ (hcell k hlt)) (by simp)).trans (hcell k hlt)
      have hps := DD.puts_succ 8 (DD.zero 8) la k hlt
      have hpl := DD.puts_len 8 (DD.zero 8) (la.take k)
      rw [List.length_take, Nat.min_eq_left (by omega)] at hpl
      generalize la[k] = x0 at *
      have HPS := Lib.hid hps
      have HPL := Lib.hid hpl
      clear hcell hps hpl
      have k0 : (0 : Int) ≤ (k : Int) := by omega
      have k1 : (k : Int) < (la.length : Int) := by omega
      go_wp2_with fail
      refine (Dk.fullI x0 _ _ rfl).mono ?_
      rintro e wf ⟨gf, rfl, hgf, hgfl, hkf⟩
      go_wp2_with fail
      refine (Dk.writeI b bs gf 0 256 cx (k % 8) _ X _ pvk (sect x0) _ (by omega) (hDk.kept hkf (by simp)) (by show _ < (DD.zero 8).secs.length; simp [DD.zero]; omega) (block_range hgf) (length_sect _) (fun hm => by have := hDk.lt gf hm; omega) (by rw [HPL.out]; simp [DD.zero]; omega)).mono ?_
      rintro e wn ⟨pvn, rfl, hDn, hbn, hkn⟩
      go_wp2
      go_roundw
      case rel => exact ⟨k + 1, by omega, by go_num, by rw [HPS.out]; exact Evo.write hbk hkk hkf hDn hbn hkn⟩
      case measure => simp [intOf]; omega
    · have hkl : k = la.length := by omega
      subst hkl
      rw [List.take_length] at hDk
      have hpl : ((DD.zero 8).puts 8 la).pend.length ≤ 1048576 := by rw [DD.puts_len]; simp [DD.zero]; omega
      have hq3 : Kept [] w1 wr := hk2.trans hkk (fun x hx => .inr (hge x hx))
      have hge3q : ∀ x ∈ dfp b bs pvk, w1.heap.size ≤ x := fun x hx => by
        have hz := hk2.size
        rcases dfp_evo hbk x hx with h | h
        · exact hge x h
        · omega
      clear hlt
      go_wp2_with fail
      refine (Dk.sync b bs cx X _ pvk wr hDk (by omega)).mono ?_
      rintro e w3 ⟨rfl, hDs, hks⟩
      have hb2 : ∀ x ∈ [b, bs], w1.heap.size ≤ x := fun x hx => hge3q x (by simp [dfp] at hx ⊢; rcases hx with h | h <;> simp [h])
      have hq3' : Kept [] w1 w3 := hq3.trans hks (fun x hx => .inr (hb2 x hx))
      have hsl : ((DD.zero 8).puts 8 la).sync.secs.length = 8 := by
        have := (DD.lays_ok hDk.ok (fun _ => some 256) (by simp) ((DD.zero 8).puts 8 la).pend.length).2
        simp only [DD.sync]; rw [this]; simp [DD.puts, DD.zero]
      generalize hD1 : ((DD.zero 8).puts 8 la).sync = D1 at hDs hsl
      have hp0 : D1.pend = [] := by rw [← hD1]; rfl
      have HSL := Lib.hid hsl
      have HP0 := Lib.hid hp0
      clear hD1 hsl hp0
      go_wp2_with fail
      refine (Dk.fork b bs cx X D1 _ w3 hDs (by rw [HP0.out]; simp)).mono ?_
      rintro e w4 ⟨b2, bs2, cx2, X2, pv2, rfl, hF, hge4, hk4⟩
      have hD4 := hDs.kept hk4 (by simp)
      have hq4 : Kept [] w1 w4 := hq3'.trans hk4 (by simp)
      have hkw4 : Kept [] w w4 := hkw1.trans hq4 (by simp)
      have hdis : ∀ x ∈ dfp b2 bs2 pv2, x ∉ dfp b bs (.slice none 0 0) := fun x hx hm => by have h1 := hge4 x hx; have h2 := hDs.lt x hm; omega
      have hgeN : ∀ x ∈ dfp b bs (.slice none 0 0), w1.heap.size ≤ x := fun x hx => hb2 x (by simpa [dfp, Value.ownBlock] using hx)
      obtain ⟨wz, hwz⟩ : ∃ wz : World, wz = w4 := ⟨_, rfl⟩
      subst hwz
      go_wp2_with fail
      go_loopw [53] (fun i wr => ∃ k : Nat, k ≤ la.length ∧ i = .int .i64 k ∧ Evo wz b bs cx X (.slice none 0 0) wr (D1.puts2 (la.take (min k 8)))) (fun i _ => la.length - (intOf i).toNat)
      case atStart => exact ⟨0, Nat.zero_le _, rfl, by rw [Nat.zero_min, List.take_zero, DD.puts2_nil]; exact Evo.start hD4⟩
      case round =>
        obtain ⟨k, hk, rfl, pv5, hD5, hb5, hk5⟩ := hrel
        by_cases hlt : k < la.length
        · obtain ⟨vb, vo, rfl, hvb, hcell⟩ := Reads.bytes_at HA.out k hlt
          have hkw : Kept [] w wr := hkw4.trans hk5 (fun x hx => .inr (by have := hgeN x hx; omega))
          have hc := (hkw.cell (p := ⟨vb, vo + k, none⟩) (World.block_lt_of_cell? w _ (hcell k hlt)) (by simp)).trans (hcell k hlt)
          have k0 : (0 : Int) ≤ (k : Int) := by omega
          have k1 : (k : Int) < (la.length : Int) := by omega
          by_cases h8 : k < 8
          · have hps := DD.puts2_succ D1 la k hlt
            have hpl5 := DD.puts2_len D1 (la.take k)
            have hm8 : min k 8 = k := by omega
            rw [hm8] at hD5
            generalize la[k] = x0 at *
            have hu := wrap_u8_succ x0
            have HPS := Lib.hid hps
            have HPL := Lib.hid hpl5
            have h80 : (k : Int) < 8 := by omega
            clear hcell hps hpl5 hm8
            go_wp2_with fail
            refine (Dk.fullI (x0 + 1) _ _ rfl).mono ?_
            rintro e wf ⟨gf, rfl, hgf, hgfl, hkf⟩
            go_wp2_with fail
            refine (Dk.writeI b bs gf 0 256 cx k _ X _ pv5 (sect (x0 + 1)) _ rfl (hD5.kept hkf (by simp)) (by show _ < D1.secs.length; rw [HSL.out]; omega) (block_range hgf) (length_sect _) (fun hm => by have := hD5.lt gf hm; omega) (by rw [HPL.out, HP0.out, List.length_take]; simp; omega)).mono ?_
            rintro e wn ⟨pvn, rfl, hDn, hbn, hkn⟩
            go_wp2
            go_roundw
            case rel => exact ⟨k + 1, by omega, by go_num, by rw [show min (k + 1) 8 = k + 1 by omega, HPS.out]; exact Evo.write hb5 hk5 hkf hDn hbn hkn⟩
            case measure => simp [intOf]; omega
          · have h80 : decide ((k : Int) < 8) = false := by simp; omega
            clear hcell
            go_wp2
            go_roundw
            case rel => exact ⟨k + 1, by omega, by go_num, by rw [show min (k + 1) 8 = min k 8 by omega]; exact ⟨pv5, hD5, hb5, hk5⟩⟩
            case measure => simp [intOf]; omega
        · have hkl5 : k = la.length := by omega
          subst hkl5
          obtain ⟨xs, hxs⟩ : ∃ xs, xs = la.take (min la.length 8) := ⟨_, rfl⟩
          rw [← hxs] at hD5
          have hxl : xs.length = min la.length 8 := by rw [hxs, List.length_take]; omega
          have hxi : ∀ n (h1 : n < xs.length) (h2 : n < la.length), xs[n] = la[n] := fun n h1 h2 => by simp [hxs]
          have HXL := Lib.hid hxl
          have HXI := Lib.hid hxi
          clear hxs hxl hxi hlt
          have hkw5 : Kept [] w wr := hkw4.trans hk5 (fun x hx => .inr (by have := hgeN x hx; omega))
          have hq5 : Kept [] w1 wr := hq4.trans hk5 (fun x hx => .inr (hgeN x hx))
          have hF5 := hF.kept hk5 hdis
          have hbk5 := (hq5.block w.heap.size hsz1 (by simp)).trans HBX.out
          have hx3 : wr.cell? ⟨w.heap.size, 3, none⟩ = some (.slice ka keep.length kc) := by rw [cell_of_row _ _ _ _ _ _ hbk5]; rfl
          have hx4 : wr.cell? ⟨w.heap.size, 4, none⟩ = some (.int .i64 tear) := by rw [cell_of_row _ _ _ _ _ _ hbk5]; rfl
          have hx5 : wr.cell? ⟨w.heap.size, 5, none⟩ = some (.int .i64 at_) := by rw [cell_of_row _ _ _ _ _ _ hbk5]; rfl
          clear hbk5
          go_wp2_with fail
          refine (Dk.crash b bs cx X _ pv5 _ keep fk tear at_ _ hD5 (by rw [DD.puts2_len, HP0.out, HXL.out]; simp; omega) (HK.out.kept hkw5 (by simp)) (fun x hx => by have := hfk x hx; have := hb2 bs (by simp); omega)).mono ?_
          rintro e wy ⟨rfl, hDy, hky⟩
          have hFy := hF5.kept hky (fun x hx hm => hdis x hx (by simpa [dfp, Value.ownBlock] using hm))
          have hqy : Kept [] w1 wy := hq5.trans hky (fun x hx => .inr (hb2 x (by simpa using hx)))
          have hkwy : Kept [] w wy := hkw1.trans hqy (by simp)
          clear hx3 hx4 hx5
          go_wp2_with fail
          go_loopw [12] (fun i wr => ∃ k : Nat, k ≤ 8 ∧ i = .int .i64 k ∧ Kept [] wy wr) (fun i _ => 8 - (intOf i).toNat)
          case atStart => exact ⟨0, by omega, rfl, Kept.refl _ _⟩
          case round =>
            obtain ⟨k, hk, rfl, hkp9⟩ := hrel
            by_cases hlt : k < 8
            · have k0 : (0 : Int) ≤ (k : Int) := by omega
              have k1 : (k : Int) < 8 := by omega
              go_wp2_with fail
              refine (Dk.readI b2 bs2 k cx2 _ X2 _ pv2 _ rfl (hFy.kept hkp9 (by simp)) (by rw [HSL.out]; omega) (by rw [HP0.out]; simp)).mono ?_
              rintro e w9 ⟨g9, c9, rfl, ho9, hl9, hg9, hk9⟩
              go_wp2_with fail
              refine (Dk.readI b bs k cx _ X _ _ _ rfl ((hDy.kept hkp9 (by simp)).kept hk9 (by simp)) (by have := (DD.lays_ok hD5.ok (amount keep tear at_) (amount_le keep tear at_) (D1.puts2 xs).pend.length).2; simp only [DD.crash]; rw [this]; show _ < D1.secs.length; rw [HSL.out]; omega) (by simp [DD.crash])).mono ?_
              rintro e wt ⟨g10, c10, rfl, ho10, hl10, hg10, hk10⟩
              have hky10 : Kept [] wy wt := (hkp9.trans hk9 (by simp)).trans hk10 (by simp)
              have hkw10 : Kept [] w wt := hkwy.trans hky10 (by simp)
              have hbk10 := ((hqy.trans hky10 (by simp)).block w.heap.size hsz1 (by simp)).trans HBX.out
              have hx3 : wt.cell? ⟨w.heap.size, 3, none⟩ = some (.slice ka keep.length kc) := by rw [cell_of_row _ _ _ _ _ _ hbk10]; rfl
              have hx4 : wt.cell? ⟨w.heap.size, 4, none⟩ = some (.int .i64 tear) := by rw [cell_of_row _ _ _ _ _ _ hbk10]; rfl
              obtain ⟨Y9, hY9⟩ := owns_block (owns_kept ho9 hk10 (by simp))
              obtain ⟨Y10, hY10⟩ := owns_block ho10
              have hss : (D1.secs.getD k []).length = 256 := by
                have := hF.ok.secs _ (List.getElem_mem (show k < D1.secs.length by rw [HSL.out]; omega))
                simpa [List.getElem?_eq_getElem (show k < D1.secs.length by rw [HSL.out]; omega)] using this
              have hs9 : ∀ w', Kept [] wt w' → (convert 23 9 (.slice (some ⟨g9, 0, none⟩) 256 c9)).run Try.prog w' = .ok (.string (strOf (D1.read k))) w' := fun w' hq => run_string_of w' _ _ _ Try.underlying23 Try.underlying5 Try.underlying9 ((reads_of_block (n := 256) (cap := c9) hY9 (by rw [length_bytesV]; exact hl9)).kept hq (by simp))
              have hs10 : ∀ w', Kept [] wt w' → (convert 23 9 (.slice (some ⟨g10, 0, none⟩) 256 c10)).run Try.prog w' = .ok (.string (strOf (((D1.puts2 xs).crash keep tear at_).read k))) w' := fun w' hq => run_string_of w' _ _ _ Try.underlying23 Try.underlying5 Try.underlying9 ((reads_of_block (n := 256) (cap := c10) hY10 (by rw [length_bytesV]; exact hl10)).kept hq (by simp))
              have HS9 := Lib.hid hs9
              have HS10 := Lib.hid hs10
              have HSS := Lib.hid hss
              clear hbk10 hY9 hY10 hs9 hs10 ho9 ho10 hl9 hl10 hss
              by_cases hw : k < la.length
              · have hw0 : decide (k < la.length) = true := by simpa using hw
                by_cases ht : (k : Int) = tear
                · have hb1 : ((k : Int) == tear) = true := by simp [ht]
                  clear ht hw
                  go_wp2
                  go_roundw
                  case rel => exact ⟨k + 1, by omega, by go_num, hky10⟩
                  case measure => simp [intOf]; omega
                · have hb1 : ((k : Int) == tear) = false := by simpa using ht
                  by_cases hlk : k < keep.length
                  · obtain rfl | ⟨kb, ko, rfl, hkb, hcellk⟩ := HKD.out
                    · simp at hlk
                    have hck := (hkw10.cell (p := ⟨kb, ko + k, none⟩) (World.block_lt_of_cell? w _ (hcellk k hlk)) (by simp)).trans (hcellk k hlk)
                    have hlk1 : (k : Int) < (keep.length : Int) := by omega
                    cases hkv : keep[k] with
                    | true =>
                      have hkv' : keep.getD k false = true := by simp [hlk, hkv]
                      rw [hkv] at hck
                      clear hcellk hkv
                      have hcr := DD.crash_kept D1 xs HP0.out (by rw [HXL.out, HSL.out]; omega) keep tear at_ k (by rw [HXL.out]; omega) ht hkv' HSS.out
                      rw [HXI.out k (by rw [HXL.out]; omega) hw] at hcr
                      obtain ⟨vb, vo, rfl, hvb, hcell⟩ := Reads.bytes_at HA.out k hw
                      have hcx : ∀ w', Kept [] wt w' → w'.cell? ⟨vb, vo + k, none⟩ = some (.int .u8 (la[k]).toNat) := fun w' hq => ((hkw10.trans hq (by simp)).cell (p := ⟨vb, vo + k, none⟩) (World.block_lt_of_cell? w _ (hcell k hw)) (by simp)).trans (hcell k hw)
                      have hl0 : (k : Int) < (la.length : Int) := by omega
                      generalize la[k] = x0 at *
                      have hsC : ∀ w', Kept [] wt w' → (convert 23 9 (.slice (some ⟨g10, 0, none⟩) 256 c10)).run Try.prog w' = .ok (.string (strOf (sect (x0 + 1)))) w' := fun w' hq => by rw [← hcr]; exact HS10.out _ hq
                      have hu := wrap_u8_succ x0
                      have HSC := Lib.hid hsC
                      have HCX := Lib.hid hcx
                      clear hcr hsC hcx hcell
                      go_wp2
                      have hS0 : Kept [] wt wt.drew := (Kept.refl _ _).drew
                      refine wp_region_T 24 (fun w' => Kept [] wt w') (by kernel_rfl) (by simp) (by kernel_rfl) ?_
                      refine wpT_take (i := 0) (v := ?_) rfl (by kernel_rfl) (fun _ _ _ h => h) (by assumption) (.inl ⟨rfl, ?_⟩) ?_
                      rotate_left
                      · intro w' hS; go_simp; try with_reducible rfl
                      simp only [Act.put, List.setIfInBounds_toArray, List.set_cons_zero, List.set_cons_succ]
                      refine wpT_take (i := 1) (v := ?_) rfl (by kernel_rfl) (fun _ _ _ h => h) (by assumption) (.inl ⟨rfl, ?_⟩) ?_
                      rotate_left
                      · intro w' hS; go_simp; try with_reducible rfl
                      simp only [Act.put, List.setIfInBounds_toArray, List.set_cons_zero, List.set_cons_succ]
                      refine wpT_take (i := 2) (v := ?_) rfl (by kernel_rfl) (fun _ _ _ h => h) (by assumption) (.inl ⟨rfl, ?_⟩) ?_
                      rotate_left
                      · intro w' hS; go_simp; try with_reducible rfl
                      simp only [Act.put, List.setIfInBounds_toArray, List.set_cons_zero, List.set_cons_succ]
                      refine wpT_take (i := 3) (v := undef) rfl (by kernel_rfl) (fun _ _ _ h => h) (by assumption) (.inr ⟨rfl, rfl⟩) ?_
                      simp only [Act.put, List.setIfInBounds_toArray, List.set_cons_zero, List.set_cons_succ]
                      refine wpT_take (i := 4) (v := undef) rfl (by kernel_rfl) (fun _ _ _ h => h) (by assumption) (.inr ⟨rfl, rfl⟩) ?_
                      simp only [Act.put, List.setIfInBounds_toArray, List.set_cons_zero, List.set_cons_succ]
                      refine wpT_take (i := 5) (v := undef) rfl (by kernel_rfl) (fun _ _ _ h => h) (by assumption) (.inr ⟨rfl, rfl⟩) ?_
                      simp only [Act.put, List.setIfInBounds_toArray, List.set_cons_zero, List.set_cons_succ]
                      refine wpT_take (i := 6) (v := undef) rfl (by kernel_rfl) (fun _ _ _ h => h) (by assumption) (.inr ⟨rfl, rfl⟩) ?_
                      simp only [Act.put, List.setIfInBounds_toArray, List.set_cons_zero, List.set_cons_succ]
                      refine wpT_take (i := 7) (v := undef) rfl (by kernel_rfl) (fun _ _ _ h => h) (by assumption) (.inr ⟨rfl, rfl⟩) ?_
                      simp only [Act.put, List.setIfInBounds_toArray, List.set_cons_zero, List.set_cons_succ]
                      refine wpT_take (i := 8) (v := ?_) rfl (by kernel_rfl) (fun _ _ _ h => h) (by assumption) (.inl ⟨rfl, ?_⟩) ?_
                      rotate_left
                      · intro w' hS; go_simp; try with_reducible rfl
                      simp only [Act.put, List.setIfInBounds_toArray, List.set_cons_zero, List.set_cons_succ]
                      refine wpT_take (i := 9) (v := ?_) rfl (by kernel_rfl) (fun _ _ _ h => h) (by assumption) (.inl ⟨rfl, ?_⟩) ?_
                      rotate_left
                      · intro w' hS; go_simp; try with_reducible rfl
                      simp only [Act.put, List.setIfInBounds_toArray, List.set_cons_zero, List.set_cons_succ]
                      refine wpT_take (i := 10) (v := ?_) rfl (by kernel_rfl) (fun _ _ _ h => h) (by assumption) (.inl ⟨rfl, ?_⟩) ?_
                      rotate_left
                      · intro w' hS; go_simp; try with_reducible rfl
                      simp only [Act.put, List.setIfInBounds_toArray, List.set_cons_zero, List.set_cons_succ]
                      refine wpT_take (i := 11) (v := ?_) rfl (by kernel_rfl) (fun _ _ _ h => h) (by assumption) (.inl ⟨rfl, ?_⟩) ?_
                      rotate_left
                      · intro w' hS; go_simp; try with_reducible rfl
                      simp only [Act.put, List.setIfInBounds_toArray, List.set_cons_zero, List.set_cons_succ]
                      refine wpT_take (i := 12) (v := ?_) rfl (by kernel_rfl) (fun _ _ _ h => h) (by assumption) (.inl ⟨rfl, ?_⟩) ?_
                      rotate_left
                      · intro w' hS; go_simp; try with_reducible rfl
                      simp only [Act.put, List.setIfInBounds_toArray, List.set_cons_zero, List.set_cons_succ]
                      refine wpT_take (i := 13) (v := ?_) rfl (by kernel_rfl) (fun _ _ _ h => h) (by assumption) (.inl ⟨rfl, ?_⟩) ?_
                      rotate_left
                      · intro w' hS; have hq := HSC.out w' hS; clear hS; go_simp; try with_reducible rfl
                      simp only [Act.put, List.setIfInBounds_toArray, List.set_cons_zero, List.set_cons_succ]
                      refine wpT_take (i := 14) (v := ?_) rfl (by kernel_rfl) (fun _ _ _ h => h) (by assumption) (.inl ⟨rfl, ?_⟩) ?_
                      rotate_left
                      · intro w' hS; go_simp; try with_reducible rfl
                      simp only [Act.put, List.setIfInBounds_toArray, List.set_cons_zero, List.set_cons_succ]
                      refine wpT_take (i := 15) (v := ?_) rfl (by kernel_rfl) (fun _ _ _ h => h) (by assumption) (.inl ⟨rfl, ?_⟩) ?_
                      rotate_left
                      · intro w' hS; go_simp; try with_reducible rfl
                      simp only [Act.put, List.setIfInBounds_toArray, List.set_cons_zero, List.set_cons_succ]
                      refine wpT_take (i := 16) (v := ?_) rfl (by kernel_rfl) (fun _ _ _ h => h) (by assumption) (.inl ⟨rfl, ?_⟩) ?_
                      rotate_left
                      · intro w' hS; go_simp; try with_reducible rfl
                      simp only [Act.put, List.setIfInBounds_toArray, List.set_cons_zero, List.set_cons_succ]
                      refine wpT_take (i := 17) (v := ?_) rfl (by kernel_rfl) (fun _ _ _ h => h) (by assumption) (.inl ⟨rfl, ?_⟩) ?_
                      rotate_left
                      · intro w' hS; have hq := HCX.out w' hS; clear hS; go_simp; try with_reducible rfl
                      simp only [Act.put, List.setIfInBounds_toArray, List.set_cons_zero, List.set_cons_succ]
                      refine wpT_take (i := 18) (v := ?_) rfl (by kernel_rfl) (fun _ _ _ h => h) (by assumption) (.inl ⟨rfl, ?_⟩) ?_
                      rotate_left
                      · intro w' hS; go_simp; try with_reducible rfl
                      simp only [Act.put, List.setIfInBounds_toArray, List.set_cons_zero, List.set_cons_succ]
                      refine wpT_one (i := 19) rfl rfl (by kernel_rfl) (fun K hK => ?_)
                      go_simp
                      refine (Dk.fullI (x0 + 1) _ _ rfl).mono ?_
                      rintro e wf ⟨gf, rfl, hgf, hgfl, hkf⟩
                      have hS1 : wf = wf := rfl
                      have hkf2 : Kept [] wt wf := hS0.trans hkf (by simp)
                      refine hK (fun w' => w' = wf) _ _ (fun u hu => by rw [hu]; exact hkf2) rfl ?_
                      clear hK K
                      try simp only [Act.put, List.setIfInBounds_toArray, List.set_cons_zero, List.set_cons_succ]
                      have hsD : (convert 23 9 (.slice (some ⟨gf, 0, none⟩) 256 256)).run Try.prog wf = .ok (.string (strOf (sect (x0 + 1)))) wf := run_string_of wf _ _ _ Try.underlying23 Try.underlying5 Try.underlying9 (reads_of_block (Y := []) (n := 256) (cap := 256) (by rw [List.append_nil]; exact hgf) (by rw [length_bytesV]; exact length_sect _))
                      have HSD := Lib.hid hsD
                      clear hsD
                      refine wpT_take (i := 20) (v := ?_) rfl (by kernel_rfl) (fun _ _ _ h => h) (by assumption) (.inl ⟨rfl, ?_⟩) ?_
                      rotate_left
                      · intro w' hS; have hq := HSD.out; subst hS; go_simp; try with_reducible rfl
                      simp only [Act.put, List.setIfInBounds_toArray, List.set_cons_zero, List.set_cons_succ]
                      refine wpT_take (i := 21) (v := ?_) rfl (by kernel_rfl) (fun _ _ _ h => h) (by assumption) (.inl ⟨rfl, ?_⟩) ?_
                      rotate_left
                      · intro w' hS; go_simp; try with_reducible rfl
                      simp only [Act.put, List.setIfInBounds_toArray, List.set_cons_zero, List.set_cons_succ]
                      refine wpT_take (i := 22) (v := ?_) rfl (by kernel_rfl) (fun _ _ _ h => h) (by assumption) (.inl ⟨rfl, ?_⟩) ?_
                      rotate_left
                      · intro w' hS; go_simp; try with_reducible rfl
                      simp only [Act.put, List.setIfInBounds_toArray, List.set_cons_zero, List.set_cons_succ]
                      refine wpT_take (i := 23) (v := ?_) rfl (by kernel_rfl) (fun _ _ _ h => h) (by assumption) (.inl ⟨rfl, ?_⟩) ?_
                      rotate_left
                      · intro w' hS; go_simp; try with_reducible rfl
                      simp only [Act.put, List.setIfInBounds_toArray, List.set_cons_zero, List.set_cons_succ]
                      refine wpT_done (by kernel_rfl) ?_
                      simp only [List.drop_succ_cons, List.drop_zero, List.drop_nil]
                      go_wp2
                      go_roundw
                      case rel => exact ⟨k + 1, by omega, by go_num, hky10.trans hkf2 (by simp)⟩
                      case measure => simp [intOf]; omega
                    | false =>
                      have hkv' : keep.getD k false = false := by simp [hlk, hkv]
                      rw [hkv] at hck
                      clear hcellk hkv
                      have hcr := DD.crash_old D1 xs HP0.out (by rw [HXL.out, HSL.out]; omega) keep tear at_ k (by rw [HSL.out]; omega) (fun _ => ⟨ht, hkv'⟩)
                      have hsB : (convert 23 9 (.slice (some ⟨g10, 0, none⟩) 256 c10)).run Try.prog wt.drew = .ok (.string (strOf (D1.read k))) wt.drew := by rw [← hcr]; exact HS10.out _ (Kept.refl _ _).drew
                      have hsA := HS9.out _ (Kept.refl [] wt).drew
                      clear hcr
                      go_wp2
                      have hS0 : wt.drew = wt.drew := rfl
                      refine wp_region_T 24 (fun w' => w' = wt.drew) (by kernel_rfl) (by simp) (by kernel_rfl) ?_
                      refine wpT_take (i := 0) (v := ?_) rfl (by kernel_rfl) (fun _ _ _ h => h) (by assumption) (.inl ⟨rfl, ?_⟩) ?_
                      rotate_left
                      · intro w' hS; go_simp; try with_reducible rfl
                      simp only [Act.put, List.setIfInBounds_toArray, List.set_cons_zero, List.set_cons_succ]
                      refine wpT_take (i := 1) (v := ?_) rfl (by kernel_rfl) (fun _ _ _ h => h) (by assumption) (.inl ⟨rfl, ?_⟩) ?_
                      rotate_left
                      · intro w' hS; go_simp; try with_reducible rfl
                      simp only [Act.put, List.setIfInBounds_toArray, List.set_cons_zero, List.set_cons_succ]
                      refine wpT_take (i := 2) (v := ?_) rfl (by kernel_rfl) (fun _ _ _ h => h) (by assumption) (.inl ⟨rfl, ?_⟩) ?_
                      rotate_left
                      · intro w' hS; go_simp; try with_reducible rfl
                      simp only [Act.put, List.setIfInBounds_toArray, List.set_cons_zero, List.set_cons_succ]
                      refine wpT_take (i := 3) (v := ?_) rfl (by kernel_rfl) (fun _ _ _ h => h) (by assumption) (.inl ⟨rfl, ?_⟩) ?_
                      rotate_left
                      · intro w' hS; go_simp; try with_reducible rfl
                      simp only [Act.put, List.setIfInBounds_toArray, List.set_cons_zero, List.set_cons_succ]
                      refine wpT_take (i := 4) (v := ?_) rfl (by kernel_rfl) (fun _ _ _ h => h) (by assumption) (.inl ⟨rfl, ?_⟩) ?_
                      rotate_left
                      · intro w' hS; subst hS; go_simp; try with_reducible rfl
                      simp only [Act.put, List.setIfInBounds_toArray, List.set_cons_zero, List.set_cons_succ]
                      refine wpT_take (i := 5) (v := ?_) rfl (by kernel_rfl) (fun _ _ _ h => h) (by assumption) (.inl ⟨rfl, ?_⟩) ?_
                      rotate_left
                      · intro w' hS; go_simp; try with_reducible rfl
                      simp only [Act.put, List.setIfInBounds_toArray, List.set_cons_zero, List.set_cons_succ]
                      refine wpT_take (i := 6) (v := ?_) rfl (by kernel_rfl) (fun _ _ _ h => h) (by assumption) (.inl ⟨rfl, ?_⟩) ?_
                      rotate_left
                      · intro w' hS; subst hS; go_simp; try with_reducible rfl
                      simp only [Act.put, List.setIfInBounds_toArray, List.set_cons_zero, List.set_cons_succ]
                      refine wpT_take (i := 7) (v := ?_) rfl (by kernel_rfl) (fun _ _ _ h => h) (by assumption) (.inl ⟨rfl, ?_⟩) ?_
                      rotate_left
                      · intro w' hS; go_simp; try with_reducible rfl
                      simp only [Act.put, List.setIfInBounds_toArray, List.set_cons_zero, List.set_cons_succ]
                      refine wpT_take (i := 8) (v := ?_) rfl (by kernel_rfl) (fun _ _ _ h => h) (by assumption) (.inl ⟨rfl, ?_⟩) ?_
                      rotate_left
                      · intro w' hS; go_simp; try with_reducible rfl
                      simp only [Act.put, List.setIfInBounds_toArray, List.set_cons_zero, List.set_cons_succ]
                      refine wpT_take (i := 9) (v := ?_) rfl (by kernel_rfl) (fun _ _ _ h => h) (by assumption) (.inl ⟨rfl, ?_⟩) ?_
                      rotate_left
                      · intro w' hS; go_simp; try with_reducible rfl
                      simp only [Act.put, List.setIfInBounds_toArray, List.set_cons_zero, List.set_cons_succ]
                      refine wpT_take (i := 10) (v := ?_) rfl (by kernel_rfl) (fun _ _ _ h => h) (by assumption) (.inl ⟨rfl, ?_⟩) ?_
                      rotate_left
                      · intro w' hS; go_simp; try with_reducible rfl
                      simp only [Act.put, List.setIfInBounds_toArray, List.set_cons_zero, List.set_cons_succ]
                      refine wpT_take (i := 11) (v := ?_) rfl (by kernel_rfl) (fun _ _ _ h => h) (by assumption) (.inl ⟨rfl, ?_⟩) ?_
                      rotate_left
                      · intro w' hS; go_simp; try with_reducible rfl
                      simp only [Act.put, List.setIfInBounds_toArray, List.set_cons_zero, List.set_cons_succ]
                      refine wpT_take (i := 12) (v := undef) rfl (by kernel_rfl) (fun _ _ _ h => h) (by assumption) (.inr ⟨rfl, rfl⟩) ?_
                      simp only [Act.put, List.setIfInBounds_toArray, List.set_cons_zero, List.set_cons_succ]
                      refine wpT_take (i := 13) (v := undef) rfl (by kernel_rfl) (fun _ _ _ h => h) (by assumption) (.inr ⟨rfl, rfl⟩) ?_
                      simp only [Act.put, List.setIfInBounds_toArray, List.set_cons_zero, List.set_cons_succ]
                      refine wpT_take (i := 14) (v := undef) rfl (by kernel_rfl) (fun _ _ _ h => h) (by assumption) (.inr ⟨rfl, rfl⟩) ?_
                      simp only [Act.put, List.setIfInBounds_toArray, List.set_cons_zero, List.set_cons_succ]
                      refine wpT_take (i := 15) (v := undef) rfl (by kernel_rfl) (fun _ _ _ h => h) (by assumption) (.inr ⟨rfl, rfl⟩) ?_
                      simp only [Act.put, List.setIfInBounds_toArray, List.set_cons_zero, List.set_cons_succ]
                      refine wpT_take (i := 16) (v := undef) rfl (by kernel_rfl) (fun _ _ _ h => h) (by assumption) (.inr ⟨rfl, rfl⟩) ?_
                      simp only [Act.put, List.setIfInBounds_toArray, List.set_cons_zero, List.set_cons_succ]
                      refine wpT_take (i := 17) (v := undef) rfl (by kernel_rfl) (fun _ _ _ h => h) (by assumption) (.inr ⟨rfl, rfl⟩) ?_
                      simp only [Act.put, List.setIfInBounds_toArray, List.set_cons_zero, List.set_cons_succ]
                      refine wpT_take (i := 18) (v := undef) rfl (by kernel_rfl) (fun _ _ _ h => h) (by assumption) (.inr ⟨rfl, rfl⟩) ?_
                      simp only [Act.put, List.setIfInBounds_toArray, List.set_cons_zero, List.set_cons_succ]
                      refine wpT_take (i := 19) (v := undef) rfl (by kernel_rfl) (fun _ _ _ h => h) (by assumption) (.inr ⟨rfl, rfl⟩) ?_
                      simp only [Act.put, List.setIfInBounds_toArray, List.set_cons_zero, List.set_cons_succ]
                      refine wpT_take (i := 20) (v := undef) rfl (by kernel_rfl) (fun _ _ _ h => h) (by assumption) (.inr ⟨rfl, rfl⟩) ?_
                      simp only [Act.put, List.setIfInBounds_toArray, List.set_cons_zero, List.set_cons_succ]
                      refine wpT_take (i := 21) (v := undef) rfl (by kernel_rfl) (fun _ _ _ h => h) (by assumption) (.inr ⟨rfl, rfl⟩) ?_
                      simp only [Act.put, List.setIfInBounds_toArray, List.set_cons_zero, List.set_cons_succ]
                      refine wpT_take (i := 22) (v := ?_) rfl (by kernel_rfl) (fun _ _ _ h => h) (by assumption) (.inl ⟨rfl, ?_⟩) ?_
                      rotate_left
                      · intro w' hS; go_simp; try with_reducible rfl
                      simp only [Act.put, List.setIfInBounds_toArray, List.set_cons_zero, List.set_cons_succ]
                      refine wpT_take (i := 23) (v := ?_) rfl (by kernel_rfl) (fun _ _ _ h => h) (by assumption) (.inl ⟨rfl, ?_⟩) ?_
                      rotate_left
                      · intro w' hS; go_simp; try with_reducible rfl
                      simp only [Act.put, List.setIfInBounds_toArray, List.set_cons_zero, List.set_cons_succ]
                      refine wpT_done (by kernel_rfl) ?_
                      simp only [List.drop_succ_cons, List.drop_zero, List.drop_nil]
                      go_wp2
                      go_roundw
                      case rel => exact ⟨k + 1, by omega, by go_num, hky10.drew⟩
                      case measure => simp [intOf]; omega
                  · have hlk0 : decide (k < keep.length) = false := by simp; omega
                    have hkv' : keep.getD k false = false := by simp [List.getElem?_eq_none (Nat.not_lt.1 hlk)]
                    clear hlk
                    have hcr := DD.crash_old D1 xs HP0.out (by rw [HXL.out, HSL.out]; omega) keep tear at_ k (by rw [HSL.out]; omega) (fun _ => ⟨ht, hkv'⟩)
                    have hsB : (convert 23 9 (.slice (some ⟨g10, 0, none⟩) 256 c10)).run Try.prog wt.drew = .ok (.string (strOf (D1.read k))) wt.drew := by rw [← hcr]; exact HS10.out _ (Kept.refl _ _).drew
                    have hsA := HS9.out _ (Kept.refl [] wt).drew
                    clear hcr
                    go_wp2
                    have hS0 : wt.drew = wt.drew := rfl
                    refine wp_region_T 24 (fun w' => w' = wt.drew) (by kernel_rfl) (by simp) (by kernel_rfl) ?_
                    refine wpT_take (i := 0) (v := ?_) rfl (by kernel_rfl) (fun _ _ _ h => h) (by assumption) (.inl ⟨rfl, ?_⟩) ?_
                    rotate_left
                    · intro w' hS; go_simp; try with_reducible rfl
                    simp only [Act.put, List.setIfInBounds_toArray, List.set_cons_zero, List.set_cons_succ]
                    refine wpT_take (i := 1) (v := ?_) rfl (by kernel_rfl) (fun _ _ _ h => h) (by assumption) (.inl ⟨rfl, ?_⟩) ?_
                    rotate_left
                    · intro w' hS; go_simp; try with_reducible rfl
                    simp only [Act.put, List.setIfInBounds_toArray, List.set_cons_zero, List.set_cons_succ]
                    refine wpT_take (i := 2) (v := ?_) rfl (by kernel_rfl) (fun _ _ _ h => h) (by assumption) (.inl ⟨rfl, ?_⟩) ?_
                    rotate_left
                    · intro w' hS; go_simp; try with_reducible rfl
                    simp only [Act.put, List.setIfInBounds_toArray, List.set_cons_zero, List.set_cons_succ]
                    refine wpT_take (i := 3) (v := ?_) rfl (by kernel_rfl) (fun _ _ _ h => h) (by assumption) (.inl ⟨rfl, ?_⟩) ?_
                    rotate_left
                    · intro w' hS; go_simp; try with_reducible rfl
                    simp only [Act.put, List.setIfInBounds_toArray, List.set_cons_zero, List.set_cons_succ]
                    refine wpT_take (i := 4) (v := ?_) rfl (by kernel_rfl) (fun _ _ _ h => h) (by assumption) (.inl ⟨rfl, ?_⟩) ?_
                    rotate_left
                    · intro w' hS; subst hS; go_simp; try with_reducible rfl
                    simp only [Act.put, List.setIfInBounds_toArray, List.set_cons_zero, List.set_cons_succ]
                    refine wpT_take (i := 5) (v := ?_) rfl (by kernel_rfl) (fun _ _ _ h => h) (by assumption) (.inl ⟨rfl, ?_⟩) ?_
                    rotate_left
                    · intro w' hS; go_simp; try with_reducible rfl
                    simp only [Act.put, List.setIfInBounds_toArray, List.set_cons_zero, List.set_cons_succ]
                    refine wpT_take (i := 6) (v := ?_) rfl (by kernel_rfl) (fun _ _ _ h => h) (by assumption) (.inl ⟨rfl, ?_⟩) ?_
                    rotate_left
                    · intro w' hS; subst hS; go_simp; try with_reducible rfl
                    simp only [Act.put, List.setIfInBounds_toArray, List.set_cons_zero, List.set_cons_succ]
                    refine wpT_take (i := 7) (v := ?_) rfl (by kernel_rfl) (fun _ _ _ h => h) (by assumption) (.inl ⟨rfl, ?_⟩) ?_
                    rotate_left
                    · intro w' hS; go_simp; try with_reducible rfl
                    simp only [Act.put, List.setIfInBounds_toArray, List.set_cons_zero, List.set_cons_succ]
                    refine wpT_take (i := 8) (v := ?_) rfl (by kernel_rfl) (fun _ _ _ h => h) (by assumption) (.inl ⟨rfl, ?_⟩) ?_
                    rotate_left
                    · intro w' hS; go_simp; try with_reducible rfl
                    simp only [Act.put, List.setIfInBounds_toArray, List.set_cons_zero, List.set_cons_succ]
                    refine wpT_take (i := 9) (v := ?_) rfl (by kernel_rfl) (fun _ _ _ h => h) (by assumption) (.inl ⟨rfl, ?_⟩) ?_
                    rotate_left
                    · intro w' hS; go_simp; try with_reducible rfl
                    simp only [Act.put, List.setIfInBounds_toArray, List.set_cons_zero, List.set_cons_succ]
                    refine wpT_take (i := 10) (v := ?_) rfl (by kernel_rfl) (fun _ _ _ h => h) (by assumption) (.inl ⟨rfl, ?_⟩) ?_
                    rotate_left
                    · intro w' hS; go_simp; try with_reducible rfl
                    simp only [Act.put, List.setIfInBounds_toArray, List.set_cons_zero, List.set_cons_succ]
                    refine wpT_take (i := 11) (v := ?_) rfl (by kernel_rfl) (fun _ _ _ h => h) (by assumption) (.inl ⟨rfl, ?_⟩) ?_
                    rotate_left
                    · intro w' hS; go_simp; try with_reducible rfl
                    simp only [Act.put, List.setIfInBounds_toArray, List.set_cons_zero, List.set_cons_succ]
                    refine wpT_take (i := 12) (v := undef) rfl (by kernel_rfl) (fun _ _ _ h => h) (by assumption) (.inr ⟨rfl, rfl⟩) ?_
                    simp only [Act.put, List.setIfInBounds_toArray, List.set_cons_zero, List.set_cons_succ]
                    refine wpT_take (i := 13) (v := undef) rfl (by kernel_rfl) (fun _ _ _ h => h) (by assumption) (.inr ⟨rfl, rfl⟩) ?_
                    simp only [Act.put, List.setIfInBounds_toArray, List.set_cons_zero, List.set_cons_succ]
                    refine wpT_take (i := 14) (v := undef) rfl (by kernel_rfl) (fun _ _ _ h => h) (by assumption) (.inr ⟨rfl, rfl⟩) ?_
                    simp only [Act.put, List.setIfInBounds_toArray, List.set_cons_zero, List.set_cons_succ]
                    refine wpT_take (i := 15) (v := undef) rfl (by kernel_rfl) (fun _ _ _ h => h) (by assumption) (.inr ⟨rfl, rfl⟩) ?_
                    simp only [Act.put, List.setIfInBounds_toArray, List.set_cons_zero, List.set_cons_succ]
                    refine wpT_take (i := 16) (v := undef) rfl (by kernel_rfl) (fun _ _ _ h => h) (by assumption) (.inr ⟨rfl, rfl⟩) ?_
                    simp only [Act.put, List.setIfInBounds_toArray, List.set_cons_zero, List.set_cons_succ]
                    refine wpT_take (i := 17) (v := undef) rfl (by kernel_rfl) (fun _ _ _ h => h) (by assumption) (.inr ⟨rfl, rfl⟩) ?_
                    simp only [Act.put, List.setIfInBounds_toArray, List.set_cons_zero, List.set_cons_succ]
                    refine wpT_take (i := 18) (v := undef) rfl (by kernel_rfl) (fun _ _ _ h => h) (by assumption) (.inr ⟨rfl, rfl⟩) ?_
                    simp only [Act.put, List.setIfInBounds_toArray, List.set_cons_zero, List.set_cons_succ]
                    refine wpT_take (i := 19) (v := undef) rfl (by kernel_rfl) (fun _ _ _ h => h) (by assumption) (.inr ⟨rfl, rfl⟩) ?_
                    simp only [Act.put, List.setIfInBounds_toArray, List.set_cons_zero, List.set_cons_succ]
                    refine wpT_take (i := 20) (v := undef) rfl (by kernel_rfl) (fun _ _ _ h => h) (by assumption) (.inr ⟨rfl, rfl⟩) ?_
                    simp only [Act.put, List.setIfInBounds_toArray, List.set_cons_zero, List.set_cons_succ]
                    refine wpT_take (i := 21) (v := undef) rfl (by kernel_rfl) (fun _ _ _ h => h) (by assumption) (.inr ⟨rfl, rfl⟩) ?_
                    simp only [Act.put, List.setIfInBounds_toArray, List.set_cons_zero, List.set_cons_succ]
                    refine wpT_take (i := 22) (v := ?_) rfl (by kernel_rfl) (fun _ _ _ h => h) (by assumption) (.inl ⟨rfl, ?_⟩) ?_
                    rotate_left
                    · intro w' hS; go_simp; try with_reducible rfl
                    simp only [Act.put, List.setIfInBounds_toArray, List.set_cons_zero, List.set_cons_succ]
                    refine wpT_take (i := 23) (v := ?_) rfl (by kernel_rfl) (fun _ _ _ h => h) (by assumption) (.inl ⟨rfl, ?_⟩) ?_
                    rotate_left
                    · intro w' hS; go_simp; try with_reducible rfl
                    simp only [Act.put, List.setIfInBounds_toArray, List.set_cons_zero, List.set_cons_succ]
                    refine wpT_done (by kernel_rfl) ?_
                    simp only [List.drop_succ_cons, List.drop_zero, List.drop_nil]
                    go_wp2
                    go_roundw
                    case rel => exact ⟨k + 1, by omega, by go_num, hky10.drew⟩
                    case measure => simp [intOf]; omega
              · have hw0 : decide (k < la.length) = false := by simp; omega
                by_cases ht : (k : Int) = tear
                · have hb1 : ((k : Int) == tear) = true := by simp [ht]
                  clear ht
                  have hcr := DD.crash_old D1 xs HP0.out (by rw [HXL.out, HSL.out]; omega) keep tear at_ k (by rw [HSL.out]; omega) (fun h => by rw [HXL.out] at h; omega)
                  have hsB : (convert 23 9 (.slice (some ⟨g10, 0, none⟩) 256 c10)).run Try.prog wt.drew = .ok (.string (strOf (D1.read k))) wt.drew := by rw [← hcr]; exact HS10.out _ (Kept.refl _ _).drew
                  have hsA := HS9.out _ (Kept.refl [] wt).drew
                  clear hcr
                  go_wp2
                  have hS0 : wt.drew = wt.drew := rfl
                  refine wp_region_T 24 (fun w' => w' = wt.drew) (by kernel_rfl) (by simp) (by kernel_rfl) ?_
                  refine wpT_take (i := 0) (v := ?_) rfl (by kernel_rfl) (fun _ _ _ h => h) (by assumption) (.inl ⟨rfl, ?_⟩) ?_
                  rotate_left
                  · intro w' hS; go_simp; try with_reducible rfl
                  simp only [Act.put, List.setIfInBounds_toArray, List.set_cons_zero, List.set_cons_succ]
                  refine wpT_take (i := 1) (v := ?_) rfl (by kernel_rfl) (fun _ _ _ h => h) (by assumption) (.inl ⟨rfl, ?_⟩) ?_
                  rotate_left
                  · intro w' hS; go_simp; try with_reducible rfl
                  simp only [Act.put, List.setIfInBounds_toArray, List.set_cons_zero, List.set_cons_succ]
                  refine wpT_take (i := 2) (v := ?_) rfl (by kernel_rfl) (fun _ _ _ h => h) (by assumption) (.inl ⟨rfl, ?_⟩) ?_
                  rotate_left
                  · intro w' hS; go_simp; try with_reducible rfl
                  simp only [Act.put, List.setIfInBounds_toArray, List.set_cons_zero, List.set_cons_succ]
                  refine wpT_take (i := 3) (v := ?_) rfl (by kernel_rfl) (fun _ _ _ h => h) (by assumption) (.inl ⟨rfl, ?_⟩) ?_
                  rotate_left
                  · intro w' hS; go_simp; try with_reducible rfl
                  simp only [Act.put, List.setIfInBounds_toArray, List.set_cons_zero, List.set_cons_succ]
                  refine wpT_take (i := 4) (v := ?_) rfl (by kernel_rfl) (fun _ _ _ h => h) (by assumption) (.inl ⟨rfl, ?_⟩) ?_
                  rotate_left
                  · intro w' hS; subst hS; go_simp; try with_reducible rfl
                  simp only [Act.put, List.setIfInBounds_toArray, List.set_cons_zero, List.set_cons_succ]
                  refine wpT_take (i := 5) (v := ?_) rfl (by kernel_rfl) (fun _ _ _ h => h) (by assumption) (.inl ⟨rfl, ?_⟩) ?_
                  rotate_left
                  · intro w' hS; go_simp; try with_reducible rfl
                  simp only [Act.put, List.setIfInBounds_toArray, List.set_cons_zero, List.set_cons_succ]
                  refine wpT_take (i := 6) (v := ?_) rfl (by kernel_rfl) (fun _ _ _ h => h) (by assumption) (.inl ⟨rfl, ?_⟩) ?_
                  rotate_left
                  · intro w' hS; subst hS; go_simp; try with_reducible rfl
                  simp only [Act.put, List.setIfInBounds_toArray, List.set_cons_zero, List.set_cons_succ]
                  refine wpT_take (i := 7) (v := ?_) rfl (by kernel_rfl) (fun _ _ _ h => h) (by assumption) (.inl ⟨rfl, ?_⟩) ?_
                  rotate_left
                  · intro w' hS; go_simp; try with_reducible rfl
                  simp only [Act.put, List.setIfInBounds_toArray, List.set_cons_zero, List.set_cons_succ]
                  refine wpT_take (i := 8) (v := ?_) rfl (by kernel_rfl) (fun _ _ _ h => h) (by assumption) (.inl ⟨rfl, ?_⟩) ?_
                  rotate_left
                  · intro w' hS; go_simp; try with_reducible rfl
                  simp only [Act.put, List.setIfInBounds_toArray, List.set_cons_zero, List.set_cons_succ]
                  refine wpT_take (i := 9) (v := ?_) rfl (by kernel_rfl) (fun _ _ _ h => h) (by assumption) (.inl ⟨rfl, ?_⟩) ?_
                  rotate_left
                  · intro w' hS; go_simp; try with_reducible rfl
                  simp only [Act.put, List.setIfInBounds_toArray, List.set_cons_zero, List.set_cons_succ]
                  refine wpT_take (i := 10) (v := ?_) rfl (by kernel_rfl) (fun _ _ _ h => h) (by assumption) (.inl ⟨rfl, ?_⟩) ?_
                  rotate_left
                  · intro w' hS; go_simp; try with_reducible rfl
                  simp only [Act.put, List.setIfInBounds_toArray, List.set_cons_zero, List.set_cons_succ]
                  refine wpT_take (i := 11) (v := ?_) rfl (by kernel_rfl) (fun _ _ _ h => h) (by assumption) (.inl ⟨rfl, ?_⟩) ?_
                  rotate_left
                  · intro w' hS; go_simp; try with_reducible rfl
                  simp only [Act.put, List.setIfInBounds_toArray, List.set_cons_zero, List.set_cons_succ]
                  refine wpT_take (i := 12) (v := undef) rfl (by kernel_rfl) (fun _ _ _ h => h) (by assumption) (.inr ⟨rfl, rfl⟩) ?_
                  simp only [Act.put, List.setIfInBounds_toArray, List.set_cons_zero, List.set_cons_succ]
                  refine wpT_take (i := 13) (v := undef) rfl (by kernel_rfl) (fun _ _ _ h => h) (by assumption) (.inr ⟨rfl, rfl⟩) ?_
                  simp only [Act.put, List.setIfInBounds_toArray, List.set_cons_zero, List.set_cons_succ]
                  refine wpT_take (i := 14) (v := undef) rfl (by kernel_rfl) (fun _ _ _ h => h) (by assumption) (.inr ⟨rfl, rfl⟩) ?_
                  simp only [Act.put, List.setIfInBounds_toArray, List.set_cons_zero, List.set_cons_succ]
                  refine wpT_take (i := 15) (v := undef) rfl (by kernel_rfl) (fun _ _ _ h => h) (by assumption) (.inr ⟨rfl, rfl⟩) ?_
                  simp only [Act.put, List.setIfInBounds_toArray, List.set_cons_zero, List.set_cons_succ]
                  refine wpT_take (i := 16) (v := undef) rfl (by kernel_rfl) (fun _ _ _ h => h) (by assumption) (.inr ⟨rfl, rfl⟩) ?_
                  simp only [Act.put, List.setIfInBounds_toArray, List.set_cons_zero, List.set_cons_succ]
                  refine wpT_take (i := 17) (v := undef) rfl (by kernel_rfl) (fun _ _ _ h => h) (by assumption) (.inr ⟨rfl, rfl⟩) ?_
                  simp only [Act.put, List.setIfInBounds_toArray, List.set_cons_zero, List.set_cons_succ]
                  refine wpT_take (i := 18) (v := undef) rfl (by kernel_rfl) (fun _ _ _ h => h) (by assumption) (.inr ⟨rfl, rfl⟩) ?_
                  simp only [Act.put, List.setIfInBounds_toArray, List.set_cons_zero, List.set_cons_succ]
                  refine wpT_take (i := 19) (v := undef) rfl (by kernel_rfl) (fun _ _ _ h => h) (by assumption) (.inr ⟨rfl, rfl⟩) ?_
                  simp only [Act.put, List.setIfInBounds_toArray, List.set_cons_zero, List.set_cons_succ]
                  refine wpT_take (i := 20) (v := undef) rfl (by kernel_rfl) (fun _ _ _ h => h) (by assumption) (.inr ⟨rfl, rfl⟩) ?_
                  simp only [Act.put, List.setIfInBounds_toArray, List.set_cons_zero, List.set_cons_succ]
                  refine wpT_take (i := 21) (v := undef) rfl (by kernel_rfl) (fun _ _ _ h => h) (by assumption) (.inr ⟨rfl, rfl⟩) ?_
                  simp only [Act.put, List.setIfInBounds_toArray, List.set_cons_zero, List.set_cons_succ]
                  refine wpT_take (i := 22) (v := ?_) rfl (by kernel_rfl) (fun _ _ _ h => h) (by assumption) (.inl ⟨rfl, ?_⟩) ?_
                  rotate_left
                  · intro w' hS; go_simp; try with_reducible rfl
                  simp only [Act.put, List.setIfInBounds_toArray, List.set_cons_zero, List.set_cons_succ]
                  refine wpT_take (i := 23) (v := ?_) rfl (by kernel_rfl) (fun _ _ _ h => h) (by assumption) (.inl ⟨rfl, ?_⟩) ?_
                  rotate_left
                  · intro w' hS; go_simp; try with_reducible rfl
                  simp only [Act.put, List.setIfInBounds_toArray, List.set_cons_zero, List.set_cons_succ]
                  refine wpT_done (by kernel_rfl) ?_
                  simp only [List.drop_succ_cons, List.drop_zero, List.drop_nil]
                  go_wp2
                  go_roundw
                  case rel => exact ⟨k + 1, by omega, by go_num, hky10.drew⟩
                  case measure => simp [intOf]; omega
                · have hb1 : ((k : Int) == tear) = false := by simpa using ht
                  clear ht
                  have hcr := DD.crash_old D1 xs HP0.out (by rw [HXL.out, HSL.out]; omega) keep tear at_ k (by rw [HSL.out]; omega) (fun h => by rw [HXL.out] at h; omega)
                  have hsB : (convert 23 9 (.slice (some ⟨g10, 0, none⟩) 256 c10)).run Try.prog wt.drew = .ok (.string (strOf (D1.read k))) wt.drew := by rw [← hcr]; exact HS10.out _ (Kept.refl _ _).drew
                  have hsA := HS9.out _ (Kept.refl [] wt).drew
                  clear hcr
                  go_wp2
                  have hS0 : wt.drew = wt.drew := rfl
                  refine wp_region_T 24 (fun w' => w' = wt.drew) (by kernel_rfl) (by simp) (by kernel_rfl) ?_
                  refine wpT_take (i := 0) (v := ?_) rfl (by kernel_rfl) (fun _ _ _ h => h) (by assumption) (.inl ⟨rfl, ?_⟩) ?_
                  rotate_left
                  · intro w' hS; go_simp; try with_reducible rfl
                  simp only [Act.put, List.setIfInBounds_toArray, List.set_cons_zero, List.set_cons_succ]
                  refine wpT_take (i := 1) (v := ?_) rfl (by kernel_rfl) (fun _ _ _ h => h) (by assumption) (.inl ⟨rfl, ?_⟩) ?_
                  rotate_left
                  · intro w' hS; go_simp; try with_reducible rfl
                  simp only [Act.put, List.setIfInBounds_toArray, List.set_cons_zero, List.set_cons_succ]
                  refine wpT_take (i := 2) (v := ?_) rfl (by kernel_rfl) (fun _ _ _ h => h) (by assumption) (.inl ⟨rfl, ?_⟩) ?_
                  rotate_left
                  · intro w' hS; go_simp; try with_reducible rfl
                  simp only [Act.put, List.setIfInBounds_toArray, List.set_cons_zero, List.set_cons_succ]
                  refine wpT_take (i := 3) (v := ?_) rfl (by kernel_rfl) (fun _ _ _ h => h) (by assumption) (.inl ⟨rfl, ?_⟩) ?_
                  rotate_left
                  · intro w' hS; go_simp; try with_reducible rfl
                  simp only [Act.put, List.setIfInBounds_toArray, List.set_cons_zero, List.set_cons_succ]
                  refine wpT_take (i := 4) (v := ?_) rfl (by kernel_rfl) (fun _ _ _ h => h) (by assumption) (.inl ⟨rfl, ?_⟩) ?_
                  rotate_left
                  · intro w' hS; subst hS; go_simp; try with_reducible rfl
                  simp only [Act.put, List.setIfInBounds_toArray, List.set_cons_zero, List.set_cons_succ]
                  refine wpT_take (i := 5) (v := ?_) rfl (by kernel_rfl) (fun _ _ _ h => h) (by assumption) (.inl ⟨rfl, ?_⟩) ?_
                  rotate_left
                  · intro w' hS; go_simp; try with_reducible rfl
                  simp only [Act.put, List.setIfInBounds_toArray, List.set_cons_zero, List.set_cons_succ]
                  refine wpT_take (i := 6) (v := ?_) rfl (by kernel_rfl) (fun _ _ _ h => h) (by assumption) (.inl ⟨rfl, ?_⟩) ?_
                  rotate_left
                  · intro w' hS; subst hS; go_simp; try with_reducible rfl
                  simp only [Act.put, List.setIfInBounds_toArray, List.set_cons_zero, List.set_cons_succ]
                  refine wpT_take (i := 7) (v := ?_) rfl (by kernel_rfl) (fun _ _ _ h => h) (by assumption) (.inl ⟨rfl, ?_⟩) ?_
                  rotate_left
                  · intro w' hS; go_simp; try with_reducible rfl
                  simp only [Act.put, List.setIfInBounds_toArray, List.set_cons_zero, List.set_cons_succ]
                  refine wpT_take (i := 8) (v := ?_) rfl (by kernel_rfl) (fun _ _ _ h => h) (by assumption) (.inl ⟨rfl, ?_⟩) ?_
                  rotate_left
                  · intro w' hS; go_simp; try with_reducible rfl
                  simp only [Act.put, List.setIfInBounds_toArray, List.set_cons_zero, List.set_cons_succ]
                  refine wpT_take (i := 9) (v := ?_) rfl (by kernel_rfl) (fun _ _ _ h => h) (by assumption) (.inl ⟨rfl, ?_⟩) ?_
                  rotate_left
                  · intro w' hS; go_simp; try with_reducible rfl
                  simp only [Act.put, List.setIfInBounds_toArray, List.set_cons_zero, List.set_cons_succ]
                  refine wpT_take (i := 10) (v := ?_) rfl (by kernel_rfl) (fun _ _ _ h => h) (by assumption) (.inl ⟨rfl, ?_⟩) ?_
                  rotate_left
                  · intro w' hS; go_simp; try with_reducible rfl
                  simp only [Act.put, List.setIfInBounds_toArray, List.set_cons_zero, List.set_cons_succ]
                  refine wpT_take (i := 11) (v := ?_) rfl (by kernel_rfl) (fun _ _ _ h => h) (by assumption) (.inl ⟨rfl, ?_⟩) ?_
                  rotate_left
                  · intro w' hS; go_simp; try with_reducible rfl
                  simp only [Act.put, List.setIfInBounds_toArray, List.set_cons_zero, List.set_cons_succ]
                  refine wpT_take (i := 12) (v := undef) rfl (by kernel_rfl) (fun _ _ _ h => h) (by assumption) (.inr ⟨rfl, rfl⟩) ?_
                  simp only [Act.put, List.setIfInBounds_toArray, List.set_cons_zero, List.set_cons_succ]
                  refine wpT_take (i := 13) (v := undef) rfl (by kernel_rfl) (fun _ _ _ h => h) (by assumption) (.inr ⟨rfl, rfl⟩) ?_
                  simp only [Act.put, List.setIfInBounds_toArray, List.set_cons_zero, List.set_cons_succ]
                  refine wpT_take (i := 14) (v := undef) rfl (by kernel_rfl) (fun _ _ _ h => h) (by assumption) (.inr ⟨rfl, rfl⟩) ?_
                  simp only [Act.put, List.setIfInBounds_toArray, List.set_cons_zero, List.set_cons_succ]
                  refine wpT_take (i := 15) (v := undef) rfl (by kernel_rfl) (fun _ _ _ h => h) (by assumption) (.inr ⟨rfl, rfl⟩) ?_
                  simp only [Act.put, List.setIfInBounds_toArray, List.set_cons_zero, List.set_cons_succ]
                  refine wpT_take (i := 16) (v := undef) rfl (by kernel_rfl) (fun _ _ _ h => h) (by assumption) (.inr ⟨rfl, rfl⟩) ?_
                  simp only [Act.put, List.setIfInBounds_toArray, List.set_cons_zero, List.set_cons_succ]
                  refine wpT_take (i := 17) (v := undef) rfl (by kernel_rfl) (fun _ _ _ h => h) (by assumption) (.inr ⟨rfl, rfl⟩) ?_
                  simp only [Act.put, List.setIfInBounds_toArray, List.set_cons_zero, List.set_cons_succ]
                  refine wpT_take (i := 18) (v := undef) rfl (by kernel_rfl) (fun _ _ _ h => h) (by assumption) (.inr ⟨rfl, rfl⟩) ?_
                  simp only [Act.put, List.setIfInBounds_toArray, List.set_cons_zero, List.set_cons_succ]
                  refine wpT_take (i := 19) (v := undef) rfl (by kernel_rfl) (fun _ _ _ h => h) (by assumption) (.inr ⟨rfl, rfl⟩) ?_
                  simp only [Act.put, List.setIfInBounds_toArray, List.set_cons_zero, List.set_cons_succ]
                  refine wpT_take (i := 20) (v := undef) rfl (by kernel_rfl) (fun _ _ _ h => h) (by assumption) (.inr ⟨rfl, rfl⟩) ?_
                  simp only [Act.put, List.setIfInBounds_toArray, List.set_cons_zero, List.set_cons_succ]
                  refine wpT_take (i := 21) (v := undef) rfl (by kernel_rfl) (fun _ _ _ h => h) (by assumption) (.inr ⟨rfl, rfl⟩) ?_
                  simp only [Act.put, List.setIfInBounds_toArray, List.set_cons_zero, List.set_cons_succ]
                  refine wpT_take (i := 22) (v := ?_) rfl (by kernel_rfl) (fun _ _ _ h => h) (by assumption) (.inl ⟨rfl, ?_⟩) ?_
                  rotate_left
                  · intro w' hS; go_simp; try with_reducible rfl
                  simp only [Act.put, List.setIfInBounds_toArray, List.set_cons_zero, List.set_cons_succ]
                  refine wpT_take (i := 23) (v := ?_) rfl (by kernel_rfl) (fun _ _ _ h => h) (by assumption) (.inl ⟨rfl, ?_⟩) ?_
                  rotate_left
                  · intro w' hS; go_simp; try with_reducible rfl
                  simp only [Act.put, List.setIfInBounds_toArray, List.set_cons_zero, List.set_cons_succ]
                  refine wpT_done (by kernel_rfl) ?_
                  simp only [List.drop_succ_cons, List.drop_zero, List.drop_nil]
                  go_wp2
                  go_roundw
                  case rel => exact ⟨k + 1, by omega, by go_num, hky10.drew⟩
                  case measure => simp [intOf]; omega
            · have hDr := hDy.kept hkp9 (by simp)
              go_wp2_with fail
              refine (Dk.pendingI b bs cx X _ _ _ hDr).mono ?_
              rintro e w9 ⟨rfl, rfl⟩
              rw [show ((D1.puts2 xs).crash keep tear at_).pend.length = 0 from rfl]
              go_wp2
              go_ret
              exact ⟨rfl, hkwy.trans hkp9 (by simp)⟩
end Go.Proofs.Ytdjfibkpmmcefaa
