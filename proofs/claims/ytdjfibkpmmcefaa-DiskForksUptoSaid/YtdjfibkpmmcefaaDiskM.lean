/- The law DiskForks of annalslaw01: the walk. -/
import Derived.Test.YtdjfibkpmmcefaaDiskL
namespace Go.Proofs.Ytdjfibkpmmcefaa
open Go.RowKit

theorem Dk.elemStr : ElemOk Try.prog 38 9 1 16 := .mk' (.string ⟨#[]⟩) Try.underlying38 (by kernel_rfl) rfl (by omega)

set_option maxRecDepth 100000 in
set_option maxHeartbeats 8000000 in
theorem Dk.forks (la lb : List UInt8) (keep : List Bool) (va vb0 vk dk : Value) (fa fb fk : List Nat) (kind at0 tear at_ : Int) (w : World) (hva : Reads w va (bytesV la) fa) (hvb : Reads w vb0 (bytesV lb) fb) (hvk : Reads w vk (boolsV keep) fk)
    (hfk : ∀ x ∈ fk, x < w.heap.size) (hla : la.length ≤ 1048576) (hlb : lb.length ≤ 1048576) :
    Calls Try.prog 8 #[va, vb0, .agg #[.int .i64 kind, .int .i64 at0, dk, vk, .int .i64 tear, .int .i64 at_]] w fun e w' => e = .returned (.bool true) ∧ Kept [] w w' := by
  have HA := hva
  have HB := hvb
  obtain ⟨aa, ac, rfl, -⟩ := hva
  obtain ⟨ba, bc, rfl, -⟩ := hvb
  rw [length_bytesV] at HA HB ⊢
  rw [length_bytesV]
  replace HA := Lib.hid HA
  replace HB := Lib.hid HB
  have HK := Lib.hid hvk
  clear hvk
  go_enter Try.func8, Try.ntmps8
  go_wp2_with fail
  refine (Dk.awake _).mono ?_
  rintro e w1 ⟨rfl, hk1⟩
  have hbox := heap_alloc_new w (.cells #[.int .i64 kind, .int .i64 at0, dk, vk, .int .i64 tear, .int .i64 at_] 47)
  have hbox1 := (hk1.block w.heap.size (by simp) (by simp)).trans hbox
  have HBX := Lib.hid hbox1
  have hkw1 : Kept [] w w1 := ((Kept.refl [] w).alloc _).trans hk1 (by simp)
  have hsz1 : w.heap.size < w1.heap.size := lt_of_block hbox1
  clear hbox hbox1 hk1
  go_wp2_with fail
  refine (Dk.newI 4 _ _ rfl (by omega) (by omega)).mono ?_
  rintro e w2 ⟨b, bs, cx, X, pv, rfl, hD, hge, hk2⟩
  have hkw2 : Kept [] w w2 := hkw1.trans hk2 (by simp)
  have hge0 : ∀ x ∈ dfp b bs pv, w.heap.size ≤ x := fun x hx => by have := hge x hx; omega
  go_wp2_with fail
  go_loopw [34] (fun i wr => ∃ k : Nat, k ≤ la.length ∧ i = .int .i64 k ∧ Evo w2 b bs cx X pv wr ((DD.zero 4).puts 4 (la.take k))) (fun i _ => la.length - (intOf i).toNat)
  case atStart => exact ⟨0, Nat.zero_le _, rfl, by rw [List.take_zero, DD.puts_nil]; exact Evo.start hD⟩
  case round =>
    obtain ⟨k, hk, rfl, pvk, hDk, hbk, hkk⟩ := hrel
    by_cases hlt : k < la.length
    · obtain ⟨vb, vo, rfl, hvb, hcell⟩ := Reads.bytes_at HA.out k hlt
      have hkw : Kept [] w wr := hkw2.trans hkk (fun x hx => .inr (hge0 x hx))
      have hc := (hkw.cell (p := ⟨vb, vo + k, none⟩) (World.block_lt_of_cell? w _ (hcell k hlt)) (by simp)).trans (hcell k hlt)
      have hps := DD.puts_succ 4 (DD.zero 4) la k hlt
      have hpl := DD.puts_len 4 (DD.zero 4) (la.take k)
      rw [List.length_take, Nat.min_eq_left (by omega)] at hpl
      generalize la[k] = x0 at *
      have HPS := Lib.hid hps
      have HPL := Lib.hid hpl
      clear hcell hps hpl
      have k0 : (0 : Int) ≤ (k : Int) := by omega
      have k1 : (k : Int) < (la.length : Int) := by omega
      go_wp2_with fail
      refine (Dk.fullI x0 _ _ rfl).mono ?_
      rintro e wf ⟨gf, rfl, hgf, hgfl, hkf⟩
      go_wp2_with fail
      refine (Dk.writeI b bs gf 0 256 cx (k % 4) _ X _ pvk (sect x0) _ (by omega) (hDk.kept hkf (by simp)) (by show _ < (DD.zero 4).secs.length; simp [DD.zero]; omega) (block_range hgf) (length_sect _) (fun hm => by have := hDk.lt gf hm; omega) (by rw [HPL.out]; simp [DD.zero]; omega)).mono ?_
      rintro e wn ⟨pvn, rfl, hDn, hbn, hkn⟩
      go_wp2
      go_roundw
      case rel => exact ⟨k + 1, by omega, by go_num, by rw [HPS.out]; exact Evo.write hbk hkk hkf hDn hbn hkn⟩
      case measure => simp [intOf]; omega
    · have hkl : k = la.length := by omega
      subst hkl
      rw [List.take_length] at hDk
      generalize hD1 : (DD.zero 4).puts 4 la = D1 at hDk
      have hpl : D1.pend.length ≤ 1048576 := by rw [← hD1, DD.puts_len]; simp [DD.zero]; omega
      have hsl : D1.secs.length = 4 := by rw [← hD1]; simp [DD.puts, DD.zero]
      have hkw3 : Kept [] w wr := hkw2.trans hkk (fun x hx => .inr (hge0 x hx))
      have hq3 : Kept [] w1 wr := hk2.trans hkk (fun x hx => .inr (hge x hx))
      have hge3q : ∀ x ∈ dfp b bs pvk, w1.heap.size ≤ x := fun x hx => by
        have hz := hk2.size
        rcases dfp_evo hbk x hx with h | h
        · exact hge x h
        · omega
      have hge3 : ∀ x ∈ dfp b bs pvk, w.heap.size < x := fun x hx => by
        have hz := hk2.size
        rcases dfp_evo hbk x hx with h | h
        · have := hge x h; omega
        · omega
      have HSL := Lib.hid hsl
      clear hD1 hlt hsl
      go_wp2_with fail
      refine (Dk.fork b bs cx X D1 pvk wr hDk (by omega)).mono ?_
      rintro e w4 ⟨b2, bs2, cx2, X2, pv2, rfl, hF, hge4, hk4⟩
      have hD4 := hDk.kept hk4 (by simp)
      have hkw4 : Kept [] w w4 := hkw3.trans hk4 (by simp)
      have hdis : ∀ x ∈ dfp b2 bs2 pv2, x ∉ dfp b bs pvk := fun x hx hm => by have h1 := hge4 x hx; have h2 := hDk.lt x hm; omega
      have hge5 : ∀ x ∈ dfp b2 bs2 pv2, w.heap.size < x := fun x hx => by have h1 := hge4 x hx; have := hkw3.size; have := hk2.size; have := hkk.size; omega
      go_wp2_with fail
      refine (Dk.pendingI b2 bs2 cx2 X2 D1 pv2 _ hF).mono ?_
      rintro e w5 ⟨rfl, rfl⟩
      go_wp2_with fail
      refine (Dk.pendingI b bs cx X D1 pvk _ hD4).mono ?_
      rintro e w5 ⟨rfl, rfl⟩
      have hF0 := hF.c0
      rw [HSL.out] at hF0
      go_wp2_with fail
      refine (Dk.sectors _ _ _ _ _ _ hF0).mono ?_
      rintro e w5 ⟨rfl, rfl⟩
      go_wp2_with fail
      go_loopw [12, 13] (fun wv i wr => ∃ k : Nat, k ≤ 4 ∧ i = .int .i64 k ∧ wr.ownsRow 0 9 1 wv k ((List.range k).map fun j => .string (strOf (D1.read j))) ∧ (∀ g, wv.ownBlock = some g → w4.heap.size ≤ g) ∧ Kept [] w4 wr) (fun _ i _ => 4 - (intOf i).toNat)
      case atStart => exact ⟨0, by omega, rfl, World.ownsRow_nil _ _ _ _, by simp [Value.ownBlock], Kept.refl _ _⟩
      case round =>
        obtain ⟨k, hk, rfl, hown, hwb, hkp⟩ := hrel
        by_cases hlt : k < 4
        · have k0 : (0 : Int) ≤ (k : Int) := by omega
          have k1 : (k : Int) < 4 := by omega
          have HOWN := Lib.hid hown
          clear hown
          go_wp2_with fail
          refine (Dk.readI b bs k cx _ X _ pvk _ rfl (hD4.kept hkp (by simp)) (by rw [HSL.out]; omega) (by omega)).mono ?_
          rintro e w6 ⟨g6, c6, rfl, ho6, hl6, hg6, hk6⟩
          go_wp2_with fail
          refine (Dk.readI b2 bs2 k cx2 _ X2 _ pv2 _ rfl ((hF.kept hkp (by simp)).kept hk6 (by simp)) (by rw [HSL.out]; omega) (by omega)).mono ?_
          rintro e w7 ⟨g7, c7, rfl, ho7, hl7, hg7, hk7⟩
          have ho67 := owns_kept ho6 hk7 (by simp)
          obtain ⟨Y6, hY6⟩ := owns_block ho67
          obtain ⟨Y7, hY7⟩ := owns_block ho7
          have hs6 : (convert 23 9 (.slice (some ⟨g6, 0, none⟩) 256 c6)).run Try.prog w7 = .ok (.string (strOf (D1.read k))) w7 := run_string_of w7 _ _ _ Try.underlying23 Try.underlying5 Try.underlying9 (reads_of_block (n := 256) (cap := c6) hY6 (by rw [length_bytesV]; exact hl6))
          have hs7 : (convert 23 9 (.slice (some ⟨g7, 0, none⟩) 256 c7)).run Try.prog w7 = .ok (.string (strOf (D1.read k))) w7 := run_string_of w7 _ _ _ Try.underlying23 Try.underlying5 Try.underlying9 (reads_of_block (n := 256) (cap := c7) hY7 (by rw [length_bytesV]; exact hl7))
          have hown7 := owns_kept (owns_kept HOWN.out hk6 (by simp)) hk7 (by simp)
          have hk47 : Kept [] w4 w7 := (hkp.trans hk6 (by simp)).trans hk7 (by simp)
          have HOW7 := Lib.hid hown7
          clear hY6 hY7 ho6 ho7 ho67 hl6 hl7 hown7
          go_wp2_with (at_builtin; refine wpList_append_k (v := u12) (x := .slice (some ⟨w7.heap.size, 0, none⟩) 1 1) (m := 1) (news := [.string (strOf (D1.read k))]) rfl (.tmp 85) (.tmp 88) _ _ rfl Dk.elemStr rfl (HOW7.out.alloc _) rfl (Src.ofBlock Try.underlying38 (by exact heap_alloc_new w7 _) 1 1 (by simp) (by simp [Value.oneCell'])) (by unfold maxLen; omega) (by omega) (Nat.zero_le _) ?_; intro v8 w8 hA8; have HA8 := Lib.hid hA8; clear hA8)
          go_roundw
          case rel =>
            have hA8 := HA8.out
            refine ⟨k + 1, by omega, by go_num, ?_, ?_, (hk47.alloc _).trans hA8.kept (fun x hx => .inr (hwb x (by simpa using hx)))⟩
            · have := hA8.own
              rw [List.range_succ, List.map_append]
              exact this
            · intro g hg
              rcases hA8.blk g hg with h | h
              · exact hwb g h
              · have := hk47.size; simp at h; omega
          case measure => simp [intOf]; omega
        · have hk4e : k = 4 := by omega
          subst hk4e
          have hFr := hF.kept hkp (by simp)
          have hDr := hD4.kept hkp (by simp)
          have hkwr : Kept [] w wr := hkw4.trans hkp (by simp)
          obtain ⟨wp, wc, rfl⟩ := owns_slice hown
          have HOWN := Lib.hid hown
          clear hown
          go_wp2_with fail
          refine (Dk.pendingI b2 bs2 cx2 X2 D1 pv2 _ hFr).mono ?_
          rintro e w6 ⟨rfl, rfl⟩
          go_wp2_with fail
          obtain ⟨ws, hws⟩ : ∃ ws : World, ws = wr := ⟨_, rfl⟩
          subst hws
          have hge3' : ∀ x ∈ dfp b bs pvk, w.heap.size ≤ x := fun x hx => Nat.le_of_lt (hge3 x hx)
          go_loopw [94] (fun i wr => ∃ k : Nat, k ≤ lb.length ∧ i = .int .i64 k ∧ Evo ws b bs cx X pvk wr ((D1).puts 4 (lb.take k))) (fun i _ => lb.length - (intOf i).toNat)
          case atStart => exact ⟨0, Nat.zero_le _, rfl, by rw [List.take_zero, DD.puts_nil]; exact Evo.start hDr⟩
          case round =>
            obtain ⟨k, hk, rfl, pv3, hD3, hb3, hk3⟩ := hrel
            by_cases hlt : k < lb.length
            · obtain ⟨vb, vo, rfl, hvb, hcell⟩ := Reads.bytes_at HB.out k hlt
              have hkw : Kept [] w wr := hkwr.trans hk3 (fun x hx => .inr (hge3' x hx))
              have hc := (hkw.cell (p := ⟨vb, vo + k, none⟩) (World.block_lt_of_cell? w _ (hcell k hlt)) (by simp)).trans (hcell k hlt)
              have hps := DD.puts_succ 4 (D1) lb k hlt
              have hpl := DD.puts_len 4 (D1) (lb.take k)
              rw [List.length_take, Nat.min_eq_left (by omega)] at hpl
              generalize lb[k] = x0 at *
              have HPS := Lib.hid hps
              have HPL := Lib.hid hpl
              clear hcell hps hpl
              have k0 : (0 : Int) ≤ (k : Int) := by omega
              have k1 : (k : Int) < (lb.length : Int) := by omega
              go_wp2_with fail
              refine (Dk.fullI x0 _ _ rfl).mono ?_
              rintro e wf ⟨gf, rfl, hgf, hgfl, hkf⟩
              go_wp2_with fail
              refine (Dk.writeI b bs gf 0 256 cx (k % 4) _ X _ pv3 (sect x0) _ (by omega) (hD3.kept hkf (by simp)) (by show _ < (D1).secs.length; rw [HSL.out]; omega) (block_range hgf) (length_sect _) (fun hm => by have := hD3.lt gf hm; omega) (by rw [HPL.out]; omega)).mono ?_
              rintro e wn ⟨pvn, rfl, hDn, hbn, hkn⟩
              go_wp2
              go_roundw
              case rel => exact ⟨k + 1, by omega, by go_num, by rw [HPS.out]; exact Evo.write hb3 hk3 hkf hDn hbn hkn⟩
              case measure => simp [intOf]; omega
            · have hkl3 : k = lb.length := by omega
              subst hkl3
              rw [List.take_length] at hD3
              have hkw5 : Kept [] w wr := hkwr.trans hk3 (fun x hx => .inr (hge3' x hx))
              have hq5 : Kept [] w1 wr := ((hq3.trans hk4 (by simp)).trans hkp (by simp)).trans hk3 (fun x hx => .inr (hge3q x hx))
              have hF5 := hFr.kept hk3 hdis
              have hwg : ∀ g, (Value.slice wp 4 wc).ownBlock = some g → w4.heap.size ≤ g ∧ g < ws.heap.size := fun g hg => ⟨hwb g hg, (HOWN.out.lt g hg).2⟩
              have hown5 := owns_kept HOWN.out hk3 (fun g hg hm => by have := hDk.lt g hm; have := hk4.size; have := (hwg g hg).1; omega)
              have hsz5 : (D1.puts 4 lb).pend.length < 2 ^ 32 := by rw [DD.puts_len]; omega
              have hbk5 := (hq5.block w.heap.size hsz1 (by simp)).trans HBX.out
              have hx3 : wr.cell? ⟨w.heap.size, 3, none⟩ = some vk := by rw [cell_of_row _ _ _ _ _ _ hbk5]; rfl
              have hx4 : wr.cell? ⟨w.heap.size, 4, none⟩ = some (.int .i64 tear) := by rw [cell_of_row _ _ _ _ _ _ hbk5]; rfl
              have hx5 : wr.cell? ⟨w.heap.size, 5, none⟩ = some (.int .i64 at_) := by rw [cell_of_row _ _ _ _ _ _ hbk5]; rfl
              have HO5 := Lib.hid hown5
              clear hbk5 hown5
              go_wp2_with fail
              refine (Dk.crash b bs cx X _ pv3 vk keep fk tear at_ _ hD3 hsz5 (HK.out.kept hkw5 (by simp)) (fun x hx => by have := hfk x hx; have := hge3 bs (by simp [dfp]); omega)).mono ?_
              rintro e w6 ⟨rfl, hD6, hk6⟩
              go_wp2_with fail
              refine (Dk.sync b bs cx X _ _ _ hD6 (by simp [DD.crash])).mono ?_
              rintro e w7 ⟨rfl, hD7, hk7⟩
              have hk57 : Kept [b, bs] wr w7 := hk6.trans hk7 (by simp)
              have hb2 : ∀ x ∈ [b, bs], x ∈ dfp b bs pvk := fun x hx => by simp [dfp] at hx ⊢; rcases hx with h | h <;> simp [h]
              have hF7 := hF5.kept hk57 (fun x hx hm => hdis x hx (hb2 x hm))
              have hown7 := owns_kept HO5.out hk57 (fun g hg hm => by have := hDk.lt g (hb2 g hm); have := hk4.size; have := (hwg g hg).1; omega)
              have hkw7 : Kept [] w w7 := hkw5.trans hk57 (fun x hx => .inr (hge3' x (hb2 x hx)))
              have HO7 := Lib.hid hown7
              clear hown7 hk6 hk7 hD6 hD7 hx3 hx4 hx5
              obtain ⟨wy, hwy⟩ : ∃ wy : World, wy = w7 := ⟨_, rfl⟩
              subst hwy
              obtain ⟨gw, cw, hgw, hgwl⟩ : ∃ gw cw, (Value.slice wp 4 wc) = .slice (some ⟨gw, 0, none⟩) 4 cw ∧ w4.heap.size ≤ gw := by
                rcases HO7.out.2 with ⟨h1, h2⟩ | ⟨g, cap, cur, h1, _⟩
                · cases h2
                · exact ⟨g, cap, h1, (hwg g (by rw [h1]; rfl)).1⟩
              injection hgw with hgw1 _ hgw2
              subst hgw1 hgw2
              have hcw : ∀ j, j < 4 → wy.cell? ⟨gw, j, none⟩ = some (.string (strOf (D1.read j))) := fun j hj => by
                rw [HO7.out.cellAt j (by omega)]
                simp [hj]
              have HCW := Lib.hid hcw
              clear hcw
              go_wp2_with fail
              go_loopw [120] (fun i wr => ∃ k : Nat, k ≤ 4 ∧ i = .int .i64 k ∧ Kept [] wy wr) (fun i _ => 4 - (intOf i).toNat)
              case atStart => exact ⟨0, by omega, rfl, Kept.refl _ _⟩
              case round =>
                obtain ⟨k, hk, rfl, hkp9⟩ := hrel
                by_cases hlt : k < 4
                · have k0 : (0 : Int) ≤ (k : Int) := by omega
                  have k1 : (k : Int) < 4 := by omega
                  go_wp2_with fail
                  refine (Dk.readI b2 bs2 k cx2 _ X2 _ pv2 _ rfl (hF7.kept hkp9 (by simp)) (by rw [HSL.out]; omega) (by omega)).mono ?_
                  rintro e w9 ⟨g9, c9, rfl, ho9, hl9, hg9, hk9⟩
                  have hky : Kept [] wy w9 := hkp9.trans hk9 (by simp)
                  obtain ⟨Y9, hY9⟩ := owns_block ho9
                  have hs9 : ∀ w', w' = w9.drew → (convert 23 9 (.slice (some ⟨g9, 0, none⟩) 256 c9)).run Try.prog w' = .ok (.string (strOf (D1.read k))) w' := fun w' he => run_string_of w' _ _ _ Try.underlying23 Try.underlying5 Try.underlying9 (fp := [g9]) (by rw [he]; exact reads_of_block (w := w9.drew) (n := 256) (cap := c9) hY9 (by rw [length_bytesV]; exact hl9))
                  have hcw9 : w9.drew.cell? ⟨gw, k, none⟩ = some (.string (strOf (D1.read k))) := (hky.cell (p := ⟨gw, k, none⟩) (World.block_lt_of_cell? wy _ (HCW.out k hlt)) (by simp)).trans (HCW.out k hlt)
                  have HS9 := Lib.hid hs9
                  clear hY9 ho9 hl9 hs9
                  go_wp2
                  have hS0 : w9.drew = w9.drew := rfl
                  refine wp_region_T 7 (fun w' => w' = w9.drew) (by kernel_rfl) (by simp) (by kernel_rfl) ?_
                  refine wpT_take (i := 0) (v := ?_) rfl (by kernel_rfl) (fun _ _ _ h => h) (by assumption) (.inl ⟨rfl, ?_⟩) ?_
                  rotate_left
                  · intro w' hS; go_simp; try with_reducible rfl
                  simp only [Act.put, List.setIfInBounds_toArray, List.set_cons_zero, List.set_cons_succ]
                  refine wpT_take (i := 1) (v := ?_) rfl (by kernel_rfl) (fun _ _ _ h => h) (by assumption) (.inl ⟨rfl, ?_⟩) ?_
                  rotate_left
                  · intro w' hS; have hq := HS9.out w' hS; clear hS; go_simp; try with_reducible rfl
                  simp only [Act.put, List.setIfInBounds_toArray, List.set_cons_zero, List.set_cons_succ]
                  refine wpT_take (i := 2) (v := ?_) rfl (by kernel_rfl) (fun _ _ _ h => h) (by assumption) (.inl ⟨rfl, ?_⟩) ?_
                  rotate_left
                  · intro w' hS; go_simp; try with_reducible rfl
                  simp only [Act.put, List.setIfInBounds_toArray, List.set_cons_zero, List.set_cons_succ]
                  refine wpT_take (i := 3) (v := ?_) rfl (by kernel_rfl) (fun _ _ _ h => h) (by assumption) (.inl ⟨rfl, ?_⟩) ?_
                  rotate_left
                  · intro w' hS; go_simp; try with_reducible rfl
                  simp only [Act.put, List.setIfInBounds_toArray, List.set_cons_zero, List.set_cons_succ]
                  refine wpT_take (i := 4) (v := ?_) rfl (by kernel_rfl) (fun _ _ _ h => h) (by assumption) (.inl ⟨rfl, ?_⟩) ?_
                  rotate_left
                  · intro w' hS; go_simp; try with_reducible rfl
                  simp only [Act.put, List.setIfInBounds_toArray, List.set_cons_zero, List.set_cons_succ]
                  refine wpT_take (i := 5) (v := ?_) rfl (by kernel_rfl) (fun _ _ _ h => h) (by assumption) (.inl ⟨rfl, ?_⟩) ?_
                  rotate_left
                  · intro w' hS; subst hS; go_simp; try with_reducible rfl
                  simp only [Act.put, List.setIfInBounds_toArray, List.set_cons_zero, List.set_cons_succ]
                  refine wpT_take (i := 6) (v := ?_) rfl (by kernel_rfl) (fun _ _ _ h => h) (by assumption) (.inl ⟨rfl, ?_⟩) ?_
                  rotate_left
                  · intro w' hS; go_simp; try with_reducible rfl
                  simp only [Act.put, List.setIfInBounds_toArray, List.set_cons_zero, List.set_cons_succ]
                  refine wpT_done (by kernel_rfl) ?_
                  simp only [List.drop_succ_cons, List.drop_zero, List.drop_nil]
                  go_wp2
                  go_roundw
                  case rel => exact ⟨k + 1, by omega, by go_num, hky.drew⟩
                  case measure => simp [intOf]; omega
                · have hF9 := hF7.kept hkp9 (by simp)
                  go_wp2_with fail
                  refine (Dk.pendingI b2 bs2 cx2 X2 D1 pv2 _ hF9).mono ?_
                  rintro e w9 ⟨rfl, rfl⟩
                  go_wp2_with fail
                  refine (Dk.sync b2 bs2 cx2 X2 _ _ _ hF9 (by omega)).mono ?_
                  rintro e w10 ⟨rfl, hF10, hk10⟩
                  go_wp2
                  go_ret
                  exact ⟨rfl, (hkw7.trans hkp9 (by simp)).trans hk10 (fun x hx => .inr (Nat.le_of_lt (hge5 x (by simp [dfp] at hx ⊢; rcases hx with h | h <;> simp [h]))))⟩
end Go.Proofs.Ytdjfibkpmmcefaa
