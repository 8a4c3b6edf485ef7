/- The statements' own Sum is the program's. Conditions: sizes. -/
import Derived.Test.YtjjhbpjbngdlnaaDoorRcA
set_option linter.unusedSimpArgs false
set_option linter.unusedVariables false
namespace Go.Proofs.YtjjhbpjbngdlnaaDoor
open Go.RowKit

abbrev iV (n : Nat) : Value := .int .i64 n
def restV (s : UInt32) : List Value := (List.range 32).map fun k => iV (bitN s k)
abbrev intR (g : Nat) (L : List Value) : Assn := row (.slice (some ⟨g, 0, none⟩) 32 32) 3 1 32 L
theorem rest_at (s : UInt32) (k : Nat) (h : k < 32) : (restV s)[0 + k * 1]? = some (iV (bitN s k)) := by simp [restV, h]
theorem restV_of {L : List Value} {s : UInt32} (hl : L.length = 32) (h : ∀ j, j < 32 → L[j]? = some (iV (bitN s j))) : L = restV s := by
  refine List.ext_getElem? fun j => ?_
  by_cases hj : j < 32
  · rw [h j hj]; simp [restV, hj]
  · rw [List.getElem?_eq_none (by omega), List.getElem?_eq_none (by simp [restV]; omega)]
theorem bitN_ones : ∀ j, j < 32 → bitN 4294967295 j = 1 := by decide +kernel
abbrev powV : List Value := [iV 0, iV 0, iV 0, iV 0, iV 0, iV 1, iV 0, iV 0, iV 1, iV 1, iV 0, iV 0, iV 0, iV 0, iV 0, iV 1, iV 0, iV 0, iV 0, iV 1, iV 1, iV 1, iV 0, iV 1, iV 1, iV 0, iV 1, iV 1, iV 0, iV 1, iV 1, iV 1]
theorem pow_at (k : Nat) (h : k < 32) : powV[0 + k * 1]? = some (iV (bitN crcP k)) := by
  have e : powV = (List.range 32).map fun k => iV (bitN crcP k) := by kernel_rfl
  rw [e]; simp [h]
theorem Cd.elemI : ElemOk Tryd.prog 143 3 1 8 := .mk' (.int .i64 0) Tryd.underlying143 (by kernel_rfl) rfl (by omega)
theorem made_ints (n : Nat) : (madeCells (Value.int .i64 0).cells (n * 1)).toList = List.replicate n (iV 0) := by
  rw [show (Value.int .i64 0).cells = (List.replicate 1 (Value.int .i64 0)).toArray from rfl, made_replicate _ 1 _ (by omega), Nat.mul_one]
  rfl
theorem rem_add (x y : Nat) : ((x : Int) + (y : Int)).tmod 2 = (((x + y) % 2 : Nat) : Int) := rfl
theorem mul_bits {x y : Nat} (hx : x ≤ 1) (hy : y ≤ 1) : IntKind.i64.wrap ((x : Int) * (y : Int)) = ((x * y : Nat) : Int) := by
  have : x * y ≤ 1 := Nat.mul_le_mul hx hy
  rw [← Int.natCast_mul]; exact wr64 (by omega) (by omega)
theorem set_pre {L : List Value} {k : Nat} {u : Value} {P : Nat → Value} (hl : L.length = 32) (hk : k < 32) (h : ∀ j, j < k → L[j]? = some (P j)) (hu : u = P k) : ∀ j, j < k + 1 → (L.set (0 + k * 1) u)[j]? = some (P j) := by
  intro j hj
  rw [Nat.zero_add, Nat.mul_one]
  rcases Nat.lt_or_ge j k with h1 | h1
  · rw [List.getElem?_set_ne (by omega)]; exact h j h1
  · obtain rfl : j = k := by omega
    rw [List.getElem?_set_self (by omega), hu]

set_option maxHeartbeats 4000000 in
set_option maxRecDepth 100000 in
theorem Rc.sum (B : Base) (a : List UInt8) (hl : a.length < 2 ^ 32) : Fn Tryd.prog B 55 #[.string (strOf a)] [] (fun v l => v = .int .u32 (crc a).toNat ∧ l = []) := by
  refine Fn.enter1 77 Tryd.func55 rfl rfl (Nat.le_of_ble_eq_true rfl) (fun F => ?_)
  try simp only [List.cons_append, List.nil_append]
  refine T.seq ?_
  refine T.region ?_
  refine LW.q rfl (Qt.assign rfl) ?_
  refine LW.done ?_
  refine T.seq ?_
  refine T.region ?_
  refine LW.q rfl (Qt.move rfl) ?_
  first | refine LW.q rfl (Qt.lenSt (by kernel_rfl) rfl) ?_ | refine LW.q rfl (Qt.lenS (by kernel_rfl) rfl) ?_
  refine LW.q rfl (Qt.mul rfl rfl (wr64 (by omega) (by omega))) ?_
  refine LW.q rfl (Qt.assign rfl) ?_
  refine LW.done ?_
  refine T.seq ?_
  refine T.region ?_
  refine LW.e rfl (Ef.make 32 (.int .i64 0) 8 Cd.elemI (by kernel_rfl) rfl rfl rfl rfl (by omega) (by unfold maxLen; omega) ?_)
  rintro g17
  try simp only [List.cons_append, List.nil_append]
  rw [made_ints]
  refine LW.q rfl (Qt.assign rfl) ?_
  refine LW.done ?_
  refine T.seq ?_
  refine T.seq ?_
  refine T.region ?_
  refine LW.q rfl (Qt.assign rfl) ?_
  refine LW.done ?_
  refine T.block ?_
  refine T.loop (fun mz fz lz => ∃ (f0 : Fr) (i : Nat) (L : List Value), (i ≤ 32 ∧ L.length = 32 ∧ ∀ j, j < i → L[j]? = some ((fun _ => iV 1) j)) ∧ mz = 32 - i ∧ fz = (upd (upd (upd (upd f0 0 (.string (strOf a))) 3 (.int .i64 ((a.length : Int) * 8))) 4 (.slice (some ⟨g17, 0, none⟩) 32 32)) 5 (.int .i64 i)) ∧ lz = intR g17 L :: F) ?_ ?_
  · refine ⟨_, _, ⟨_, 0, List.replicate 32 (iV 0), ⟨Nat.zero_le _, by simp, by intro j hj; omega⟩, rfl, (updS rfl (updS rfl (updS rfl (updS rfl rfl)))), rfl⟩, Sub.any⟩
  · skip
    rintro mz fz lz ⟨f0, i, L, ⟨hi, hL, hones⟩, hmz, rfl, rfl⟩
    subst mz
    try simp only [List.cons_append, List.nil_append]
    refine T.seq ?_
    refine T.seq ?_
    refine T.region ?_
    refine LW.q rfl (Qt.move rfl) ?_
    refine LW.q rfl (Qt.lss rfl rfl) ?_
    refine LW.done ?_
    refine T.condP rfl (fun hlt => ?_) (fun hlt => ?_)
    · skip
      refine T.skip ?_
      refine T.seq ?_
      refine T.block ?_
      refine T.region ?_
      refine LW.q rfl (Qt.move rfl) ?_
      refine LW.q rfl (Qt.move rfl) ?_
      refine LW.q rfl (Qt.index _ (e := 3) (sz := 1) (by kernel_rfl) rfl rfl rfl (by omega)) ?_
      refine LW.e0 rfl (Ef.store1 (by kernel_rfl) rfl rfl rfl (by first | (simp; done) | (simp; omega)) ?_)
      try simp only [List.set_cons_zero, List.set_cons_succ]
      refine LW.done ?_
      refine T.region ?_
      refine LW.q rfl (Qt.move rfl) ?_
      refine LW.q rfl (Qt.add rfl rfl (wr64 (by omega) (by omega))) ?_
      refine LW.q rfl (Qt.assign rfl) ?_
      refine LW.done ?_
      refine ⟨_, ?_, _, ⟨_, i + 1, L.set (0 + i * 1) (iV 1), ⟨by omega, by simp [hL], set_pre hL (by omega) hones rfl⟩, rfl, (updS rfl (updS rfl (updS rfl (updS rfl rfl)))), rfl⟩, Sub.any⟩
      first | omega | (simp; omega)
    · skip
      obtain rfl : i = 32 := by omega
      obtain rfl : L = restV (regI a 0) := restV_of hL (fun j hj => by rw [hones j hj, regI_zero, bitN_ones j hj])
      refine T.exit ?_
      refine T.seq ?_
      refine T.region ?_
      refine LW.q rfl (Qt.buildA powV (len := 32) (e := 3) (by kernel_rfl) (by kernel_rfl) rfl (by simp [powV, Value.cells]) rfl) ?_
      refine LW.e rfl (Ef.alloc [.int .i64 0, .int .i64 0, .int .i64 0, .int .i64 0, .int .i64 0, .int .i64 0, .int .i64 0, .int .i64 0, .int .i64 0, .int .i64 0, .int .i64 0, .int .i64 0, .int .i64 0, .int .i64 0, .int .i64 0, .int .i64 0, .int .i64 0, .int .i64 0, .int .i64 0, .int .i64 0, .int .i64 0, .int .i64 0, .int .i64 0, .int .i64 0, .int .i64 0, .int .i64 0, .int .i64 0, .int .i64 0, .int .i64 0, .int .i64 0, .int .i64 0, .int .i64 0] (by unfold zeroB; kernel_rfl) ?_)
      intro g6
      refine LW.e0 rfl (Ef.store [_, _, _, _, _, _, _, _, _, _, _, _, _, _, _, _, _, _, _, _, _, _, _, _, _, _, _, _, _, _, _, _] (by kernel_rfl) rfl rfl rfl rfl (by simp) ?_)
      try simp only [splice, List.length_cons, List.length_nil, List.drop_succ_cons, List.cons_append, List.take_succ_cons, List.take_zero, List.drop_zero, List.nil_append, List.append_nil]
      refine LW.done ?_
      refine T.seq ?_
      refine T.seq ?_
      refine T.region ?_
      refine LW.q rfl (Qt.assign rfl) ?_
      refine LW.done ?_
      refine T.block ?_
      refine T.loop (fun mz fz lz => ∃ (f0 : Fr) (i g : Nat), (i ≤ 8 * a.length) ∧ mz = 8 * a.length - i ∧ fz = (upd (upd (upd (upd (upd f0 0 (.string (strOf a))) 3 (.int .i64 ((a.length : Int) * 8))) 4 (.slice (some ⟨g, 0, none⟩) 32 32)) 6 (.pointer (some ⟨g6, 0, none⟩))) 7 (.int .i64 i)) ∧ lz = intR g (restV (regI a i)) :: blk g6 powV 144 :: F) ?_ ?_
      · refine ⟨_, _, ⟨_, 0, g17, Nat.zero_le _, rfl, (updS rfl (updS rfl (updS rfl (updS rfl (updS rfl rfl))))), rfl⟩, Sub.any⟩
      · skip
        rintro mz fz lz ⟨f0, i, g, hi, hmz, rfl, rfl⟩
        subst mz
        try simp only [List.cons_append, List.nil_append]
        obtain ⟨s, hs⟩ : ∃ s, regI a i = s := ⟨_, rfl⟩
        rw [hs]
        refine T.seq ?_
        refine T.seq ?_
        refine T.region ?_
        refine LW.q rfl (Qt.move rfl) ?_
        refine LW.q rfl (Qt.move rfl) ?_
        refine LW.q rfl (Qt.lss rfl rfl) ?_
        refine LW.done ?_
        refine T.condP rfl (fun hlt => ?_) (fun hlt => ?_)
        · skip
          obtain ⟨b, hb⟩ : ∃ b, ((a.getD (i / 8) 0).toNat.testBit (i % 8)).toNat = b := ⟨_, rfl⟩
          have hb1 : b ≤ 1 := by rw [← hb]; cases (a.getD (i / 8) 0).toNat.testBit (i % 8) <;> simp
          have hb2 : (a.getD (i / 8) 0).toNat.testBit (i % 8) = decide (b = 1) := by rw [← hb]; cases (a.getD (i / 8) 0).toNat.testBit (i % 8) <;> rfl
          have hst : regI a (i + 1) = stepB s (decide (b = 1)) := by rw [regI_succ a i (by omega), hs, hb2]
          have hs0 := bitN_le s 0
          refine T.skip ?_
          refine T.seq ?_
          refine T.block ?_
          refine T.seq ?_
          refine T.draw 8 ([intR g (restV s)]) (by kernel_rfl) (Nat.le_of_ble_eq_true rfl) (by kernel_rfl) ?_
          refine RW.q 0 rfl rfl (by kernel_rfl) Sub.any (Qt.move rfl) ?_
          refine RW.q 1 rfl rfl (by kernel_rfl) Sub.any (Qt.index 0 (e := 3) (sz := 1) (by kernel_rfl) rfl rfl rfl (by omega)) ?_
          refine RW.q 2 rfl rfl (by kernel_rfl) Sub.any (Qt.load (v := iV (bitN s 0)) (by kernel_rfl) rfl (rest_at s 0 (by omega))) ?_
          refine RW.q 3 rfl rfl (by kernel_rfl) Sub.any (Qt.move rfl) ?_
          refine RW.q 4 rfl rfl (by kernel_rfl) Sub.any (Qt.move rfl) ?_
          refine RW.one 5 (by kernel_rfl) ?_
          refine RO.eS rfl rfl (Ef.call (Rc.bit B a i i rfl (by omega) (by omega)) Tryd.func80 rfl rfl rfl ?_)
          rintro _ _ ⟨rfl, rfl⟩
          try simp only [List.cons_append, List.nil_append]
          rw [hb]
          refine ⟨Sub.any, ?_⟩
          refine RW.q 6 rfl rfl (by kernel_rfl) Sub.any (Qt.add rfl rfl (wr64 (by omega) (by omega))) ?_
          refine RW.q 7 rfl rfl (by kernel_rfl) Sub.any (Qt.rem rfl rfl (by omega) (rem_add _ _)) ?_
          refine RW.done (by rfl) ?_
          simp only [List.drop_succ_cons, List.drop_zero, List.drop_nil]
          refine LW.q rfl (Qt.assign rfl) ?_
          refine LW.done ?_
          refine T.seq ?_
          refine T.region ?_
          obtain ⟨top, htop⟩ : ∃ top, (bitN s 0 + b) % 2 = top := ⟨_, rfl⟩
          have ht1 : top ≤ 1 := by omega
          rw [htop]
          refine LW.e rfl (Ef.make 32 (.int .i64 0) 8 Cd.elemI (by kernel_rfl) rfl rfl rfl rfl (by omega) (by unfold maxLen; omega) ?_)
          rintro g39
          try simp only [List.cons_append, List.nil_append]
          rw [made_ints]
          refine LW.q rfl (Qt.assign rfl) ?_
          refine LW.done ?_
          refine T.seq ?_
          refine T.seq ?_
          refine T.region ?_
          refine LW.q rfl (Qt.assign rfl) ?_
          refine LW.done ?_
          refine T.block ?_
          refine T.loop (fun mz fz lz => ∃ (f0 : Fr) (k : Nat) (L : List Value), (k ≤ 32 ∧ L.length = 32 ∧ ∀ j, j < k → L[j]? = some ((fun j => iV (bitN (regI a (i + 1)) j)) j)) ∧ mz = 32 - k ∧ fz = (upd (upd (upd (upd (upd (upd (upd (upd f0 0 (.string (strOf a))) 3 (.int .i64 ((a.length : Int) * 8))) 4 (.slice (some ⟨g, 0, none⟩) 32 32)) 6 (.pointer (some ⟨g6, 0, none⟩))) 7 (.int .i64 i)) 8 (iV top)) 9 (.slice (some ⟨g39, 0, none⟩) 32 32)) 10 (.int .i64 k)) ∧ lz = intR g39 L :: intR g (restV s) :: blk g6 powV 144 :: F) ?_ ?_
          · refine ⟨_, _, ⟨_, 0, List.replicate 32 (iV 0), ⟨Nat.zero_le _, by simp, by intro j hj; omega⟩, rfl, (updS rfl (updS rfl (updS rfl (updS rfl (updS rfl (updS rfl (updS rfl (updS rfl rfl)))))))), rfl⟩, Sub.any⟩
          · skip
            rintro mz fz lz ⟨f0, k, L, ⟨hk, hL, hpre⟩, hmz, rfl, rfl⟩
            subst mz
            try simp only [List.cons_append, List.nil_append]
            refine T.seq ?_
            refine T.seq ?_
            refine T.region ?_
            refine LW.q rfl (Qt.move rfl) ?_
            refine LW.q rfl (Qt.lss rfl rfl) ?_
            refine LW.done ?_
            refine T.condP rfl (fun hkl => ?_) (fun hkl => ?_)
            · skip
              have hp1 := bitN_le crcP k
              have hx1 := bitN_le s (k + 1)
              have htp : top * bitN crcP k ≤ 1 := Nat.mul_le_mul ht1 hp1
              have hnew : bitN (regI a (i + 1)) k = (bitN s (k + 1) + top * bitN crcP k) % 2 := by rw [hst, bitN_step s b k hb1 _ rfl, htop]
              refine T.skip ?_
              refine T.seq ?_
              refine T.block ?_
              refine T.seq ?_
              refine T.region ?_
              refine LW.q rfl (Qt.assign rfl) ?_
              refine LW.done ?_
              refine T.seq ?_
              refine T.seq ?_
              refine T.region ?_
              refine LW.q rfl (Qt.move rfl) ?_
              refine LW.q rfl (Qt.lss rfl rfl) ?_
              refine LW.done ?_
              refine T.condP rfl (fun h31 => ?_) (fun h31 => ?_)
              · skip
                refine T.region ?_
                refine LW.q rfl (Qt.move rfl) ?_
                refine LW.q rfl (Qt.move rfl) ?_
                refine LW.q rfl (Qt.add rfl rfl (wr64 (by omega) (by omega))) ?_
                refine LW.q rfl (Qt.index (k + 1) (e := 3) (sz := 1) (by kernel_rfl) rfl rfl (by omega) (by omega)) ?_
                refine LW.q rfl (Qt.load (v := iV (bitN s (k + 1))) (by kernel_rfl) rfl (rest_at s (k + 1) (by omega))) ?_
                refine LW.q rfl (Qt.assign rfl) ?_
                refine LW.done ?_
                refine T.region ?_
                refine LW.q rfl (Qt.move rfl) ?_
                refine LW.q rfl (Qt.move rfl) ?_
                refine LW.q rfl (Qt.move rfl) ?_
                refine LW.q rfl (Qt.move rfl) ?_
                refine LW.q rfl (Qt.move rfl) ?_
                refine LW.q rfl (Qt.indexA _ (len := 32) (e := 3) (sz := 1) (by kernel_rfl) rfl rfl rfl (by omega)) ?_
                refine LW.q rfl (Qt.load (v := iV (bitN crcP k)) (by kernel_rfl) rfl (pow_at k (by omega))) ?_
                refine LW.q rfl (Qt.mul rfl rfl (mul_bits ht1 hp1)) ?_
                refine LW.q rfl (Qt.add rfl rfl (wr64 (by omega) (by omega))) ?_
                refine LW.q rfl (Qt.rem rfl rfl (by omega) (rem_add _ _)) ?_
                refine LW.q rfl (Qt.index _ (e := 3) (sz := 1) (by kernel_rfl) rfl rfl rfl (by omega)) ?_
                refine LW.e0 rfl (Ef.store1 (by kernel_rfl) rfl rfl rfl (by first | (simp; done) | (simp; omega)) ?_)
                try simp only [List.set_cons_zero, List.set_cons_succ]
                refine LW.done ?_
                refine T.region ?_
                refine LW.q rfl (Qt.move rfl) ?_
                refine LW.q rfl (Qt.add rfl rfl (wr64 (by omega) (by omega))) ?_
                refine LW.q rfl (Qt.assign rfl) ?_
                refine LW.done ?_
                refine ⟨_, ?_, _, ⟨_, k + 1, L.set (0 + k * 1) (iV ((bitN s (k + 1) + top * bitN crcP k) % 2)), ⟨by omega, by simp [hL], set_pre hL (by omega) hpre (by rw [hnew])⟩, rfl, (updS rfl (updS rfl (updS rfl (updS rfl (updS rfl (updS rfl (updS rfl (updS rfl rfl)))))))), rfl⟩, Sub.any⟩
                first | omega | (simp; omega)
              · skip
                obtain rfl : k = 31 := by omega
                rw [bitN_top] at hnew
                refine T.skip ?_
                refine T.region ?_
                refine LW.q rfl (Qt.move rfl) ?_
                refine LW.q rfl (Qt.move rfl) ?_
                refine LW.q rfl (Qt.move rfl) ?_
                refine LW.q rfl (Qt.move rfl) ?_
                refine LW.q rfl (Qt.move rfl) ?_
                refine LW.q rfl (Qt.indexA _ (len := 32) (e := 3) (sz := 1) (by kernel_rfl) rfl rfl rfl (by omega)) ?_
                refine LW.q rfl (Qt.load (v := iV (bitN crcP 31)) (by kernel_rfl) rfl (pow_at 31 (by omega))) ?_
                refine LW.q rfl (Qt.mul rfl rfl (mul_bits ht1 hp1)) ?_
                refine LW.q rfl (Qt.add rfl rfl (wr64 (by omega) (by omega))) ?_
                refine LW.q rfl (Qt.rem rfl rfl (by omega) (rem_add 0 _)) ?_
                refine LW.q rfl (Qt.index _ (e := 3) (sz := 1) (by kernel_rfl) rfl rfl rfl (by omega)) ?_
                refine LW.e0 rfl (Ef.store1 (by kernel_rfl) rfl rfl rfl (by first | (simp; done) | (simp; omega)) ?_)
                try simp only [List.set_cons_zero, List.set_cons_succ]
                refine LW.done ?_
                refine T.region ?_
                refine LW.q rfl (Qt.move rfl) ?_
                refine LW.q rfl (Qt.add rfl rfl (wr64 (by omega) (by omega))) ?_
                refine LW.q rfl (Qt.assign rfl) ?_
                refine LW.done ?_
                refine ⟨_, ?_, _, ⟨_, 32, L.set (0 + 31 * 1) (iV ((0 + top * bitN crcP 31) % 2)), ⟨by omega, by simp [hL], set_pre hL (by omega) hpre (by rw [hnew])⟩, rfl, (updS rfl (updS rfl (updS rfl (updS rfl (updS rfl (updS rfl (updS rfl (updS rfl rfl)))))))), rfl⟩, Sub.any⟩
                first | omega | (simp; omega)
            · skip
              obtain rfl : k = 32 := by omega
              obtain rfl : L = restV (regI a (i + 1)) := restV_of hL hpre
              refine T.exit ?_
              refine T.region ?_
              refine LW.q rfl (Qt.move rfl) ?_
              refine LW.q rfl (Qt.assign rfl) ?_
              refine LW.done ?_
              refine T.region ?_
              refine LW.q rfl (Qt.move rfl) ?_
              refine LW.q rfl (Qt.add rfl rfl (wr64 (by omega) (by omega))) ?_
              refine LW.q rfl (Qt.assign rfl) ?_
              refine LW.done ?_
              refine ⟨_, ?_, _, ⟨_, i + 1, g39, by omega, rfl, (updS rfl (updS rfl (updS rfl (updS rfl (updS rfl rfl))))), rfl⟩, Sub.any⟩
              first | omega | (simp; omega)
        · skip
          obtain rfl : i = 8 * a.length := by omega
          obtain rfl : crcS a = s := by rw [← hs, regI_all]
          refine T.exit ?_
          refine T.seq ?_
          refine T.region ?_
          refine LW.q rfl (Qt.assign rfl) ?_
          refine LW.done ?_
          refine T.seq ?_
          refine T.seq ?_
          refine T.region ?_
          refine LW.q rfl (Qt.assign rfl) ?_
          refine LW.done ?_
          refine T.block ?_
          refine T.loop (fun mz fz lz => ∃ (f0 : Fr) (k m : Nat), (k ≤ 32 ∧ m = (~~~ crcS a).toNat % 2 ^ k) ∧ mz = 32 - k ∧ fz = (upd (upd (upd f0 4 (.slice (some ⟨g, 0, none⟩) 32 32)) 12 (.int .u32 m)) 13 (.int .i64 k)) ∧ lz = intR g (restV (crcS a)) :: F) ?_ ?_
          · refine ⟨_, _, ⟨_, 0, 0, ⟨Nat.zero_le _, by simp [Nat.mod_one]⟩, rfl, (updS rfl (updS rfl (updS rfl rfl))), rfl⟩, Sub.any⟩
          · skip
            rintro mz fz lz ⟨f0, k, m, ⟨hk, hm⟩, hmz, rfl, rfl⟩
            subst mz
            try simp only [List.cons_append, List.nil_append]
            refine T.seq ?_
            refine T.seq ?_
            refine T.region ?_
            refine LW.q rfl (Qt.move rfl) ?_
            refine LW.q rfl (Qt.lss rfl rfl) ?_
            refine LW.done ?_
            refine T.condP rfl (fun hkl => ?_) (fun hkl => ?_)
            · skip
              have hlow := not_low (crcS a) k (by omega)
              rw [← hm] at hlow
              have hlt3 : (~~~ crcS a).toNat % 2 ^ (k + 1) < 2 ^ 32 := Nat.lt_of_le_of_lt (Nat.mod_le _ _) (~~~ crcS a).toNat_lt
              refine T.skip ?_
              refine T.seq ?_
              refine T.block ?_
              refine T.seq ?_
              refine T.region ?_
              refine LW.q rfl (Qt.move rfl) ?_
              refine LW.q rfl (Qt.move rfl) ?_
              refine LW.q rfl (Qt.index _ (e := 3) (sz := 1) (by kernel_rfl) rfl rfl rfl (by omega)) ?_
              refine LW.q rfl (Qt.load (v := iV (bitN (crcS a) k)) (by kernel_rfl) rfl (rest_at _ k (by omega))) ?_
              refine LW.q rfl (Qt.eql rfl rfl) ?_
              refine LW.done ?_
              refine T.condP rfl (fun h0 => ?_) (fun h0 => ?_)
              · skip
                rw [if_pos (by omega)] at hlow
                refine T.region ?_
                refine LW.q rfl (Qt.move rfl) ?_
                refine LW.q rfl (Qt.move rfl) ?_
                refine LW.q rfl (Qt.shl1 k rfl rfl rfl (by omega)) ?_
                refine LW.q rfl (Qt.add rfl rfl (wru32 (by omega) (by omega))) ?_
                refine LW.q rfl (Qt.assign rfl) ?_
                refine LW.done ?_
                refine T.region ?_
                refine LW.q rfl (Qt.move rfl) ?_
                refine LW.q rfl (Qt.add rfl rfl (wr64 (by omega) (by omega))) ?_
                refine LW.q rfl (Qt.assign rfl) ?_
                refine LW.done ?_
                refine ⟨_, ?_, _, ⟨_, k + 1, m + 2 ^ k, ⟨by omega, by rw [hlow]⟩, rfl, (updS rfl (updS rfl (updS rfl rfl))), rfl⟩, Sub.any⟩
                first | omega | (simp; omega)
              · skip
                rw [if_neg (by omega)] at hlow
                refine T.skip ?_
                refine T.region ?_
                refine LW.q rfl (Qt.move rfl) ?_
                refine LW.q rfl (Qt.add rfl rfl (wr64 (by omega) (by omega))) ?_
                refine LW.q rfl (Qt.assign rfl) ?_
                refine LW.done ?_
                refine ⟨_, ?_, _, ⟨_, k + 1, m, ⟨by omega, by rw [hlow]; rfl⟩, rfl, (updS rfl (updS rfl (updS rfl rfl))), rfl⟩, Sub.any⟩
                first | omega | (simp; omega)
            · skip
              obtain rfl : k = 32 := by omega
              rw [Nat.mod_eq_of_lt (~~~ crcS a).toNat_lt] at hm
              refine T.exit ?_
              refine T.seq ?_
              refine T.region ?_
              refine LW.q rfl (Qt.move rfl) ?_
              refine LW.q rfl (Qt.assign rfl) ?_
              refine LW.done ?_
              refine T.ret ?_
              exact ⟨.inl rfl, _, _, res [_] rfl ⟨rvT rfl, trivial⟩, ⟨by rw [hm]; rfl, rfl⟩, Sub.any⟩
end Go.Proofs.YtjjhbpjbngdlnaaDoor
