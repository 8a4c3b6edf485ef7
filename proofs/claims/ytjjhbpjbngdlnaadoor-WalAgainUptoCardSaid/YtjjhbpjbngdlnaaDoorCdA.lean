/- The package codec: Sum. Conditions: none but that what is handed in can be read. -/
import Derived.Test.YtjjhbpjbngdlnaaDoorSlF
namespace Go.Proofs.YtjjhbpjbngdlnaaDoor
open Go.RowKit

def crcBit (s : UInt32) : UInt32 := if s &&& 1 = 1 then (s >>> 1) ^^^ 3988292384 else s >>> 1
def crcBits : Nat → UInt32 → UInt32
  | 0, s => s
  | k + 1, s => crcBit (crcBits k s)
def crcByte (s : UInt32) (x : UInt8) : UInt32 := crcBits 8 (s ^^^ x.toUInt32)
def crcS (l : List UInt8) : UInt32 := l.foldl crcByte 4294967295
/-- The sum of bytes. -/
def crc (l : List UInt8) : UInt32 := ~~~ crcS l
theorem crcS_snoc (l : List UInt8) (x : UInt8) : crcS (l ++ [x]) = crcByte (crcS l) x := by simp [crcS]

/-- A slice of slices of bytes. -/
def PartsV (B : Base) (S : List Assn) (v : Value) (bs : List (List UInt8)) : Prop := ∃ vs, RdV B S v vs ∧ vs.length = bs.length ∧ ∀ i (h1 : i < vs.length) (h2 : i < bs.length), RdV B S vs[i] (bytesV bs[i])

set_option maxHeartbeats 1000000 in
set_option maxRecDepth 100000 in
theorem Cd.sum (B : Base) (S : List Assn) (v : Value) (bs : List (List UInt8)) (hv : PartsV B S v bs) (hb : bs.length < 2 ^ 32) (hbl : ∀ b ∈ bs, b.length < 2 ^ 48) : Fn Tryd.prog B 50 #[v] S (fun u l => u = .int .u32 (crc bs.flatten).toNat ∧ l = S) := by
  obtain ⟨vs, h1, h2, h3⟩ := hv
  obtain ⟨a, c, rfl⟩ := h1.form h2
  refine Fn.enter1 41 Tryd.func50 rfl rfl (Nat.le_of_ble_eq_true rfl) (fun F => ?_)
  try simp only [List.cons_append, List.nil_append]
  refine T.seq ?_
  refine T.region ?_
  refine LW.q rfl (Qt.assign rfl) ?_
  refine LW.done ?_
  refine T.seq ?_
  refine T.region ?_
  refine LW.q rfl (Qt.assign rfl) ?_
  refine LW.done ?_
  refine T.seq ?_
  refine T.seq ?_
  refine T.region ?_
  refine LW.q rfl (Qt.move rfl) ?_
  refine LW.q rfl (Qt.len (e := 22) (sz := 1) (by kernel_rfl) rfl) ?_
  refine LW.q rfl (Qt.move rfl) ?_
  refine LW.done ?_
  refine T.block ?_
  refine T.loop (fun mz fz lz => ∃ (f0 : Fr) (k : Nat) (s : UInt32), (k ≤ bs.length ∧ s = crcS (bs.take k).flatten) ∧ mz = bs.length - k ∧ fz = (upd (upd (upd (upd f0 3 (.int .u32 s.toNat)) 9 (.slice a bs.length c)) 10 (.int .i64 bs.length)) 11 (.int .i64 k)) ∧ lz = S ++ F) ?_ ?_
  · refine ⟨_, _, ⟨_, 0, 4294967295, ⟨Nat.zero_le _, by simp [crcS]⟩, rfl, (updS rfl (updS rfl (updS rfl (updS rfl rfl)))), rfl⟩, Sub.any⟩
  · skip
    rintro mz fz lz ⟨f0, k, s, ⟨hk, hs⟩, hmz, rfl, rfl⟩
    subst mz
    try simp only [List.cons_append, List.nil_append]
    refine T.seq ?_
    refine T.region ?_
    refine LW.q rfl (Qt.lss rfl rfl) ?_
    refine LW.done ?_
    refine T.seq ?_
    refine T.condP rfl (fun hlt => ?_) (fun hlt => ?_)
    · skip
      obtain ⟨b, o, rfl, hc⟩ := h1.at (by omega)
      have h3k := h3 k (by omega) (by omega)
      obtain ⟨pa, pc, hpv⟩ := h3k.form (m := bs[k].length) (by simp)
      rw [hpv] at h3k
      have hbk := hbl bs[k] (List.getElem_mem _)
      refine T.skip ?_
      refine T.seq ?_
      refine T.block ?_
      refine T.seq ?_
      refine T.region ?_
      refine LW.q rfl (Qt.index _ (e := 22) (sz := 1) (by kernel_rfl) rfl rfl rfl (by omega)) ?_
      refine LW.q rfl (Qt.loadW (v := .slice pa bs[k].length pc) (by kernel_rfl) rfl (fun w ho => by rw [hc k (by omega) w ho.drop, hpv])) ?_
      refine LW.q rfl (Qt.assign rfl) ?_
      refine LW.done ?_
      refine T.seq ?_
      refine T.region ?_
      refine LW.q rfl (Qt.move rfl) ?_
      refine LW.q rfl (Qt.len (e := 5) (sz := 1) (by kernel_rfl) rfl) ?_
      refine LW.q rfl (Qt.move rfl) ?_
      refine LW.done ?_
      refine T.block ?_
      refine T.loop (fun mz fz lz => ∃ (f0 : Fr) (j : Nat) (s2 : UInt32), (j ≤ bs[k].length ∧ s2 = crcS ((bs.take k).flatten ++ bs[k].take j)) ∧ mz = bs[k].length - j ∧ fz = (upd (upd (upd (upd (upd (upd (upd f0 3 (.int .u32 s2.toNat)) 9 (.slice (some ⟨b, o, none⟩) bs.length c)) 10 (.int .i64 bs.length)) 11 (.int .i64 k)) 15 (.slice pa bs[k].length pc)) 16 (.int .i64 bs[k].length)) 17 (.int .i64 j)) ∧ lz = S ++ F) ?_ ?_
      · refine ⟨_, _, ⟨_, 0, s, ⟨Nat.zero_le _, by rw [hs]; simp⟩, rfl, (updS rfl (updS rfl (updS rfl (updS rfl (updS rfl (updS rfl (updS rfl rfl))))))), rfl⟩, Sub.any⟩
      · skip
        rintro mz fz lz ⟨f0, j, s2, ⟨hj, hs2⟩, hmz, rfl, rfl⟩
        subst mz
        try simp only [List.cons_append, List.nil_append]
        refine T.seq ?_
        refine T.region ?_
        refine LW.q rfl (Qt.lss rfl rfl) ?_
        refine LW.done ?_
        refine T.seq ?_
        refine T.condP rfl (fun hjl => ?_) (fun hjl => ?_)
        · skip
          obtain ⟨b2, o2, rfl, hc2⟩ := h3k.at (by omega)
          have hx := (bs[k][j]'(by omega)).toNat_lt
          refine T.skip ?_
          refine T.seq ?_
          refine T.block ?_
          refine T.seq ?_
          refine T.region ?_
          refine LW.q rfl (Qt.index _ (e := 5) (sz := 1) (by kernel_rfl) rfl rfl rfl (by omega)) ?_
          refine LW.q rfl (Qt.loadW (v := .int .u8 (bs[k][j]'(by omega)).toNat) (by kernel_rfl) rfl (fun w ho => by rw [hc2 j (by simp; omega) w ho.drop]; simp [bytesV])) ?_
          refine LW.q rfl (Qt.assign rfl) ?_
          refine LW.done ?_
          refine T.seq ?_
          refine T.region ?_
          refine LW.q rfl (Qt.move rfl) ?_
          refine LW.q rfl (Qt.move rfl) ?_
          refine LW.q rfl (Qt.convI (by kernel_rfl) (by kernel_rfl) rfl (wru32 (by omega) (by omega))) ?_
          refine LW.q rfl (Qt.xor32 (bs[k][j]'(by omega)).toUInt32 rfl rfl (by simp)) ?_
          refine LW.q rfl (Qt.assign rfl) ?_
          refine LW.done ?_
          refine T.seq ?_
          refine T.region ?_
          refine LW.q rfl (Qt.move rfl) ?_
          refine LW.done ?_
          refine T.block ?_
          refine T.loop (fun mz fz lz => ∃ (f0 : Fr) (q : Nat) (s3 : UInt32), (q ≤ 8 ∧ s3 = crcBits q (s2 ^^^ (bs[k][j]'(by omega)).toUInt32)) ∧ mz = 8 - q ∧ fz = (upd (upd (upd (upd (upd (upd (upd (upd f0 3 (.int .u32 s3.toNat)) 9 (.slice (some ⟨b, o, none⟩) bs.length c)) 10 (.int .i64 bs.length)) 11 (.int .i64 k)) 15 (.slice (some ⟨b2, o2, none⟩) bs[k].length pc)) 16 (.int .i64 bs[k].length)) 17 (.int .i64 j)) 25 (.int .i64 q)) ∧ lz = S ++ F) ?_ ?_
          · refine ⟨_, _, ⟨_, 0, _, ⟨by omega, rfl⟩, rfl, (updS rfl (updS rfl (updS rfl (updS rfl (updS rfl (updS rfl (updS rfl (updS rfl rfl)))))))), rfl⟩, Sub.any⟩
          · skip
            rintro mz fz lz ⟨f0, q, s3, ⟨hq, hs3⟩, hmz, rfl, rfl⟩
            subst mz
            try simp only [List.cons_append, List.nil_append]
            refine T.seq ?_
            refine T.region ?_
            refine LW.q rfl (Qt.lss rfl rfl) ?_
            refine LW.done ?_
            refine T.seq ?_
            refine T.condP rfl (fun hql => ?_) (fun hql => ?_)
            · skip
              refine T.skip ?_
              refine T.seq ?_
              refine T.block ?_
              refine T.seq ?_
              refine T.region ?_
              refine LW.q rfl (Qt.move rfl) ?_
              refine LW.q rfl (Qt.and32 1 rfl rfl rfl) ?_
              refine LW.q rfl (Qt.assign rfl) ?_
              refine LW.done ?_
              refine T.seq ?_
              refine T.region ?_
              refine LW.q rfl (Qt.move rfl) ?_
              refine LW.q rfl (Qt.eql rfl rfl) ?_
              refine LW.done ?_
              refine T.condP rfl (fun hbit => ?_) (fun hbit => ?_)
              · skip
                refine T.region ?_
                refine LW.q rfl (Qt.move rfl) ?_
                refine LW.q rfl (Qt.shr32 rfl rfl) ?_
                refine LW.q rfl (Qt.xor32 3988292384 rfl rfl rfl) ?_
                refine LW.q rfl (Qt.assign rfl) ?_
                refine LW.done ?_
                refine T.region ?_
                refine LW.q rfl (Qt.add rfl rfl (wr64 (by omega) (by omega))) ?_
                refine LW.q rfl (Qt.move rfl) ?_
                refine LW.done ?_
                refine ⟨_, ?_, _, ⟨_, q + 1, _, ⟨by omega, by rw [crcBits, ← hs3, crcBit, if_pos (by apply UInt32.toNat_inj.1; show _ = 1; omega)]⟩, rfl, (updS rfl (updS rfl (updS rfl (updS rfl (updS rfl (updS rfl (updS rfl (updS rfl rfl)))))))), rfl⟩, Sub.any⟩
                first | omega | (simp; omega)
              · skip
                refine T.region ?_
                refine LW.q rfl (Qt.move rfl) ?_
                refine LW.q rfl (Qt.shr32 rfl rfl) ?_
                refine LW.q rfl (Qt.assign rfl) ?_
                refine LW.done ?_
                refine T.region ?_
                refine LW.q rfl (Qt.add rfl rfl (wr64 (by omega) (by omega))) ?_
                refine LW.q rfl (Qt.move rfl) ?_
                refine LW.done ?_
                refine ⟨_, ?_, _, ⟨_, q + 1, _, ⟨by omega, by rw [crcBits, ← hs3, crcBit, if_neg (by intro e; rw [e] at hbit; exact hbit rfl)]⟩, rfl, (updS rfl (updS rfl (updS rfl (updS rfl (updS rfl (updS rfl (updS rfl (updS rfl rfl)))))))), rfl⟩, Sub.any⟩
                first | omega | (simp; omega)
            · skip
              have e : q = 8 := by omega
              subst e
              refine T.exit ?_
              refine T.region ?_
              refine LW.q rfl (Qt.add rfl rfl (wr64 (by omega) (by omega))) ?_
              refine LW.q rfl (Qt.move rfl) ?_
              refine LW.done ?_
              refine ⟨_, ?_, _, ⟨_, j + 1, s3, ⟨by omega, by rw [List.take_succ_eq_append_getElem (by omega), ← List.append_assoc, crcS_snoc, ← hs2, hs3]; rfl⟩, rfl, (updS rfl (updS rfl (updS rfl (updS rfl (updS rfl (updS rfl (updS rfl rfl))))))), rfl⟩, Sub.any⟩
              first | omega | (simp; omega)
        · skip
          have e : j = bs[k].length := by omega
          rw [e, List.take_length] at hs2
          refine T.exit ?_
          refine T.region ?_
          refine LW.q rfl (Qt.add rfl rfl (wr64 (by omega) (by omega))) ?_
          refine LW.q rfl (Qt.move rfl) ?_
          refine LW.done ?_
          refine ⟨_, ?_, _, ⟨_, k + 1, s2, ⟨by omega, by rw [List.take_succ_eq_append_getElem (by omega), List.flatten_append, hs2]; simp⟩, rfl, (updS rfl (updS rfl (updS rfl (updS rfl rfl)))), rfl⟩, Sub.any⟩
          first | omega | (simp; omega)
    · skip
      have e : k = bs.length := by omega
      rw [e, List.take_length] at hs
      refine T.exit ?_
      refine T.seq ?_
      refine T.region ?_
      refine LW.q rfl (Qt.move rfl) ?_
      refine LW.q rfl (Qt.not32 rfl) ?_
      refine LW.q rfl (Qt.assign rfl) ?_
      refine LW.done ?_
      refine T.ret ?_
      exact ⟨.inl rfl, _, _, res [_] rfl ⟨rvT rfl, trivial⟩, ⟨by rw [hs]; rfl, rfl⟩, Sub.any⟩
end Go.Proofs.YtjjhbpjbngdlnaaDoor
