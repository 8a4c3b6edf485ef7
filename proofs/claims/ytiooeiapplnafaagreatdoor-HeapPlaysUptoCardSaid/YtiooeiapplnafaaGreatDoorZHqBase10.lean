/- The texts HeD SpA HeE HeF HeG HeH HeI HeJ HeK HeL HeM, one behind the other: what the law leans on. Conditions: as each theorem says. -/
import Derived.Test.YtiooeiapplnafaaGreatDoorZHqBase9
set_option linter.unusedSimpArgs false
set_option linter.unusedVariables false
set_option maxRecDepth 100000
set_option maxHeartbeats 16000000
namespace Go.Proofs.YtiooeiapplnafaaGreatDoor
open Go.RowKit
theorem encE_get {e : En} {lo hi : Nat} {x : List UInt8} (h : ∃ a b, encE e = a ++ x ++ b ∧ a.length = lo ∧ (a ++ x).length = hi) : ((encE e).take hi).drop lo = x := by
 obtain ⟨a, b, h1, h2, h3⟩ := h
 rw [h1, List.take_left' h3, List.drop_left' h2]
abbrev enC (e : En) (p : Option Addr) (c : Nat) : List Value := [.int .i64 e.kind, .int .i64 e.txn, .int .i64 e.page, .int .i64 e.slot, .int .i64 e.stamp, .slice p e.data.length c]
theorem get_at {n : Int} {k : Nat} (h0 : 0 ≤ n) (h1 : n < 9223372036854775808) (hk : k ≤ 8) (h2 : n < ((256 ^ k : Nat) : Int)) : IntKind.i64.wrap ((get64 (be (UInt64.ofInt n) k)).toNat : Int) = n := by
 rw [get_be h0 h1 hk h2]; exact wr64 (by omega) h1
theorem rowNilP {e sz : Nat} {l : List Assn} {k : Piece} (H : Has l k) : Has (row (.slice none 0 0) e sz 0 [] :: l) k := ⟨fun _ => none, _, ⟨fun _ => .inl rfl⟩, ⟨fun _ _ h => (by cases h)⟩, Piece.le_refl _, ⟨by simp, .inl ⟨rfl, rfl⟩⟩, H⟩
theorem enc_head {e : En} {B : Base} {S : List Assn} {b0 o0 m ca : Nat} (h : EnOk e) (hm : (encE e).length = m) (hv : RdV B S (.slice (some ⟨b0, o0, none⟩) m ca) (bytesV (encE e))) (hcell : ∀ (j : Nat) (hj : j < (bytesV (encE e)).length) (w : World), Own B w S → w.cell? ⟨b0, o0 + j * 1, none⟩ = some (bytesV (encE e))[j]) : ∀ w, Own B w S → w.cell? ⟨b0, o0, none⟩ = some (.int .u8 e.kind) := by
 obtain ⟨k1, k2⟩ := h.kind
 have h0 : 0 < (bytesV (encE e)).length := by simp [bytesV]; unfold encE; simp
 intro w ho
 have := hcell 0 h0 w ho
 have e0 : (bytesV (encE e))[0] = .int .u8 e.kind := by
  have : (bytesV (encE e))[0]? = some (.int .u8 e.kind) := by
   unfold encE; simp [bytesV, u8_int (n := e.kind) (by omega) (by omega)]
  rw [List.getElem?_eq_getElem h0] at this
  exact Option.some.inj this
 rw [e0] at this
 simpa using this
theorem enc_txn (e : En) : ((encE e).take 9).drop 1 = be (UInt64.ofInt e.txn) 8 := encE_get (by unfold encE; exact ⟨[UInt8.ofInt e.kind], _, by rw [List.singleton_append, List.cons_append], rfl, by simp [length_be]⟩)
theorem Tl.decode3 (B : Base) (S : List Assn) (t s : Int) (e : En) (he : e = ⟨3, t, 0, 0, s, []⟩) (a : Option Addr) (m ca : Nat) (h : EnOk e) (hm : (encE e).length = m) (hmc : m ≤ ca) (hv : RdV B S (.slice a m ca) (bytesV (encE e))) : Fn Tryz.prog B 101 #[.slice a m ca] S (fun u l => u = .tuple #[enV e none 0, .int .i64 0] ∧ l = S) := by
 obtain ⟨t1, t2⟩ := h.txn
 obtain ⟨s1, s2⟩ := h.stamp
 have hk3 : e.kind = 3 := by rw [he]
 have hm17 : m = 17 := by rw [← hm, encE_len, if_pos hk3]
 obtain ⟨b0, o0, rfl, hcell⟩ := hv.at (by omega)
 have hc0 := enc_head h hm hv hcell
 have htx := enc_txn e
 have hst : ((encE e).take 17).drop 9 = be (UInt64.ofInt e.stamp) 8 := encE_get (by rw [encE3 hk3]; exact ⟨UInt8.ofInt e.kind :: be (UInt64.ofInt e.txn) 8, [], by simp, by simp [length_be], by simp [length_be]⟩)
 have hbt := RdV.part hv 1 9 (by omega) hm (by omega) (by omega) (z := 8) rfl
 have hbs := RdV.part hv 9 17 (by omega) hm (by omega) (by omega) (z := 8) rfl
 rw [htx] at hbt
 rw [hst] at hbs
 have gg1 := get_at (n := e.txn) (k := 8) (by omega) (by omega) (by omega) (by omega)
 have gg2 := get_at (n := e.stamp) (k := 8) (by omega) (by omega) (by omega) (by omega)
 have hck := fun (p : Option Addr) (c : Nat) => Tl.check B e p c h
 subst he
 dsimp only at hc0 hbt hbs gg1 gg2 t1 t2 s1 s2
 refine Fn.enter1 81 Tryz.func101 rfl rfl (nB rfl) (fun F => ?_)
 refine TS ?_
 refine Le rfl (El [.int .i64 0, .int .i64 0, .int .i64 0, .int .i64 0, .int .i64 0, .slice none 0 0] (by unfold zeroB; kernel_rfl) ?_)
 intro g2
 refine La rfl rfl (Ld (Ts (TS (Lm rfl rfl (Lq rfl (yI (e := 5) (sz := 1) (by kernel_rfl) rfl) (Lq rfl (yU rfl rfl) ?_))))))
 refine Ld (yL rfl (by omega) (Tk (TS (Lm rfl rfl (Lq rfl (Qi 0 (e := 5) (sz := 1) (by kernel_rfl) rfl rfl rfl (by omega)) (Lq rfl (zN (v := .int .u8 3) (by kernel_rfl) rfl (fun w ho => hc0 w (ho.map Sa))) ?_))))))
 refine Lq rfl (yX (by kernel_rfl) (by kernel_rfl) rfl (wr64 (by omega) (by omega))) (Lq rfl (z8 [(0, 1), (1, 1), (2, 1), (3, 1), (4, 1), (5, 1)] [.int .i64 0, .int .i64 0, .int .i64 0, .int .i64 0, .int .i64 0, .slice none 0 0] [_, _, _, _, _, _] [(0, _)] (by kernel_rfl) (by unfold zeroB; kernel_rfl) rfl rfl) ?_)
 refine Le rfl (El [.int .i64 0, .int .i64 0, .int .i64 0, .int .i64 0, .int .i64 0, .slice none 0 0] (by unfold zeroB; kernel_rfl) ?_)
 intro g4
 refine L0 rfl (Es [_, _, _, _, _, _] (by kernel_rfl) rfl rfl rfl rfl (by simp) ?_)
 try simp only [splice, lC, lN, dS, cA, tS, tZ, dZ, nA, aN]
 refine Ld (TS (La rfl rfl (Ld (Ts (yH (Ts ?_))))))
 refine TR (Lq rfl (Q0 (by kernel_rfl) rfl) (Lq rfl (Ql (by kernel_rfl) rfl rfl) (Lq rfl (yM rfl rfl) (Lm rfl rfl (yT (t := 20) rfl rfl (Lq rfl (Q0 (by kernel_rfl) rfl) (Lq rfl (Ql (by kernel_rfl) rfl rfl) ?_)))))))
 refine Lq rfl (yZ rfl rfl) (Lq rfl (Qp rfl rfl) (La rfl rfl (Ld (yQ rfl (TS (Lq rfl (Q0 (by kernel_rfl) rfl) ?_))))))
 refine Lq rfl (Ql (by kernel_rfl) rfl rfl) (Lq rfl (yU rfl rfl) (La rfl rfl (Ld (zF rfl (TR (La rfl rfl (Ld ?_)))))))
 refine Ts (yH (TS (Lm rfl rfl (Lq rfl (yI (e := 5) (sz := 1) (by kernel_rfl) rfl) (Lm rfl rfl (Lq rfl (yM rfl rfl) ?_))))))
 refine La rfl rfl (Ld (yL rfl (by omega) (TS (Lq rfl (Q0 (by kernel_rfl) rfl) (Lq rfl (Ql (by kernel_rfl) rfl rfl) (Lq rfl (yW rfl rfl) ?_))))))
 refine Lm rfl rfl (zQ (t := 40) rfl rfl (Lm rfl rfl (Lq rfl (yI (e := 5) (sz := 1) (by kernel_rfl) rfl) (Lm rfl rfl (Lq rfl (yZ rfl rfl) (Lq rfl (Qp rfl rfl) (La rfl rfl ?_)))))))
 refine Ld (yL rfl (by omega) (Tk (TS (Lm rfl rfl (Lq rfl (zS 1 9 (e := 5) (sz := 1) (by kernel_rfl) rfl rfl rfl rfl rfl (by omega) (by omega)) ?_)))))
 refine Le rfl (Ec (Cd.get B _ _ (be (UInt64.ofInt t) 8) hbt (by simp [length_be])) Tryz.func121 rfl rfl rfl ?_)
 rintro _ _ ⟨rfl, rfl⟩
 try simp only [cA, nA]
 refine Lq rfl (yX (by kernel_rfl) (by kernel_rfl) rfl gg1) (Lq rfl (Qf (off := 1) (by kernel_rfl) rfl) ?_)
 refine L0 rfl (E1 (by kernel_rfl) rfl rfl rfl (by first | (simp; done) | (simp; omega)) ?_)
 try simp only [List.set_cons_zero, List.set_cons_succ]
 refine Ld (Ts (TS (Lq rfl (Q0 (by kernel_rfl) rfl) (Lq rfl (Ql (by kernel_rfl) rfl rfl) (Lq rfl (yU rfl rfl) (Ld ?_))))))
 refine zF rfl (TR (Lm rfl rfl (Lq rfl (zS 9 17 (e := 5) (sz := 1) (by kernel_rfl) rfl rfl rfl rfl rfl (by omega) (by omega)) ?_)))
 refine Le rfl (Ec (Cd.get B _ _ (be (UInt64.ofInt s) 8) hbs (by simp [length_be])) Tryz.func121 rfl rfl rfl ?_)
 rintro _ _ ⟨rfl, rfl⟩
 try simp only [cA, nA]
 refine Lq rfl (yX (by kernel_rfl) (by kernel_rfl) rfl gg2) (Lq rfl (Qf (off := 4) (by kernel_rfl) rfl) ?_)
 refine L0 rfl (E1 (by kernel_rfl) rfl rfl rfl (by first | (simp; done) | (simp; omega)) ?_)
 try simp only [List.set_cons_zero, List.set_cons_succ]
 refine Ld (Ts (TS (Lq rfl (QL [_, _, _, _, _, _] (by kernel_rfl) rfl ⟨rfl, rfl, rfl, rfl, rfl, rfl, trivial⟩) ?_)))
 refine Le rfl (Ec (hck none 0) Tryz.func140 rfl rfl rfl ?_)
 rintro _ _ ⟨rfl, rfl⟩
 try simp only [cA, nA]
 refine La rfl rfl (Ld (TS (Lm rfl rfl (Lq rfl (yW rfl rfl) (Ld (yQ rfl ?_))))))
 refine Tk (TS (Lq rfl (QL [_, _, _, _, _, _] (by kernel_rfl) rfl ⟨rfl, rfl, rfl, rfl, rfl, rfl, trivial⟩) ?_))
 refine L0 rfl (Es [_, _, _, _, _, _] (by kernel_rfl) rfl rfl rfl rfl (by simp) ?_)
 try simp only [splice, lC, lN, dS, cA, tS, tZ, dZ, nA, aN]
 refine La rfl rfl (Ld (T.ret ?_))
 exact ⟨.inl rfl, _, _, res [_, _] rfl ⟨rvA [_, _, _, _, _, _] (by kernel_rfl) rfl ⟨rfl, rfl, rfl, rfl, rfl, rfl, trivial⟩, rvT rfl, trivial⟩, ⟨rfl, rfl⟩, Sa⟩
theorem Tl.decodeN (B : Base) (S : List Assn) (k t pg sl : Int) (dat : List UInt8) (hk3 : k ≠ 3) (e : En) (he : e = ⟨k, t, pg, sl, 0, dat⟩) (a : Option Addr) (m ca : Nat) (h : EnOk e) (hm : (encE e).length = m) (hmc : m ≤ ca) (hv : RdV B S (.slice a m ca) (bytesV (encE e))) : Fn Tryz.prog B 101 #[.slice a m ca] S (fun u l => ∃ p c, u = .tuple #[enV e p c, .int .i64 0] ∧ l = rB (.slice p e.data.length c) e.data.length e.data :: S) := by
 obtain ⟨k1, k2⟩ := h.kind
 obtain ⟨t1, t2⟩ := h.txn
 obtain ⟨q1, q2, q3, q4⟩ := h.place
 have hl := h.long
 have hkn : e.kind ≠ 3 := by rw [he]; exact hk3
 have hmd : m = 12 + e.data.length := by rw [← hm, encE_len, if_neg hkn]
 obtain ⟨b0, o0, rfl, hcell⟩ := hv.at (by omega)
 have hc0 := enc_head h hm hv hcell
 have htx := enc_txn e
 have hpg : ((encE e).take 11).drop 9 = be (UInt64.ofInt e.page) 2 := encE_get (by rw [encEn hkn]; exact ⟨UInt8.ofInt e.kind :: be (UInt64.ofInt e.txn) 8, UInt8.ofInt e.slot :: e.data, by simp, by simp [length_be], by simp [length_be]⟩)
 have hdt : (encE e).drop 12 = e.data := by
  rw [encEn hkn, show UInt8.ofInt e.kind :: (be (UInt64.ofInt e.txn) 8 ++ (be (UInt64.ofInt e.page) 2 ++ (UInt8.ofInt e.slot :: e.data))) = (UInt8.ofInt e.kind :: (be (UInt64.ofInt e.txn) 8 ++ be (UInt64.ofInt e.page) 2 ++ [UInt8.ofInt e.slot])) ++ e.data by simp, List.drop_left' (by simp [length_be])]
 have hsl : ∀ w, Own B w S → w.cell? ⟨b0, o0 + 11 * 1, none⟩ = some (.int .u8 e.slot) := fun w ho => by
  have h11 : 11 < (bytesV (encE e)).length := by simp [hm]; omega
  have := hcell 11 h11 w ho
  rw [this]
  have : (bytesV (encE e))[11]? = some (.int .u8 e.slot) := by
   rw [encEn hkn, show UInt8.ofInt e.kind :: (be (UInt64.ofInt e.txn) 8 ++ (be (UInt64.ofInt e.page) 2 ++ (UInt8.ofInt e.slot :: e.data))) = (UInt8.ofInt e.kind :: (be (UInt64.ofInt e.txn) 8 ++ be (UInt64.ofInt e.page) 2)) ++ UInt8.ofInt e.slot :: e.data by simp]
   unfold bytesV
   rw [List.map_append, List.getElem?_append_right (by simp [length_be])]
   simp [length_be, u8_int (n := e.slot) q3 (by omega)]
  rw [List.getElem?_eq_getElem h11] at this
  exact this
 have hbt := RdV.part hv 1 9 (by omega) hm (by omega) (by omega) (z := 8) rfl
 have hbp := RdV.part hv 9 11 (by omega) hm (by omega) (by omega) (z := 2) rfl
 have hbd := RdV.dropB hv 12 (by omega) hm hmc
 rw [htx] at hbt
 rw [hpg] at hbp
 rw [hdt] at hbd
 have hbl : m - 12 = e.data.length := by omega
 rw [hbl] at hbd
 have gg1 := get_at (n := e.txn) (k := 8) (by omega) (by omega) (by omega) (by omega)
 have gg2 := get_at (n := e.page) (k := 2) (by omega) (by omega) (by omega) (by omega)
 have hck := fun (p : Option Addr) (c : Nat) => Tl.check B e p c h
 have hn1 : k ≠ 1 → dat.length = 0 := fun hk => by have := h.none (by rw [he]; exact hk); rw [he] at this; simp at this; simp [this]
 subst he
 dsimp only at hc0 hbt hbp hbd gg1 gg2 t1 t2 q1 q2 q3 q4 hsl hmd hl hbl k1 k2
 refine Fn.enter1 81 Tryz.func101 rfl rfl (nB rfl) (fun F => ?_)
 try simp only [cA, nA]
 refine TS ?_
 refine Le rfl (El [.int .i64 0, .int .i64 0, .int .i64 0, .int .i64 0, .int .i64 0, .slice none 0 0] (by unfold zeroB; kernel_rfl) ?_)
 intro g2
 refine La rfl rfl (Ld (Ts (TS (Lm rfl rfl (Lq rfl (yI (e := 5) (sz := 1) (by kernel_rfl) rfl) (Lq rfl (yU rfl rfl) ?_))))))
 refine Ld (yL rfl (by omega) (Tk (TS (Lm rfl rfl (Lq rfl (Qi 0 (e := 5) (sz := 1) (by kernel_rfl) rfl rfl rfl (by omega)) (Lq rfl (zN (v := .int .u8 k) (by kernel_rfl) rfl (fun w ho => hc0 w (ho.map Sa))) ?_))))))
 refine Lq rfl (yX (by kernel_rfl) (by kernel_rfl) rfl (wr64 (by omega) (by omega))) (Lq rfl (z8 [(0, 1), (1, 1), (2, 1), (3, 1), (4, 1), (5, 1)] [.int .i64 0, .int .i64 0, .int .i64 0, .int .i64 0, .int .i64 0, .slice none 0 0] [_, _, _, _, _, _] [(0, _)] (by kernel_rfl) (by unfold zeroB; kernel_rfl) rfl rfl) ?_)
 refine Le rfl (El [.int .i64 0, .int .i64 0, .int .i64 0, .int .i64 0, .int .i64 0, .slice none 0 0] (by unfold zeroB; kernel_rfl) ?_)
 intro g4
 refine L0 rfl (Es [_, _, _, _, _, _] (by kernel_rfl) rfl rfl rfl rfl (by simp) ?_)
 try simp only [splice, lC, lN, dS, cA, tS, tZ, dZ, nA, aN]
 refine Ld (TS (La rfl rfl (Ld (Ts (yH (Ts ?_))))))
 refine TR (Lq rfl (Q0 (by kernel_rfl) rfl) (Lq rfl (Ql (by kernel_rfl) rfl rfl) (Lq rfl (yM rfl rfl) (Lm rfl rfl (yT (t := 20) rfl (decide_eq_false (by omega)) (Lq rfl (Q0 (by kernel_rfl) rfl) (Lq rfl (Ql (by kernel_rfl) rfl rfl) ?_)))))))
 refine Lq rfl (yZ rfl rfl) (Lq rfl (Qp rfl rfl) (La rfl rfl (Ld (yL rfl (by omega) (TS (Lq rfl (Q0 (by kernel_rfl) rfl) ?_))))))
 refine Lq rfl (Ql (by kernel_rfl) rfl rfl) (Lq rfl (yU rfl rfl) (La rfl rfl (Ld (yL rfl (hk3) (Tk (Ts (yH ?_)))))))
 refine TS (Lm rfl rfl (Lq rfl (yI (e := 5) (sz := 1) (by kernel_rfl) rfl) (Lm rfl rfl (Lq rfl (yM rfl rfl) (La rfl rfl (Ld ?_))))))
 refine yL rfl (by omega) ?_
 by_cases hk1 : k = 1
 ·
  refine TS (Lq rfl (Q0 (by kernel_rfl) rfl) (Lq rfl (Ql (by kernel_rfl) rfl rfl) (Lq rfl (yW rfl rfl) (Lm rfl rfl (yT (t := 40) rfl (decide_eq_false (by omega)) (Ls rfl ?_))))))
  refine Ls rfl (Ls rfl (Ls rfl (Lq rfl (Qp rfl rfl) (La rfl rfl (Ld (yQ rfl (Tk ?_)))))))
  refine TS (Lm rfl rfl (Lq rfl (zS 1 9 (e := 5) (sz := 1) (by kernel_rfl) rfl rfl rfl rfl rfl (by omega) (by omega)) ?_))
  refine Le rfl (Ec (Cd.get B _ _ (be (UInt64.ofInt t) 8) hbt (by simp [length_be])) Tryz.func121 rfl rfl rfl ?_)
  rintro _ l2 ⟨rfl, hl2⟩
  rw [hl2]
  clear hl2
  refine Lq rfl (yX (by kernel_rfl) (by kernel_rfl) rfl gg1) (Lq rfl (Qf (off := 1) (by kernel_rfl) rfl) ?_)
  refine L0 rfl (E1 (by kernel_rfl) rfl rfl rfl (by first | (simp; done) | (simp; omega)) ?_)
  try simp only [List.set_cons_zero, List.set_cons_succ]
  refine Ld (Ts (TS (Lq rfl (Q0 (by kernel_rfl) rfl) (Lq rfl (Ql (by kernel_rfl) rfl rfl) (Lq rfl (yU rfl rfl) (Ld ?_))))))
  refine yL rfl (hk3) (Ts (T.draw 10 (S) (by kernel_rfl) (nB rfl) (by kernel_rfl) (Rq 0 rfl rfl (by kernel_rfl) Sa (Qm rfl) (Rq 1 rfl rfl (by kernel_rfl) Sa (zS 9 11 (e := 5) (sz := 1) (by kernel_rfl) rfl rfl rfl rfl rfl (by omega) (by omega)) (Rq 4 rfl rfl (by kernel_rfl) Sa (Qm rfl) (Rq 5 rfl rfl (by kernel_rfl) Sa (Qi 11 (e := 5) (sz := 1) (by kernel_rfl) rfl rfl rfl (by omega)) (Rq 6 rfl rfl (by kernel_rfl) Sa (zN (v := .int .u8 sl) (by kernel_rfl) rfl (fun w ho => hsl w (ho.map Sa))) ?_)))))))
  refine Rq 7 rfl rfl (by kernel_rfl) Sa (yX (by kernel_rfl) (by kernel_rfl) rfl (wr64 (by omega) (by omega))) (yK 2 (by kernel_rfl) ?_)
  refine z6 rfl rfl (Ec (Cd.get B _ _ (be (UInt64.ofInt pg) 2) hbp (by simp [length_be])) Tryz.func121 rfl rfl rfl ?_)
  rintro _ l2 ⟨rfl, hl2⟩
  rw [hl2]
  clear hl2
  refine ⟨Sa, ?_⟩
  refine Rq 3 rfl rfl (by kernel_rfl) Sa (yX (by kernel_rfl) (by kernel_rfl) rfl gg2) (Rq 8 rfl rfl (by kernel_rfl) Sa (Qf (off := 2) (by kernel_rfl) rfl) (yK 9 (by kernel_rfl) ?_))
  refine YH rfl rfl (E1 (by kernel_rfl) rfl rfl rfl (by first | (simp; done) | (simp; omega)) ?_)
  try simp only [List.set_cons_zero, List.set_cons_succ]
  refine ⟨Sa, ?_⟩
  refine Rd0 (by rfl) ?_
  simp only [dS, dZ, dN]
  refine Lq rfl (Qf (off := 3) (by kernel_rfl) rfl) ?_
  refine L0 rfl (E1 (by kernel_rfl) rfl rfl rfl (by first | (simp; done) | (simp; omega)) ?_)
  try simp only [List.set_cons_zero, List.set_cons_succ]
  refine Ld (TR (Lm rfl rfl (Lq rfl (zP 12 (e := 5) (sz := 1) (by kernel_rfl) rfl rfl rfl (by omega)) ?_)))
  refine Le rfl (Ec (Cd.clone B _ _ dat dat.length rfl (hbl ▸ hbd) (by omega)) Tryz.func120 rfl rfl rfl ?_)
  rintro _ _ ⟨p1, c1, rfl, rfl⟩
  try simp only [cA, nA]
  refine Lq rfl (Qf (off := 5) (by kernel_rfl) rfl) ?_
  refine L0 rfl (E1 (by kernel_rfl) rfl rfl rfl (by first | (simp; done) | (simp; omega)) ?_)
  try simp only [List.set_cons_zero, List.set_cons_succ]
  refine Ld (Ts (TS (Lq rfl (QL [_, _, _, _, _, _] (by kernel_rfl) rfl ⟨rfl, rfl, rfl, rfl, rfl, rfl, trivial⟩) ?_)))
  refine Le rfl (Ec (hck p1 c1) Tryz.func140 rfl rfl rfl ?_)
  rintro _ _ ⟨rfl, rfl⟩
  try simp only [cA, nA]
  refine La rfl rfl (Ld (TS (Lm rfl rfl (Lq rfl (yW rfl rfl) (Ld (yQ rfl ?_))))))
  refine Tk (TS (Lq rfl (QL [_, _, _, _, _, _] (by kernel_rfl) rfl ⟨rfl, rfl, rfl, rfl, rfl, rfl, trivial⟩) ?_))
  refine L0 rfl (Es [_, _, _, _, _, _] (by kernel_rfl) rfl rfl rfl rfl (by simp) ?_)
  try simp only [splice, lC, lN, dS, cA, tS, tZ, dZ, nA, aN]
  refine La rfl rfl (Ld (T.ret ?_))
  exact ⟨.inl rfl, _, _, res [_, _] rfl ⟨rvA [_, _, _, _, _, _] (by kernel_rfl) rfl ⟨rfl, rfl, rfl, rfl, rfl, rfl, trivial⟩, rvT rfl, trivial⟩, ⟨p1, c1, rfl, rfl⟩, Sa⟩
 have := hn1 hk1
 refine TS (Lq rfl (Q0 (by kernel_rfl) rfl) (Lq rfl (Ql (by kernel_rfl) rfl rfl) (Lq rfl (yW rfl rfl) (Lm rfl rfl (zQ (t := 40) rfl (decide_eq_true (by omega)) (Lm rfl rfl ?_))))))
 refine Lq rfl (yI (e := 5) (sz := 1) (by kernel_rfl) rfl) (Lm rfl rfl (Lq rfl (yZ rfl rfl) (Lq rfl (Qp rfl rfl) (La rfl rfl (Ld (yL rfl (by omega) (Tk ?_)))))))
 refine TS (Lm rfl rfl (Lq rfl (zS 1 9 (e := 5) (sz := 1) (by kernel_rfl) rfl rfl rfl rfl rfl (by omega) (by omega)) ?_))
 refine Le rfl (Ec (Cd.get B _ _ (be (UInt64.ofInt t) 8) hbt (by simp [length_be])) Tryz.func121 rfl rfl rfl ?_)
 rintro _ l2 ⟨rfl, hl2⟩
 rw [hl2]
 clear hl2
 refine Lq rfl (yX (by kernel_rfl) (by kernel_rfl) rfl gg1) (Lq rfl (Qf (off := 1) (by kernel_rfl) rfl) ?_)
 refine L0 rfl (E1 (by kernel_rfl) rfl rfl rfl (by first | (simp; done) | (simp; omega)) ?_)
 try simp only [List.set_cons_zero, List.set_cons_succ]
 refine Ld (Ts (TS (Lq rfl (Q0 (by kernel_rfl) rfl) (Lq rfl (Ql (by kernel_rfl) rfl rfl) (Lq rfl (yU rfl rfl) (Ld ?_))))))
 refine yL rfl (hk3) (Ts (T.draw 10 (S) (by kernel_rfl) (nB rfl) (by kernel_rfl) (Rq 0 rfl rfl (by kernel_rfl) Sa (Qm rfl) (Rq 1 rfl rfl (by kernel_rfl) Sa (zS 9 11 (e := 5) (sz := 1) (by kernel_rfl) rfl rfl rfl rfl rfl (by omega) (by omega)) (Rq 4 rfl rfl (by kernel_rfl) Sa (Qm rfl) (Rq 5 rfl rfl (by kernel_rfl) Sa (Qi 11 (e := 5) (sz := 1) (by kernel_rfl) rfl rfl rfl (by omega)) (Rq 6 rfl rfl (by kernel_rfl) Sa (zN (v := .int .u8 sl) (by kernel_rfl) rfl (fun w ho => hsl w (ho.map Sa))) ?_)))))))
 refine Rq 7 rfl rfl (by kernel_rfl) Sa (yX (by kernel_rfl) (by kernel_rfl) rfl (wr64 (by omega) (by omega))) (yK 2 (by kernel_rfl) ?_)
 refine z6 rfl rfl (Ec (Cd.get B _ _ (be (UInt64.ofInt pg) 2) hbp (by simp [length_be])) Tryz.func121 rfl rfl rfl ?_)
 rintro _ l2 ⟨rfl, hl2⟩
 rw [hl2]
 clear hl2
 refine ⟨Sa, ?_⟩
 refine Rq 3 rfl rfl (by kernel_rfl) Sa (yX (by kernel_rfl) (by kernel_rfl) rfl gg2) (Rq 8 rfl rfl (by kernel_rfl) Sa (Qf (off := 2) (by kernel_rfl) rfl) (yK 9 (by kernel_rfl) ?_))
 refine YH rfl rfl (E1 (by kernel_rfl) rfl rfl rfl (by first | (simp; done) | (simp; omega)) ?_)
 try simp only [List.set_cons_zero, List.set_cons_succ]
 refine ⟨Sa, ?_⟩
 refine Rd0 (by rfl) ?_
 simp only [dS, dZ, dN]
 refine Lq rfl (Qf (off := 3) (by kernel_rfl) rfl) ?_
 refine L0 rfl (E1 (by kernel_rfl) rfl rfl rfl (by first | (simp; done) | (simp; omega)) ?_)
 try simp only [List.set_cons_zero, List.set_cons_succ]
 refine Ld (TR (Lm rfl rfl (Lq rfl (zP 12 (e := 5) (sz := 1) (by kernel_rfl) rfl rfl rfl (by omega)) ?_)))
 refine Le rfl (Ec (Cd.clone B _ _ dat dat.length rfl (hbl ▸ hbd) (by omega)) Tryz.func120 rfl rfl rfl ?_)
 rintro _ _ ⟨p1, c1, rfl, rfl⟩
 try simp only [cA, nA]
 refine Lq rfl (Qf (off := 5) (by kernel_rfl) rfl) ?_
 refine L0 rfl (E1 (by kernel_rfl) rfl rfl rfl (by first | (simp; done) | (simp; omega)) ?_)
 try simp only [List.set_cons_zero, List.set_cons_succ]
 refine Ld (Ts (TS (Lq rfl (QL [_, _, _, _, _, _] (by kernel_rfl) rfl ⟨rfl, rfl, rfl, rfl, rfl, rfl, trivial⟩) ?_)))
 refine Le rfl (Ec (hck p1 c1) Tryz.func140 rfl rfl rfl ?_)
 rintro _ _ ⟨rfl, rfl⟩
 try simp only [cA, nA]
 refine La rfl rfl (Ld (TS (Lm rfl rfl (Lq rfl (yW rfl rfl) (Ld (yQ rfl ?_))))))
 refine Tk (TS (Lq rfl (QL [_, _, _, _, _, _] (by kernel_rfl) rfl ⟨rfl, rfl, rfl, rfl, rfl, rfl, trivial⟩) ?_))
 refine L0 rfl (Es [_, _, _, _, _, _] (by kernel_rfl) rfl rfl rfl rfl (by simp) ?_)
 try simp only [splice, lC, lN, dS, cA, tS, tZ, dZ, nA, aN]
 refine La rfl rfl (Ld (T.ret ?_))
 exact ⟨.inl rfl, _, _, res [_, _] rfl ⟨rvA [_, _, _, _, _, _] (by kernel_rfl) rfl ⟨rfl, rfl, rfl, rfl, rfl, rfl, trivial⟩, rvT rfl, trivial⟩, ⟨p1, c1, rfl, rfl⟩, Sa⟩
theorem Tl.decode (B : Base) (S : List Assn) (e : En) (a : Option Addr) (m ca : Nat) (h : EnOk e) (hm : (encE e).length = m) (hmc : m ≤ ca) (hv : RdV B S (.slice a m ca) (bytesV (encE e))) : Fn Tryz.prog B 101 #[.slice a m ca] S (fun u l => ∃ p c, u = .tuple #[enV e p c, .int .i64 0] ∧ l = rB (.slice p e.data.length c) e.data.length e.data :: S) := by
  by_cases hk : e.kind = 3
  · have h1 := h.three hk
    have h2 := h.none (by omega)
    have he : e = ⟨3, e.txn, 0, 0, e.stamp, []⟩ := by
      obtain ⟨k, t, p, s, st, d⟩ := e
      dsimp only at *
      simp [hk, h1, h2]
    refine Fn.sub (Tl.decode3 B S e.txn e.stamp e he a m ca h hm hmc hv) ?_
    rintro v l' ⟨rfl, rfl⟩
    refine ⟨_, fun k K => ?_, none, 0, rfl, rfl⟩
    rw [h2]
    exact rowNilP K
  · have h1 := h.other hk
    have he : e = ⟨e.kind, e.txn, e.page, e.slot, 0, e.data⟩ := by
      obtain ⟨k, t, p, s, st, d⟩ := e
      dsimp only at *
      simp [h1]
    exact Tl.decodeN B S e.kind e.txn e.page e.slot e.data hk e he a m ca h hm hmc hv
open Go.RowKit
theorem Has.permS {L M : List Assn} (hp : L.Perm M) : ∀ {h : Piece}, Has L h → Has M h := by
 induction hp with
 | nil => exact fun H => H
 | cons A _ ih => exact fun H => Has.cons_imp (fun _ => ih) H
 | swap A A' l => exact fun H => Has.swap H
 | trans _ _ ih1 ih2 => exact fun H => ih2 (ih1 H)
theorem perm_eraseS {α : Type} : ∀ {L : List α} {i : Nat} {A : α}, L[i]? = some A → L.Perm (A :: L.eraseIdx i)
 | [], _, _, h => by simp at h
 | B :: L, 0, A, h => by simp at h; subst h; exact List.Perm.refl _
 | B :: L, i + 1, A, h => ((perm_eraseS (L := L) (i := i) (by simpa using h)).cons B).trans (List.Perm.swap ..)
theorem set_eraseS {α : Type} : ∀ {L : List α} {i : Nat} (A : α), i < L.length → (L.set i A).eraseIdx i = L.eraseIdx i
 | [], _, _, h => by simp at h
 | B :: L, 0, A, _ => rfl
 | B :: L, i + 1, A, h => by simp [set_eraseS (L := L) (i := i) A (by simpa using h)]
theorem sep_takeS {L l : List Assn} {i : Nat} {A : Assn} (hi : L[i]? = some A) {h : Piece} (H : Has (sepL L :: l) h) : Has (A :: sepL (L.eraseIdx i) :: l) h := by
 obtain ⟨h1, h2, d, a, b, e1, e2⟩ := H
 obtain ⟨k1, k2, d2, a1, a2, hA, f2⟩ := Has.permS (perm_eraseS hi) e1
 have d1 := d.disj_symm.disj_le a1
 have d3 := d.disj_symm.disj_le a2
 exact ⟨k1, Piece.add k2 h2, (Piece.add_disj d2.disj_symm d1).disj_symm, a1.le_trans a, Piece.add_le (a2.le_trans a) b, hA, k2, h2, d3.disj_symm, Piece.le_add_left _ _, Piece.le_add_right d3.disj_symm, f2, e2⟩
theorem sep_putS {L l : List Assn} {i : Nat} {A : Assn} (hi : i < L.length) {h : Piece} (H : Has (A :: sepL (L.eraseIdx i) :: l) h) : Has (sepL (L.set i A) :: l) h := by
 obtain ⟨k1, k0, d0, a1, a0, hA, k2, h2, d3, b1, b2, f2, e2⟩ := H
 have d12 := d0.disj_le b1
 have d1h := d0.disj_le b2
 refine ⟨Piece.add k1 k2, h2, Piece.add_disj d1h d3, Piece.add_le a1 (b1.le_trans a0), b2.le_trans a0, ?_, e2⟩
 refine Has.permS (perm_eraseS (L := L.set i A) (i := i) (by rw [List.getElem?_set_self hi])).symm ?_
 rw [set_eraseS A hi]
 exact ⟨k1, k2, d12, Piece.le_add_left _ _, Piece.le_add_right d12, hA, f2⟩
theorem sep_nilS {l : List Assn} {h : Piece} (H : Has l h) : Has (sepL [] :: l) h := ⟨fun _ => none, h, ⟨fun _ => .inl rfl⟩, ⟨fun _ _ e => (by cases e)⟩, Piece.le_refl h, trivial, H⟩
theorem sep_pushS {L l : List Assn} {A : Assn} {h : Piece} (H : Has (A :: sepL L :: l) h) : Has (sepL (L ++ [A]) :: l) h := by
 obtain ⟨k1, k0, d0, a1, a0, hA, k2, h2, d3, b1, b2, f2, e2⟩ := H
 have d12 := d0.disj_le b1
 have d1h := d0.disj_le b2
 refine ⟨Piece.add k1 k2, h2, Piece.add_disj d1h d3, Piece.add_le a1 (b1.le_trans a0), b2.le_trans a0, ?_, e2⟩
 exact Has.permS (List.perm_append_singleton A L).symm ⟨k1, k2, d12, Piece.le_add_left _ _, Piece.le_add_right d12, hA, f2⟩
section
variable {P : Program} {B : Base} {n : Nat} {S l r : List Assn} {f : Fr}
variable {ty : TypeId} {pos : String} {af : Array Edge} {gd : Option (Nat × Bool)}
variable {d : Option Tmp}
theorem Y4 {g : FuncId} {bs : Array Operand} (vs : List Value) (hb : bs.toList.map (ev n f) = vs.map some) : Qt P B n S ⟨d, .makeFunc (.func g) #[] bs, ty, pos, af, gd⟩ f (.func (.func g) #[] vs.toArray) := ⟨fun w _ => by
 have hav : bs.map (evu n f) = vs.toArray := by
  have : bs.toList.map (evu n f) = vs := by
   have e := congrArg (List.map (fun o : Option Value => o.getD undef)) hb
   have e2 : (fun x => evu n f x) = evu n f := rfl
   simp only [List.map_map, Function.comp_def, Option.getD_some, List.map_id'] at e
   exact e
  rw [← Array.toList_inj, Array.toList_map]
  simpa using this
 simp [execOp, hav, Instr.makeFunc]⟩
theorem ZE {d : Option Tmp} {x : Operand} {g : FuncId} {fn : Func} {args : Array Operand} {ats : Array TypeId} {pre F : List Assn} {R : Value → List Assn → Prop} {K : Value → List Assn → Prop} (vs cap : List Value) (hc : Fn P B g (vs ++ cap).toArray pre R) (hf : P.funcs[g]? = some fn) (hn : (fn.name == "runtime.NumGoroutine") = false) (hb : fn.body.isNone = false)
  (hx : ev n f x = some (.func (.func g) #[] cap.toArray)) (ha : args.toList.map (ev n f) = vs.map some) (hne : (match x with | .func _ => false | _ => true) = true) [k : TakeL pre l F] (h : ∀ v l', R v l' → K v (l' ++ F)) : Ef P B n ⟨d, .call ⟨.value x, args, ats⟩, ty, pos, af, gd⟩ f l K := ⟨fun w next Q ho hk => by
 have hav : args.map (evu n f) = vs.toArray := by
  have : args.toList.map (evu n f) = vs := by
   have e := congrArg (List.map (fun o : Option Value => o.getD undef)) ha
   have e2 : (fun x => evu n f x) = evu n f := rfl
   simp only [List.map_map, Function.comp_def, Option.getD_some, List.map_id'] at e
   exact e
  rw [← Array.toList_inj, Array.toList_map]
  simpa using this
 have h0 := hc.run w F ho.takeL
 unfold Oper.wp execOp
 rw [eval_act']
 have he : ((do let c ← resolve (evu n f) ⟨.value x, args, ats⟩ ty; invoke c.target c.args) : Sem Next).run P w = .ok (.enter g (vs ++ cap).toArray) w := by
  simp only [resolve, hav]
  have hn' : ¬ fn.name = "runtime.NumGoroutine" := by simpa using hn
  have hb' : ¬ fn.body = none := fun e => by rw [e] at hb; cases hb
  simp [evu_eq hx, Deferred.ofValue, invoke, callFunc, hf, hn', hb']
 rw [he]
 show Calls P g (vs ++ cap).toArray w _
 refine Calls.mono h0 ?_
 rintro e w' ⟨v, l', rfl, hR, ho'⟩
 exact hk v w' _ (h v l' hR) ho'⟩
end
open Go.RowKit
theorem splice_setB (off : Nat) (d b : List UInt8) (h : off + d.length ≤ b.length) : splice (bytesV b) off (bytesV d) = bytesV (setB off d b) := by
 unfold splice setB
 simp [bytesV, List.map_take, List.map_drop]
theorem length_setB {off : Nat} {d b : List UInt8} (h : off + d.length ≤ b.length) : (setB off d b).length = b.length := by
 unfold setB; simp; omega
theorem used_set {recs : List (List UInt8)} {j : Nat} {b : List UInt8} (hj : j < recs.length) (h : b.length = recs[j].length) : usedR (recs.set j b) = usedR recs := by
 unfold usedR
 congr 1
 rw [List.map_set]
 apply List.ext_getElem?
 intro i
 rw [List.getElem?_set]
 split
 · rename_i e; subst e; simp [hj, h]
 · rfl
theorem pgok_set {recs : List (List UInt8)} (h : PgOk recs) {j : Nat} {b : List UInt8} (hj : j < recs.length) (hb : b.length = recs[j].length) : PgOk (recs.set j b) := by
 refine ⟨by rw [used_set hj hb]; exact h.used, fun x hx => ?_⟩
 rcases List.mem_or_eq_of_mem_set hx with hx | rfl
 · exact h.len x hx
 · rw [hb]; exact h.len _ (List.getElem_mem _)
theorem rec_set {R : List Rec} {j : Nat} (hj : j < R.length) (b : List UInt8) : (R.set j { R[j] with b := b }).map Rec.b = (R.map Rec.b).set j b := by rw [List.map_set]
theorem pg_set {g : Nat} {p : Option Addr} {c : Nat} {R : List Rec} {j : Nat} {mark : Int} (hj : j < R.length) {b : List UInt8} (hb : b.length = R[j].b.length) (hok : PgOk (R.map Rec.b)) {l : List Assn} {h : Piece}
    (H : Has (rB (.slice R[j].p R[j].b.length R[j].c) R[j].b.length b :: sepL ((R.map recA).eraseIdx j) :: pgB g p R.length c mark :: pgR p R.length c R :: l) h) : Has (pgA g ((R.map Rec.b).set j b) mark :: l) h := by
  have hjm : j < (R.map recA).length := by simpa using hj
  have e1 : (R.map recA).set j (rB (.slice R[j].p R[j].b.length R[j].c) R[j].b.length b) = (R.set j { R[j] with b := b }).map recA := by
    rw [List.map_set]; congr 1; unfold recA; dsimp only; rw [hb]
  have H1 := sep_putS (L := R.map recA) hjm H
  rw [e1] at H1
  have e2 : R.map recV = (R.set j { R[j] with b := b }).map recV := by
    rw [List.map_set]
    apply List.ext_getElem?
    intro i
    rw [List.getElem?_set]
    split
    · rename_i e; subst e; simp [hj, hb]
    · rfl
  have H0 : Has (recsA (R.set j { R[j] with b := b }) :: pgB g p R.length c mark :: pgR p R.length c R :: l) h := H1
  have H2 : Has (pgB g p R.length c mark :: pgR p R.length c R :: recsA (R.set j { R[j] with b := b }) :: l) h := Sa h H0
  have e3 : (R.set j { R[j] with b := b }).length = R.length := by simp
  obtain ⟨h1, h2, d, a1, a2, k1, k2⟩ := Has.split (l := [pgB g p R.length c mark, pgR p R.length c R, recsA (R.set j { R[j] with b := b })]) H2
  refine ⟨h1, h2, d, a1, a2, ⟨p, c, R.set j { R[j] with b := b }, rec_set hj b, ?_, ?_⟩, k2⟩
  · exact pgok_set hok (by simpa using hj) (by simpa using hb)
  · rw [e3]
    unfold pgR
    rw [← e2]
    exact k1
theorem Pg.set (B : Base) (S : List Assn) (g : Nat) (recs : List (List UInt8)) (mark i : Int) (j : Nat) (hi : i = j) (b : List UInt8) (hb : recs[j]? = some b) (off : Nat) (oi : Int) (ho : oi = off) (a : Option Addr) (m c : Nat) (d : List UInt8) (hv : RdV B S (.slice a m c) (bytesV d)) (hm : d.length = m) (h0 : 0 < m) (hf : off + m ≤ b.length) :
  Fn Tryz.prog B 165 #[.pointer (some ⟨g, 0, none⟩), .int .i64 i, .int .i64 oi, .slice a m c] (pgA g recs mark :: S) (fun v l => v = .int .i64 0 ∧ l = pgA g (recs.set j (setB off d b)) mark :: S) := by
 subst hi; subst ho
 have hjl := (List.getElem?_eq_some_iff.1 hb).1
 refine Fn.enter4 55 Tryz.func165 rfl rfl (nB rfl) (fun F => ?_)
 try simp only [cA, nA]
 refine TS (La rfl rfl ?_)
 refine Ld (Ts (yH ?_))
 refine TS (Lm rfl rfl ?_)
 refine Lm rfl rfl ?_
 refine Le rfl (Ec (Pg.has B g recs mark j) Tryz.func119 rfl rfl rfl ?_)
 rintro _ _ ⟨rfl, rfl⟩
 try simp only [cA, nA]
 refine Lq rfl (YS rfl) (La rfl rfl (Ld ?_))
 refine yL rfl ((by omega)) ?_
 refine Y3 g recs mark (fun p c2 R hR hok hro hlen hp => ?_)
 subst hR
 have hj2 : j < R.length := by simpa using hjl
 obtain ⟨gp, rfl⟩ := hp (by omega)
 have hl := hok.len (R[j]).b (List.mem_map_of_mem (List.getElem_mem _))
 have e : R[j].b = b := by rw [List.getElem?_map, List.getElem?_eq_getElem hj2] at hb; exact Option.some.inj hb
 have el : R[j].b.length = b.length := by rw [e]
 have hml : (R.map Rec.b).length = R.length := by simp
 obtain ⟨gr, hgr⟩ := hro j hj2 (by omega)
 refine TS (Lm rfl rfl ?_)
 refine Lq rfl (yM rfl rfl) (Lm rfl rfl (yT (t := 17) rfl rfl ?_))
 refine Lm rfl rfl (Lm rfl rfl (Lq rfl (Qn rfl) ?_))
 refine Lq rfl (Q0 (by kernel_rfl) rfl) (Lq rfl (Ql (by kernel_rfl) rfl rfl) (Lm rfl rfl ?_))
 refine Lq rfl (Qi _ (e := 22) (sz := 1) (by kernel_rfl) rfl rfl rfl (by omega)) (Lq rfl (Ql (by kernel_rfl) rfl (map_at _ _ _ (by omega))) (Lq rfl (yI (e := 5) (sz := 1) (by kernel_rfl) rfl) ?_))
 refine Lq rfl (yZ rfl rfl) (Lq rfl (Qp rfl rfl) (Lm rfl rfl ?_))
 refine yT (t := 29) rfl (decide_eq_false (by omega)) (Lm rfl rfl (Lq rfl (yI (e := 5) (sz := 1) (by kernel_rfl) rfl) ?_))
 refine Lm rfl rfl (Lq rfl (Qn rfl) (Lq rfl (Q0 (by kernel_rfl) rfl) ?_))
 refine Lq rfl (Ql (by kernel_rfl) rfl rfl) (Lm rfl rfl (Lq rfl (Qi _ (e := 22) (sz := 1) (by kernel_rfl) rfl rfl rfl (by omega)) ?_))
 refine Lq rfl (Ql (by kernel_rfl) rfl (map_at _ _ _ (by omega))) (Lq rfl (yI (e := 5) (sz := 1) (by kernel_rfl) rfl) (Lm rfl rfl ?_))
 refine Lq rfl (Qt.sub rfl rfl (wr64 (by omega) (by omega))) (Lq rfl (yZ rfl rfl) (Lq rfl (Qp rfl rfl) ?_))
 refine La rfl rfl (Ld (yL rfl (by omega) ?_))
 have htk : ∀ k, Has (recsA R :: pgB g (some ⟨gp, 0, none⟩) R.length c2 mark :: pgR (some ⟨gp, 0, none⟩) R.length c2 R :: (S ++ F)) k → Has (rB (.slice (some ⟨gr, 0, none⟩) b.length R[j].c) b.length b :: sepL ((R.map recA).eraseIdx j) :: pgB g (some ⟨gp, 0, none⟩) R.length c2 mark :: pgR (some ⟨gp, 0, none⟩) R.length c2 R :: (S ++ F)) k := fun k K => by have := sep_takeS (L := R.map recA) (i := j) (A := recA R[j]) (by rw [List.getElem?_map, List.getElem?_eq_getElem hj2]; rfl) K; unfold recA at this; rw [hgr, e] at this; exact this
 refine T.conv (l' := rB (.slice (some ⟨gr, 0, none⟩) b.length R[j].c) b.length b :: sepL ((R.map recA).eraseIdx j) :: pgB g (some ⟨gp, 0, none⟩) R.length c2 mark :: pgR (some ⟨gp, 0, none⟩) R.length c2 R :: (S ++ F)) (fun w ho => ho.map fun k K => htk k (Sa k K)) (T.own fun w ho => ?_)
 have hcap := ho.cap_at (p := some ⟨gr, 0, none⟩) (m := b.length) (c := R[j].c)
 clear ho
 have hrv : recV R[j] = .slice (some ⟨gr, 0, none⟩) b.length R[j].c := by rw [show recV R[j] = .slice R[j].p R[j].b.length R[j].c from rfl, hgr, e]
 refine Tk (TS ?_)
 refine Lm rfl rfl (Lq rfl (Qn rfl) (Lq rfl (Q0 (by kernel_rfl) rfl) ?_))
 refine Lq rfl (Ql (by kernel_rfl) rfl rfl) (Lm rfl rfl (Lq rfl (Qi _ (e := 22) (sz := 1) (by kernel_rfl) rfl rfl rfl (by omega)) ?_))
 refine Lq rfl (Ql (v := .slice (some ⟨gr, 0, none⟩) b.length R[j].c) (by kernel_rfl) rfl (by rw [map_at _ _ _ (by omega), hrv])) (Lm rfl rfl (Lq rfl (YB off (some ⟨gr, off, none⟩) (b.length - off) (R[j].c - off) (e := 5) (sz := 1) (by kernel_rfl) rfl rfl rfl (by omega) (by rw [offA_some (by omega)]; simp) rfl rfl) ?_))
 refine Lm rfl rfl ?_
 refine Le rfl (YI (e := 5) (cs := bytesV d) (src := bytesV d) (by kernel_rfl) rfl rfl (hv.mono (fun w ho => ho.map Sa)) m (by exact (Nat.min_eq_left (by omega)).symm) h0 (by rw [List.take_of_length_le (by simp [hm])]) (by simp [hm]) one_bytesV (by simp; omega) ?_)
 rw [splice_setB off d b (by omega)]
 refine Ld (TS ?_)
 refine La rfl rfl (Ld ?_)
 have hlb := length_setB (off := off) (d := d) (b := b) (by omega)
 have hpgs := fun h : Piece => pg_set (h := h) (g := g) (p := some ⟨gp, 0, none⟩) (c := c2) (R := R) (mark := mark) hj2 (b := setB off d b) (by rw [hlb, e]) hok (l := S ++ F)
 rw [hgr, e] at hpgs
 refine T.ret ?_
 exact ⟨.inl rfl, _, _, res [_] rfl ⟨rvT rfl, trivial⟩, ⟨rfl, rfl⟩, (fun h H => hpgs h (Sa h H))⟩
open Go.RowKit
abbrev pV (g : Nat) : Value := .pointer (some ⟨g, 0, none⟩)
abbrev enB (g : Nat) (e : En) (p : Option Addr) (c : Nat) : Assn := blk g (enC e p c) 161
abbrev newB (t : Int) (d : List UInt8) : List UInt8 := be (UInt64.ofInt t) 8 ++ be (UInt64.ofInt 0) 8 ++ d
theorem Hp.applyAdd (B : Base) (S : List Assn) (v : Value) (g : Nat) (recs : List (List UInt8)) (m : Int) (e : En) (p : Option Addr) (c : Nat) (he : EnOk e) (hk : e.kind = 1) (hv : RdV B S (.slice p e.data.length c) (bytesV e.data)) (hs : e.slot = recs.length) (hd : e.data.length ≤ 184) (hu : usedR recs + 17 + e.data.length ≤ 243) :
  Fn Tryz.prog B 142 #[v, pV g, enV e p c] (pgA g recs m :: S) (fun u l => u = .int .i64 0 ∧ l = pgA g (recs ++ [newB e.txn e.data]) m :: S) := by
 obtain ⟨t1, t2⟩ := he.txn
 refine Fn.enter3 39 Tryz.func142 rfl rfl (nB rfl) (fun F => ?_)
 try simp only [cA, nA]
 refine TS ?_
 refine Le rfl (zL [_, _, _, _, _, _] rfl rfl ?_)
 intro g5
 refine La rfl rfl (Ld (Ts (TS (Lq rfl (Q0 (by kernel_rfl) rfl) (Lq rfl (Ql (by kernel_rfl) rfl rfl) (Lq rfl (yU rfl rfl) ?_))))))
 refine Ld (yL rfl (by omega) (Tk (Ts (Ts (zW 5 none (by kernel_rfl) (nB rfl) (by kernel_rfl) (Rq 0 rfl rfl (by kernel_rfl) Sa (Qf (off := 3) (by kernel_rfl) rfl) (Rq 1 rfl rfl (by kernel_rfl) Sa (Ql (by kernel_rfl) rfl rfl) ?_)))))))
 refine Rq 2 rfl rfl (by kernel_rfl) Sa (Qm rfl) (yK 3 (by kernel_rfl) ?_)
 refine z6 rfl rfl (Ec (Pg.count B g recs m) Tryz.func62 rfl rfl rfl ?_)
 rintro _ _ ⟨rfl, rfl⟩
 try simp only [cA, nA]
 refine ⟨Sa, ?_⟩
 refine Rq 4 rfl rfl (by kernel_rfl) Sa (yW rfl rfl) (Rd0 (by rfl) ?_)
 simp only [dS, dZ, dN]
 refine Ld (yL rfl (by omega) (Tk (Ts (T.draw 14 ([enB g5 e p c]) (by kernel_rfl) (nB rfl) (by kernel_rfl) (Rq 0 rfl rfl (by kernel_rfl) Sa (Qm rfl) (Rq 1 rfl rfl (by kernel_rfl) Sa (Qf (off := 1) (by kernel_rfl) rfl) (Rq 2 rfl rfl (by kernel_rfl) Sa (Ql (by kernel_rfl) rfl rfl) ?_)))))))
 refine Rq 3 rfl rfl (by kernel_rfl) Sa (yX (by kernel_rfl) (by kernel_rfl) rfl (wru64_i64 e.txn)) (Rq 6 rfl rfl (by kernel_rfl) Sa (Qf (off := 5) (by kernel_rfl) rfl) (Rq 7 rfl rfl (by kernel_rfl) Sa (Ql (by kernel_rfl) rfl rfl) (yK 4 (by kernel_rfl) ?_)))
 refine z6 rfl rfl (Ec (Cd.putP B [] (.slice none 0 0) [] 0 rfl (UInt64.ofInt e.txn) 8 8 rfl (by omega) (RdV.nil _ 0) (by omega)) Tryz.func138 rfl rfl rfl ?_)
 rintro _ _ ⟨p1, c1, rfl, hp1, rfl⟩
 try simp only [cA, nA]
 simp only [Nat.zero_add, List.nil_append]
 simp only [Nat.zero_add] at hp1
 refine ⟨Sa, ?_⟩
 refine yK 5 (by kernel_rfl) ?_
 refine z6 rfl rfl (Ec (Cd.putP B [rB (.slice p1 8 c1) 8 (be (UInt64.ofInt e.txn) 8)] (.slice p1 8 c1) (be (UInt64.ofInt e.txn) 8) 8 (length_be _ _) (UInt64.ofInt 0) 8 8 rfl (by omega) (RdV.rB (length_be _ _) hp1) (by omega)) Tryz.func138 rfl rfl rfl ?_)
 rintro _ _ ⟨p2, c2, rfl, hp2, rfl⟩
 try simp only [cA, nA]
 simp only [Nat.reduceAdd] at hp2
 simp only [Nat.reduceAdd]
 refine ⟨Sa, ?_⟩
 refine yK 8 (by kernel_rfl) ?_
 refine zY rfl rfl (by kernel_rfl) (Ea Cd.elemB rfl rfl (SrcOf.rd (m := e.data.length) (hv.mono (fun w ho => ho.map Sa)) (by kernel_rfl) (by simp) one_bytesV) (by unfold maxLen; omega) (by omega) ?_)
 rintro p3 c3 hp3
 rw [← bytesV_append]
 have hL : (newB e.txn e.data).length = 16 + e.data.length := by simp [length_be]; omega
 refine yK 9 (by kernel_rfl) ?_
 refine zY rfl rfl (by kernel_rfl) (Ec (Pg.add B [rB (.slice p3 (16 + e.data.length) c3) (16 + e.data.length) (newB e.txn e.data)] g recs m p3 (16 + e.data.length) c3 (newB e.txn e.data) (RdV.rB hL hp3) hL (by omega) (by omega)) Tryz.func166 rfl rfl rfl ?_)
 rintro _ _ ⟨rfl, rfl⟩
 try simp only [cA, nA]
 refine Rq 10 rfl rfl (by kernel_rfl) (Sr _) (Qm rfl) (Rq 11 rfl rfl (by kernel_rfl) (Sr _) (Qx rfl rfl) (Rq 12 rfl rfl (by kernel_rfl) (Sr _) (Qx rfl rfl) (Rq 13 rfl rfl (by kernel_rfl) (Sr _) (Qa rfl) (Rd0 (by rfl) ?_))))
 simp only [dS, dZ, dN]
 refine La rfl rfl (Ld (TS (Lm rfl rfl (La rfl rfl (Ld (T.ret ?_))))))
 exact ⟨.inl rfl, _, _, res [_] rfl ⟨rvT rfl, trivial⟩, ⟨rfl, rfl⟩, Sa⟩
theorem Hp.applyEnd (B : Base) (S : List Assn) (v : Value) (g : Nat) (recs : List (List UInt8)) (m : Int) (e : En) (p : Option Addr) (c : Nat) (he : EnOk e) (hk : e.kind = 2) (j : Nat) (hs : e.slot = j) (b : List UInt8) (hb : recs[j]? = some b) (hl : 16 ≤ b.length) :
  Fn Tryz.prog B 142 #[v, pV g, enV e p c] (pgA g recs m :: S) (fun u l => u = .int .i64 0 ∧ l = pgA g (recs.set j (setB 8 (be (UInt64.ofInt e.txn) 8) b)) m :: S) := by
 obtain ⟨t1, t2⟩ := he.txn
 refine Fn.enter3 39 Tryz.func142 rfl rfl (nB rfl) (fun F => ?_)
 try simp only [cA, nA]
 refine TS ?_
 refine Le rfl (zL [_, _, _, _, _, _] rfl rfl ?_)
 intro g5
 refine La rfl rfl (Ld (Ts (TS (Lq rfl (Q0 (by kernel_rfl) rfl) (Lq rfl (Ql (by kernel_rfl) rfl rfl) (Lq rfl (yU rfl rfl) ?_))))))
 refine Ld (zM rfl (by omega) (Ts (T.draw 8 ([enB g5 e p c]) (by kernel_rfl) (nB rfl) (by kernel_rfl) (Rq 0 rfl rfl (by kernel_rfl) Sa (Qm rfl) (Rq 1 rfl rfl (by kernel_rfl) Sa (Qf (off := 3) (by kernel_rfl) rfl) (Rq 2 rfl rfl (by kernel_rfl) Sa (Ql (by kernel_rfl) rfl rfl) (Rq 3 rfl rfl (by kernel_rfl) Sa (Qf (off := 1) (by kernel_rfl) rfl) ?_)))))))
 refine Rq 4 rfl rfl (by kernel_rfl) Sa (Ql (by kernel_rfl) rfl rfl) (Rq 5 rfl rfl (by kernel_rfl) Sa (yX (by kernel_rfl) (by kernel_rfl) rfl (wru64_i64 e.txn)) (yK 6 (by kernel_rfl) ?_))
 refine z6 rfl rfl (Ec (Cd.putP B [] (.slice none 0 0) [] 0 rfl (UInt64.ofInt e.txn) 8 8 rfl (by omega) (RdV.nil _ 0) (by omega)) Tryz.func138 rfl rfl rfl ?_)
 rintro _ _ ⟨p1, c1, rfl, hp1, rfl⟩
 try simp only [cA, nA]
 simp only [Nat.zero_add, List.nil_append]
 simp only [Nat.zero_add] at hp1
 refine ⟨Sa, ?_⟩
 refine yK 7 (by kernel_rfl) ?_
 refine zY rfl rfl (by kernel_rfl) (Ec (Pg.set B [rB (.slice p1 8 c1) 8 (be (UInt64.ofInt e.txn) 8)] g recs m e.slot j hs b hb 8 8 rfl p1 8 c1 (be (UInt64.ofInt e.txn) 8) (RdV.rB (length_be _ _) hp1) (length_be _ _) (by omega) (by omega)) Tryz.func165 rfl rfl rfl ?_)
 rintro _ _ ⟨rfl, rfl⟩
 try simp only [cA, nA]
 refine Rd0 (by rfl) ?_
 simp only [dS, dZ, dN]
 refine La rfl rfl (Ld (T.ret ?_))
 exact ⟨.inl rfl, _, _, res [_] rfl ⟨rvT rfl, trivial⟩, ⟨rfl, rfl⟩, Sa⟩
open Go.RowKit
structure HpQ where
 gm : Nat
 gl : Nat
 gp : Nat
abbrev hpB (g : Nat) (q : HpQ) (pc : Option Addr) (nc cc : Nat) (last : Int) : Assn := blk g [.map (some q.gm), .slice pc nc cc, .int .i64 last, pV q.gl, pV q.gp] 37
abbrev wlS (b : Nat) (q : HpQ) (s : Pl) : Assn := wlA q.gl b s.W
abbrev plS (b n logs count : Nat) (q : HpQ) (s : Pl) : Assn := plA q.gp b n logs count s.hand q.gl s.A
def rcSet (rc : Nat → List (List UInt8)) (bb : Bool) (p : Nat) (r : List (List UInt8)) : Nat → List (List UInt8) := if bb = true then fun x => if x = p then r else rc x else rc
theorem Hp.with (B : Base) (g b n logs count K : Nat) (q : HpQ) (pc : Option Addr) (nc cc : Nat) (last : Int) (s : Pl) (es : List En) (rc : Nat → List (List UInt8)) (hs : SInv logs count n K s es rc) (hK : K < 2 ^ 30) (p : Nat) (hp : p < count) (pi : Int) (hpi : pi = p) (mark : Nat) (mi : Int) (hmi : mi = mark) (hm : mark < 2 ^ 40)
  (gc : FuncId) (fn : Func) (caps : List Value) (X : List Assn) (R : Bool → List (List UInt8) → List Assn → Prop) (hf : Tryz.prog.funcs[gc]? = some fn) (hn : (fn.name == "runtime.NumGoroutine") = false) (hb : fn.body.isNone = false)
  (hdo : ∀ gpg m, Fn Tryz.prog B gc ([pV gpg] ++ caps).toArray (pgA gpg (rc p) m :: hpB g q pc nc cc last :: X) (fun v l => ∃ bb r' X', R bb r' X' ∧ v = .bool bb ∧ l = pgA gpg r' m :: hpB g q pc nc cc last :: X'))
  (hR : ∀ r' X', R true r' X' → PgOk r' ∧ r'.length < 256) :
  Fn Tryz.prog B 59 #[pV g, .int .i64 pi, .int .i64 mi, .func (.func gc) #[] caps.toArray] (hpB g q pc nc cc last :: wlS b q s :: plS b n logs count q s :: dskA b s.D :: X)
   (fun u l => ∃ bb r' X' s', R bb r' X' ∧ SInv logs count n (K + 1) s' es (rcSet rc bb p r') ∧ u = .tuple #[] ∧ l = hpB g q pc nc cc last :: wlS b q s' :: plS b n logs count q s' :: dskA b s'.D :: X') := by
 subst hpi; subst hmi
 obtain ⟨s1, i, x, m, hP⟩ := hs.round (by omega) hp
 have hF := hs.inv.F
 have hn2 := hF.n2
 have hlen := hF.len
 have hpins : ∀ x ∈ s.A, x.pins < 2 ^ 62 := fun x hx => by have := hs.inv.pins x hx; omega
 have hF1 := hP.inv.F
 have hlen1 := hF1.len
 have hpins1 : ∀ x ∈ s1.A, x.pins < 2 ^ 62 := fun x hx => by have := hP.inv.pins x hx; omega
 have hpe := hs.inv.pend
 have hx256 := hP.bl
 obtain ⟨A, hand, W, D⟩ := s
 dsimp only [wlS, plS] at hF hlen hpins hpe ⊢
 refine Fn.enter4 53 Tryz.func59 rfl rfl (nB rfl) (fun F => ?_)
 try simp only [cA, nA]
 refine TS (Lm rfl rfl (Lq rfl (Qn rfl) (Lq rfl (Qf (off := 4) (by kernel_rfl) rfl) (Lq rfl (Ql (by kernel_rfl) rfl rfl) (Lm rfl rfl ?_)))))
 refine Le rfl (Ec (Bp.pin B q.gp b n logs count hand q.gl A W D p hF hpins hs.inv.hand (hs.inv.w (by omega)) hs.inv.ok (by omega) hs.inv.sec) Tryz.func96 rfl rfl rfl ?_)
 rintro _ _ ⟨rfl, rfl⟩
 try simp only [cA, nA]
 rw [hP.pin]
 refine Ld (TS (Lm rfl rfl (Lq rfl (Qn rfl) (Lq rfl (Qf (off := 4) (by kernel_rfl) rfl) (Lq rfl (Ql (by kernel_rfl) rfl rfl) (Lm rfl rfl ?_))))))
 refine Le rfl (Ec (Bp.bytes B q.gp b n logs count s1.hand q.gl s1.A p hlen1 hn2 i x hP.pnd 256 hP.bl (by omega)) Tryz.func114 rfl rfl rfl ?_)
 rintro _ _ ⟨p5, c5, rfl, hp5, rfl⟩
 try simp only [cA, nA]
 refine Lm rfl rfl (Lq rfl (Qx rfl rfl) (Lq rfl (Qx rfl rfl) (La rfl rfl (La rfl rfl (Ld (TS ?_))))))
 refine Lm rfl rfl (LW.own fun w ho => ?_)
 have hcap := ho.cap_at (p := p5) (m := 256) (c := c5)
 clear ho
 refine Le rfl (Ec (Pg.open_ok hP.opn (Pg.open B [rB (.slice p5 256 c5) 256 x.b] p5 256 c5 x.b (RdV.rB hP.bl hp5) hP.bl hcap (by omega))) Tryz.func115 rfl rfl rfl ?_)
 rintro _ _ ⟨gpg, rfl, rfl⟩
 try simp only [cA, nA]
 refine Lm rfl rfl (Lq rfl (Qx rfl rfl) (Lq rfl (Qx rfl rfl) (La rfl rfl (La rfl rfl (Ld (Ts (Ts ?_)))))))
 refine TR (Lm rfl rfl (Lm rfl rfl ?_))
 refine Le rfl (ZE [pV gpg] caps (hdo gpg m) hf hn hb rfl rfl rfl ?_)
 rintro _ _ ⟨bb, r', X', hRR, rfl, rfl⟩
 simp only [List.cons_append, List.nil_append]
 refine Ld ?_
 refine Y9 rfl (fun hbb => ?_) (fun hbb => ?_)
 ·
  subst hbb
  obtain ⟨hr1, hr2⟩ := hR r' X' hRR
  obtain ⟨A2, A3, hput, hinv2, hun, hS⟩ := hP.put r' mark hr1 hr2 hm
  have hl2 := hinv2.F.len
  have hpins2 : ∀ x ∈ A2, x.pins < 2 ^ 62 := fun x hx => by have := hinv2.pins x hx; omega
  have hpl := length_pgBytes (recs := r') (mark := mark) hr1.used
  refine TS (Lm rfl rfl (Lm rfl rfl ?_))
  refine Le rfl (Ec (Pg.setMark B gpg r' m mark) Tryz.func116 rfl rfl rfl ?_)
  rintro _ _ ⟨rfl, rfl⟩
  try simp only [cA, nA]
  refine Ld (T.draw 9 ([hpB g q pc nc cc last]) (by kernel_rfl) (nB rfl) (by kernel_rfl) (Rq 0 rfl rfl (by kernel_rfl) Sa (Qm rfl) (Rq 1 rfl rfl (by kernel_rfl) Sa (Qn rfl) (Rq 2 rfl rfl (by kernel_rfl) Sa (Qf (off := 4) (by kernel_rfl) rfl) (Rq 3 rfl rfl (by kernel_rfl) Sa (Ql (by kernel_rfl) rfl rfl) (Rq 4 rfl rfl (by kernel_rfl) Sa (Qm rfl) (Rq 5 rfl rfl (by kernel_rfl) Sa (Qm rfl) ?_)))))))
  refine Rq 7 rfl rfl (by kernel_rfl) Sa (Qm rfl) (yK 6 (by kernel_rfl) ?_)
  refine z6 rfl rfl (Ec (Fn.own (Pg.bytes B gpg r' mark)) Tryz.func99 rfl rfl rfl ?_)
  rintro _ _ ⟨⟨p6, c6, rfl, rfl⟩, w6, F6, ho6⟩
  try simp only [cA, nA]
  simp only [List.cons_append, List.nil_append] at ho6
  have hp6 : 0 < 256 → ∃ g, p6 = some ⟨g, 0, none⟩ := (ho6.slice_at (p := p6) (m := 256) (c := c6)).2.1
  clear ho6
  refine ⟨Sa, ?_⟩
  refine yK 8 (by kernel_rfl) ?_
  refine zY rfl rfl (by kernel_rfl) (Ec (Bp.put B [rB (.slice p6 256 c6) 256 (pgBytes r' mark)] q.gp b n logs count s1.hand q.gl s1.A p hlen1 hn2 i x hP.pnd p6 c6 (pgBytes r' mark) mark hpl (RdV.rB hpl hp6)) Tryz.func97 rfl rfl rfl ?_)
  rintro _ _ ⟨rfl, rfl⟩
  try simp only [cA, nA]
  rw [hput]
  refine Rd0 (by rfl) ?_
  simp only [dS, dZ, dN]
  refine Ld (TR (Lm rfl rfl (Lq rfl (Qn rfl) (Lq rfl (Qf (off := 4) (by kernel_rfl) rfl) (Lq rfl (Ql (by kernel_rfl) rfl rfl) (Lm rfl rfl ?_))))))
  refine Le rfl (Ec (Bp.unpin B q.gp b n logs count s1.hand q.gl A2 p hl2 hn2 hpins2) Tryz.func100 rfl rfl rfl ?_)
  rintro _ _ ⟨rfl, rfl⟩
  try simp only [cA, nA]
  rw [hun]
  refine Ld ?_
  exact ⟨.inr rfl, _, _, res [] rfl trivial, ⟨true, r', X', { s1 with A := A3 }, hRR, hS, rfl, rfl⟩, Sa⟩
 subst hbb
 obtain ⟨A3, hun, hS⟩ := hP.keep
 refine Tk (TR (Lm rfl rfl (Lq rfl (Qn rfl) (Lq rfl (Qf (off := 4) (by kernel_rfl) rfl) (Lq rfl (Ql (by kernel_rfl) rfl rfl) (Lm rfl rfl ?_))))))
 refine Le rfl (Ec (Bp.unpin B q.gp b n logs count s1.hand q.gl s1.A p hlen1 hn2 hpins1) Tryz.func100 rfl rfl rfl ?_)
 rintro _ _ ⟨rfl, rfl⟩
 try simp only [cA, nA]
 rw [hun]
 refine Ld ?_
 exact ⟨.inr rfl, _, _, res [] rfl trivial, ⟨false, r', X', { s1 with A := A3 }, hRR, hS, rfl, rfl⟩, Sa⟩
open Go.RowKit
theorem Hp.redo1 (B : Base) (S : List Assn) (A : Assn) (g gpg g3 g4 g6 : Nat) (recs recs' : List (List UInt8)) (m : Int) (e : En) (p : Option Addr) (c : Nat)
  (hap : Fn Tryz.prog B 142 #[pV g, pV gpg, enV e p c] (pgA gpg recs m :: S) (fun u l => u = .int .i64 0 ∧ l = pgA gpg recs' m :: S)) :
  Fn Tryz.prog B 141 #[pV gpg, pV g3, pV g4, pV g6] (pgA gpg recs m :: A :: blk g3 [pV g] 25 :: enB g4 e p c :: blk g6 [.int .i64 0] 26 :: S) (fun v l => v = .bool true ∧ l = pgA gpg recs' m :: A :: blk g3 [pV g] 25 :: enB g4 e p c :: blk g6 [.int .i64 0] 26 :: S) := by
 refine Fn.enter4 12 Tryz.func141 rfl rfl (nB rfl) (fun F => ?_)
 try simp only [cA, nA]
 refine TS (La rfl rfl (Ld (TS (Lq rfl (Ql (by kernel_rfl) rfl rfl) (Lm rfl rfl ?_)))))
 refine Lq rfl (QL [_, _, _, _, _, _] (by kernel_rfl) rfl ⟨rfl, rfl, rfl, rfl, rfl, rfl, trivial⟩) ?_
 refine Le rfl (Ec (hap) Tryz.func142 rfl rfl rfl ?_)
 rintro _ _ ⟨rfl, rfl⟩
 try simp only [cA, nA]
 refine L0 rfl (E1 (by kernel_rfl) rfl rfl rfl (by first | (simp; done) | (simp; omega)) ?_)
 try simp only [List.set_cons_zero, List.set_cons_succ]
 refine Ld (TS (Lq rfl (Ql (by kernel_rfl) rfl rfl) (Lq rfl (yU rfl rfl) (La rfl rfl (Ld (T.ret ?_))))))
 exact ⟨.inl rfl, _, _, res [_] rfl ⟨rvT rfl, trivial⟩, ⟨rfl, rfl⟩, Sa⟩
theorem Hp.redoC (B : Base) (g : Nat) (mark : Int) (e : En) (p : Option Addr) (c : Nat) (hk : e.kind = 3) : Fn Tryz.prog B 102 #[pV g, enV e p c, .int .i64 mark] [] (fun u l => u = .int .i64 0 ∧ l = []) := by
 refine Fn.enter3 27 Tryz.func102 rfl rfl (nB rfl) (fun F => ?_)
 try simp only [cA, nA]
 refine TS ?_
 refine Le rfl (zL [_] rfl rfl ?_)
 intro g3
 refine Le rfl (zL [_, _, _, _, _, _] rfl rfl ?_)
 intro g4
 refine Le rfl (El [.int .i64 0] (by unfold zeroB; kernel_rfl) ?_)
 intro g6
 refine Ld (Ts (TS (Lq rfl (Q0 (by kernel_rfl) rfl) (Lq rfl (Ql (by kernel_rfl) rfl rfl) (Lq rfl (yU rfl rfl) (Ld ?_))))))
 refine zM rfl (by omega) (TS ?_)
 refine L0 rfl (E1 (by kernel_rfl) rfl rfl rfl (by first | (simp; done) | (simp; omega)) ?_)
 try simp only [List.set_cons_zero, List.set_cons_succ]
 refine Ld (T.ret ?_)
 exact ⟨.inl rfl, _, _, res [_] rfl ⟨rvC (by kernel_rfl) rfl rfl, trivial⟩, ⟨rfl, rfl⟩, Sa⟩
theorem Hp.redoP (B : Base) (S : List Assn) (g b n logs count K : Nat) (q : HpQ) (pc : Option Addr) (nc cc : Nat) (last : Int) (s : Pl) (es : List En) (rc : Nat → List (List UInt8)) (hs : SInv logs count n K s es rc) (hK : K < 2 ^ 30) (mark : Nat) (hm : mark < 2 ^ 40) (e : En) (p : Option Addr) (c : Nat) (hk : e.kind ≠ 3) (j : Nat) (hj : e.page = j) (hjc : j < count) (recs' : List (List UInt8)) (hr1 : PgOk recs') (hr2 : recs'.length < 256)
  (hap : ∀ gpg m, Fn Tryz.prog B 142 #[pV g, pV gpg, enV e p c] (pgA gpg (rc j) m :: S) (fun u l => u = .int .i64 0 ∧ l = pgA gpg recs' m :: S)) :
  Fn Tryz.prog B 102 #[pV g, enV e p c, .int .i64 mark] (hpB g q pc nc cc last :: wlS b q s :: plS b n logs count q s :: dskA b s.D :: S)
   (fun u l => ∃ s', SInv logs count n (K + 1) s' es (rcSet rc true j recs') ∧ u = .int .i64 0 ∧ l = hpB g q pc nc cc last :: wlS b q s' :: plS b n logs count q s' :: dskA b s'.D :: S) := by
 refine Fn.enter3 27 Tryz.func102 rfl rfl (nB rfl) (fun F => ?_)
 try simp only [cA, nA]
 refine TS ?_
 refine Le rfl (zL [_] rfl rfl ?_)
 intro g3
 refine Le rfl (zL [_, _, _, _, _, _] rfl rfl ?_)
 intro g4
 refine Le rfl (El [.int .i64 0] (by unfold zeroB; kernel_rfl) ?_)
 intro g6
 refine Ld (Ts (TS (Lq rfl (Q0 (by kernel_rfl) rfl) (Lq rfl (Ql (by kernel_rfl) rfl rfl) (Lq rfl (yU rfl rfl) (Ld ?_))))))
 refine yL rfl (by omega) (Tk (Ts (Ts (T.draw 10 ([hpB g q pc nc cc last, enB g4 e p c, blk g3 [pV g] 25]) (by kernel_rfl) (nB rfl) (by kernel_rfl) (Rq 0 rfl rfl (by kernel_rfl) Sa (Qf (off := 2) (by kernel_rfl) rfl) (Rq 1 rfl rfl (by kernel_rfl) Sa (Ql (by kernel_rfl) rfl rfl) (Rq 2 rfl rfl (by kernel_rfl) Sa (Ql (by kernel_rfl) rfl rfl) ?_)))))))
 refine Rq 3 rfl rfl (by kernel_rfl) Sa (Qn rfl) (Rq 4 rfl rfl (by kernel_rfl) Sa (Qf (off := 4) (by kernel_rfl) rfl) (Rq 5 rfl rfl (by kernel_rfl) Sa (Ql (by kernel_rfl) rfl rfl) (Rq 6 rfl rfl (by kernel_rfl) Sa (Qn rfl) (Rq 7 rfl rfl (by kernel_rfl) Sa (Q0 (by kernel_rfl) rfl) (yK 8 (by kernel_rfl) ?_)))))
 refine z6 rfl rfl (Ec (Bp.pages B q.gp b n logs count s.hand q.gl s.A) Tryz.func58 rfl rfl rfl ?_)
 rintro _ _ ⟨rfl, rfl⟩
 try simp only [cA, nA]
 refine ⟨Sa, ?_⟩
 refine Rq 9 rfl rfl (by kernel_rfl) Sa (zX rfl rfl) (Rd0 (by rfl) ?_)
 simp only [dS, dZ, dN]
 refine Ld (yL rfl (by omega) (Tk (TS (Lq rfl (Ql (by kernel_rfl) rfl rfl) (Lq rfl (Qf (off := 2) (by kernel_rfl) rfl) (Lq rfl (Ql (by kernel_rfl) rfl rfl) ?_))))))
 refine Lm rfl rfl (Lq rfl (Y4 [_, _, _] rfl) ?_)
 refine Le rfl (Ec (Hp.with B g b n logs count K q pc nc cc last s es rc hs hK j hjc e.page hj mark mark rfl hm 141 Tryz.f141 [pV g3, pV g4, pV g6] (blk g3 [pV g] 25 :: enB g4 e p c :: blk g6 [.int .i64 0] 26 :: S) (fun bb r' X' => bb = true ∧ r' = recs' ∧ X' = blk g3 [pV g] 25 :: enB g4 e p c :: blk g6 [.int .i64 0] 26 :: S) Tryz.func141 rfl rfl (fun gpg m => (Hp.redo1 B S (hpB g q pc nc cc last) g gpg g3 g4 g6 (rc j) recs' m e p c (hap gpg m)).mono (fun v l ⟨h1, h2⟩ => ⟨true, recs', _, ⟨rfl, rfl, rfl⟩, h1, h2⟩)) (fun r' X' h => by obtain ⟨_, rfl, _⟩ := h; exact ⟨hr1, hr2⟩)) Tryz.func59 rfl rfl rfl ?_)
 rintro _ _ ⟨bb, r', X', s', ⟨rfl, rfl, rfl⟩, hS, rfl, rfl⟩
 try simp only [cA, nA]
 refine Ld (TS (Lq rfl (Ql (by kernel_rfl) rfl rfl) ?_))
 refine L0 rfl (E1 (by kernel_rfl) rfl rfl rfl (by first | (simp; done) | (simp; omega)) ?_)
 try simp only [List.set_cons_zero, List.set_cons_succ]
 refine Ld (T.ret ?_)
 exact ⟨.inl rfl, _, _, res [_] rfl ⟨rvC (by kernel_rfl) rfl rfl, trivial⟩, ⟨s', hS, rfl, rfl⟩, Sa⟩
open Go.RowKit
theorem LogI.room {logs : Nat} {W : Wl} {D : DD} {es : List En} (h : LogI logs W D es) (hw : W.st.length ≤ W.count * 256) (e : En) (he : EnOk e) (hf : logs * 256 < W.st.length + enSz e) : addW W (encE e) = (W, 0, 3) := by
 obtain ⟨l1, l2, l3⟩ := h.first
 have hd := encE_ok he
 unfold enSz at hf
 unfold addW
 rw [if_neg hd.1, if_neg (by have := hd.2; omega), if_pos (by rw [l2]; omega)]
theorem Hp.writeFull (B : Base) (S : List Assn) (g b logs count n K : Nat) (q : HpQ) (pc : Option Addr) (nc cc : Nat) (last : Int) (s : Pl) (es : List En) (rc : Nat → List (List UInt8)) (hs : SInv logs count n K s es rc) (e : En) (p : Option Addr) (c : Nat) (he : EnOk e) (hv : RdV B S (.slice p e.data.length c) (bytesV e.data)) (hf : logs * 256 < s.W.st.length + enSz e) :
  Fn Tryz.prog B 63 #[pV g, enV e p c] (hpB g q pc nc cc last :: wlS b q s :: S) (fun u l => u = .int .i64 3 ∧ l = hpB g q pc nc cc last :: wlS b q s :: S) := by
 have hwst := hs.inv.wst
 obtain ⟨l1, l2, l3⟩ := hs.log.first
 have hlen := hs.len
 have hmax := hs.inv.ok.max
 have hel : (encE e).length ≤ 2 ^ 40 := by have := (encE_ok he).2; omega
 have hadd := hs.log.room hwst e he hf
 refine Fn.enter2 33 Tryz.func63 rfl rfl (nB rfl) (fun F => ?_)
 try simp only [cA, nA]
 refine TS ?_
 refine Le rfl (zL [_, _, _, _, _, _] rfl rfl ?_)
 intro g3
 refine La rfl rfl (Ld (TS (Lq rfl (QL [_, _, _, _, _, _] (by kernel_rfl) rfl ⟨rfl, rfl, rfl, rfl, rfl, rfl, trivial⟩) ?_)))
 refine Le rfl (Ec (Tl.encode B S e p c he hv) Tryz.func117 rfl rfl rfl ?_)
 rintro _ _ ⟨p1, c1, rfl, hp1, rfl⟩
 try simp only [cA, nA]
 refine Lm rfl rfl (Lq rfl (Qx rfl rfl) (Lq rfl (Qx rfl rfl) (La rfl rfl (La rfl rfl (Ld (Ts (Ts ?_)))))))
 refine TR (Lm rfl rfl (Lq rfl (yW rfl rfl) (Ld (yQ rfl (Tk (TS ?_))))))
 refine Lm rfl rfl (Lq rfl (Qn rfl) (Lq rfl (Qf (off := 3) (by kernel_rfl) rfl) (Lq rfl (Ql (by kernel_rfl) rfl rfl) (Lm rfl rfl ?_))))
 refine Le rfl (zK [_] (e := 22) (sz := 1) (by kernel_rfl) ⟨.slice none 0 0, by kernel_rfl, rfl⟩ rfl rfl rfl (by omega) (by omega) ?_)
 intro g22
 refine Le rfl (Ec (Wl.add B [blk g22 [.slice p1 (encE e).length c1] 22, rB (.slice p1 (encE e).length c1) (encE e).length (encE e)] q.gl b s.W (some ⟨g22, 0, none⟩) 1 [encE e] 1 rfl (PartsV.one ((RdV.rB rfl hp1).mono (fun w ho => ho.map Sa))) (by simp) (by simp) (encE e) (by simp) hel (by omega) hwst) Tryz.func118 rfl rfl rfl ?_)
 rintro _ _ ⟨rfl, rfl⟩
 try simp only [cA, nA]
 rw [hadd]
 refine Lm rfl rfl (Lq rfl (Qx rfl rfl) (Lq rfl (Qx rfl rfl) (La rfl rfl (La rfl rfl (Ld (Ts (Ts ?_)))))))
 refine TR (Lm rfl rfl (Lq rfl (yW rfl rfl) (Ld (zF rfl (TS (Lm rfl rfl ?_))))))
 refine La rfl rfl (Ld (T.ret ?_))
 exact ⟨.inl rfl, _, _, res [_] rfl ⟨rvT rfl, trivial⟩, ⟨rfl, rfl⟩, Sa⟩
theorem Hp.writeP (B : Base) (S : List Assn) (g b logs count n K : Nat) (q : HpQ) (pc : Option Addr) (nc cc : Nat) (last : Int) (s : Pl) (es : List En) (rc : Nat → List (List UInt8)) (hs : SInv logs count n K s es rc) (hK : K < 2 ^ 30) (e : En) (p : Option Addr) (c : Nat) (he : EnOk e) (hv : RdV B S (.slice p e.data.length c) (bytesV e.data)) (hf : s.W.st.length + enSz e ≤ logs * 256) (hk : e.kind ≠ 3) (j : Nat) (hj : e.page = j) (hjc : j < count) (recs' : List (List UInt8)) (hr1 : PgOk recs') (hr2 : recs'.length < 256)
  (hap : ∀ (X : List Assn), RdV B X (.slice p e.data.length c) (bytesV e.data) → ∀ gpg m, Fn Tryz.prog B 142 #[pV g, pV gpg, enV e p c] (pgA gpg (rc j) m :: X) (fun u l => u = .int .i64 0 ∧ l = pgA gpg recs' m :: X)) :
  Fn Tryz.prog B 63 #[pV g, enV e p c] (hpB g q pc nc cc last :: wlS b q s :: plS b n logs count q s :: dskA b s.D :: S) (fun u l => ∃ s', SInv logs count n (K + 1) s' (es ++ [e]) (rcSet rc true j recs') ∧ u = .int .i64 0 ∧ l = hpB g q pc nc cc last :: wlS b q s' :: plS b n logs count q s' :: dskA b s'.D :: S) := by
 have hwst := hs.inv.wst
 obtain ⟨l1, l2, l3⟩ := hs.log.first
 have hlen := hs.len
 have hmax := hs.inv.ok.max
 have hel : (encE e).length ≤ 2 ^ 40 := by have := (encE_ok he).2; omega
 obtain ⟨hadd, hs2⟩ := hs.append he hk hf
 obtain ⟨W2, hW2⟩ : ∃ W2, mkW 0 logs ((es ++ [e]).map encE) s.W.dur = W2 := ⟨_, rfl⟩
 rw [hW2] at hadd hs2
 have hredo := Hp.redoP B S g b n logs count K q pc nc cc last _ (es ++ [e]) rc hs2 hK (s.W.st.length + enSz e) (by omega) e p c hk j hj hjc recs' hr1 hr2 (hap S hv)
 dsimp only [wlS, plS] at hredo ⊢
 refine Fn.enter2 33 Tryz.func63 rfl rfl (nB rfl) (fun F => ?_)
 try simp only [cA, nA]
 refine TS ?_
 refine Le rfl (zL [_, _, _, _, _, _] rfl rfl ?_)
 intro g3
 refine La rfl rfl (Ld (TS (Lq rfl (QL [_, _, _, _, _, _] (by kernel_rfl) rfl ⟨rfl, rfl, rfl, rfl, rfl, rfl, trivial⟩) ?_)))
 refine Le rfl (Ec (Tl.encode B S e p c he hv) Tryz.func117 rfl rfl rfl ?_)
 rintro _ _ ⟨p1, c1, rfl, hp1, rfl⟩
 try simp only [cA, nA]
 refine Lm rfl rfl (Lq rfl (Qx rfl rfl) (Lq rfl (Qx rfl rfl) (La rfl rfl (La rfl rfl (Ld (Ts (Ts ?_)))))))
 refine TR (Lm rfl rfl (Lq rfl (yW rfl rfl) (Ld (yQ rfl (Tk (TS ?_))))))
 refine Lm rfl rfl (Lq rfl (Qn rfl) (Lq rfl (Qf (off := 3) (by kernel_rfl) rfl) (Lq rfl (Ql (by kernel_rfl) rfl rfl) (Lm rfl rfl ?_))))
 refine Le rfl (zK [_] (e := 22) (sz := 1) (by kernel_rfl) ⟨.slice none 0 0, by kernel_rfl, rfl⟩ rfl rfl rfl (by omega) (by omega) ?_)
 intro g22
 refine Le rfl (Ec (Wl.add B [blk g22 [.slice p1 (encE e).length c1] 22, rB (.slice p1 (encE e).length c1) (encE e).length (encE e)] q.gl b s.W (some ⟨g22, 0, none⟩) 1 [encE e] 1 rfl (PartsV.one ((RdV.rB rfl hp1).mono (fun w ho => ho.map Sa))) (by simp) (by simp) (encE e) (by simp) hel (by omega) hwst) Tryz.func118 rfl rfl rfl ?_)
 rintro _ _ ⟨rfl, rfl⟩
 try simp only [cA, nA]
 rw [hadd]
 refine Lm rfl rfl (Lq rfl (Qx rfl rfl) (Lq rfl (Qx rfl rfl) (La rfl rfl (La rfl rfl (Ld (Ts (Ts ?_)))))))
 refine TR (Lm rfl rfl (Lq rfl (yW rfl rfl) (Ld (yQ rfl (Tk (TS ?_))))))
 refine Lm rfl rfl (Lq rfl (QL [_, _, _, _, _, _] (by kernel_rfl) rfl ⟨rfl, rfl, rfl, rfl, rfl, rfl, trivial⟩) (Lm rfl rfl ?_))
 refine Le rfl (Ec (hredo) Tryz.func102 rfl rfl rfl ?_)
 rintro _ _ ⟨s', hS, rfl, rfl⟩
 try simp only [cA, nA]
 refine La rfl rfl (Ld (T.ret ?_))
 exact ⟨.inl rfl, _, _, res [_] rfl ⟨rvT rfl, trivial⟩, ⟨s', hS, rfl, rfl⟩, Sa⟩
theorem Hp.writeC (B : Base) (g b logs count n K : Nat) (q : HpQ) (pc : Option Addr) (nc cc : Nat) (last : Int) (s : Pl) (es : List En) (rc : Nat → List (List UInt8)) (hs : SInv logs count n K s es rc) (e : En) (he : EnOk e) (hd : e.data = []) (hf : s.W.st.length + enSz e ≤ logs * 256) (hk : e.kind = 3) (W2 : Wl) (r : Int) (hadd : addW s.W (encE e) = (W2, r, 0)) :
  Fn Tryz.prog B 63 #[pV g, enV e none 0] [hpB g q pc nc cc last, wlS b q s] (fun u l => u = .int .i64 0 ∧ l = [hpB g q pc nc cc last, wlA q.gl b W2]) := by
 have hwst := hs.inv.wst
 obtain ⟨l1, l2, l3⟩ := hs.log.first
 have hlen := hs.len
 have hmax := hs.inv.ok.max
 have hel : (encE e).length ≤ 2 ^ 40 := by have := (encE_ok he).2; omega
 refine Fn.enter2 33 Tryz.func63 rfl rfl (nB rfl) (fun F => ?_)
 try simp only [cA, nA]
 refine TS ?_
 refine Le rfl (zL [_, _, _, _, _, _] rfl rfl ?_)
 intro g3
 refine La rfl rfl (Ld (TS (Lq rfl (QL [_, _, _, _, _, _] (by kernel_rfl) rfl ⟨rfl, rfl, rfl, rfl, rfl, rfl, trivial⟩) ?_)))
 refine Le rfl (Ec (Tl.encode B [] e none 0 he (by rw [hd]; exact RdV.nil _ 0)) Tryz.func117 rfl rfl rfl ?_)
 rintro _ _ ⟨p1, c1, rfl, hp1, rfl⟩
 try simp only [cA, nA]
 refine Lm rfl rfl (Lq rfl (Qx rfl rfl) (Lq rfl (Qx rfl rfl) (La rfl rfl (La rfl rfl (Ld (Ts (Ts ?_)))))))
 refine TR (Lm rfl rfl (Lq rfl (yW rfl rfl) (Ld (yQ rfl (Tk (TS ?_))))))
 refine Lm rfl rfl (Lq rfl (Qn rfl) (Lq rfl (Qf (off := 3) (by kernel_rfl) rfl) (Lq rfl (Ql (by kernel_rfl) rfl rfl) (Lm rfl rfl ?_))))
 refine Le rfl (zK [_] (e := 22) (sz := 1) (by kernel_rfl) ⟨.slice none 0 0, by kernel_rfl, rfl⟩ rfl rfl rfl (by omega) (by omega) ?_)
 intro g22
 refine Le rfl (Ec (Wl.add B [blk g22 [.slice p1 (encE e).length c1] 22, rB (.slice p1 (encE e).length c1) (encE e).length (encE e)] q.gl b s.W (some ⟨g22, 0, none⟩) 1 [encE e] 1 rfl (PartsV.one ((RdV.rB rfl hp1).mono (fun w ho => ho.map Sa))) (by simp) (by simp) (encE e) (by simp) hel (by omega) hwst) Tryz.func118 rfl rfl rfl ?_)
 rintro _ _ ⟨rfl, rfl⟩
 try simp only [cA, nA]
 rw [hadd]
 refine Lm rfl rfl (Lq rfl (Qx rfl rfl) (Lq rfl (Qx rfl rfl) (La rfl rfl (La rfl rfl (Ld (Ts (Ts ?_)))))))
 refine TR (Lm rfl rfl (Lq rfl (yW rfl rfl) (Ld (yQ rfl (Tk (TS ?_))))))
 refine Lm rfl rfl (Lq rfl (QL [_, _, _, _, _, _] (by kernel_rfl) rfl ⟨rfl, rfl, rfl, rfl, rfl, rfl, trivial⟩) (Lm rfl rfl ?_))
 refine Le rfl (Ec (Hp.redoC B g r e none 0 hk) Tryz.func102 rfl rfl rfl ?_)
 rintro _ _ ⟨rfl, rfl⟩
 try simp only [cA, nA]
 refine La rfl rfl (Ld (T.ret ?_))
 exact ⟨.inl rfl, _, _, res [_] rfl ⟨rvT rfl, trivial⟩, ⟨rfl, rfl⟩, Sa⟩
open Go.RowKit
abbrev zV (a : Int) : Value := .int .i64 a
abbrev stC (p : Int × Int) : List Value := [.int .i64 p.1, .int .i64 p.2]
abbrev cmR (pc : Option Addr) (n cc : Nat) (l : List (Int × Int)) : Assn := row (.slice pc n cc) 48 2 n (l.flatMap stC)
abbrev stA (q : HpQ) (st : List (Int × Int)) : Assn := mpA zV zV q.gm st
structure HpX where
 q : HpQ
 pc : Option Addr
 cc : Nat
 s : Pl
 st : List (Int × Int)
abbrev hpC (g b logs count n : Nat) (x : HpX) (h : HR) : List Assn := [hpB g x.q x.pc h.cm.length x.cc h.last, stA x.q x.st, cmR x.pc h.cm.length x.cc h.cm, wlS b x.q x.s, plS b n logs count x.q x.s, dskA b x.s.D]
def hpA (g b logs count n K : Nat) (h : HR) : Assn := exA fun x : HpX => sepL (pu (HInv logs count n K x.s x.st h) :: hpC g b logs count n x h)
theorem Own.openHp {B : Base} {w : World} {g b logs count n K : Nat} {h : HR} {l : List Assn} (H : Own B w (hpA g b logs count n K h :: l)) : ∃ x, HInv logs count n K x.s x.st h ∧ Own B w (hpC g b logs count n x h ++ l) := by
 obtain ⟨k, a, c, H0⟩ := H.has
 obtain ⟨x, H1⟩ := Has.open_ex H0
 have H2 := Has.open_sepL H1
 obtain ⟨hA, H3⟩ := Has.open_pu H2
 exact ⟨x, hA, H.os, H.tape, H.output, H.ro, k, a, c, H3⟩
theorem Fn.openHp {P : Program} {B : Base} {f : FuncId} {args : Array Value} {g b logs count n K : Nat} {h : HR} {S : List Assn} {R : Value → List Assn → Prop}
  (hh : ∀ x : HpX, HInv logs count n K x.s x.st h → (0 < h.cm.length → ∃ g, x.pc = some ⟨g, 0, none⟩) → Fn P B f args (hpC g b logs count n x h ++ S) R) : Fn P B f args (hpA g b logs count n K h :: S) R := ⟨fun w F ho => by
 obtain ⟨x, hi, ho'⟩ := Own.openHp (l := S ++ F) ho
 rw [← List.append_assoc] at ho'
 have ho2 := ho'
 simp only [List.cons_append, List.nil_append] at ho2
 exact (hh x hi (ho2.slice_at (p := x.pc) (m := h.cm.length) (c := x.cc)).2.1).run w F ho'⟩
theorem hp_close {g b logs count n K : Nat} (L : List Assn) (x : HpX) (h : HR) (hi : HInv logs count n K x.s x.st h) (e : L = hpC g b logs count n x h) {l r m : List Assn} [k : TakeL L l r] [t : SubC (hpA g b logs count n K h :: r) m] : Sub l m := fun p H => by
 refine t.sub p (Has.close_ex x ?_)
 refine Has.close_sepL (l := pu _ :: hpC g b logs count n x h) (Has.close_pu hi ?_)
 have := k.take p H
 rw [e] at this
 exact this
theorem Hp.okS : MapOk Tryz.prog 30 zV (zV 0) := MapOk.mk3 2 3 (.int .i64) Tryz.underlying30 Tryz.underlying2 (fun _ => rfl) (by kernel_rfl) i64_inj
theorem Hp.elemC : ElemOk Tryz.prog 31 48 2 16 := .mk' (.agg #[.int .i64 0, .int .i64 0]) Tryz.underlying31 (by kernel_rfl) rfl (by omega)
theorem one_stC {l : List (Int × Int)} : ∀ v ∈ l.flatMap stC, v.oneCell' = true := by
 intro v hv
 obtain ⟨x, _, h⟩ := List.mem_flatMap.1 hv
 simp at h
 rcases h with rfl | rfl <;> rfl
theorem HInv.begin {logs count n K : Nat} {s : Pl} {st : List (Int × Int)} {h : HR} (i : HInv logs count n K s st h) : HInv logs count n (K + 1) s (putL st (h.last + 1) 1) (beginR h) := ⟨i.s.mono (Nat.le_succ _), i.r.begin, i.st.begin, i.pages, i.room, by have := i.lastK; show h.last + 1 ≤ _; omega⟩
theorem HInv.without {logs count n K : Nat} {s : Pl} {st : List (Int × Int)} {h : HR} (i : HInv logs count n K s st h) {t : Int} (ht : isAct h t = true) : HInv logs count n K s (putL st t 0) (withoutR h t) := ⟨i.s, i.r.without t, i.st.without i.r ht, i.pages, i.room, i.lastK⟩
theorem Hp.begin (B : Base) (g b logs count n K : Nat) (h : HR) (hK : K < 2 ^ 30) : Fn Tryz.prog B 17 #[pV g] [hpA g b logs count n K h] (fun u l => u = .int .i64 (h.last + 1) ∧ l = [hpA g b logs count n (K + 1) (beginR h)]) := by
 refine Fn.openHp fun x hi hp => ?_
 simp only [hpC, List.append_nil]
 have h0 := hi.r.last0
 have h1 := hi.lastK
 refine Fn.enter1 22 Tryz.func17 rfl rfl (nB rfl) (fun F => ?_)
 try simp only [cA, nA]
 refine TS (La rfl rfl (Ld (TS (Lm rfl rfl (Lq rfl (Qn rfl) ?_)))))
 refine Lq rfl (Qf (off := 2) (by kernel_rfl) rfl) (Lq rfl (Ql (by kernel_rfl) rfl rfl) (Lq rfl (Qd rfl rfl (wr64 (by omega) (by omega))) (Lq rfl (Qn rfl) (Lq rfl (Qf (off := 2) (by kernel_rfl) rfl) ?_))))
 refine L0 rfl (E1 (by kernel_rfl) rfl rfl rfl (by first | (simp; done) | (simp; omega)) ?_)
 try simp only [List.set_cons_zero, List.set_cons_succ]
 refine Ld (Ts (T.draw 8 ([hpB g x.q x.pc h.cm.length x.cc (h.last + 1)]) (by kernel_rfl) (nB rfl) (by kernel_rfl) (Rq 0 rfl rfl (by kernel_rfl) Sa (Qm rfl) (Rq 1 rfl rfl (by kernel_rfl) Sa (Qn rfl) (Rq 2 rfl rfl (by kernel_rfl) Sa (Q0 (by kernel_rfl) rfl) (Rq 3 rfl rfl (by kernel_rfl) Sa (Ql (by kernel_rfl) rfl rfl) (Rq 4 rfl rfl (by kernel_rfl) Sa (Qm rfl) ?_)))))))
 refine Rq 5 rfl rfl (by kernel_rfl) Sa (Qn rfl) (Rq 6 rfl rfl (by kernel_rfl) Sa (Qf (off := 2) (by kernel_rfl) rfl) (Rq 7 rfl rfl (by kernel_rfl) Sa (Ql (by kernel_rfl) rfl rfl) (Rd0 (by rfl) ?_)))
 simp only [dS, dZ, dN]
 refine L0 rfl (Y0 Hp.okS rfl (h.last + 1) rfl 1 rfl ?_)
 refine Ld (TS (Lm rfl rfl (Lq rfl (Qn rfl) (Lq rfl (Qf (off := 2) (by kernel_rfl) rfl) (Lq rfl (Ql (by kernel_rfl) rfl rfl) (La rfl rfl ?_))))))
 refine Ld (T.ret ?_)
 exact ⟨.inl rfl, _, _, res [_] rfl ⟨rvT rfl, trivial⟩, ⟨rfl, rfl⟩, hp_close [hpB g x.q x.pc h.cm.length x.cc (h.last + 1), stA x.q (putL x.st (h.last + 1) 1), cmR x.pc h.cm.length x.cc h.cm, wlS b x.q x.s, plS b n logs count x.q x.s, dskA b x.s.D] { x with st := putL x.st (h.last + 1) 1 } (beginR h) hi.begin rfl⟩
theorem Hp.commits (B : Base) (g b logs count n K : Nat) (h : HR) (hl : h.cm.length < 2 ^ 32) : Fn Tryz.prog B 21 #[pV g] [hpA g b logs count n K h] (fun u l => ∃ p c, u = .slice p h.cm.length c ∧ l = [cmR p h.cm.length c h.cm, hpA g b logs count n K h]) := by
 refine Fn.openHp fun x hi hp => ?_
 simp only [hpC, List.append_nil]
 refine Fn.enter1 9 Tryz.func21 rfl rfl (nB rfl) (fun F => ?_)
 try simp only [cA, nA]
 refine TS (La rfl rfl (Ld (TS ?_)))
 refine Le rfl (Y8 Hp.elemC ?_)
 rintro g3
 refine Lm rfl rfl (Lq rfl (Qn rfl) (Lq rfl (Qf (off := 1) (by kernel_rfl) rfl) (Lq rfl (Ql (by kernel_rfl) rfl rfl) ?_)))
 refine Le rfl (Ea Hp.elemC rfl rfl (SrcOf.row (by kernel_rfl) one_stC) (by unfold maxLen; omega) (by omega) ?_)
 rintro p1 c1 hp1
 try simp only [cA, nA]
 simp only [Nat.zero_add, List.nil_append]
 refine La rfl rfl (Ld (T.ret ?_))
 exact ⟨.inl rfl, _, _, res [_] rfl ⟨rvT rfl, trivial⟩, ⟨p1, c1, rfl, rfl⟩, (fun k K2 => Has.cons_imp (hp_close (m := hpA g b logs count n K h :: F) [hpB g x.q x.pc h.cm.length x.cc h.last, stA x.q x.st, cmR x.pc h.cm.length x.cc h.cm, wlS b x.q x.s, plS b n logs count x.q x.s, dskA b x.s.D] x h hi rfl) K2)⟩
theorem Hp.abort (B : Base) (g b logs count n K : Nat) (h : HR) (t : Int) : Fn Tryz.prog B 23 #[pV g, .int .i64 t] [hpA g b logs count n K h] (fun u l => u = .int .i64 (abortR h t).2 ∧ l = [hpA g b logs count n K (abortR h t).1]) := by
  refine Fn.openHp fun x hi hp => ?_
  simp only [hpC, List.append_nil]
  have ha := hi.st.act t
  by_cases hc : isAct h t = true
  · have he : abortR h t = (withoutR h t, 0) := by unfold abortR; rw [if_pos hc]
    rw [he]
    refine Fn.enter2 17 Tryz.func23 rfl rfl (nB rfl) (fun F => ?_)
    try simp only [cA, nA]
    refine TS (La rfl rfl (Ld (Ts (TS (Lm rfl rfl ?_)))))
    refine Lq rfl (Qn rfl) (Lq rfl (Q0 (by kernel_rfl) rfl) (Lq rfl (Ql (by kernel_rfl) rfl rfl) (Lm rfl rfl (Lq rfl (zT Hp.okS rfl t rfl 0 rfl) (Lq rfl (yW rfl rfl) (Ld (yL rfl ((fun q => q (ha.2 hc))) ?_)))))))
    refine Tk (TS (Lm rfl rfl (Lq rfl (Qn rfl) (Lq rfl (Q0 (by kernel_rfl) rfl) (Lq rfl (Ql (by kernel_rfl) rfl rfl) (Lm rfl rfl ?_))))))
    refine L0 rfl (Y0 Hp.okS rfl t rfl 0 rfl ?_)
    refine Ld (TS (La rfl rfl (Ld (T.ret ?_))))
    exact ⟨.inl rfl, _, _, res [_] rfl ⟨rvT rfl, trivial⟩, ⟨rfl, rfl⟩, hp_close [hpB g x.q x.pc h.cm.length x.cc h.last, stA x.q (putL x.st t 0), cmR x.pc h.cm.length x.cc h.cm, wlS b x.q x.s, plS b n logs count x.q x.s, dskA b x.s.D] { x with st := putL x.st t 0 } (withoutR h t) (hi.without hc) rfl⟩
  · have he : abortR h t = (h, 70) := by unfold abortR; rw [if_neg hc]
    rw [he]
    refine Fn.enter2 17 Tryz.func23 rfl rfl (nB rfl) (fun F => ?_)
    try simp only [cA, nA]
    refine TS (La rfl rfl (Ld (Ts (TS (Lm rfl rfl ?_)))))
    refine Lq rfl (Qn rfl) (Lq rfl (Q0 (by kernel_rfl) rfl) (Lq rfl (Ql (by kernel_rfl) rfl rfl) (Lm rfl rfl (Lq rfl (zT Hp.okS rfl t rfl 0 rfl) (Lq rfl (yW rfl rfl) (Ld (zM rfl ((fun q => hc (ha.1 q))) ?_)))))))
    refine TS (La rfl rfl (Ld (T.ret ?_)))
    exact ⟨.inl rfl, _, _, res [_] rfl ⟨rvT rfl, trivial⟩, ⟨rfl, rfl⟩, hp_close [hpB g x.q x.pc h.cm.length x.cc h.last, stA x.q x.st, cmR x.pc h.cm.length x.cc h.cm, wlS b x.q x.s, plS b n logs count x.q x.s, dskA b x.s.D] x h hi rfl⟩
theorem Hp.flush (B : Base) (g b logs count n K : Nat) (h : HR) (hK : K < 2 ^ 30) : Fn Tryz.prog B 78 #[pV g] [hpA g b logs count n K h] (fun u l => u = .tuple #[] ∧ l = [hpA g b logs count n K h]) := by
 refine Fn.openHp fun x hi hp => ?_
 simp only [hpC, List.append_nil]
 have hf := hi.s.flush (by omega)
 refine Fn.enter1 7 Tryz.func78 rfl rfl (nB rfl) (fun F => ?_)
 try simp only [cA, nA]
 refine TR (Lm rfl rfl (Lq rfl (Qn rfl) (Lq rfl (Qf (off := 4) (by kernel_rfl) rfl) (Lq rfl (Ql (by kernel_rfl) rfl rfl) ?_))))
 refine Le rfl (Ec (Bp.flush B x.q.gp b n logs count x.s.hand x.q.gl x.s.A x.s.W x.s.D hi.s.inv.F hi.s.inv.dp (hi.s.inv.w (by omega)) hi.s.inv.ok hi.s.inv.sec) Tryz.func127 rfl rfl rfl ?_)
 rintro _ _ ⟨rfl, rfl⟩
 try simp only [cA, nA]
 refine Ld ?_
 exact ⟨.inr rfl, _, _, res [] rfl trivial, ⟨rfl, rfl⟩, hp_close [hpB g x.q x.pc h.cm.length x.cc h.last, stA x.q x.st, cmR x.pc h.cm.length x.cc h.cm, wlA x.q.gl b (forceP x.s.W x.s.D (dirtyMark x.s.A)).1, plA x.q.gp b n logs count x.s.hand x.q.gl (cleanA x.s.A), dskA b (writesP (forceP x.s.W x.s.D (dirtyMark x.s.A)).2 (dirtyL logs x.s.A)).sync] { x with s := flushP logs x.s } h ⟨hf, hi.r, hi.st, hi.pages, hi.room, hi.lastK⟩ rfl⟩
open Go.RowKit
theorem Sub.eqL {l L L' r F : List Assn} (e : L = L') [k : TakeL L l r] [t : Tail r F] : Sub l (L' ++ F) := fun p H => by
 subst e
 obtain ⟨h1, h2, d, a, b, e1, e2⟩ := Has.split (k.take p H)
 exact Has.join d a b e1 (t.tl _ e2)
theorem cm_at {l : List (Int × Int)} {j : Nat} {c : Int × Int} (h : l[j]? = some c) : (l.flatMap stC)[0 + j * 2 + 1]? = some (.int .i64 c.2) := by
 obtain ⟨hj, hc⟩ := List.getElem?_eq_some_iff.1 h
 have := flat_cell stC 2 l (fun _ _ => rfl) j 1 hj (v := .int .i64 c.2) (by rw [hc]; rfl)
 exact this
theorem HInv.commit {logs count n K : Nat} {s : Pl} {st : List (Int × Int)} {h : HR} (i : HInv logs count n K s st h) (hK : K < 2 ^ 31) {t stamp : Int} (ht : isAct h t = true) (hb : badStamp h stamp = false) (hf : h.used + 25 ≤ h.room) :
  EnOk (cmE t stamp) ∧ s.W.st.length + enSz (cmE t stamp) ≤ logs * 256 ∧ ∃ r, addW s.W (encE (cmE t stamp)) = (mkW 0 logs ((h.es ++ [cmE t stamp]).map encE) s.W.dur, r, 0) ∧ WOk (mkW 0 logs ((h.es ++ [cmE t stamp]).map encE) s.W.dur) s.D ∧
   HInv logs count n K { s with W := (mkW 0 logs ((h.es ++ [cmE t stamp]).map encE) s.W.dur).flushed, D := flushE (mkW 0 logs ((h.es ++ [cmE t stamp]).map encE) s.W.dur) s.D } (putL st t 2) (writeR (withoutR h t) (cmE t stamp)) := by
 have hu := i.used
 have hl : h.last < 2 ^ 62 := by have := i.lastK; omega
 have hok := i.r.cmStep hl ht hb hf
 have hsz : s.W.st.length + enSz (cmE t stamp) ≤ logs * 256 := by
  have hr := i.room
  rw [enSz_eq]; simp only [if_true]; omega
 obtain ⟨h1, h2, h3⟩ := i.s.commit hK hok.ok hsz
 have hrc : recsOf (writeR (withoutR h t) (cmE t stamp)).vs = recsOf h.vs := funext fun q => recs_commit (h := withoutR h t) rfl q
 refine ⟨hok.ok, hsz, _, h1, h2, ?_, (i.r.without t).write hok (i.r.act1 t (isAct_iff.1 ht)).2 (fun _ => by simp [withoutR]), i.st.commit i.r ht, i.pages, i.room, i.lastK⟩
 rw [hrc]
 exact h3
def cmDisk (logs : Nat) (h : HR) (s : Pl) (t stamp : Int) : DD := if (commitR h t stamp).2 = 0 then flushE (mkW 0 logs ((h.es ++ [cmE t stamp]).map encE) s.W.dur) s.D else s.D
theorem Hp.commitX (B : Base) (g b logs count n K : Nat) (h : HR) (hK : K < 2 ^ 30) (t stamp : Int) (x : HpX) (hi : HInv logs count n K x.s x.st h) (hp : 0 < h.cm.length → ∃ g, x.pc = some ⟨g, 0, none⟩) (hcl : h.cm.length < 2 ^ 32) :
    Fn Tryz.prog B 20 #[pV g, .int .i64 t, .int .i64 stamp] (hpC g b logs count n x h) (fun u l => ∃ x', HInv logs count n K x'.s x'.st (commitR h t stamp).1 ∧ x'.s.D = cmDisk logs h x.s t stamp ∧ u = .int .i64 (commitR h t stamp).2 ∧ l = hpC g b logs count n x' (commitR h t stamp).1) := by
  simp only [hpC]
  have ha := hi.st.act t
  by_cases hc : isAct h t = true
  · by_cases hb : badStamp h stamp = true
    · have he : commitR h t stamp = (h, 1) := by unfold commitR; rw [if_pos hc, if_pos hb]
      have hd : cmDisk logs h x.s t stamp = x.s.D := by unfold cmDisk; rw [he]; simp
      rw [he, hd]
      unfold badStamp at hb
      simp only [Bool.or_eq_true, decide_eq_true_eq] at hb
      refine Fn.enter3 82 Tryz.func20 rfl rfl (nB rfl) (fun F => ?_)
      try simp only [cA, nA]
      refine TS (La rfl rfl (Ld (TS (Lm rfl rfl (Lq rfl (Qn rfl) ?_)))))
      refine Lq rfl (Q0 (by kernel_rfl) rfl) (Lq rfl (Qf (off := 1) (by kernel_rfl) rfl) (Lq rfl (Ql (by kernel_rfl) rfl rfl) (Lq rfl (yI (e := 48) (sz := 2) (by kernel_rfl) rfl) (La rfl rfl (Ld (Ts (yH ?_)))))))
      refine TS (Lm rfl rfl (Lq rfl (Qn rfl) (Lq rfl (Q0 (by kernel_rfl) rfl) (Lq rfl (Q0 (by kernel_rfl) rfl) (Lq rfl (Ql (by kernel_rfl) rfl rfl) (Lm rfl rfl ?_))))))
      refine Lq rfl (zT Hp.okS rfl t rfl 0 rfl) (Lq rfl (yW rfl rfl) (La rfl rfl (Ld (yL rfl ((fun q => q (ha.2 hc))) ?_))))
      by_cases h1 : stamp < 0
      · skip
        refine TS (Lm rfl rfl (Lq rfl (yM rfl rfl) (Lm rfl rfl (zQ (t := 27) rfl (decide_eq_true (by omega)) (Ls rfl (Ls rfl ?_))))))
        refine Lq rfl (Qp rfl rfl) (Lm rfl rfl (zQ (t := 31) rfl rfl (Ls rfl (Ls rfl (Ls rfl (Ls rfl (Ls rfl ?_)))))))
        refine Ls rfl (Ls rfl (Ls rfl (Ls rfl (Ls rfl (Ls rfl (Ls rfl (Ls rfl ?_)))))))
        refine Ls rfl (Ls rfl (Ls rfl (Lq rfl (Qp rfl rfl) (La rfl rfl (Ld (zF rfl (Ts ?_)))))))
        refine TR (La rfl rfl (Ld (T.ret ?_)))
        exact ⟨.inl rfl, _, _, res [_] rfl ⟨rvT rfl, trivial⟩, ⟨x, hi, rfl, rfl, rfl⟩, Sa⟩
      refine TS (Lm rfl rfl (Lq rfl (yM rfl rfl) (Lm rfl rfl (yT (t := 27) rfl (decide_eq_false (by omega)) (Lm rfl rfl (Lq rfl (yZ rfl rfl) ?_))))))
      refine Lq rfl (Qp rfl rfl) (Lm rfl rfl ?_)
      by_cases h2 : 1099511627776 < stamp
      · skip
        refine zQ (t := 31) rfl (decide_eq_true (by omega)) (Ls rfl (Ls rfl (Ls rfl (Ls rfl (Ls rfl (Ls rfl (Ls rfl ?_)))))))
        refine Ls rfl (Ls rfl (Ls rfl (Ls rfl (Ls rfl (Ls rfl (Ls rfl (Ls rfl ?_)))))))
        refine Ls rfl (Lq rfl (Qp rfl rfl) (La rfl rfl (Ld (zF rfl (TS (La rfl rfl ?_))))))
        refine Ld (T.ret ?_)
        exact ⟨.inl rfl, _, _, res [_] rfl ⟨rvT rfl, trivial⟩, ⟨x, hi, rfl, rfl, rfl⟩, Sa⟩
      obtain ⟨c, hcl2, hcs⟩ : ∃ c, h.cm.getLast? = some c ∧ stamp ≤ c.2 := by
        cases hg : h.cm.getLast? with
        | none => rw [hg] at hb; simp at hb; omega
        | some c => rw [hg] at hb; simp at hb; exact ⟨c, rfl, by omega⟩
      have hne : 0 < h.cm.length := by cases hq : h.cm with | nil => rw [hq] at hcl2; cases hcl2 | cons a l => simp
      have hcat : h.cm[h.cm.length - 1]? = some c := by rw [← List.getLast?_eq_getElem?]; exact hcl2
      obtain ⟨gc, hgc⟩ := hp hne
      rw [hgc]
      refine yT (t := 31) rfl (decide_eq_false (by omega)) (Lm rfl rfl (Lq rfl (yZ rfl rfl) (Lm rfl rfl (zQ (t := 34) rfl (decide_eq_true (by omega)) (Lm rfl rfl (Lm rfl rfl (Lq rfl (Qn rfl) ?_)))))))
      refine Lq rfl (Q0 (by kernel_rfl) rfl) (Lq rfl (Qf (off := 1) (by kernel_rfl) rfl) (Lq rfl (Ql (by kernel_rfl) rfl rfl) (Lm rfl rfl (Lq rfl (Qt.sub rfl rfl (wr64 (by omega) (by omega))) (Lq rfl (Qi (h.cm.length - 1) (e := 48) (sz := 2) (by kernel_rfl) rfl rfl (by omega) (by omega)) (Lq rfl (Qf (off := 1) (by kernel_rfl) rfl) (Lq rfl (Ql (v := .int .i64 c.2) (by kernel_rfl) rfl (cm_at hcat)) ?_)))))))
      refine Lq rfl (YF rfl rfl) (Lq rfl (Qp rfl rfl) (Lq rfl (Qp rfl rfl) (La rfl rfl (Ld (zM rfl (by omega) (TS ?_))))))
      refine La rfl rfl (Ld (T.ret ?_))
      exact ⟨.inl rfl, _, _, res [_] rfl ⟨rvT rfl, trivial⟩, ⟨x, hi, rfl, rfl, by rw [hgc]⟩, Sa⟩
    · have hb : badStamp h stamp = false := by simpa using hb
      have hb2 := hb
      unfold badStamp at hb2
      simp only [Bool.or_eq_false_iff, decide_eq_false_iff_not] at hb2
      obtain ⟨⟨s1, s2⟩, s3⟩ := hb2
      have hu := hi.used
      have hr := hi.room
      have hlk : h.last < 2 ^ 62 := by have := hi.lastK; omega
      have hokE : EnOk (cmE t stamp) := ⟨by simp, by have := hi.r.act1 t (isAct_iff.1 hc); simp; omega, by simp [enPlace], by simp; omega, by simp, by simp, by simp, by simp⟩
      have hsz : enSz (cmE t stamp) = 25 := by rw [enSz_eq]; simp
      by_cases hf : (h.room : Int) < h.used + 25
      · have he : commitR h t stamp = (h, 3) := by unfold commitR; rw [if_pos hc, if_neg (by simp [hb]), if_pos hf]
        have hd : cmDisk logs h x.s t stamp = x.s.D := by unfold cmDisk; rw [he]; simp
        rw [he, hd]
        refine Fn.enter3 82 Tryz.func20 rfl rfl (nB rfl) (fun F => ?_)
        try simp only [cA, nA]
        refine TS (La rfl rfl (Ld (TS (Lm rfl rfl (Lq rfl (Qn rfl) ?_)))))
        refine Lq rfl (Q0 (by kernel_rfl) rfl) (Lq rfl (Qf (off := 1) (by kernel_rfl) rfl) (Lq rfl (Ql (by kernel_rfl) rfl rfl) (Lq rfl (yI (e := 48) (sz := 2) (by kernel_rfl) rfl) (La rfl rfl (Ld (Ts (yH ?_)))))))
        refine TS (Lm rfl rfl (Lq rfl (Qn rfl) (Lq rfl (Q0 (by kernel_rfl) rfl) (Lq rfl (Q0 (by kernel_rfl) rfl) (Lq rfl (Ql (by kernel_rfl) rfl rfl) (Lm rfl rfl ?_))))))
        refine Lq rfl (zT Hp.okS rfl t rfl 0 rfl) (Lq rfl (yW rfl rfl) (La rfl rfl (Ld (yL rfl ((fun q => q (ha.2 hc))) (TS (Lm rfl rfl ?_))))))
        refine Lq rfl (yM rfl rfl) (Lm rfl rfl (yT (t := 27) rfl (decide_eq_false (by omega)) (Lm rfl rfl (Lq rfl (yZ rfl rfl) (Lq rfl (Qp rfl rfl) (Lm rfl rfl (yT (t := 31) rfl (decide_eq_false (by omega)) ?_)))))))
        refine Lm rfl rfl (Lq rfl (yZ rfl rfl) (Lm rfl rfl ?_))
        by_cases hne : 0 < h.cm.length
        · skip
          obtain ⟨c, hcl2⟩ : ∃ c, h.cm.getLast? = some c := by
            cases hg : h.cm with
            | nil => rw [hg] at hne; simp at hne
            | cons a l => exact ⟨_, List.getLast?_eq_some_getLast (by simp)⟩
          have hcat : h.cm[h.cm.length - 1]? = some c := by rw [← List.getLast?_eq_getElem?]; exact hcl2
          have hcs : ¬ stamp ≤ c.2 := by rw [hcl2] at s3; simpa using s3
          obtain ⟨gc, hgc⟩ := hp hne
          rw [hgc]
          refine zQ (t := 34) rfl (decide_eq_true (by omega)) (Lm rfl rfl (Lm rfl rfl (Lq rfl (Qn rfl) (Lq rfl (Q0 (by kernel_rfl) rfl) (Lq rfl (Qf (off := 1) (by kernel_rfl) rfl) (Lq rfl (Ql (by kernel_rfl) rfl rfl) (Lm rfl rfl ?_)))))))
          refine Lq rfl (Qt.sub rfl rfl (wr64 (by omega) (by omega))) (Lq rfl (Qi (h.cm.length - 1) (e := 48) (sz := 2) (by kernel_rfl) rfl rfl (by omega) (by omega)) (Lq rfl (Qf (off := 1) (by kernel_rfl) rfl) (Lq rfl (Ql (v := .int .i64 c.2) (by kernel_rfl) rfl (cm_at hcat)) (Lq rfl (YF rfl rfl) (Lq rfl (Qp rfl rfl) (Lq rfl (Qp rfl rfl) (La rfl rfl ?_)))))))
          refine Ld (yL rfl (by omega) (Tk (Ts (TS (Lm rfl rfl (Lm rfl rfl ?_))))))
          refine Lm rfl rfl (Lq rfl (z8 [(0, 1), (1, 1), (2, 1), (3, 1), (4, 1), (5, 1)] [.int .i64 0, .int .i64 0, .int .i64 0, .int .i64 0, .int .i64 0, .slice none 0 0] [_, _, _, _, _, _] [(0, _), (1, _), (4, _)] (by kernel_rfl) (by unfold zeroB; kernel_rfl) rfl rfl) ?_)
          refine Le rfl (Ec (Hp.writeFull B [] g b logs count n K x.q (some ⟨gc, 0, none⟩) h.cm.length x.cc h.last x.s h.es (recsOf h.vs) hi.s (cmE t stamp) none 0 hokE (RdV.nil _ 0) (by omega)) Tryz.func63 rfl rfl rfl ?_)
          rintro _ _ ⟨rfl, rfl⟩
          try simp only [cA, nA]
          refine La rfl rfl (Ld (TS (Lm rfl rfl (Lq rfl (yW rfl rfl) (Ld (zF rfl ?_))))))
          refine TS (Lm rfl rfl (La rfl rfl (Ld (T.ret ?_))))
          exact ⟨.inl rfl, _, _, res [_] rfl ⟨rvT rfl, trivial⟩, ⟨x, hi, rfl, rfl, by rw [hgc]⟩, Sa⟩
        refine yT (t := 34) rfl (decide_eq_false (by omega)) (Ls rfl (Ls rfl (Ls rfl (Ls rfl (Ls rfl (Ls rfl (Ls rfl ?_)))))))
        refine Ls rfl (Ls rfl (Ls rfl (Ls rfl (Ls rfl (Lq rfl (Qp rfl rfl) (Lq rfl (Qp rfl rfl) (La rfl rfl ?_)))))))
        refine Ld (yQ rfl (Tk (Ts (TS (Lm rfl rfl (Lm rfl rfl ?_))))))
        refine Lm rfl rfl (Lq rfl (z8 [(0, 1), (1, 1), (2, 1), (3, 1), (4, 1), (5, 1)] [.int .i64 0, .int .i64 0, .int .i64 0, .int .i64 0, .int .i64 0, .slice none 0 0] [_, _, _, _, _, _] [(0, _), (1, _), (4, _)] (by kernel_rfl) (by unfold zeroB; kernel_rfl) rfl rfl) ?_)
        refine Le rfl (Ec (Hp.writeFull B [] g b logs count n K x.q x.pc h.cm.length x.cc h.last x.s h.es (recsOf h.vs) hi.s (cmE t stamp) none 0 hokE (RdV.nil _ 0) (by omega)) Tryz.func63 rfl rfl rfl ?_)
        rintro _ _ ⟨rfl, rfl⟩
        try simp only [cA, nA]
        refine La rfl rfl (Ld (TS (Lm rfl rfl (Lq rfl (yW rfl rfl) (Ld (zF rfl ?_))))))
        refine TS (Lm rfl rfl (La rfl rfl (Ld (T.ret ?_))))
        exact ⟨.inl rfl, _, _, res [_] rfl ⟨rvT rfl, trivial⟩, ⟨x, hi, rfl, rfl, rfl⟩, Sa⟩
      · have he : commitR h t stamp = (writeR (withoutR h t) (cmE t stamp), 0) := by unfold commitR; rw [if_pos hc, if_neg (by simp [hb]), if_neg hf]
        have hd : cmDisk logs h x.s t stamp = flushE (mkW 0 logs ((h.es ++ [cmE t stamp]).map encE) x.s.W.dur) x.s.D := by unfold cmDisk; rw [he]; simp
        rw [he, hd]
        obtain ⟨e1, e2, r, hadd, hw2, hi2⟩ := hi.commit (by omega) hc hb (by omega)
        obtain ⟨W2, hW2⟩ : ∃ W2, mkW 0 logs ((h.es ++ [cmE t stamp]).map encE) x.s.W.dur = W2 := ⟨_, rfl⟩
        rw [hW2] at hadd hw2 hi2
        rw [hW2]
        have hcm : (writeR (withoutR h t) (cmE t stamp)).cm = h.cm ++ [(t, stamp)] := by simp [writeR, withoutR]
        have hcml : (writeR (withoutR h t) (cmE t stamp)).cm.length = h.cm.length + 1 := by rw [hcm]; simp
        have hlst : (writeR (withoutR h t) (cmE t stamp)).last = h.last := rfl
        generalize writeR (withoutR h t) (cmE t stamp) = h' at hi2 hcm hcml hlst ⊢
        have hcl3 : ∀ (p : Option Addr) (c : Nat), [hpB g x.q p (h.cm.length + 1) c h.last, stA x.q (putL x.st t 2), row (.slice p (h.cm.length + 1) c) 48 2 (h.cm.length + 1) (h.cm.flatMap stC ++ [.int .i64 t, .int .i64 stamp]), wlA x.q.gl b W2.flushed, plS b n logs count x.q x.s, dskA b (flushE W2 x.s.D)] = hpC g b logs count n ⟨x.q, p, c, { x.s with W := W2.flushed, D := flushE W2 x.s.D }, putL x.st t 2⟩ h' := fun p c => by
          unfold hpC cmR
          dsimp only
          rw [hcml, hlst, hcm, List.flatMap_append]
          rfl
        have hi2x : ∀ (p : Option Addr) (c : Nat), HInv logs count n K (HpX.mk x.q p c { x.s with W := W2.flushed, D := flushE W2 x.s.D } (putL x.st t 2)).s (HpX.mk x.q p c { x.s with W := W2.flushed, D := flushE W2 x.s.D } (putL x.st t 2)).st h' := fun p c => hi2
        refine Fn.enter3 82 Tryz.func20 rfl rfl (nB rfl) (fun F => ?_)
        try simp only [cA, nA]
        refine TS (La rfl rfl (Ld (TS (Lm rfl rfl (Lq rfl (Qn rfl) ?_)))))
        refine Lq rfl (Q0 (by kernel_rfl) rfl) (Lq rfl (Qf (off := 1) (by kernel_rfl) rfl) (Lq rfl (Ql (by kernel_rfl) rfl rfl) (Lq rfl (yI (e := 48) (sz := 2) (by kernel_rfl) rfl) (La rfl rfl (Ld (Ts (yH ?_)))))))
        refine TS (Lm rfl rfl (Lq rfl (Qn rfl) (Lq rfl (Q0 (by kernel_rfl) rfl) (Lq rfl (Q0 (by kernel_rfl) rfl) (Lq rfl (Ql (by kernel_rfl) rfl rfl) (Lm rfl rfl ?_))))))
        refine Lq rfl (zT Hp.okS rfl t rfl 0 rfl) (Lq rfl (yW rfl rfl) (La rfl rfl (Ld (yL rfl ((fun q => q (ha.2 hc))) (TS (Lm rfl rfl ?_))))))
        refine Lq rfl (yM rfl rfl) (Lm rfl rfl (yT (t := 27) rfl (decide_eq_false (by omega)) (Lm rfl rfl (Lq rfl (yZ rfl rfl) (Lq rfl (Qp rfl rfl) (Lm rfl rfl (yT (t := 31) rfl (decide_eq_false (by omega)) ?_)))))))
        refine Lm rfl rfl (Lq rfl (yZ rfl rfl) (Lm rfl rfl ?_))
        by_cases hne : 0 < h.cm.length
        · skip
          obtain ⟨c, hcl2⟩ : ∃ c, h.cm.getLast? = some c := by
            cases hg : h.cm with
            | nil => rw [hg] at hne; simp at hne
            | cons a l => exact ⟨_, List.getLast?_eq_some_getLast (by simp)⟩
          have hcat : h.cm[h.cm.length - 1]? = some c := by rw [← List.getLast?_eq_getElem?]; exact hcl2
          have hcs : ¬ stamp ≤ c.2 := by rw [hcl2] at s3; simpa using s3
          obtain ⟨gc, hgc⟩ := hp hne
          rw [hgc]
          refine zQ (t := 34) rfl (decide_eq_true (by omega)) (Lm rfl rfl (Lm rfl rfl (Lq rfl (Qn rfl) (Lq rfl (Q0 (by kernel_rfl) rfl) (Lq rfl (Qf (off := 1) (by kernel_rfl) rfl) (Lq rfl (Ql (by kernel_rfl) rfl rfl) (Lm rfl rfl ?_)))))))
          refine Lq rfl (Qt.sub rfl rfl (wr64 (by omega) (by omega))) (Lq rfl (Qi (h.cm.length - 1) (e := 48) (sz := 2) (by kernel_rfl) rfl rfl (by omega) (by omega)) (Lq rfl (Qf (off := 1) (by kernel_rfl) rfl) (Lq rfl (Ql (v := .int .i64 c.2) (by kernel_rfl) rfl (cm_at hcat)) (Lq rfl (YF rfl rfl) (Lq rfl (Qp rfl rfl) (Lq rfl (Qp rfl rfl) (La rfl rfl ?_)))))))
          refine Ld (yL rfl (by omega) ?_)
          rw [← hgc]
          refine Tk (Ts (TS (Lm rfl rfl (Lm rfl rfl (Lm rfl rfl (Lq rfl (z8 [(0, 1), (1, 1), (2, 1), (3, 1), (4, 1), (5, 1)] [.int .i64 0, .int .i64 0, .int .i64 0, .int .i64 0, .int .i64 0, .slice none 0 0] [_, _, _, _, _, _] [(0, _), (1, _), (4, _)] (by kernel_rfl) (by unfold zeroB; kernel_rfl) rfl rfl) ?_))))))
          refine Le rfl (Ec (Hp.writeC B g b logs count n K x.q x.pc h.cm.length x.cc h.last x.s h.es (recsOf h.vs) hi.s (cmE t stamp) hokE rfl e2 rfl W2 r hadd) Tryz.func63 rfl rfl rfl ?_)
          rintro _ _ ⟨rfl, rfl⟩
          try simp only [cA, nA]
          refine La rfl rfl (Ld (TS (Lm rfl rfl (Lq rfl (yW rfl rfl) (Ld (yQ rfl ?_))))))
          refine Tk (TS (Lm rfl rfl (Lq rfl (Qn rfl) (Lq rfl (Qf (off := 3) (by kernel_rfl) rfl) (Lq rfl (Ql (by kernel_rfl) rfl rfl) ?_)))))
          refine Le rfl (Ec (Wl.flush B x.q.gl b W2 x.s.D hw2.fit hw2.max hw2.st hw2.dur (by have := hw2.room; omega)) Tryz.func67 rfl rfl rfl ?_)
          rintro _ _ ⟨rfl, rfl⟩
          try simp only [cA, nA]
          refine Ld (TS (Lm rfl rfl (Lq rfl (Qn rfl) (Lq rfl (Q0 (by kernel_rfl) rfl) (Lq rfl (Q0 (by kernel_rfl) rfl) (Lq rfl (Ql (by kernel_rfl) rfl rfl) ?_))))))
          refine Lm rfl rfl ?_
          refine L0 rfl (Y0 Hp.okS rfl t rfl 2 rfl ?_)
          refine Ld (TS (Lm rfl rfl (Lm rfl rfl (Lq rfl (Qn rfl) (Lq rfl (Q0 (by kernel_rfl) rfl) (Lq rfl (Qf (off := 1) (by kernel_rfl) rfl) ?_))))))
          refine Lq rfl (Ql (by kernel_rfl) rfl rfl) (Lm rfl rfl (Lm rfl rfl (Lq rfl (z8 [(0, 1), (1, 1)] [.int .i64 0, .int .i64 0] [_, _] [(0, _), (1, _)] (by kernel_rfl) (by unfold zeroB; kernel_rfl) rfl rfl) ?_)))
          refine Le rfl (zK [_, _] (e := 48) (sz := 2) (by kernel_rfl) ⟨.agg #[.int .i64 0, .int .i64 0], by kernel_rfl, rfl⟩ rfl rfl rfl (by omega) (by omega) ?_)
          intro g77
          refine Le rfl (Ea Hp.elemC rfl rfl (SrcOf.blk (by kernel_rfl) rfl (by simp [Value.oneCell'])) (by unfold maxLen; omega) (by omega) ?_)
          rintro p4 c4 hp4
          try simp only [cA, nA]
          refine Lq rfl (Qn rfl) (Lq rfl (Q0 (by kernel_rfl) rfl) (Lq rfl (Qf (off := 1) (by kernel_rfl) rfl) ?_))
          refine L0 rfl (E1 (by kernel_rfl) rfl rfl rfl (by first | (simp; done) | (simp; omega)) ?_)
          try simp only [List.set_cons_zero, List.set_cons_succ]
          refine Ld (TS (La rfl rfl (Ld (T.ret ?_))))
          exact ⟨.inl rfl, _, _, res [_] rfl ⟨rvT rfl, trivial⟩, ⟨_, hi2x p4 c4, rfl, rfl, rfl⟩, (Sub.eqL (hcl3 p4 c4))⟩
        refine yT (t := 34) rfl (decide_eq_false (by omega)) (Ls rfl (Ls rfl (Ls rfl (Ls rfl (Ls rfl (Ls rfl (Ls rfl ?_)))))))
        refine Ls rfl (Ls rfl (Ls rfl (Ls rfl (Ls rfl (Lq rfl (Qp rfl rfl) (Lq rfl (Qp rfl rfl) (La rfl rfl ?_)))))))
        refine Ld (yQ rfl (Tk (Ts (TS (Lm rfl rfl (Lm rfl rfl ?_))))))
        refine Lm rfl rfl (Lq rfl (z8 [(0, 1), (1, 1), (2, 1), (3, 1), (4, 1), (5, 1)] [.int .i64 0, .int .i64 0, .int .i64 0, .int .i64 0, .int .i64 0, .slice none 0 0] [_, _, _, _, _, _] [(0, _), (1, _), (4, _)] (by kernel_rfl) (by unfold zeroB; kernel_rfl) rfl rfl) ?_)
        refine Le rfl (Ec (Hp.writeC B g b logs count n K x.q x.pc h.cm.length x.cc h.last x.s h.es (recsOf h.vs) hi.s (cmE t stamp) hokE rfl e2 rfl W2 r hadd) Tryz.func63 rfl rfl rfl ?_)
        rintro _ _ ⟨rfl, rfl⟩
        try simp only [cA, nA]
        refine La rfl rfl (Ld (TS (Lm rfl rfl (Lq rfl (yW rfl rfl) (Ld (yQ rfl ?_))))))
        refine Tk (TS (Lm rfl rfl (Lq rfl (Qn rfl) (Lq rfl (Qf (off := 3) (by kernel_rfl) rfl) (Lq rfl (Ql (by kernel_rfl) rfl rfl) ?_)))))
        refine Le rfl (Ec (Wl.flush B x.q.gl b W2 x.s.D hw2.fit hw2.max hw2.st hw2.dur (by have := hw2.room; omega)) Tryz.func67 rfl rfl rfl ?_)
        rintro _ _ ⟨rfl, rfl⟩
        try simp only [cA, nA]
        refine Ld (TS (Lm rfl rfl (Lq rfl (Qn rfl) (Lq rfl (Q0 (by kernel_rfl) rfl) (Lq rfl (Q0 (by kernel_rfl) rfl) (Lq rfl (Ql (by kernel_rfl) rfl rfl) ?_))))))
        refine Lm rfl rfl ?_
        refine L0 rfl (Y0 Hp.okS rfl t rfl 2 rfl ?_)
        refine Ld (TS (Lm rfl rfl (Lm rfl rfl (Lq rfl (Qn rfl) (Lq rfl (Q0 (by kernel_rfl) rfl) (Lq rfl (Qf (off := 1) (by kernel_rfl) rfl) ?_))))))
        refine Lq rfl (Ql (by kernel_rfl) rfl rfl) (Lm rfl rfl (Lm rfl rfl (Lq rfl (z8 [(0, 1), (1, 1)] [.int .i64 0, .int .i64 0] [_, _] [(0, _), (1, _)] (by kernel_rfl) (by unfold zeroB; kernel_rfl) rfl rfl) ?_)))
        refine Le rfl (zK [_, _] (e := 48) (sz := 2) (by kernel_rfl) ⟨.agg #[.int .i64 0, .int .i64 0], by kernel_rfl, rfl⟩ rfl rfl rfl (by omega) (by omega) ?_)
        intro g77
        refine Le rfl (Ea Hp.elemC rfl rfl (SrcOf.blk (by kernel_rfl) rfl (by simp [Value.oneCell'])) (by unfold maxLen; omega) (by omega) ?_)
        rintro p4 c4 hp4
        try simp only [cA, nA]
        refine Lq rfl (Qn rfl) (Lq rfl (Q0 (by kernel_rfl) rfl) (Lq rfl (Qf (off := 1) (by kernel_rfl) rfl) ?_))
        refine L0 rfl (E1 (by kernel_rfl) rfl rfl rfl (by first | (simp; done) | (simp; omega)) ?_)
        try simp only [List.set_cons_zero, List.set_cons_succ]
        refine Ld (TS (La rfl rfl (Ld (T.ret ?_))))
        exact ⟨.inl rfl, _, _, res [_] rfl ⟨rvT rfl, trivial⟩, ⟨_, hi2x p4 c4, rfl, rfl, rfl⟩, (Sub.eqL (hcl3 p4 c4))⟩
  · have he : commitR h t stamp = (h, 70) := by unfold commitR; rw [if_neg hc]
    have hd : cmDisk logs h x.s t stamp = x.s.D := by unfold cmDisk; rw [he]; simp
    rw [he, hd]
    refine Fn.enter3 82 Tryz.func20 rfl rfl (nB rfl) (fun F => ?_)
    try simp only [cA, nA]
    refine TS (La rfl rfl (Ld (TS (Lm rfl rfl (Lq rfl (Qn rfl) ?_)))))
    refine Lq rfl (Q0 (by kernel_rfl) rfl) (Lq rfl (Qf (off := 1) (by kernel_rfl) rfl) (Lq rfl (Ql (by kernel_rfl) rfl rfl) (Lq rfl (yI (e := 48) (sz := 2) (by kernel_rfl) rfl) (La rfl rfl (Ld (Ts (yH ?_)))))))
    refine TS (Lm rfl rfl (Lq rfl (Qn rfl) (Lq rfl (Q0 (by kernel_rfl) rfl) (Lq rfl (Q0 (by kernel_rfl) rfl) (Lq rfl (Ql (by kernel_rfl) rfl rfl) (Lm rfl rfl ?_))))))
    refine Lq rfl (zT Hp.okS rfl t rfl 0 rfl) (Lq rfl (yW rfl rfl) (La rfl rfl (Ld (zM rfl ((fun q => hc (ha.1 q))) (TS (La rfl rfl ?_))))))
    refine Ld (T.ret ?_)
    exact ⟨.inl rfl, _, _, res [_] rfl ⟨rvT rfl, trivial⟩, ⟨x, hi, rfl, rfl, rfl⟩, Sa⟩
theorem Hp.commit (B : Base) (g b logs count n K : Nat) (h : HR) (hK : K < 2 ^ 30) (t stamp : Int) (hcl : h.cm.length < 2 ^ 32) : Fn Tryz.prog B 20 #[pV g, .int .i64 t, .int .i64 stamp] [hpA g b logs count n K h] (fun u l => u = .int .i64 (commitR h t stamp).2 ∧ l = [hpA g b logs count n K (commitR h t stamp).1]) := by
 refine Fn.openHp fun x hi hp => ?_
 rw [List.append_nil]
 refine (Hp.commitX B g b logs count n K h hK t stamp x hi hp hcl).sub ?_
 rintro u l ⟨x', hi', _, rfl, rfl⟩
 exact ⟨_, hp_close (hpC g b logs count n x' (commitR h t stamp).1) x' _ hi' rfl (r := []), rfl, rfl⟩
open Go.RowKit
theorem HInv.write {logs count n K K' : Nat} {s s' : Pl} {st : List (Int × Int)} {h : HR} (i : HInv logs count n K s st h) {e : En} (ok : OkStep h e) (hk : e.kind ≠ 3) (hl : e.txn ≤ h.last) (hs : SInv logs count n K' s' (h.es ++ [e]) (recsOf (writeR h e).vs)) (hKK : K ≤ K') : HInv logs count n K' s' st (writeR h e) :=
 ⟨hs, i.r.write ok hl (fun k => absurd k hk), i.st.write hk, i.pages, i.room, by have := i.lastK; show h.last ≤ _; omega⟩
theorem rc_add {h : HR} {t : Int} {d : List UInt8} {q : Nat} : rcSet (recsOf h.vs) true q (recsOf h.vs q ++ [newB t d]) = recsOf (writeR h (addE h t d q)).vs := by
 funext x
 rw [recs_add (h := h) (e := addE h t d q) rfl x]
 unfold rcSet
 simp only [if_true]
 by_cases e : x = q
 · subst e; rw [if_pos rfl, if_pos (by simp)]; rfl
 · rw [if_neg e, if_neg (by simpa using e)]
abbrev ridB (g : Nat) (a b : Int) : Assn := blk g [.int .i64 a, .int .i64 b] 39
theorem Hp.add1 (B : Base) (A : Assn) (gpg g5 g9 g8 : Nat) (recs : List (List UInt8)) (m : Int) (a : Option Addr) (mm c : Nat) (k a0 a1 : Int) (hu : usedR recs ≤ 243) (hmm : mm < 2 ^ 62) :
    Fn Tryz.prog B 60 #[pV gpg, pV g5, pV g9, pV g8] (pgA gpg recs m :: A :: [blk g5 [.slice a mm c] 22, blk g9 [.int .i64 k] 3, ridB g8 a0 a1])
      (fun v l => v = .bool false ∧ l = pgA gpg recs m :: A :: [blk g5 [.slice a mm c] 22, blk g9 [.int .i64 k] 3, if mm + 16 ≤ roomR recs then ridB g8 k recs.length else ridB g8 a0 a1]) := by
  by_cases hr : mm + 16 ≤ roomR recs
  · rw [if_pos hr]
    refine Fn.enter4 16 Tryz.func60 rfl rfl (nB rfl) (fun F => ?_)
    try simp only [cA, nA]
    refine TS (La rfl rfl (Ld (Ts (Ts (T.draw 6 ([blk g5 [.slice a mm c] 22]) (by kernel_rfl) (nB rfl) (by kernel_rfl) (Rq 0 rfl rfl (by kernel_rfl) Sa (Qm rfl) ?_))))))
    refine Rq 2 rfl rfl (by kernel_rfl) Sa (Ql (by kernel_rfl) rfl rfl) (Rq 3 rfl rfl (by kernel_rfl) Sa (yI (e := 5) (sz := 1) (by kernel_rfl) rfl) (Rq 4 rfl rfl (by kernel_rfl) Sa (Qd rfl rfl (wr64 (by omega) (by omega))) (yK 1 (by kernel_rfl) ?_)))
    refine z6 rfl rfl (Ec (Pg.room B gpg recs m hu) Tryz.func61 rfl rfl rfl ?_)
    rintro _ _ ⟨rfl, rfl⟩
    try simp only [cA, nA]
    refine ⟨Sa, ?_⟩
    refine Rq 5 rfl rfl (by kernel_rfl) Sa (zX rfl rfl) (Rd0 (by rfl) ?_)
    simp only [dS, dZ, dN]
    refine Ld (zM rfl (by omega) (T.draw 4 ([blk g9 [.int .i64 k] 3]) (by kernel_rfl) (nB rfl) (by kernel_rfl) (Rq 0 rfl rfl (by kernel_rfl) Sa (Ql (by kernel_rfl) rfl rfl) (Rq 1 rfl rfl (by kernel_rfl) Sa (Qm rfl) (yK 2 (by kernel_rfl) ?_)))))
    refine z6 rfl rfl (Ec (Pg.count B gpg recs m) Tryz.func62 rfl rfl rfl ?_)
    rintro _ _ ⟨rfl, rfl⟩
    try simp only [cA, nA]
    refine ⟨Sa, ?_⟩
    refine Rq 3 rfl rfl (by kernel_rfl) Sa (z8 [(0, 1), (1, 1)] [.int .i64 0, .int .i64 0] [_, _] [(0, _), (1, _)] (by kernel_rfl) (by unfold zeroB; kernel_rfl) rfl rfl) (Rd0 (by rfl) ?_)
    simp only [dS, dZ, dN]
    refine L0 rfl (Es [_, _] (by kernel_rfl) rfl rfl rfl rfl (by simp) ?_)
    try simp only [splice, lC, lN, dS, cA, tS, tZ, dZ, nA, aN]
    refine Ld (TS (La rfl rfl (Ld (T.ret ?_))))
    exact ⟨.inl rfl, _, _, res [_] rfl ⟨rvT rfl, trivial⟩, ⟨rfl, rfl⟩, Sa⟩
  · rw [if_neg hr]
    refine Fn.enter4 16 Tryz.func60 rfl rfl (nB rfl) (fun F => ?_)
    try simp only [cA, nA]
    refine TS (La rfl rfl (Ld (Ts (Ts (T.draw 6 ([blk g5 [.slice a mm c] 22]) (by kernel_rfl) (nB rfl) (by kernel_rfl) (Rq 0 rfl rfl (by kernel_rfl) Sa (Qm rfl) ?_))))))
    refine Rq 2 rfl rfl (by kernel_rfl) Sa (Ql (by kernel_rfl) rfl rfl) (Rq 3 rfl rfl (by kernel_rfl) Sa (yI (e := 5) (sz := 1) (by kernel_rfl) rfl) (Rq 4 rfl rfl (by kernel_rfl) Sa (Qd rfl rfl (wr64 (by omega) (by omega))) (yK 1 (by kernel_rfl) ?_)))
    refine z6 rfl rfl (Ec (Pg.room B gpg recs m hu) Tryz.func61 rfl rfl rfl ?_)
    rintro _ _ ⟨rfl, rfl⟩
    try simp only [cA, nA]
    refine ⟨Sa, ?_⟩
    refine Rq 5 rfl rfl (by kernel_rfl) Sa (zX rfl rfl) (Rd0 (by rfl) ?_)
    simp only [dS, dZ, dN]
    refine Ld (yL rfl (by omega) (Tk (TS (La rfl rfl (Ld (T.ret ?_))))))
    exact ⟨.inl rfl, _, _, res [_] rfl ⟨rvT rfl, trivial⟩, ⟨rfl, rfl⟩, Sa⟩
theorem roomR_iff (h : HR) (q n : Nat) (hn : n ≤ 184) : n + 16 ≤ roomR (recsOf h.vs q) ↔ usedP h.vs q + 17 + n ≤ 256 := by
 unfold roomR usedP
 rw [used_recs]
 omega
theorem addE_ok {h : HR} (r : RInv h) (hp : h.pages ≤ 4096) (hl : h.last < 2 ^ 62) {t : Int} {d : List UInt8} {q : Nat} (ht : isAct h t = true) (hd : d.length ≤ 184) (hq : q < h.pages) : EnOk (addE h t d q) := by
 have h1 := r.act1 t (isAct_iff.1 ht)
 have h2 := pages_len r.ok q
 exact ⟨by simp, by simp; omega, by simp only [enPlace]; omega, by simp, by simp, by simp, by simp, by simp; omega⟩
def Seek (h : HR) (n k : Nat) (a0 a1 : Int) : Prop := (a0 = -1 ∧ a1 = 0 ∧ ∀ j, j < k → ¬ usedP h.vs j + 17 + n ≤ 256) ∨ ∃ q : Nat, k = q + 1 ∧ a0 = q ∧ a1 = ((pageV h.vs q).length : Nat) ∧ roomyP h n = some q
theorem Hp.add (B : Base) (S : List Assn) (g b logs count n K : Nat) (h : HR) (hK : K + count + 1 < 2 ^ 30) (t : Int) (a : Option Addr) (c : Nat) (d : List UInt8) (hv : RdV B S (.slice a d.length c) (bytesV d)) (hdl : d.length < 2 ^ 40) :
    Fn Tryz.prog B 18 #[pV g, .int .i64 t, .slice a d.length c] (hpA g b logs count n K h :: S) (fun u l => u = .tuple #[.agg #[.int .i64 (addR' h t d).2.1, .int .i64 (addR' h t d).2.2.1], .int .i64 (addR' h t d).2.2.2] ∧ l = hpA g b logs count n (K + count + 1) (addR' h t d).1 :: S) := by
  refine Fn.openHp fun x hi hp => ?_
  simp only [hpC, List.cons_append, List.nil_append]
  have ha := hi.st.act t
  have hi1 : HInv logs count n (K + count + 1) x.s x.st h := hi.mono (by omega)
  by_cases hc : isAct h t = true
  · by_cases hd : 184 < d.length
    · have he : addR' h t d = (h, 0, 0, 2) := by unfold addR'; rw [if_pos hc, if_pos hd]
      rw [he]
      refine Fn.enter3 66 Tryz.func18 rfl rfl (nB rfl) (fun F => ?_)
      try simp only [cA, nA]
      refine TS ?_
      refine Le rfl (zL [_] rfl rfl ?_)
      intro g5
      refine Le rfl (El [.int .i64 0, .int .i64 0] (by unfold zeroB; kernel_rfl) ?_)
      intro g6
      refine La rfl rfl (Ld (Ts (yH (TS (Lm rfl rfl (Lq rfl (Qn rfl) ?_))))))
      refine Lq rfl (Q0 (by kernel_rfl) rfl) (Lq rfl (Q0 (by kernel_rfl) rfl) (Lq rfl (Ql (by kernel_rfl) rfl rfl) (Lm rfl rfl (Lq rfl (zT Hp.okS rfl t rfl 0 rfl) (Lq rfl (yW rfl rfl) (La rfl rfl (Ld ?_)))))))
      refine yL rfl ((fun q => q (ha.2 hc))) (TS (Lq rfl (Ql (by kernel_rfl) rfl rfl) (Lq rfl (yI (e := 5) (sz := 1) (by kernel_rfl) rfl) (Lq rfl (yZ rfl rfl) (La rfl rfl (Ld ?_))))))
      refine zM rfl (by omega) (TS (Lq rfl (z8 [(0, 1), (1, 1)] [.int .i64 0, .int .i64 0] [_, _] [] (by kernel_rfl) (by unfold zeroB; kernel_rfl) rfl rfl) ?_))
      refine L0 rfl (Es [_, _] (by kernel_rfl) rfl rfl rfl rfl (by simp) ?_)
      try simp only [splice, lC, lN, dS, cA, tS, tZ, dZ, nA, aN]
      refine La rfl rfl (Ld (T.ret ?_))
      exact ⟨.inl rfl, _, _, res [_, _] rfl ⟨rvA [_, _] (by kernel_rfl) rfl ⟨rfl, rfl, trivial⟩, rvT rfl, trivial⟩, ⟨rfl, rfl⟩, hp_close [hpB g x.q x.pc h.cm.length x.cc h.last, stA x.q x.st, cmR x.pc h.cm.length x.cc h.cm, wlS b x.q x.s, plS b n logs count x.q x.s, dskA b x.s.D] x h hi1 rfl⟩
    · have hct := hi.cnt
      have hpg := hi.pages
      have hu := hi.used
      have hr := hi.room
      have hlk : h.last < 2 ^ 62 := by have := hi.lastK; omega
      refine Fn.enter3 66 Tryz.func18 rfl rfl (nB rfl) (fun F => ?_)
      try simp only [cA, nA]
      refine TS ?_
      refine Le rfl (zL [_] rfl rfl ?_)
      intro g5
      refine Le rfl (El [.int .i64 0, .int .i64 0] (by unfold zeroB; kernel_rfl) ?_)
      intro g6
      refine La rfl rfl (Ld (Ts (yH (TS (Lm rfl rfl (Lq rfl (Qn rfl) ?_))))))
      refine Lq rfl (Q0 (by kernel_rfl) rfl) (Lq rfl (Q0 (by kernel_rfl) rfl) (Lq rfl (Ql (by kernel_rfl) rfl rfl) (Lm rfl rfl (Lq rfl (zT Hp.okS rfl t rfl 0 rfl) (Lq rfl (yW rfl rfl) (La rfl rfl (Ld ?_)))))))
      refine yL rfl ((fun q => q (ha.2 hc))) (TS (Lq rfl (Ql (by kernel_rfl) rfl rfl) (Lq rfl (yI (e := 5) (sz := 1) (by kernel_rfl) rfl) (Lq rfl (yZ rfl rfl) (La rfl rfl (Ld ?_))))))
      refine yL rfl (by omega) (Tk (TS (Lq rfl (z8 [(0, 1), (1, 1)] [.int .i64 0, .int .i64 0] [_, _] [(0, _)] (by kernel_rfl) (by unfold zeroB; kernel_rfl) rfl rfl) ?_)))
      refine Le rfl (El [.int .i64 0, .int .i64 0] (by unfold zeroB; kernel_rfl) ?_)
      intro g8
      refine L0 rfl (Es [_, _] (by kernel_rfl) rfl rfl rfl rfl (by simp) ?_)
      try simp only [splice, lC, lN, dS, cA, tS, tZ, dZ, nA, aN]
      refine Ld ?_
      refine T.cut (fun fz lz => ∃ (f0 : Fr) (s2 : Pl) (a0 a1 : Int), (SInv logs count n (K + count) s2 h.es (recsOf h.vs) ∧ ((a0 = -1 ∧ a1 = 0 ∧ roomyP h d.length = none) ∨ ∃ q : Nat, a0 = q ∧ a1 = ((pageV h.vs q).length : Nat) ∧ roomyP h d.length = some q)) ∧ fz = (upd (upd (upd (upd (upd (upd f0 0 (pV g)) 1 (.int .i64 t)) 5 (pV g5)) 6 (pV g6)) 7 (.int .i64 0)) 8 (pV g8)) ∧ lz = ridB g8 a0 a1 :: blk g5 [.slice a d.length c] 22 :: ridB g6 0 0 :: hpB g x.q x.pc h.cm.length x.cc h.last :: stA x.q x.st :: cmR x.pc h.cm.length x.cc h.cm :: wlS b x.q s2 :: plS b n logs count x.q s2 :: dskA b s2.D :: (S ++ F)) ?_ ?_
      · skip
        refine TS ?_
        refine Le rfl (El [.int .i64 0] (by unfold zeroB; kernel_rfl) ?_)
        intro g9
        refine L0 rfl (E1 (by kernel_rfl) rfl rfl rfl (by first | (simp; done) | (simp; omega)) ?_)
        try simp only [List.set_cons_zero, List.set_cons_succ]
        refine Ld (yH ?_)
        refine zG (fun mz fz lz => ∃ (f0 : Fr) (k gk : Nat) (s2 : Pl) (a0 a1 : Int), (k ≤ count ∧ SInv logs count n (K + k) s2 h.es (recsOf h.vs) ∧ Seek h d.length k a0 a1) ∧ mz = count - k ∧ fz = (upd (upd (upd (upd (upd (upd (upd f0 0 (pV g)) 1 (.int .i64 t)) 5 (pV g5)) 6 (pV g6)) 7 (.int .i64 0)) 8 (pV g8)) 9 (pV gk)) ∧ lz = blk gk [.int .i64 k] 3 :: ridB g8 a0 a1 :: blk g5 [.slice a d.length c] 22 :: ridB g6 0 0 :: hpB g x.q x.pc h.cm.length x.cc h.last :: stA x.q x.st :: cmR x.pc h.cm.length x.cc h.cm :: wlS b x.q s2 :: plS b n logs count x.q s2 :: dskA b s2.D :: (S ++ F)) ?_ ?_
        · refine ⟨_, _, ⟨_, 0, _, x.s, -1, 0, ⟨Nat.zero_le _, hi.s, .inl ⟨rfl, rfl, fun j hj => by omega⟩⟩, rfl, (updS rfl (updS rfl (updS rfl (updS rfl (updS rfl (updS rfl (updS rfl rfl))))))), rfl⟩, Sa⟩
        rintro mz fz lz ⟨f0, k, gk, s2, a0, a1, ⟨hk, hs2, hseek⟩, hmz, rfl, rfl⟩
        subst mz
        refine Ts (Ts (T.draw 14 ([hpB g x.q x.pc h.cm.length x.cc h.last, blk gk [.int .i64 k] 3, ridB g8 a0 a1]) (by kernel_rfl) (nB rfl) (by kernel_rfl) (Rq 0 rfl rfl (by kernel_rfl) Sa (Ql (by kernel_rfl) rfl rfl) (Rq 1 rfl rfl (by kernel_rfl) Sa (Qm rfl) (Rq 2 rfl rfl (by kernel_rfl) Sa (Qn rfl) (Rq 3 rfl rfl (by kernel_rfl) Sa (Qf (off := 4) (by kernel_rfl) rfl) (Rq 4 rfl rfl (by kernel_rfl) Sa (Ql (by kernel_rfl) rfl rfl) ?_)))))))
        refine Rq 5 rfl rfl (by kernel_rfl) Sa (Qn rfl) (Rq 6 rfl rfl (by kernel_rfl) Sa (Q0 (by kernel_rfl) rfl) (yK 7 (by kernel_rfl) ?_))
        refine z6 rfl rfl (Ec (Bp.pages B x.q.gp b n logs count s2.hand x.q.gl s2.A) Tryz.func58 rfl rfl rfl ?_)
        rintro _ _ ⟨rfl, rfl⟩
        try simp only [cA, nA]
        refine ⟨Sa, ?_⟩
        refine Rq 8 rfl rfl (by kernel_rfl) Sa (yM rfl rfl) (Rq 9 rfl rfl (by kernel_rfl) Sa (Qm rfl) ?_)
        by_cases ha0 : a0 = -1
        · skip
          obtain ⟨ha1, hno⟩ : a1 = 0 ∧ ∀ j, j < k → ¬ usedP h.vs j + 17 + d.length ≤ 256 := by
            rcases hseek with ⟨_, h1, h2⟩ | ⟨q, _, h1, _⟩
            · exact ⟨h1, h2⟩
            · omega
          subst ha0
          subst ha1
          refine YE (t := 36) rfl (fun hkc => ?_) (fun hkc => ?_)
          · skip
            try replace hkc := of_decide_eq_true hkc
            refine Rq 10 rfl rfl (by kernel_rfl) Sa (Q0 (by kernel_rfl) rfl) (Rq 11 rfl rfl (by kernel_rfl) Sa (Ql (by kernel_rfl) rfl rfl) (Rq 12 rfl rfl (by kernel_rfl) Sa (yM rfl rfl) (Rq 13 rfl rfl (by kernel_rfl) Sa (Qp rfl rfl) (Rd0 (by rfl) ?_))))
            simp only [dS, dZ, dN]
            refine Ld (zF rfl (Tk (Ts (yH (TR (Lm rfl rfl (Lq rfl (Ql (by kernel_rfl) rfl rfl) ?_)))))))
            refine Lq rfl (Y4 [_, _, _] rfl) ?_
            refine Le rfl (Ec (Hp.with B g b n logs count (K + k) x.q x.pc h.cm.length x.cc h.last s2 h.es (recsOf h.vs) hs2 (by omega) k (by omega) k rfl 0 0 rfl (by omega) 60 Tryz.f60 [pV g5, pV gk, pV g8] [blk g5 [.slice a d.length c] 22, blk gk [.int .i64 k] 3, ridB g8 (-1) 0] (fun bb r' X' => bb = false ∧ X' = [blk g5 [.slice a d.length c] 22, blk gk [.int .i64 k] 3, if d.length + 16 ≤ roomR (recsOf h.vs k) then ridB g8 k (recsOf h.vs k).length else ridB g8 (-1) 0]) Tryz.func60 rfl rfl (fun gpg m => (Hp.add1 B (hpB g x.q x.pc h.cm.length x.cc h.last) gpg g5 gk g8 (recsOf h.vs k) m a d.length c k (-1) 0 (recs_ok hi.r.ok k).1.used (by omega)).mono (fun v l ⟨h1, h2⟩ => ⟨false, _, _, ⟨rfl, rfl⟩, h1, h2⟩)) (fun r' X' hh => by obtain ⟨h1, _⟩ := hh; cases h1)) Tryz.func59 rfl rfl rfl ?_)
            rintro _ _ ⟨bb, r', X', s', ⟨rfl, rfl⟩, hS, rfl, rfl⟩
            try simp only [cA, nA]
            have hS2 : SInv logs count n (K + k + 1) s' h.es (recsOf h.vs) := by simpa [rcSet] using hS
            have hroom := roomR_iff h k d.length (by omega)
            refine Ld (Ts (TS (Lq rfl (Ql (by kernel_rfl) rfl rfl) (Ld (TR ?_)))))
            refine Le rfl (El [.int .i64 0] (by unfold zeroB; kernel_rfl) ?_)
            intro g9
            refine L0 rfl (E1 (by kernel_rfl) rfl rfl rfl (by first | (simp; done) | (simp; omega)) ?_)
            try simp only [List.set_cons_zero, List.set_cons_succ]
            refine Ld (TR (Lq rfl (Ql (by kernel_rfl) rfl rfl) (Lq rfl (Qd (r := ((k + 1 : Nat) : Int)) rfl rfl (by rw [wr64 (by omega) (by omega)]; omega)) ?_)))
            refine L0 rfl (E1 (by kernel_rfl) rfl rfl rfl (by first | (simp; done) | (simp; omega)) ?_)
            try simp only [List.set_cons_zero, List.set_cons_succ]
            refine Ld ?_
            by_cases hfit : usedP h.vs k + 17 + d.length ≤ 256
            · skip
              rw [if_pos (hroom.2 hfit)]
              refine ⟨_, ?_, _, ⟨_, k + 1, _, s', k, (recsOf h.vs k).length, ⟨by omega, hS2, .inr ⟨k, rfl, rfl, by simp [recsOf], roomy_of (by omega) hfit hno⟩⟩, rfl, (updS rfl (updS rfl (updS rfl (updS rfl (updS rfl (updS rfl (updS rfl rfl))))))), rfl⟩, Sa⟩
              omega
            rw [if_neg (fun q => hfit (hroom.1 q))]
            refine ⟨_, ?_, _, ⟨_, k + 1, _, s', -1, 0, ⟨by omega, hS2, .inl ⟨rfl, rfl, fun j hj => by rcases Nat.lt_or_eq_of_le (Nat.lt_succ_iff.1 hj) with h1 | h1; exact hno j h1; rw [h1]; exact hfit⟩⟩, rfl, (updS rfl (updS rfl (updS rfl (updS rfl (updS rfl (updS rfl (updS rfl rfl))))))), rfl⟩, Sa⟩
            omega
          try replace hkc := of_decide_eq_false hkc
          refine yY 10 rfl rfl (by kernel_rfl) Sa (yY 11 rfl rfl (by kernel_rfl) Sa (yY 12 rfl rfl (by kernel_rfl) Sa (Rq 13 rfl rfl (by kernel_rfl) Sa (Qp rfl rfl) (Rd0 (by rfl) ?_))))
          simp only [dS, dZ, dN]
          refine Ld (yQ rfl (zB ?_))
          exact ⟨_, ⟨_, s2, -1, 0, ⟨hs2.mono (by omega), .inl ⟨rfl, rfl, roomy_no (fun j hj => hno j (by omega))⟩⟩, (updS rfl (updS rfl (updS rfl (updS rfl (updS rfl (updS rfl rfl)))))), rfl⟩, Sa⟩
        obtain ⟨q, hkq, ha1, ha2, hq⟩ := hseek.resolve_left (fun hh => ha0 hh.1)
        refine YE (t := 36) rfl (fun hkc => ?_) (fun hkc => ?_)
        · skip
          try replace hkc := of_decide_eq_true hkc
          refine Rq 10 rfl rfl (by kernel_rfl) Sa (Q0 (by kernel_rfl) rfl) (Rq 11 rfl rfl (by kernel_rfl) Sa (Ql (by kernel_rfl) rfl rfl) (Rq 12 rfl rfl (by kernel_rfl) Sa (yM rfl rfl) (Rq 13 rfl rfl (by kernel_rfl) Sa (Qp rfl rfl) (Rd0 (by rfl) ?_))))
          simp only [dS, dZ, dN]
          refine Ld (yL rfl (by omega) (zB ?_))
          exact ⟨_, ⟨_, s2, a0, a1, ⟨hs2.mono (by omega), .inr ⟨q, ha1, ha2, hq⟩⟩, (updS rfl (updS rfl (updS rfl (updS rfl (updS rfl (updS rfl rfl)))))), rfl⟩, Sa⟩
        try replace hkc := of_decide_eq_false hkc
        refine yY 10 rfl rfl (by kernel_rfl) Sa (yY 11 rfl rfl (by kernel_rfl) Sa (yY 12 rfl rfl (by kernel_rfl) Sa (Rq 13 rfl rfl (by kernel_rfl) Sa (Qp rfl rfl) (Rd0 (by rfl) ?_))))
        simp only [dS, dZ, dN]
        refine Ld (yQ rfl (zB ?_))
        exact ⟨_, ⟨_, s2, a0, a1, ⟨hs2.mono (by omega), .inr ⟨q, ha1, ha2, hq⟩⟩, (updS rfl (updS rfl (updS rfl (updS rfl (updS rfl (updS rfl rfl)))))), rfl⟩, Sa⟩
      rintro fz lz ⟨f0, s2, a0, a1, ⟨hs2, hseek⟩, rfl, rfl⟩
      have hi2 : HInv logs count n (K + count + 1) s2 x.st h := ⟨hs2.mono (by omega), hi.r, hi.st, hi.pages, hi.room, by have := hi.lastK; omega⟩
      by_cases ha0 : a0 = -1
      · skip
        have hnone : roomyP h d.length = none := by
          rcases hseek with ⟨_, _, h2⟩ | ⟨q, h1, _⟩
          · exact h2
          · omega
        refine Ts (TS (Lq rfl (Q0 (by kernel_rfl) rfl) (Lq rfl (Ql (by kernel_rfl) rfl rfl) (Lq rfl (yM rfl rfl) (Ld (zM rfl (by omega) ?_))))))
        have he : addR' h t d = (h, 0, 0, 3) := by unfold addR'; rw [if_pos hc, if_neg hd, hnone]
        rw [he]
        refine TS (Lq rfl (z8 [(0, 1), (1, 1)] [.int .i64 0, .int .i64 0] [_, _] [] (by kernel_rfl) (by unfold zeroB; kernel_rfl) rfl rfl) ?_)
        refine L0 rfl (Es [_, _] (by kernel_rfl) rfl rfl rfl rfl (by simp) ?_)
        try simp only [splice, lC, lN, dS, cA, tS, tZ, dZ, nA, aN]
        refine La rfl rfl (Ld (T.ret ?_))
        exact ⟨.inl rfl, _, _, res [_, _] rfl ⟨rvA [_, _] (by kernel_rfl) rfl ⟨rfl, rfl, trivial⟩, rvT rfl, trivial⟩, ⟨rfl, rfl⟩, hp_close [hpB g x.q x.pc h.cm.length x.cc h.last, stA x.q x.st, cmR x.pc h.cm.length x.cc h.cm, wlS b x.q s2, plS b n logs count x.q s2, dskA b s2.D] { x with s := s2 } h hi2 rfl⟩
      obtain ⟨q, ha1, ha2, hq⟩ := hseek.resolve_left (fun hh => ha0 hh.1)
      subst ha1
      subst ha2
      obtain ⟨hq1, hq2, hq3⟩ := roomy_some hq
      have hokE := addE_ok hi.r (by omega) hlk hc (d := d) (q := q) (by omega) hq1
      have hsz : enSz (addE h t d q) = 20 + d.length := by rw [enSz_eq]; simp
      have hu2 := hi2.used
      refine Ts (TS (Lq rfl (Q0 (by kernel_rfl) rfl) (Lq rfl (Ql (by kernel_rfl) rfl rfl) (Lq rfl (yM rfl rfl) (Ld (yQ rfl ?_))))))
      by_cases hf : (h.room : Int) < h.used + 20 + d.length
      · skip
        have he : addR' h t d = (h, 0, 0, 3) := by unfold addR'; rw [if_pos hc, if_neg hd, hq]; dsimp only; rw [if_pos hf]
        rw [he]
        refine Tk (Ts (TS (Lm rfl rfl (Lm rfl rfl (Lq rfl (Q0 (by kernel_rfl) rfl) (Lq rfl (Ql (by kernel_rfl) rfl rfl) ?_))))))
        refine Lq rfl (Qf (off := 1) (by kernel_rfl) rfl) (Lq rfl (Ql (by kernel_rfl) rfl rfl) (Lq rfl (Ql (by kernel_rfl) rfl rfl) (Lq rfl (z8 [(0, 1), (1, 1), (2, 1), (3, 1), (4, 1), (5, 1)] [.int .i64 0, .int .i64 0, .int .i64 0, .int .i64 0, .int .i64 0, .slice none 0 0] [_, _, _, _, _, _] [(0, _), (1, _), (2, _), (3, _), (5, _)] (by kernel_rfl) (by unfold zeroB; kernel_rfl) rfl rfl) ?_)))
        refine Le rfl (Ec (Hp.writeFull B S g b logs count n (K + count) x.q x.pc h.cm.length x.cc h.last s2 h.es (recsOf h.vs) hs2 (addE h t d q) a c hokE hv (by omega)) Tryz.func63 rfl rfl rfl ?_)
        rintro _ _ ⟨rfl, rfl⟩
        try simp only [cA, nA]
        refine La rfl rfl (Ld (TS (Lm rfl rfl (Lq rfl (yW rfl rfl) (Ld (zF rfl ?_))))))
        refine TS (Lq rfl (z8 [(0, 1), (1, 1)] [.int .i64 0, .int .i64 0] [_, _] [] (by kernel_rfl) (by unfold zeroB; kernel_rfl) rfl rfl) (Lm rfl rfl ?_))
        refine L0 rfl (Es [_, _] (by kernel_rfl) rfl rfl rfl rfl (by simp) ?_)
        try simp only [splice, lC, lN, dS, cA, tS, tZ, dZ, nA, aN]
        refine La rfl rfl (Ld (T.ret ?_))
        exact ⟨.inl rfl, _, _, res [_, _] rfl ⟨rvA [_, _] (by kernel_rfl) rfl ⟨rfl, rfl, trivial⟩, rvT rfl, trivial⟩, ⟨rfl, rfl⟩, hp_close [hpB g x.q x.pc h.cm.length x.cc h.last, stA x.q x.st, cmR x.pc h.cm.length x.cc h.cm, wlS b x.q s2, plS b n logs count x.q s2, dskA b s2.D] { x with s := s2 } h hi2 rfl⟩
      have he : addR' h t d = (writeR h (addE h t d q), (q : Int), ((pageV h.vs q).length : Int), 0) := by unfold addR'; rw [if_pos hc, if_neg hd, hq]; dsimp only; rw [if_neg hf]
      rw [he]
      have hstep := hi.r.addStep (by omega) hlk hc (d := d) (q := q) (by omega) hq1 hq2 (by omega)
      have hrl : (recsOf h.vs q).length = (pageV h.vs q).length := by simp [recsOf]
      have hro := recs_ok hi.r.ok q
      have hus : usedR (recsOf h.vs q) + 17 + d.length ≤ 243 := by rw [used_recs]; unfold usedP at hq2; omega
      have hro2 := (recs_ok (hi.r.ok.write hstep) q)
      have hrc := rc_add (h := h) (t := t) (d := d) (q := q)
      have hro3 : PgOk (recsOf h.vs q ++ [newB t d]) ∧ (recsOf h.vs q ++ [newB t d]).length < 256 := by have := congrFun hrc q; unfold rcSet at this; simp only [if_true] at this; rw [this]; exact hro2
      refine Tk (Ts (TS (Lm rfl rfl (Lm rfl rfl (Lq rfl (Q0 (by kernel_rfl) rfl) (Lq rfl (Ql (by kernel_rfl) rfl rfl) ?_))))))
      refine Lq rfl (Qf (off := 1) (by kernel_rfl) rfl) (Lq rfl (Ql (by kernel_rfl) rfl rfl) (Lq rfl (Ql (by kernel_rfl) rfl rfl) (Lq rfl (z8 [(0, 1), (1, 1), (2, 1), (3, 1), (4, 1), (5, 1)] [.int .i64 0, .int .i64 0, .int .i64 0, .int .i64 0, .int .i64 0, .slice none 0 0] [_, _, _, _, _, _] [(0, _), (1, _), (2, _), (3, _), (5, _)] (by kernel_rfl) (by unfold zeroB; kernel_rfl) rfl rfl) ?_)))
      refine Le rfl (Ec (Hp.writeP B S g b logs count n (K + count) x.q x.pc h.cm.length x.cc h.last s2 h.es (recsOf h.vs) hs2 (by omega) (addE h t d q) a c hokE hv (by omega) (by simp) q rfl (by omega) (recsOf h.vs q ++ [newB t d]) hro3.1 hro3.2 (fun X hX gpg m => Hp.applyAdd B X (pV g) gpg (recsOf h.vs q) m (addE h t d q) a c hokE rfl hX (by rw [hrl]) (by show d.length ≤ 184; omega) hus)) Tryz.func63 rfl rfl rfl ?_)
      rintro _ _ ⟨s', hS, rfl, rfl⟩
      try simp only [cA, nA]
      refine La rfl rfl (Ld (TS (Lm rfl rfl (Lq rfl (yW rfl rfl) (Ld ?_)))))
      rw [hrc] at hS
      have hi3 := hi.write hstep (by simp) (hi.r.act1 t (isAct_iff.1 hc)).2 hS (by omega)
      refine yQ rfl (Tk (TS (Lq rfl (QL [_, _] (by kernel_rfl) rfl ⟨rfl, rfl, trivial⟩) ?_)))
      refine L0 rfl (Es [_, _] (by kernel_rfl) rfl rfl rfl rfl (by simp) ?_)
      try simp only [splice, lC, lN, dS, cA, tS, tZ, dZ, nA, aN]
      refine La rfl rfl (Ld (T.ret ?_))
      exact ⟨.inl rfl, _, _, res [_, _] rfl ⟨rvA [_, _] (by kernel_rfl) rfl ⟨rfl, rfl, trivial⟩, rvT rfl, trivial⟩, ⟨rfl, rfl⟩, hp_close [hpB g x.q x.pc h.cm.length x.cc h.last, stA x.q x.st, cmR x.pc h.cm.length x.cc h.cm, wlS b x.q s', plS b n logs count x.q s', dskA b s'.D] { x with s := s' } (writeR h (addE h t d q)) hi3 rfl⟩
  · have he : addR' h t d = (h, 0, 0, 70) := by unfold addR'; rw [if_neg hc]
    rw [he]
    refine Fn.enter3 66 Tryz.func18 rfl rfl (nB rfl) (fun F => ?_)
    try simp only [cA, nA]
    refine TS ?_
    refine Le rfl (zL [_] rfl rfl ?_)
    intro g5
    refine Le rfl (El [.int .i64 0, .int .i64 0] (by unfold zeroB; kernel_rfl) ?_)
    intro g6
    refine La rfl rfl (Ld (Ts (yH (TS (Lm rfl rfl (Lq rfl (Qn rfl) ?_))))))
    refine Lq rfl (Q0 (by kernel_rfl) rfl) (Lq rfl (Q0 (by kernel_rfl) rfl) (Lq rfl (Ql (by kernel_rfl) rfl rfl) (Lm rfl rfl (Lq rfl (zT Hp.okS rfl t rfl 0 rfl) (Lq rfl (yW rfl rfl) (La rfl rfl (Ld ?_)))))))
    refine zM rfl ((fun q => hc (ha.1 q))) (TS (Lq rfl (z8 [(0, 1), (1, 1)] [.int .i64 0, .int .i64 0] [_, _] [] (by kernel_rfl) (by unfold zeroB; kernel_rfl) rfl rfl) ?_))
    refine L0 rfl (Es [_, _] (by kernel_rfl) rfl rfl rfl rfl (by simp) ?_)
    try simp only [splice, lC, lN, dS, cA, tS, tZ, dZ, nA, aN]
    refine La rfl rfl (Ld (T.ret ?_))
    exact ⟨.inl rfl, _, _, res [_, _] rfl ⟨rvA [_, _] (by kernel_rfl) rfl ⟨rfl, rfl, trivial⟩, rvT rfl, trivial⟩, ⟨rfl, rfl⟩, hp_close [hpB g x.q x.pc h.cm.length x.cc h.last, stA x.q x.st, cmR x.pc h.cm.length x.cc h.cm, wlS b x.q x.s, plS b n logs count x.q x.s, dskA b x.s.D] x h hi1 rfl⟩
open Go.RowKit
theorem ver_beg (v : Ver) : (verB v).take 8 = be (UInt64.ofInt v.beg) 8 := by unfold verB; rw [List.append_assoc, List.take_left' (length_be _ _)]
theorem ver_fin (v : Ver) : ((verB v).take 16).drop 8 = be (UInt64.ofInt v.fin) 8 := by unfold verB; rw [List.take_left' (by simp [length_be]), List.drop_left' (length_be _ _)]
theorem ver_data (v : Ver) : (verB v).drop 16 = v.data := by unfold verB; rw [List.drop_left' (by simp [length_be])]
abbrev verV (n slot : Int) (v : Ver) (a : Option Addr) (c : Nat) : Value := .agg #[.int .i64 n, .int .i64 slot, .int .i64 v.beg, .int .i64 v.fin, .slice (offA a c 16 1) v.data.length (c - 16)]
theorem Hp.version (B : Base) (S : List Assn) (n slot : Int) (a : Option Addr) (m c : Nat) (v : Ver) (hv : RdV B S (.slice a m c) (bytesV (verB v))) (hm : (verB v).length = m) (hmc : m ≤ c) (hb : 0 ≤ v.beg ∧ v.beg < 9223372036854775808) (hf : 0 ≤ v.fin ∧ v.fin < 9223372036854775808) :
  Fn Tryz.prog B 66 #[.int .i64 n, .int .i64 slot, .slice a m c] S (fun u l => u = verV n slot v a c ∧ l = S) := by
 have hml : m = 16 + v.data.length := by rw [← hm, length_verB]
 have h1 := RdV.part hv 0 8 (by omega) hm (by omega) (by omega) (z := 8) rfl
 have h2 := RdV.part hv 8 16 (by omega) hm (by omega) (by omega) (z := 8) rfl
 rw [List.drop_zero, ver_beg, offA_zero] at h1
 rw [ver_fin] at h2
 have g1 := get_at (n := v.beg) (k := 8) (by omega) (by omega) (by omega) (by omega)
 have g2 := get_at (n := v.fin) (k := 8) (by omega) (by omega) (by omega) (by omega)
 have hz : m - 16 = v.data.length := by omega
 refine Fn.enter3 21 Tryz.func66 rfl rfl (nB rfl) (fun F => ?_)
 refine TS ?_
 refine Le rfl (El [.int .i64 0, .int .i64 0, .int .i64 0, .int .i64 0, .slice none 0 0] (by unfold zeroB; kernel_rfl) ?_)
 intro g6
 refine Ld (Ts (zW 14 none (by kernel_rfl) (nB rfl) (by kernel_rfl) (Rq 0 rfl rfl (by kernel_rfl) Sa (Qm rfl) (Rq 1 rfl rfl (by kernel_rfl) Sa (Qm rfl) (Rq 2 rfl rfl (by kernel_rfl) Sa (z8 [(0, 1), (1, 1)] [.int .i64 0, .int .i64 0] [_, _] [(0, _), (1, _)] (by kernel_rfl) (by unfold zeroB; kernel_rfl) rfl rfl) (Rq 3 rfl rfl (by kernel_rfl) Sa (Qm rfl) (Rq 4 rfl rfl (by kernel_rfl) Sa (Y6 8 (e := 5) (sz := 1) (by kernel_rfl) rfl rfl rfl (by omega)) ?_)))))))
 refine Rq 7 rfl rfl (by kernel_rfl) Sa (Qm rfl) (Rq 8 rfl rfl (by kernel_rfl) Sa (zS 8 16 (e := 5) (sz := 1) (by kernel_rfl) rfl rfl rfl rfl rfl (by omega) (by omega)) (Rq 11 rfl rfl (by kernel_rfl) Sa (Qm rfl) (Rq 12 rfl rfl (by kernel_rfl) Sa (zP 16 (e := 5) (sz := 1) (by kernel_rfl) rfl rfl rfl (by omega)) (yK 5 (by kernel_rfl) ?_))))
 refine z6 rfl rfl (Ec (Cd.get B _ _ (be (UInt64.ofInt v.beg) 8) (h1.takeAll c) (by simp [length_be])) Tryz.func121 rfl rfl rfl ?_)
 rintro _ l2 ⟨rfl, hl2⟩
 try simp only [cA, nA]
 rw [hl2]
 clear hl2
 refine ⟨Sa, ?_⟩
 refine Rq 6 rfl rfl (by kernel_rfl) Sa (yX (by kernel_rfl) (by kernel_rfl) rfl g1) (yK 9 (by kernel_rfl) ?_)
 refine z6 rfl rfl (Ec (Cd.get B _ _ (be (UInt64.ofInt v.fin) 8) h2 (by simp [length_be])) Tryz.func121 rfl rfl rfl ?_)
 rintro _ l2 ⟨rfl, hl2⟩
 rw [hl2]
 clear hl2
 refine ⟨Sa, ?_⟩
 refine Rq 10 rfl rfl (by kernel_rfl) Sa (yX (by kernel_rfl) (by kernel_rfl) rfl g2) (Rq 13 rfl rfl (by kernel_rfl) Sa (z8 [(0, 2), (2, 1), (3, 1), (4, 1)] [.int .i64 0, .int .i64 0, .int .i64 0, .int .i64 0, .slice none 0 0] [_, _, _, _, _] [(0, _), (1, _), (2, _), (3, _)] (by kernel_rfl) (by unfold zeroB; kernel_rfl) rfl rfl) (Rd0 (by rfl) ?_))
 simp only [dS, dZ, dN]
 refine L0 rfl (Es [_, _, _, _, _] (by kernel_rfl) rfl rfl rfl rfl (by simp) ?_)
 try simp only [splice, lC, lN, dS, cA, tS, tZ, dZ, nA, aN]
 refine Ld ?_
 rw [hz]
 refine T.ret ?_
 exact ⟨.inl rfl, _, _, res [_] rfl ⟨rvA [_, _, _, _, _] (by kernel_rfl) rfl ⟨rfl, rfl, rfl, rfl, rfl, trivial⟩, trivial⟩, ⟨rfl, rfl⟩, Sa⟩
end Go.Proofs.YtiooeiapplnafaaGreatDoor
