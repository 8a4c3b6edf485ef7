/- The package page, plain: Bytes and Open are each other's reverse. Conditions: none. -/
import Derived.Test.YtjjhbpjbngdlnaaDoorPgD
namespace Go.Proofs.YtjjhbpjbngdlnaaDoor
open Go.RowKit

def natOf (l : List UInt8) : Nat := l.foldl (fun n x => n * 256 + x.toNat) 0
theorem natOf_snoc (l : List UInt8) (x : UInt8) : natOf (l ++ [x]) = natOf l * 256 + x.toNat := by simp [natOf]
theorem foldl_nat (l : List UInt8) (a : Nat) : l.foldl (fun n x => n * 256 + x.toNat) a = a * 256 ^ l.length + natOf l := by
  induction l generalizing a with
  | nil => simp [natOf]
  | cons x l ih =>
    have h0 := ih (a * 256 + x.toNat)
    have h1 : natOf (x :: l) = x.toNat * 256 ^ l.length + natOf l := by
      have := ih x.toNat
      simp only [natOf, List.foldl_cons, Nat.zero_mul, Nat.zero_add]
      exact this
    rw [List.foldl_cons, h0, h1, List.length_cons, Nat.add_mul, Nat.pow_succ, Nat.mul_assoc, Nat.mul_comm 256]
    omega
theorem natOf_cons (x : UInt8) (l : List UInt8) : natOf (x :: l) = x.toNat * 256 ^ l.length + natOf l := by
  have := foldl_nat l x.toNat
  simp only [natOf, List.foldl_cons, Nat.zero_mul, Nat.zero_add]
  exact this
theorem natOf_lt : ∀ l : List UInt8, natOf l < 256 ^ l.length
  | [] => by simp [natOf]
  | x :: l => by
    rw [natOf_cons, List.length_cons, Nat.pow_succ]
    have h1 := natOf_lt l
    have h2 := x.toNat_lt
    have h3 : x.toNat * 256 ^ l.length ≤ 255 * 256 ^ l.length := Nat.mul_le_mul_right _ (by omega)
    omega
theorem natOf_inj : ∀ {l l' : List UInt8}, l.length = l'.length → natOf l = natOf l' → l = l'
  | [], [], _, _ => rfl
  | [], _ :: _, h, _ => by simp at h
  | _ :: _, [], h, _ => by simp at h
  | x :: l, y :: l', h, e => by
    have hl : l.length = l'.length := by simpa using h
    rw [natOf_cons, natOf_cons, ← hl] at e
    have h1 := natOf_lt l
    have h2 := natOf_lt l'
    rw [← hl] at h2
    have hp : 0 < 256 ^ l.length := Nat.pow_pos (by omega)
    have e1 : x.toNat = y.toNat := by
      have := congrArg (· / 256 ^ l.length) e
      simp only [Nat.mul_comm _ (256 ^ l.length), Nat.mul_add_div hp, Nat.div_eq_of_lt h1, Nat.div_eq_of_lt h2] at this
      omega
    have e2 : natOf l = natOf l' := by rw [e1] at e; omega
    rw [UInt8.toNat_inj.1 e1, natOf_inj hl e2]
theorem get64_nat (l : List UInt8) : l.length ≤ 8 → (get64 l).toNat = natOf l := by
  intro h
  have key : ∀ k, k ≤ l.length → (get64 (l.take k)).toNat = natOf (l.take k) := by
    intro k
    induction k with
    | zero => intro _; rfl
    | succ k ih =>
      intro hk
      have ih := ih (by omega)
      rw [List.take_succ_eq_append_getElem (by omega), get64_snoc, natOf_snoc]
      have hlt : natOf (l.take k) < 256 ^ 7 := Nat.lt_of_lt_of_le (natOf_lt _) (Nat.pow_le_pow_right (by omega) (by simp; omega))
      have hx := (l[k]'(by omega)).toNat_lt
      have e1 : (get64 (l.take k) <<< 8).toNat = natOf (l.take k) * 256 := by
        rw [UInt64.toNat_shiftLeft, ih, show ((8 : UInt64).toNat % 64) = 8 from rfl, Nat.shiftLeft_eq]
        exact Nat.mod_eq_of_lt (by omega)
      rw [UInt64.toNat_or, e1, UInt8.toNat_toUInt64, show (256 : Nat) = 2 ^ 8 from rfl, Nat.mul_comm, ← Nat.two_pow_add_eq_or_of_lt (by omega)]
  have := key l.length (Nat.le_refl _)
  rwa [List.take_length] at this
theorem natOf_be (n : UInt64) : ∀ k, natOf (be n k) = n.toNat % 256 ^ k
  | 0 => by simp [be, natOf, Nat.mod_one]
  | k + 1 => by
    rw [be, natOf_cons, length_be, natOf_be n k, Nat.mod_pow_succ, show (2 : Nat) ^ (8 * k) = 256 ^ k by rw [Nat.pow_mul], UInt8.toNat_ofNat', Nat.mul_comm]
    rw [show (2 : Nat) ^ 8 = 256 from rfl]
    omega
theorem be_get64 {l : List UInt8} (h : l.length ≤ 8) : be (get64 l) l.length = l :=
  natOf_inj (length_be _ _) (by rw [natOf_be, get64_nat l h]; exact Nat.mod_eq_of_lt (natOf_lt l))
theorem get64_be (n : UInt64) {k : Nat} (h : k ≤ 8) (hn : n.toNat < 256 ^ k) : get64 (be n k) = n := by
  apply UInt64.toNat_inj.1
  rw [get64_nat _ (by rw [length_be]; exact h), natOf_be, Nat.mod_eq_of_lt hn]
theorem sumN_lt (l : List UInt8) : (sumN l).toNat < 256 ^ 4 := by
  unfold sumN; rw [UInt32.toNat_toUInt64]; exact (crc l).toNat_lt
theorem mark_back {mark : Int} (h : -(2 ^ 63) ≤ mark ∧ mark < 2 ^ 63) : IntKind.i64.wrap ((UInt64.ofInt mark).toNat : Int) = mark := wr64_u64 mark (by omega) (by omega)
theorem mark_fwd (n : UInt64) : UInt64.ofInt (IntKind.i64.wrap (n.toNat : Int)) = n := by
  apply UInt64.toNat_inj.1
  have h := wru64_i64 (IntKind.i64.wrap (n.toNat : Int))
  have h2 : IntKind.u64.wrap (IntKind.i64.wrap (n.toNat : Int)) = (n.toNat : Int) := by
    have := n.toNat_lt
    simp [IntKind.wrap, IntKind.bits, IntKind.signed]
    omega
  omega
theorem parseR_recBytes : ∀ (recs : List (List UInt8)) (z : Nat), (∀ b ∈ recs, b.length ≤ 200) → parseR recs.length (recBytes recs ++ List.replicate z 0) = some recs
  | [], z, _ => by
    rw [List.length_nil, parseR, if_pos (by simp [recBytes])]
  | b :: recs, z, h => by
    have hb := h b (List.mem_cons_self ..)
    have hx : (UInt8.ofNat b.length).toNat = b.length := by rw [UInt8.toNat_ofNat']; omega
    have e : recBytes (b :: recs) ++ List.replicate z 0 = UInt8.ofNat b.length :: (b ++ (recBytes recs ++ List.replicate z 0)) := by simp [recBytes]
    rw [e, List.length_cons, parseR_cons (by omega) (by simp; omega), hx, List.drop_left, List.take_left, parseR_recBytes recs z (fun x hx => h x (List.mem_cons_of_mem _ hx))]
    rfl
theorem parseR_some : ∀ {n : Nat} {l : List UInt8} {recs : List (List UInt8)}, parseR n l = some recs → recs.length = n ∧ (∀ b ∈ recs, b.length ≤ 200) ∧ usedR recs ≤ l.length ∧ l = recBytes recs ++ List.replicate (l.length - usedR recs) 0
  | 0, l, recs, h => by
    rw [parseR] at h
    split at h
    · rename_i hz
      injection h with h
      subst h
      refine ⟨rfl, by simp, by simp [usedR], ?_⟩
      simp only [recBytes, List.flatMap_nil, List.nil_append, usedR, List.map_nil, List.sum_nil, Nat.sub_zero]
      refine List.eq_replicate_iff.2 ⟨rfl, fun x hx => ?_⟩
      have := List.all_eq_true.1 hz x hx
      simpa using this
    · cases h
  | n + 1, [], recs, h => by cases h
  | n + 1, x :: l, recs, h => by
    by_cases hx : 200 < x.toNat ∨ l.length < x.toNat
    · rw [parseR_no hx] at h; cases h
    · rw [parseR_cons (by omega) (by omega)] at h
      obtain ⟨r2, h1, rfl⟩ := Option.map_eq_some_iff.1 h
      obtain ⟨a1, a2, a3, a4⟩ := parseR_some h1
      have hlen : (l.take x.toNat).length = x.toNat := by simp; omega
      have hu : usedR (l.take x.toNat :: r2) = x.toNat + 1 + usedR r2 := by simp only [usedR, List.map_cons, List.sum_cons, hlen]
      have hd : (l.drop x.toNat).length = l.length - x.toNat := by simp
      rw [hd] at a3 a4
      refine ⟨by simp [a1], ?_, by rw [hu, List.length_cons]; omega, ?_⟩
      · intro b hb
        rcases List.mem_cons.1 hb with rfl | hb
        · omega
        · exact a2 b hb
      · rw [hu, List.length_cons, show recBytes (l.take x.toNat :: r2) = UInt8.ofNat (l.take x.toNat).length :: l.take x.toNat ++ recBytes r2 by simp [recBytes], hlen, show UInt8.ofNat x.toNat = x by simp,
          show l.length + 1 - (x.toNat + 1 + usedR r2) = l.length - x.toNat - usedR r2 by omega, List.cons_append, List.cons_append, List.append_assoc, ← a4, List.take_append_drop]
/-- A page is what Open finds in its bytes. -/
theorem openR_pgBytes {recs : List (List UInt8)} {mark : Int} (h : PgOk recs) (hl : recs.length < 256) (hm : -(2 ^ 63) ≤ mark ∧ mark < 2 ^ 63) : openR (pgBytes recs mark) = .ok (recs, mark) := by
  have e4 : (pgBytes recs mark).take 4 = be (sumN (pgBody recs mark)) 4 := by
    unfold pgBytes; rw [List.take_left' (length_be _ _)]
  have e5 : (pgBytes recs mark).drop 4 = pgBody recs mark := by
    unfold pgBytes; rw [List.drop_left' (length_be _ _)]
  have e13 : (pgBytes recs mark).drop 13 = recBytes recs ++ List.replicate (243 - usedR recs) 0 := by
    rw [show (13 : Nat) = 4 + 9 from rfl, ← List.drop_drop, e5]
    unfold pgBody; rw [List.append_assoc, List.drop_left' (length_pgHead _ _)]
  have hb : pgBytes recs mark = be (sumN (pgBody recs mark)) 4 ++ (be (UInt64.ofInt mark) 8 ++ (UInt8.ofNat recs.length :: (recBytes recs ++ List.replicate (243 - usedR recs) 0))) := by
    simp [pgBytes, pgBody, pgHead]
  have e12 : (pgBytes recs mark).getD 12 0 = UInt8.ofNat recs.length := by
    rw [hb, List.getD_eq_getElem?_getD, List.getElem?_append_right (by simp [length_be]), List.getElem?_append_right (by simp [length_be])]
    simp [length_be]
  have em : ((pgBytes recs mark).take 12).drop 4 = be (UInt64.ofInt mark) 8 := by
    rw [List.drop_take, e5]
    unfold pgBody pgHead; rw [List.append_assoc, List.append_assoc, List.take_left' (length_be _ _)]
  have := openR_ok (b := pgBytes recs mark) (recs := recs) (length_pgBytes h.used) (by rw [e4, e5, get64_be _ (by omega) (sumN_lt _)]) (by rw [e12, e13, UInt8.toNat_ofNat', Nat.mod_eq_of_lt (by omega)]; exact parseR_recBytes recs _ h.len)
  rw [this, em, get64_be _ (by omega) (by have := (UInt64.ofInt mark).toNat_lt; omega), mark_back hm]
/-- What Open takes is the bytes of its page. -/
theorem pgBytes_openR {b : List UInt8} {recs : List (List UInt8)} {mark : Int} (h : openR b = .ok (recs, mark)) : pgBytes recs mark = b := by
  unfold openR at h
  split at h
  · cases h
  · rename_i h1
    split at h
    · cases h
    · rename_i h2
      split at h
      · cases h
      · rename_i r h3
        injection h with h
        injection h with h4 h5
        subst h4
        have hl : b.length = 256 := by omega
        have h2 : get64 (b.take 4) = sumN (b.drop 4) := by simpa using h2
        obtain ⟨a1, a2, a3, a4⟩ := parseR_some h3
        have hd : (b.drop 13).length = 243 := by simp [hl]
        rw [hd] at a4
        have ebody : pgBody r mark = b.drop 4 := by
          unfold pgBody pgHead
          rw [List.append_assoc, ← a4, ← h5, mark_fwd, a1]
          have e8 : ((b.take 12).drop 4).length = 8 := by simp [hl]
          have := be_get64 (l := (b.take 12).drop 4) (by omega)
          rw [e8] at this
          rw [this]
          have hg : b.getD 12 0 = b[12]'(by omega) := by simp [List.getD, show (12 < b.length) by omega]
          rw [hg, show UInt8.ofNat (b[12]'(by omega)).toNat = b[12]'(by omega) by simp, List.drop_take, List.append_assoc, List.singleton_append, ← List.drop_eq_getElem_cons (by omega), show (12 : Nat) = 4 + 8 from rfl, ← List.drop_drop, show 4 + 8 - 4 = 8 from rfl, List.take_append_drop]
        unfold pgBytes
        rw [ebody, ← h2]
        have := be_get64 (l := b.take 4) (by simp; omega)
        rw [show (b.take 4).length = 4 by simp [hl]] at this
        rw [this, List.take_append_drop]
end Go.Proofs.YtjjhbpjbngdlnaaDoor
