/- Plain facts of the log: records and their bytes. Conditions: none. -/
import Derived.Test.YtegohgaccmkigaaDoorWlH
set_option linter.unusedSimpArgs false
set_option linter.unusedVariables false
namespace Go.Proofs.YtegohgaccmkigaaDoor
open Go.RowKit

/-- A record that a log may have. -/
def OkD (d : List UInt8) : Prop := d.length ≠ 0 ∧ d.length ≤ 1024
instance (d : List UInt8) : Decidable (OkD d) := inferInstanceAs (Decidable (_ ∧ _))
/-- A record's bytes, by the sum ahead of it and where it stands. -/
def recB (s : UInt32) (k : Nat) (d : List UInt8) : List UInt8 := be (UInt64.ofInt d.length) 4 ++ be (sealW s k d).toUInt64 4 ++ d
theorem length_recB (s : UInt32) (k : Nat) (d : List UInt8) : (recB s k d).length = 8 + d.length := by simp [recB, length_be]; omega
/-- The last record's sum; the records' bytes; each one's end. -/
def logS : UInt32 → Nat → List (List UInt8) → UInt32
  | s, _, [] => s
  | s, k, d :: ds => logS (sealW s k d) (k + (8 + d.length)) ds
def logB : UInt32 → Nat → List (List UInt8) → List UInt8
  | _, _, [] => []
  | s, k, d :: ds => recB s k d ++ logB (sealW s k d) (k + (8 + d.length)) ds
def logR : Nat → List (List UInt8) → List (Nat × List UInt8)
  | _, [] => []
  | k, d :: ds => (k + (8 + d.length), d) :: logR (k + (8 + d.length)) ds
theorem length_logR : ∀ (k : Nat) (ds : List (List UInt8)), (logR k ds).length = ds.length
  | _, [] => rfl
  | k, d :: ds => by simp [logR, length_logR _ ds]
theorem logR_snd : ∀ (k : Nat) (ds : List (List UInt8)), (logR k ds).map Prod.snd = ds
  | _, [] => rfl
  | k, d :: ds => by simp [logR, logR_snd _ ds]
theorem length_logB_le : ∀ (s : UInt32) (k : Nat) (ds : List (List UInt8)), ds.length ≤ (logB s k ds).length
  | _, _, [] => Nat.le_refl _
  | s, k, d :: ds => by
    have := length_logB_le (sealW s k d) (k + (8 + d.length)) ds
    simp [logB, length_recB]; omega
theorem logB_snoc : ∀ (s : UInt32) (k : Nat) (ds : List (List UInt8)) (d : List UInt8), logB s k (ds ++ [d]) = logB s k ds ++ recB (logS s k ds) (k + (logB s k ds).length) d
  | _, _, [], _ => by simp [logB, logS]
  | s, k, e :: ds, d => by
    simp only [List.cons_append, logB, logS, List.append_assoc, logB_snoc _ _ ds d, List.length_append, length_recB]
    rw [Nat.add_assoc]
theorem logS_snoc : ∀ (s : UInt32) (k : Nat) (ds : List (List UInt8)) (d : List UInt8), logS s k (ds ++ [d]) = sealW (logS s k ds) (k + (logB s k ds).length) d
  | _, _, [], _ => by simp [logB, logS]
  | s, k, e :: ds, d => by
    simp only [List.cons_append, logB, logS, logS_snoc _ _ ds d, List.length_append, length_recB]
    congr 1
    omega
theorem logB_app : ∀ (s : UInt32) (k : Nat) (ds es : List (List UInt8)), logB s k (ds ++ es) = logB s k ds ++ logB (logS s k ds) (k + (logB s k ds).length) es
  | _, _, [], _ => by simp [logB, logS]
  | s, k, e :: ds, es => by
    simp only [List.cons_append, logB, logS, List.append_assoc, logB_app _ _ ds es, List.length_append, length_recB]
    rw [Nat.add_assoc]

theorem be_u32 (x : UInt32) : x.toUInt64.toNat < 256 ^ 4 := by rw [UInt32.toNat_toUInt64]; exact x.toNat_lt
theorem u32_back (x : UInt32) : (get64 (be x.toUInt64 4)).toUInt32 = x := by
  rw [get64_be _ (by omega) (be_u32 x)]
  apply UInt32.toNat_inj.1
  have := x.toNat_lt
  rw [UInt64.toNat_toUInt32, UInt32.toNat_toUInt64]
  omega
theorem u32_fwd {b : List UInt8} (h : b.length = 4) : be ((get64 b).toUInt32).toUInt64 4 = b := by
  have h1 := be_get64 (l := b) (by omega)
  rw [h] at h1
  have h2 : (get64 b).toNat < 256 ^ 4 := by rw [get64_nat _ (by omega)]; have := natOf_lt b; rwa [h] at this
  have : ((get64 b).toUInt32).toUInt64 = get64 b := by
    apply UInt64.toNat_inj.1
    rw [UInt32.toNat_toUInt64, UInt64.toNat_toUInt32]
    omega
  rw [this, h1]
theorem len_u64 (n : Nat) (h : n ≤ 1024) : (UInt64.ofInt n).toNat = n := by
  have := wru64_i64 (n : Int)
  rw [wru64 (by omega) (by omega)] at this
  omega

/-- A record that stands there is taken. -/
theorem takeRec_at {al rest : List UInt8} {k : Nat} {s : UInt32} {d : List UInt8} (h : al.drop k = recB s k d ++ rest) (hd : OkD d) : takeRec al k s = some (d.length, sealW s k d) ∧ ((al.drop k).take (8 + d.length)).drop 8 = d := by
  obtain ⟨h0, h1⟩ := hd
  have e1 : (al.drop k).take 4 = be (UInt64.ofInt d.length) 4 := by rw [h, recB, List.append_assoc, List.append_assoc, List.take_left' (length_be _ _)]
  have e2 : ((al.drop k).take 8).drop 4 = be (sealW s k d).toUInt64 4 := by
    rw [h, recB, List.append_assoc, List.take_left' (l₁ := be (UInt64.ofInt d.length) 4 ++ be (sealW s k d).toUInt64 4) (by simp [length_be]), List.drop_left' (length_be _ _)]
  have e3 : ((al.drop k).take (8 + d.length)).drop 8 = d := by
    rw [h, List.take_left' (by rw [length_recB]), recB, List.drop_left' (by simp [length_be])]
  have hl : (al.drop k).length = 8 + d.length + rest.length := by rw [h, List.length_append, length_recB]
  have e4 : (get64 ((al.drop k).take 4)).toNat = d.length := by
    rw [e1, get64_be _ (by omega) (by rw [len_u64 _ h1]; omega), len_u64 _ h1]
  refine ⟨?_, e3⟩
  rw [List.length_drop] at hl
  rw [takeRec_yes e4 (by omega) h0 h1 (by omega) (by rw [e3, e2, u32_back]), e2, u32_back]
theorem scan_at : ∀ (ds : List (List UInt8)) (k : Nat) (s : UInt32) (f : Nat) (al rest : List UInt8), al.drop k = logB s k ds ++ rest → (∀ d ∈ ds, OkD d) →
    scanW al (f + ds.length) k s = ((scanW al f (k + (logB s k ds).length) (logS s k ds)).1, (scanW al f (k + (logB s k ds).length) (logS s k ds)).2.1, logR k ds ++ (scanW al f (k + (logB s k ds).length) (logS s k ds)).2.2)
  | [], k, s, f, al, rest, _, _ => by simp [logB, logS, logR]
  | d :: ds, k, s, f, al, rest, h, hok => by
    rw [logB, List.append_assoc] at h
    obtain ⟨e1, e2⟩ := takeRec_at h (hok d (by simp))
    have h' : al.drop (k + (8 + d.length)) = logB (sealW s k d) (k + (8 + d.length)) ds ++ rest := by
      rw [← List.drop_drop, h, List.drop_left' (length_recB _ _ _)]
    have ih := scan_at ds (k + (8 + d.length)) (sealW s k d) f al rest h' (fun x hx => hok x (by simp [hx]))
    rw [List.length_cons, ← Nat.add_assoc, scanW, e1]
    simp only [e2]
    rw [ih]
    simp only [logB, logS, logR, List.length_append, length_recB, List.cons_append, Nat.add_assoc]
theorem take_zeros {al : List UInt8} {k n : Nat} {s : UInt32} (h : al.drop k = List.replicate n 0) : takeRec al k s = none := by
  have hl : al.length - k = n := by rw [← List.length_drop, h, List.length_replicate]
  by_cases h8 : al.length - k < 8
  · exact takeRec_short h8
  · refine takeRec_no rfl (.inl ?_)
    rw [h, List.take_replicate, Nat.min_eq_left (by omega)]
    rfl
theorem scan_none {al : List UInt8} {k : Nat} {s : UInt32} (h : takeRec al k s = none) : ∀ f, scanW al f k s = (k, s, [])
  | 0 => rfl
  | f + 1 => by rw [scanW, h]
/-- The records of a text with noughts behind it are its own. -/
theorem scan_text (ds : List (List UInt8)) (n f : Nat) (hf : ds.length ≤ f) (hok : ∀ d ∈ ds, OkD d) : scanW (logB 0 0 ds ++ List.replicate n 0) f 0 0 = ((logB 0 0 ds).length, logS 0 0 ds, logR 0 ds) := by
  have := scan_at ds 0 0 (f - ds.length) (logB 0 0 ds ++ List.replicate n 0) (List.replicate n 0) rfl hok
  have h2 := scan_none (al := logB 0 0 ds ++ List.replicate n 0) (k := 0 + (logB 0 0 ds).length) (s := logS 0 0 ds) (take_zeros (n := n) (by rw [Nat.zero_add, List.drop_left' rfl])) (f - ds.length)
  rw [Nat.sub_add_cancel hf, h2] at this
  rw [this]
  simp
/-- What a scan finds are records. -/
theorem take_back {al : List UInt8} {k nn : Nat} {s s' : UInt32} (h : takeRec al k s = some (nn, s')) : ∃ d, d = ((al.drop k).take (8 + nn)).drop 8 ∧ d.length = nn ∧ OkD d ∧ s' = sealW s k d ∧ (al.drop k).take (8 + nn) = recB s k d ∧ k + (8 + nn) ≤ al.length := by
  unfold takeRec at h
  split at h
  · cases h
  · next h8 =>
    split at h
    · cases h
    · next hn =>
      injection h with h
      injection h with e1 e2
      rw [e1, e2] at hn
      have hn1 : nn ≠ 0 ∧ nn ≤ 1024 ∧ nn ≤ (al.drop k).length - 8 := by omega
      have hn2 : sealW s k (((al.drop k).take (8 + nn)).drop 8) = s' := by
        apply Decidable.not_not.1
        intro hne
        exact hn (.inr (.inr (.inr hne)))
      have hl : (((al.drop k).take (8 + nn)).drop 8).length = nn := by simp at hn1 h8 ⊢; omega
      refine ⟨_, rfl, hl, ⟨by omega, by omega⟩, hn2.symm, ?_, by simp at hn1 h8; omega⟩
      have f1 : be (UInt64.ofInt nn) 4 = (al.drop k).take 4 := by
        have h4 : ((al.drop k).take 4).length = 4 := by simp at h8 ⊢; omega
        have := be_get64 (l := (al.drop k).take 4) (by omega)
        rw [h4] at this
        rw [← this]
        congr 1
        apply UInt64.toNat_inj.1
        rw [len_u64 _ (by omega), e1]
      have f2 : be s'.toUInt64 4 = ((al.drop k).take 8).drop 4 := by
        rw [← e2]
        exact u32_fwd (by simp at h8 ⊢; omega)
      unfold recB
      rw [hl, hn2, f1, f2]
      have g1 : ((al.drop k).take 8).drop 4 = ((al.drop k).drop 4).take 4 := by rw [List.drop_take]
      have g2 : ((al.drop k).take (8 + nn)).drop 8 = ((al.drop k).drop 8).take nn := by rw [List.drop_take]; congr 1; omega
      rw [g1, g2, List.append_assoc, show 8 + nn = 4 + (4 + nn) by omega, List.take_add, List.take_add, List.drop_drop, List.drop_drop, List.drop_drop]
theorem scan_back : ∀ (f k : Nat) (s : UInt32) (al : List UInt8), k ≤ al.length → ∃ ds, (∀ d ∈ ds, OkD d) ∧ scanW al f k s = (k + (logB s k ds).length, logS s k ds, logR k ds) ∧ (al.drop k).take (logB s k ds).length = logB s k ds ∧ k + (logB s k ds).length ≤ al.length
  | 0, k, s, al, hk => ⟨[], by simp, rfl, rfl, hk⟩
  | f + 1, k, s, al, hk => by
    rw [scanW]
    cases ht : takeRec al k s with
    | none => exact ⟨[], by simp, rfl, rfl, hk⟩
    | some p =>
      obtain ⟨nn, s'⟩ := p
      obtain ⟨d, e0, e1, e2, e3, e4, e5⟩ := take_back ht
      subst e1
      subst e3
      obtain ⟨ds, h1, h2, h3, h4⟩ := scan_back f (k + (8 + d.length)) (sealW s k d) al e5
      refine ⟨d :: ds, ?_, ?_, ?_, ?_⟩
      · intro x hx
        rcases List.mem_cons.1 hx with rfl | hx
        · exact e2
        · exact h1 x hx
      · simp only [h2, ← e0, logB, logS, logR, List.length_append, length_recB, Nat.add_assoc]
      · rw [logB, List.length_append, length_recB, List.take_add, e4, List.drop_drop, h3]
      · rw [logB, List.length_append, length_recB]; omega
/-- The log that has these records. -/
def mkW (first count : Nat) (ds : List (List UInt8)) (dur : Nat) : Wl := ⟨first, count, logB 0 0 ds, logS 0 0 ds, dur⟩
theorem addW_mk {first count dur : Nat} {ds : List (List UInt8)} {d : List UInt8} (hd : OkD d) (hr : (logB 0 0 ds).length + 8 + d.length ≤ count * 256) : addW (mkW first count ds dur) d = (mkW first count (ds ++ [d]) dur, ((logB 0 0 (ds ++ [d])).length : Int), 0) := by
  have hl : (logB 0 0 (ds ++ [d])).length = (logB 0 0 ds).length + (8 + d.length) := by rw [logB_snoc, List.length_append, length_recB]
  unfold addW
  rw [if_neg hd.1, if_neg (by have := hd.2; omega), if_neg (by show ¬ count * 256 < (logB 0 0 ds).length + 8 + d.length; omega), hl]
  unfold mkW
  rw [logB_snoc, logS_snoc]
  simp only [recB, Nat.zero_add, List.append_assoc, Int.natCast_zero, Int.zero_add]
  congr 2
  omega
end Go.Proofs.YtegohgaccmkigaaDoor
