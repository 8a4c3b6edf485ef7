/- Plain facts of the log: what its disk reads behind a flush and behind Open; records and their bytes. Conditions: none. -/
import Derived.Test.YtegohgaccmkigaaDoorWlG
set_option linter.unusedSimpArgs false
set_option linter.unusedVariables false
namespace Go.Proofs.YtegohgaccmkigaaDoor
open Go.RowKit

/-! the disk -/
theorem DD.rdN (D : DD) (hp : D.pend = []) (n : Nat) : D.read n = D.secs.getD n [] := by
  unfold DD.read; rw [hp]; exact DD.readK_zero D n
theorem DD.rdW (D : DD) (s : Nat) (d : List UInt8) (n : Nat) : (D.write s d).read n = if s = n then d else D.read n := by
  unfold DD.read DD.readK DD.write
  simp only [List.take_length, List.foldl_append, List.foldl_cons, List.foldl_nil]
theorem layW_256 (S : List (List UInt8)) (n : Nat) (d : List UInt8) (hd : d.length = 256) (hl : (S.getD n []).length = 256) : layW S n 256 d = S.set n d := by
  unfold layW
  rw [List.take_of_length_le (by omega), List.drop_of_length_le (by omega), List.append_nil]
theorem DD.rdS_lays {D : DD} (h : D.Ok) (n : Nat) (hn : n < D.secs.length) : ∀ k, k ≤ D.pend.length → (D.lays (fun _ => some 256) k).getD n [] = D.readK n k
  | 0, _ => by rw [DD.readK_zero]; rfl
  | k + 1, hk => by
    have hlt : k < D.pend.length := by omega
    obtain ⟨hS, hSl⟩ := DD.lays_ok h (fun _ => some 256) (by simp) k
    have ih := DD.rdS_lays h n hn k (by omega)
    have hd := h.data _ (List.getElem_mem hlt)
    have ha := h.at_ _ (List.getElem_mem hlt)
    rw [DD.lays_some D _ k 256 hlt rfl, DD.readK_succ D n k hlt]
    rw [layW_256 _ _ _ hd (by rw [List.getD_eq_getElem?_getD, List.getElem?_eq_getElem (by omega)]; exact hS _ (List.getElem_mem _))]
    by_cases h1 : D.pend[k].1 = n
    · rw [if_pos h1, ← h1, List.getD_eq_getElem?_getD, List.getElem?_set_self (by omega)]
      rfl
    · rw [if_neg h1, List.getD_eq_getElem?_getD, List.getElem?_set_ne h1, ← List.getD_eq_getElem?_getD, ih]
theorem DD.rdS {D : DD} (h : D.Ok) (n : Nat) (hn : n < D.secs.length) : D.sync.read n = D.read n := by
  rw [DD.rdN _ rfl]
  exact DD.rdS_lays h n hn _ (Nat.le_refl _)
theorem DD.Ok.rd {D : DD} (h : D.Ok) (n : Nat) (hn : n < D.secs.length) : (D.read n).length = 256 := h.readK n hn _ (Nat.le_refl _)
theorem DD.Ok.lys {D : DD} (h : D.Ok) (f : Nat → Option Nat) (hf : ∀ i k, f i = some k → k ≤ 256) (k : Nat) : DD.Ok ⟨D.lays f k, []⟩ := by
  obtain ⟨h1, h2⟩ := DD.lays_ok h f hf k
  exact ⟨by simp only; rw [h2]; exact h.pos, by simp only; rw [h2]; exact h.max, h1, by simp, by simp⟩
theorem DD.Ok.sy {D : DD} (h : D.Ok) : D.sync.Ok := h.lys _ (by simp) _
theorem DD.sync_len {D : DD} (h : D.Ok) : D.sync.secs.length = D.secs.length := (DD.lays_ok h _ (by simp) _).2
theorem DD.Ok.cr {D : DD} (h : D.Ok) (keep : List Bool) (t a : Int) : (D.crash keep t a).Ok := h.lys _ (amount_le _ _ _) _
theorem DD.crash_len {D : DD} (h : D.Ok) (keep : List Bool) (t a : Int) : (D.crash keep t a).secs.length = D.secs.length := (DD.lays_ok h _ (amount_le _ _ _) _).2
theorem DD.crash_nil {D : DD} (hp : D.pend = []) (keep : List Bool) (t a : Int) : D.crash keep t a = D := by
  unfold DD.crash; rw [hp]; cases D; simp_all [DD.lays]
theorem DD.sync_nil {D : DD} (hp : D.pend = []) : D.sync = D := by
  unfold DD.sync; rw [hp]; cases D; simp_all [DD.lays]
theorem DD.Ok.wr2 {D : DD} (h : D.Ok) (n : Nat) (d : List UInt8) (hn : n < D.secs.length) (hd : d.length = 256) : (D.write n d).Ok :=
  ⟨h.pos, h.max, h.secs, by
    intro p hp
    simp only [DD.write, List.mem_append, List.mem_singleton] at hp
    rcases hp with hp | rfl
    · exact h.at_ p hp
    · exact hn, by
    intro p hp
    simp only [DD.write, List.mem_append, List.mem_singleton] at hp
    rcases hp with hp | rfl
    · exact h.data p hp
    · exact hd⟩
theorem DD.new_ok (n : Nat) (h1 : 1 ≤ n) (h2 : n ≤ 4096) : DD.Ok ⟨List.replicate n zs, []⟩ := ⟨by simp; omega, by simp; omega, by
  intro s hs; rw [List.eq_of_mem_replicate hs]; exact length_zs, by simp, by simp⟩
theorem DD.new_read {n i : Nat} (hi : i < n) : DD.read ⟨List.replicate n zs, []⟩ i = List.replicate 256 0 := by
  rw [DD.rdN _ rfl, List.getD_eq_getElem?_getD, List.getElem?_replicate, if_pos hi]
  rfl

/-- The sectors of a disk hold a text, noughts behind it. -/
def Secs (D : DD) (first count : Nat) (st : List UInt8) : Prop := ∀ j, j < count → D.read (first + j) = secW st j
theorem Secs.new {n first count : Nat} (h : first + count ≤ n) : Secs ⟨List.replicate n zs, []⟩ first count [] := fun j hj => by
  rw [DD.new_read (by omega), secW_none (by simp)]
theorem Secs.sync {D : DD} {first count : Nat} {st : List UInt8} (h : Secs D first count st) (ho : D.Ok) (hl : first + count ≤ D.secs.length) : Secs D.sync first count st := fun j hj => by
  rw [DD.rdS ho _ (by omega)]; exact h j hj
theorem secW_take {st : List UInt8} {j k : Nat} (h : (j + 1) * 256 ≤ k) : secW (st.take k) j = secW st j := by
  have e : ((st.take k).drop (j * 256)).take 256 = (st.drop (j * 256)).take 256 := by
    rw [List.drop_take, List.take_take, Nat.min_eq_left (by omega)]
  unfold secW
  rw [e]
theorem secW_app {st z : List UInt8} {j c : Nat} (hl : st.length ≤ c * 256) (hj : j < c) (hz : z = List.replicate (c * 256 - st.length) 0) : secW st j = ((st ++ z).drop (j * 256)).take 256 := by
  subst hz
  unfold secW
  rw [List.drop_append, List.take_append, List.drop_replicate, List.take_replicate]
  congr 2
  simp only [List.length_take, List.length_drop]
  omega
theorem all_text {D : DD} {first count : Nat} {st : List UInt8} (h : Secs D first count st) (hl : st.length ≤ count * 256) : allD D first count = st ++ List.replicate (count * 256 - st.length) 0 := by
  have key : ∀ n, n ≤ count → allD D first n = (st ++ List.replicate (count * 256 - st.length) 0).take (n * 256) := by
    intro n
    induction n with
    | zero => intro _; simp [allD]
    | succ n ih =>
      intro hn
      rw [← allD_snoc, ih (by omega), h n (by omega), secW_app hl (by omega) rfl, show (n + 1) * 256 = n * 256 + 256 by omega, List.take_add]
  rw [key count (Nat.le_refl _), List.take_of_length_le]
  simp; omega
theorem allD_length {D : DD} (h : D.Ok) {first : Nat} : ∀ n, first + n ≤ D.secs.length → (allD D first n).length = n * 256
  | 0, _ => rfl
  | n + 1, hn => by rw [← allD_snoc, List.length_append, allD_length h n (by omega), h.rd _ (by omega)]; omega
set_option maxRecDepth 100000 in
theorem allD_sec {D : DD} (h : D.Ok) {first j : Nat} : ∀ n, first + n ≤ D.secs.length → j < n → D.read (first + j) = ((allD D first n).drop (j * 256)).take 256
  | 0, _, hj => by omega
  | n + 1, hn, hj => by
    have hl := allD_length h n (by omega : first + n ≤ D.secs.length)
    rw [← allD_snoc]
    by_cases e : j = n
    · subst e
      rw [List.drop_left' hl, List.take_of_length_le (by rw [h.rd _ (by omega)]; omega)]
    · have : (j + 1) * 256 ≤ n * 256 := by omega
      rw [List.drop_append_of_le_length (by omega), List.take_append_of_le_length (by rw [List.length_drop]; omega)]
      exact allD_sec h n (by omega) (by omega)

/-! lay and wipe -/
theorem lays_ok {W : Wl} : ∀ {k n : Nat} {D : DD}, D.Ok → W.first + (n + k) ≤ D.secs.length → (laysW W D n k).Ok ∧ (laysW W D n k).secs.length = D.secs.length
  | 0, _, _, h, _ => ⟨h, rfl⟩
  | k + 1, n, D, h, hl => by
    have := lays_ok (W := W) (k := k) (n := n + 1) (h.wr2 (W.first + n) (secW W.st n) (by omega) (length_secW _ _)) (by simp only [DD.write]; omega)
    exact this
theorem lays_out {W : Wl} {x : Nat} : ∀ {k n : Nat} {D : DD}, (x < W.first + n ∨ W.first + (n + k) ≤ x) → (laysW W D n k).read x = D.read x
  | 0, _, _, _ => rfl
  | k + 1, n, D, h => by
    rw [laysW, lays_out (by omega), DD.rdW, if_neg (by omega)]
theorem lays_at {W : Wl} {j : Nat} : ∀ {k n : Nat} {D : DD}, n ≤ j → j < n + k → (laysW W D n k).read (W.first + j) = secW W.st j
  | 0, _, _, _, _ => by omega
  | k + 1, n, D, h1, h2 => by
    rw [laysW]
    by_cases e : j = n
    · subst e
      rw [lays_out (by omega), DD.rdW, if_pos rfl]
    · exact lays_at (by omega) (by omega)
theorem wipe_ok {W : Wl} {al : List UInt8} : ∀ {k n : Nat} {D : DD}, D.Ok → W.first + (n + k) ≤ D.secs.length → (wipeD W al D n k).Ok ∧ (wipeD W al D n k).secs.length = D.secs.length
  | 0, _, _, h, _ => ⟨h, rfl⟩
  | k + 1, n, D, h, hl => by
    rw [wipeD]
    split
    · exact wipe_ok h (by omega)
    · have := wipe_ok (W := W) (al := al) (k := k) (n := n + 1) (h.wr2 (W.first + n) (secW W.st n) (by omega) (length_secW _ _)) (by simp only [DD.write]; omega)
      exact this
theorem wipe_out {W : Wl} {al : List UInt8} {x : Nat} : ∀ {k n : Nat} {D : DD}, (x < W.first + n ∨ W.first + (n + k) ≤ x) → (wipeD W al D n k).read x = D.read x
  | 0, _, _, _ => rfl
  | k + 1, n, D, h => by
    rw [wipeD, wipe_out (by omega)]
    split
    · rfl
    · rw [DD.rdW, if_neg (by omega)]
theorem wipe_at {W : Wl} {al : List UInt8} {j : Nat} : ∀ {k n : Nat} {D : DD}, n ≤ j → j < n + k → (wipeD W al D n k).read (W.first + j) = if ((al.take ((j + 1) * 256)).drop (max (j * 256) W.dur)).all (· == 0) then D.read (W.first + j) else secW W.st j
  | 0, _, _, _, _ => by omega
  | k + 1, n, D, h1, h2 => by
    rw [wipeD]
    by_cases e : j = n
    · subst e
      rw [wipe_out (by omega)]
      split
      · rfl
      · rw [DD.rdW, if_pos rfl]
    · rw [wipe_at (by omega) (by omega)]
      split
      · split
        · rfl
        · rw [DD.rdW, if_neg (by omega)]
      · rfl
theorem wipe_none {W : Wl} {al : List UInt8} : ∀ {k n : Nat} {D : DD}, (∀ j, n ≤ j → j < n + k → ((al.take ((j + 1) * 256)).drop (max (j * 256) W.dur)).all (· == 0) = true) → wipeD W al D n k = D
  | 0, _, _, _ => rfl
  | k + 1, n, D, h => by
    rw [wipeD, if_pos (h n (by omega) (by omega)), wipe_none (fun j h1 h2 => h j (by omega) (by omega))]
theorem all_zero {l : List UInt8} (h : l.all (· == 0) = true) : l = List.replicate l.length 0 := by
  rw [List.eq_replicate_iff]
  exact ⟨rfl, fun b hb => by simpa using List.all_eq_true.1 h b hb⟩
set_option maxRecDepth 100000 in
/-- Behind Open the sectors hold the text, noughts behind it. -/
theorem Secs.wiped {D : DD} {first count k : Nat} {s : UInt32} (ho : D.Ok) (hl : first + count ≤ D.secs.length) (hk : k ≤ count * 256) :
    Secs (wipeD ⟨first, count, (allD D first count).take k, s, k⟩ (allD D first count) D (k / 256) (count - k / 256)) first count ((allD D first count).take k) := by
  obtain ⟨al, hal⟩ : ∃ al, allD D first count = al := ⟨_, rfl⟩
  have hlen : al.length = count * 256 := by rw [← hal]; exact allD_length ho count hl
  have hsec : ∀ j, j < count → D.read (first + j) = (al.drop (j * 256)).take 256 := fun j hj => by rw [← hal]; exact allD_sec ho count hl hj
  rw [hal]
  intro j hj
  have hj2 : (j + 1) * 256 ≤ count * 256 := by omega
  by_cases h : j < k / 256
  · have hk2 : (j + 1) * 256 ≤ k := by omega
    rw [wipe_out (W := ⟨first, count, al.take k, s, k⟩) (.inl (by show first + j < first + k / 256; omega)), hsec j hj, secW_take hk2]
    unfold secW
    have e : ((al.drop (j * 256)).take 256).length = 256 := by simp; omega
    rw [e]; simp
  · rw [wipe_at (W := ⟨first, count, al.take k, s, k⟩) (by omega) (by omega)]
    split
    · next hz =>
      have hz2 := all_zero hz
      rw [hsec j hj]
      have hk3 : k < (j + 1) * 256 := by omega
      have hml : max (j * 256) k ≤ (j + 1) * 256 := by omega
      obtain ⟨lo, hlo⟩ : ∃ lo, max (j * 256) k = lo := ⟨_, rfl⟩
      simp only at hz2
      rw [hlo] at hz2 hml
      have e1 : (al.drop (j * 256)).take 256 = (al.take ((j + 1) * 256)).drop (j * 256) := by
        rw [List.drop_take]; congr 1; omega
      have e2 : ((al.take ((j + 1) * 256)).drop (j * 256)) = ((al.take k).drop (j * 256)) ++ ((al.take ((j + 1) * 256)).drop lo) := by
        by_cases hjk : j * 256 ≤ k
        · obtain rfl : k = lo := by omega
          have : al.take ((j + 1) * 256) = al.take k ++ (al.take ((j + 1) * 256)).drop k := by
            have := List.take_append_drop k (al.take ((j + 1) * 256))
            rw [List.take_take, Nat.min_eq_left (by omega)] at this
            exact this.symm
          conv => lhs; rw [this]
          rw [List.drop_append_of_le_length (by simp; omega)]
        · obtain rfl : j * 256 = lo := by omega
          rw [List.drop_of_length_le (l := al.take k) (by simp; omega), List.nil_append]
      rw [e1, e2, hz2]
      unfold secW
      rw [List.take_of_length_le (l := ((al.take k).drop (j * 256))) (by simp; omega)]
      congr 2
      simp only [List.length_drop, List.length_take]
      omega
    · rfl
/-- A disk that holds a text and noughts behind it isn't written. -/
theorem wipe_clean {D : DD} {first count : Nat} {s : UInt32} {st : List UInt8} (hl : st.length ≤ count * 256) :
    wipeD ⟨first, count, st, s, st.length⟩ (st ++ List.replicate (count * 256 - st.length) 0) D (st.length / 256) (count - st.length / 256) = D := by
  refine wipe_none fun j h1 h2 => ?_
  rw [List.all_eq_true]
  intro x hx
  have h3 : x ∈ (st ++ List.replicate (count * 256 - st.length) (0 : UInt8)).drop st.length := by
    have h4 := (List.drop_sublist (max (j * 256) st.length - st.length) ((st ++ List.replicate (count * 256 - st.length) (0 : UInt8)).drop st.length)).subset
    rw [List.drop_drop, show st.length + (max (j * 256) st.length - st.length) = max (j * 256) st.length by omega] at h4
    apply h4
    rw [List.drop_take] at hx
    exact List.mem_of_mem_take hx
  rw [List.drop_left' rfl] at h3
  simp [List.eq_of_mem_replicate h3]
set_option maxRecDepth 100000 in
/-- Behind a flush the sectors hold all of the text. -/
theorem Secs.flushed {D : DD} {W : Wl} (h : Secs D W.first W.count (W.st.take W.dur)) (hd : W.dur ≤ W.st.length) (hl : W.st.length ≤ W.count * 256) : Secs (laysW W D (W.dur / 256) (flushN W)) W.first W.count W.st := fun j hj => by
  unfold flushN
  by_cases h1 : j < W.dur / 256
  · rw [lays_out (by omega), h j hj]
    exact secW_take (by omega)
  · by_cases h2 : j < (W.st.length + 255) / 256
    · exact lays_at (by omega) (by omega)
    · have h3 : W.st.length ≤ j * 256 := by omega
      rw [lays_out (by omega), h j hj, secW_none h3, secW_none (by simp; omega)]
end Go.Proofs.YtegohgaccmkigaaDoor
