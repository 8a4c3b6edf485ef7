/- The statements of the package wal: awake. Conditions: none. -/
import Derived.Test.YtegohgaccmkigaaDoorWlJ
set_option linter.unusedSimpArgs false
set_option linter.unusedVariables false
namespace Go.Proofs.YtegohgaccmkigaaDoor
open Go.RowKit

/-- What Open leaves where the disk holds the text of the records ds. -/
def OpenTx (b first count : Nat) (ds : List (List UInt8)) (D : DD) (u : Value) (l : List Assn) : Prop := ∃ g q cq R D', R.map (fun x : WRec => (x.mark, x.r.b)) = logR 0 ds ∧ D'.Ok ∧ D'.secs.length = D.secs.length ∧ D'.pend = [] ∧ Secs D' first count (logB 0 0 ds) ∧
  (∀ x, x < D.secs.length → (x < first ∨ first + count ≤ x) → D'.read x = D.read x) ∧
  u = .tuple #[.pointer (some ⟨g, 0, none⟩), .slice q ds.length cq, .int .i64 0] ∧ l = [wrecR q ds.length cq R, recsA (R.map WRec.r), wlA g b (mkW first count ds (logB 0 0 ds).length), dskA b D']
theorem Wl.openText (B : Base) (b : Nat) (D : DD) (first count : Nat) (ds : List (List UInt8)) (i j : Int) (hi : i = first) (hj : j = count) (h1 : 1 ≤ count) (hD : first + count ≤ D.secs.length) (hroom : D.pend.length + 4096 < 2 ^ 32) (hs : Secs D first count (logB 0 0 ds)) (hok : ∀ d ∈ ds, OkD d) (hl : (logB 0 0 ds).length ≤ count * 256) :
    Fn Tryd.prog B 33 #[.pointer (some ⟨b, 0, none⟩), .int .i64 i, .int .i64 j] [dskA b D] (OpenTx b first count ds D) := by
  refine (Wl.openAny B b D first count i j hi hj h1 hD hroom).mono fun u l h => ?_
  obtain ⟨g, q, cq, R, ds', D', e1, e2, e3, e4, e5, e6, e7, e8, e9, e10, e11⟩ := h
  rw [all_text hs hl, scan_text ds _ _ (by have := length_logB_le 0 0 ds; omega) hok] at e9
  injection e9 with f1 f2
  injection f2 with f2 f3
  have : ds' = ds := by rw [← logR_snd 0 ds', f3, logR_snd]
  subst this
  exact ⟨g, q, cq, R, D', e2, e3, e4, e5, e6, e8, e10, e11⟩
theorem rec0 {R : List WRec} (h : R.map (fun x : WRec => (x.mark, x.r.b)) = logR 0 []) : R = [] := by simpa [logR] using h
theorem rec1 {R : List WRec} {d : List UInt8} {n : Nat} (hn : 8 + d.length = n) (h : R.map (fun x : WRec => (x.mark, x.r.b)) = logR 0 [d]) : ∃ p c, R = [⟨n, p, c, d⟩] := by
  match R, h with
  | [], h => simp [logR] at h
  | [⟨m, p, c, d'⟩], h =>
    simp [logR] at h
    obtain ⟨h1, rfl⟩ := h
    exact ⟨p, c, by congr 1; congr 1; omega⟩
  | _ :: _ :: _, h => simp [logR] at h
theorem flushed_mk (first count : Nat) (ds : List (List UInt8)) (dur : Nat) : (mkW first count ds dur).flushed = mkW first count ds (logB 0 0 ds).length := rfl
theorem PartsV.blk2 {B : Base} {L : List Assn} {g : Nat} {v1 v2 : Value} {b1 b2 : List UInt8} (h1 : RdV B L v1 (bytesV b1)) (h2 : RdV B L v2 (bytesV b2)) [k : Rd B g L [v1, v2]] : PartsV B L (.slice (some ⟨g, 0, none⟩) 2 2) [b1, b2] := by
  refine ⟨[v1, v2], ⟨_, 2, rfl, .inr ⟨g, 0, rfl, fun w ho => ho.range (g := g) (C := [v1, v2]) (fun j u hj => by rw [Nat.zero_add]; exact hj)⟩⟩, rfl, fun i i1 i2 => ?_⟩
  match i, i1 with
  | 0, _ => exact h1
  | 1, _ => exact h2

abbrev abcW : List UInt8 := [97, 98, 99]
end Go.Proofs.YtegohgaccmkigaaDoor
