/- The statement WalPrefix. Conditions: that what is handed in can be read; sizes. -/
import Derived.Test.YtjjhbpjbngdlnaaDoorRlG
import Derived.Test.YtjjhbpjbngdlnaaDoorWlRd
set_option linter.unusedSimpArgs false
set_option linter.unusedVariables false
namespace Go.Proofs.YtjjhbpjbngdlnaaDoor
open Go.RowKit

/-- Byte for byte a sector behind a crash is an old one's or a new one's. -/
theorem lays_between (D : DD) (N : Nat → List UInt8) (f : Nat → Option Nat) (hD : D.Ok) (hf : ∀ i k, f i = some k → k ≤ 256) (hp : ∀ x ∈ D.pend, x.2 = N x.1) : ∀ (i j r : Nat), ((D.lays f i).getD j [])[r]? = (D.secs.getD j [])[r]? ∨ ((D.lays f i).getD j [])[r]? = (N j)[r]?
  | 0, j, r => .inl rfl
  | i + 1, j, r => by
    have ih := lays_between D N f hD hf hp i j r
    by_cases hi : i < D.pend.length
    · cases hk : f i with
      | none => rw [DD.lays_none D f i hi hk]; exact ih
      | some k =>
        rw [DD.lays_some D f i k hi hk]
        obtain ⟨h1, h2⟩ := DD.lays_ok hD f hf i
        have ha := hD.at_ _ (List.getElem_mem hi)
        have hd := hD.data _ (List.getElem_mem hi)
        have he := hp _ (List.getElem_mem hi)
        generalize D.pend[i] = x at *
        unfold layW
        by_cases e : x.1 = j
        · subst e
          rw [List.getD_eq_getElem?_getD, List.getElem?_set_self (by omega), Option.getD_some]
          by_cases hr : r < k
          · right
            rw [List.getElem?_append_left (by rw [List.length_take]; have := hf i k hk; omega), List.getElem?_take, if_pos hr, he]
          · rw [List.getElem?_append_right (by rw [List.length_take]; omega), List.length_take, List.getElem?_drop, show k + (r - min k x.2.length) = r by have := hf i k hk; omega]
            exact ih
        · rw [List.getD_eq_getElem?_getD, List.getElem?_set_ne e, ← List.getD_eq_getElem?_getD]
          exact ih
    · have : D.lays f (i + 1) = D.lays f i := by
        simp [DD.lays, List.getElem?_eq_none (show D.pend.length ≤ i by omega)]
      rw [this]; exact ih
set_option maxRecDepth 100000 in
theorem secW_get {st : List UInt8} {j r : Nat} (hr : r < 256) (h : j * 256 + r < st.length) : (secW st j)[r]? = st[j * 256 + r]? := by
  unfold secW
  rw [List.getElem?_append_left (by simp; omega), List.getElem?_take, if_pos hr, List.getElem?_drop]
set_option maxRecDepth 100000 in
theorem allD_get {D : DD} (h : D.Ok) {first n j r : Nat} (hn : first + n ≤ D.secs.length) (hj : j < n) (hr : r < 256) : (allD D first n)[j * 256 + r]? = (D.read (first + j))[r]? := by
  rw [allD_sec h n hn hj, List.getElem?_take, if_pos hr, List.getElem?_drop]
/-- The durable text lives through the crash. -/
theorem crash_keeps {D D1 : DD} {P : List (Nat × List UInt8)} {n : Nat} {st0 st : List UInt8} (ho : DD.Ok ⟨D.secs, P⟩) (hn : D.secs.length = n) (hpd : D.pend = []) (hs0 : Secs D 0 n st0) (hs1 : Secs D1 0 n st) (hpre : st.take st0.length = st0) (hl0 : st0.length ≤ n * 256) (hl : st.length ≤ n * 256)
    (hP : ∀ x ∈ P, x.2 = D1.read x.1) (keep : List Bool) (t a : Int) : (allD (DD.crash ⟨D.secs, P⟩ keep t a) 0 n).take st0.length = st0 := by
  have oc := ho.cr keep t a
  have ocl : (DD.crash ⟨D.secs, P⟩ keep t a).secs.length = n := (DD.crash_len ho keep t a).trans hn
  apply List.ext_getElem?
  intro i
  rw [List.getElem?_take]
  by_cases hi : i < st0.length
  · rw [if_pos hi]
    obtain ⟨j, r, rfl, hr⟩ : ∃ j r, i = j * 256 + r ∧ r < 256 := ⟨i / 256, i % 256, by omega, Nat.mod_lt _ (by omega)⟩
    have hj : j < n := by omega
    rw [allD_get oc (by omega) hj hr, Nat.zero_add, DD.rdN _ rfl]
    have hb := lays_between ⟨D.secs, P⟩ D1.read (amount keep t a) ho (amount_le _ _ _) hP P.length j r
    have h0 : (D.secs.getD j [])[r]? = st0[j * 256 + r]? := by
      rw [← DD.rdN D hpd, ← secW_get hr hi]
      have := hs0 j hj
      rw [Nat.zero_add] at this
      rw [this]
    have hst : st0.length ≤ st.length := by rw [← hpre, List.length_take]; omega
    have h1 : (D1.read j)[r]? = st0[j * 256 + r]? := by
      have := hs1 j hj
      rw [Nat.zero_add] at this
      rw [this, secW_get hr (by omega), ← hpre, List.getElem?_take, if_pos hi]
    rcases hb with hb | hb
    · exact hb.trans h0
    · exact hb.trans h1
  · rw [if_neg hi, List.getElem?_eq_none (by omega)]
theorem logB_take {s : UInt32} {k nd : Nat} {ds : List (List UInt8)} : (logB s k ds).take (logB s k (ds.take nd)).length = logB s k (ds.take nd) := by
  have : logB s k ds = logB s k (ds.take nd) ++ logB (logS s k (ds.take nd)) (k + (logB s k (ds.take nd)).length) (ds.drop nd) := by rw [← logB_app, List.take_append_drop]
  rw [this, List.take_left' rfl]
/-- The records found are at least those whose text is there. -/
theorem scan_least {al : List UInt8} {ds es : List (List UInt8)} {f k : Nat} {s : UInt32} (h : al.take (logB 0 0 ds).length = logB 0 0 ds) (hok : ∀ d ∈ ds, OkD d) (hf : ds.length ≤ f) (he : (k, s, logR 0 es) = scanW al f 0 0) : ds.length ≤ es.length := by
  have := scan_at ds 0 0 (f - ds.length) al (al.drop (logB 0 0 ds).length) (by rw [List.drop_zero]; conv => lhs; rw [← List.take_append_drop (logB 0 0 ds).length al]; rw [h]) hok
  rw [Nat.sub_add_cancel hf, ← he] at this
  have h2 := congrArg (fun x => x.2.2.length) this
  simp only [length_logR, List.length_append] at h2
  omega
abbrev moreW : List UInt8 := [109, 111, 114, 101]
theorem addW_more {first count dur : Nat} {ds : List (List UInt8)} (hok : ∀ x ∈ ds, OkD x) (hl : (logB 0 0 ds).length ≤ count * 256) : ∃ ds' r e, addW (mkW first count ds dur) moreW = (mkW first count ds' dur, r, e) ∧ (∀ x ∈ ds', OkD x) ∧ (logB 0 0 ds').length ≤ count * 256 ∧ (logB 0 0 ds).length ≤ (logB 0 0 ds').length ∧ (logB 0 0 ds').take (logB 0 0 ds).length = logB 0 0 ds ∧ ((e = 0 ∧ ds' = ds ++ [moreW]) ∨ (e = 3 ∧ ds' = ds)) := by
  obtain ⟨ds', r, e, h1, h2, h3, h4, h5, h6⟩ := addW_any (first := first) (dur := dur) moreW hok hl
  refine ⟨ds', r, e, h1, h2, h3, h4, h5, ?_⟩
  rcases h6 with h6 | ⟨h6, h7⟩
  · exact .inl h6
  · rcases addW_cases (mkW first count ds dur) moreW with (⟨h0, _⟩ | ⟨_, h0, _⟩ | ⟨_, _, _, e1⟩) | ⟨_, _, e1⟩
    · simp at h0
    · simp at h0
    · rw [h1] at e1; injection e1 with _ e1; injection e1 with _ e1; exact .inr ⟨e1, h7⟩
    · rw [h1] at e1; exact absurd e1 h6
theorem rec_last {R : List WRec} {ds : List (List UInt8)} {d : List UInt8} (h : R.map (fun x : WRec => (x.mark, x.r.b)) = logR 0 (ds ++ [d])) : ∃ x, R[ds.length]? = some x ∧ x.r.b = d := by
  have h1 : (R.map fun x : WRec => x.r.b) = ds ++ [d] := by
    have := congrArg (List.map Prod.snd) h
    rw [List.map_map, logR_snd] at this
    exact this
  have hl : R.length = ds.length + 1 := by rw [← List.length_map (f := fun x : WRec => x.r.b), h1]; simp
  have h2 := congrArg (fun l => l[ds.length]?) h1
  simp only [List.getElem?_map, List.getElem?_eq_getElem (show ds.length < R.length by omega)] at h2
  refine ⟨R[ds.length], List.getElem?_eq_getElem (by omega), ?_⟩
  simpa using h2
theorem rec_datas {R : List WRec} {ds : List (List UInt8)} (h : R.map (fun x : WRec => (x.mark, x.r.b)) = logR 0 ds) : (R.map fun x : WRec => x.r.b) = ds := by
  have := congrArg (List.map Prod.snd) h
  rw [List.map_map, logR_snd] at this
  exact this

set_option maxHeartbeats 16000000 in
set_option maxRecDepth 100000 in
theorem Rl.prefixes (B : Base) (v : Value) (ls : List (List UInt8)) (hv : RoLB B v ls) (h1 : ls.length ≤ 1048576) (h2 : ∀ x ∈ ls, x.length ≤ 1048576) (kind mark t0 t1 cut : Int) (vd vk : Value) (keep : List Bool) (hk : RoS B vk (boolsV keep)) :
    Fn Tryd.prog B 10 #[v, .agg #[.int .i64 kind, vd, .int .i64 mark, vk, .int .i64 t0, .int .i64 t1], .int .i64 cut] [] (fun v l => v = .bool true ∧ l = []) := by
  obtain ⟨a, c, rfl, hcap, hcell⟩ := hv
  refine Fn.enter3 220 Tryd.func10 rfl rfl (Nat.le_of_ble_eq_true rfl) (fun F => ?_)
  try simp only [List.cons_append, List.nil_append]
  refine T.seq ?_
  refine T.region ?_
  refine LW.e rfl (Ef.box [_, _, _, _, _, _] rfl rfl ?_)
  intro g4
  refine LW.q rfl (Qt.assign rfl) ?_
  refine LW.done ?_
  refine T.seq ?_
  refine T.seq ?_
  refine T.region ?_
  refine LW.e rfl (Ef.call (Wl.awake B) Tryd.func23 rfl rfl rfl ?_)
  rintro _ _ ⟨rfl, rfl⟩
  try simp only [List.cons_append, List.nil_append]
  first | refine LW.q rfl (Qt.notP rfl) ?_ | refine LW.q rfl (Qt.notB rfl) ?_
  refine LW.done ?_
  first | refine T.condF rfl ?_ | refine T.condPF rfl (by omega) ?_ | refine T.condBF rfl (by omega) ?_
  refine T.skip ?_
  refine T.seq ?_
  refine T.region ?_
  refine LW.e rfl (Ef.call (Dk.newF B 12 12 rfl (by omega) (by omega)) Tryd.func24 rfl rfl rfl ?_)
  rintro _ _ ⟨bd, rfl, rfl⟩
  try simp only [List.cons_append, List.nil_append]
  refine LW.q rfl (Qt.move rfl) ?_
  refine LW.q rfl (Qt.extract rfl rfl) ?_
  refine LW.q rfl (Qt.extract rfl rfl) ?_
  refine LW.q rfl (Qt.assign rfl) ?_
  refine LW.q rfl (Qt.assign rfl) ?_
  refine LW.done ?_
  refine T.seq ?_
  refine T.seq ?_
  refine T.region ?_
  refine LW.q rfl (Qt.move rfl) ?_
  first | refine LW.q rfl (Qt.eqlNil (by kernel_rfl) rfl rfl) ?_ | refine LW.q rfl (Qt.eqlNN (by kernel_rfl) rfl rfl) ?_
  refine LW.done ?_
  first | refine T.condF rfl ?_ | refine T.condPF rfl (by omega) ?_ | refine T.condBF rfl (by omega) ?_
  refine T.skip ?_
  refine T.seq ?_
  refine T.region ?_
  refine LW.q rfl (Qt.move rfl) ?_
  refine LW.e rfl (Ef.call (Wl.openText B bd ⟨List.replicate 12 zs, []⟩ 0 12 [] 0 12 rfl rfl (by omega) (by simp) (by simp) (Secs.new (by omega)) (by simp) (by simp [logB])) Tryd.func25 rfl rfl rfl ?_)
  rintro _ _ ⟨gl, q1, cq1, R1, D1, e1, e2, e3, e4, e5, e6, rfl, rfl⟩
  try simp only [List.cons_append, List.nil_append]
  rw [show (logB 0 0 []).length = (logB 0 0 (List.take 0 ([] : List (List UInt8)))).length from rfl]
  refine LW.q rfl (Qt.move rfl) ?_
  refine LW.q rfl (Qt.extract rfl rfl) ?_
  refine LW.q rfl (Qt.extract rfl rfl) ?_
  refine LW.q rfl (Qt.extract rfl rfl) ?_
  refine LW.q rfl (Qt.assign rfl) ?_
  refine LW.q rfl (Qt.assign rfl) ?_
  refine LW.q rfl (Qt.assign rfl) ?_
  refine LW.done ?_
  refine T.seq ?_
  refine T.seq ?_
  refine T.region ?_
  refine LW.q rfl (Qt.move rfl) ?_
  first | refine LW.q rfl (Qt.eqlNil (by kernel_rfl) rfl rfl) ?_ | refine LW.q rfl (Qt.eqlNN (by kernel_rfl) rfl rfl) ?_
  refine LW.q rfl (Qt.move rfl) ?_
  first | refine LW.gF (t := 49) rfl rfl ?_ | refine LW.gF (t := 49) rfl (decide_eq_false (by omega)) ?_ | refine LW.gF (t := 49) rfl (by omega) ?_
  refine LW.q rfl (Qt.move rfl) ?_
  refine LW.q rfl (Qt.neq rfl rfl) ?_
  refine LW.q rfl (Qt.pick rfl rfl) ?_
  refine LW.done ?_
  first | refine T.condF rfl ?_ | refine T.condPF rfl (by omega) ?_ | refine T.condBF rfl (by omega) ?_
  have hl1 : D1.secs.length = 12 := by rw [e3]; rfl
  refine T.conv (fun w ho => Rf.nilS ho) ?_
  refine T.skip ?_
  refine T.seq ?_
  refine T.region ?_
  refine LW.q rfl (Qt.assign rfl) ?_
  refine LW.done ?_
  refine T.seq ?_
  refine T.region ?_
  refine LW.q rfl (Qt.assign rfl) ?_
  refine LW.done ?_
  refine T.seq ?_
  refine T.seq ?_
  refine T.region ?_
  refine LW.q rfl (Qt.move rfl) ?_
  refine LW.q rfl (Qt.len (e := 22) (sz := 1) (by kernel_rfl) rfl) ?_
  refine LW.q rfl (Qt.move rfl) ?_
  refine LW.done ?_
  refine T.block ?_
  refine T.loop (fun mz fz lz => ∃ (f0 : Fr) (k nd n : Nat) (ds : List (List UInt8)) (D : DD) (p : Option Addr) (cc : Nat), (k ≤ ls.length ∧ (∀ d ∈ ds, OkD d) ∧ (logB 0 0 ds).length ≤ 12 * 256 ∧ nd ≤ ds.length ∧ n = ds.length ∧ D.Ok ∧ D.secs.length = 12 ∧ D.pend = [] ∧ Secs D 0 12 (logB 0 0 (ds.take nd))) ∧ mz = ls.length - k ∧ fz = (upd (upd (upd (upd (upd (upd (upd (upd (upd (upd f0 0 (.slice a ls.length c)) 2 (.int .i64 cut)) 4 (.pointer (some ⟨g4, 0, none⟩))) 7 (.pointer (some ⟨bd, 0, none⟩))) 9 (.pointer (some ⟨gl, 0, none⟩))) 12 (.slice p n cc)) 13 (.int .i64 nd)) 53 (.slice a ls.length c)) 54 (.int .i64 ls.length)) 55 (.int .i64 k)) ∧ lz = wlA gl bd (mkW 0 12 ds (logB 0 0 (ds.take nd)).length) :: dskA bd D :: rS (.slice p n cc) n ds :: blk g4 [.int .i64 kind, vd, .int .i64 mark, vk, .int .i64 t0, .int .i64 t1] 76 :: F) ?_ ?_
  · refine ⟨_, _, ⟨_, 0, 0, 0, [], D1, none, 0, ⟨Nat.zero_le _, by simp, by simp [logB], Nat.le_refl _, rfl, e2, hl1, e4, e5⟩, rfl, (updS rfl (updS rfl (updS rfl (updS rfl (updS rfl (updS rfl (updS rfl (updS rfl (updS rfl (updS rfl rfl)))))))))), rfl⟩, Sub.any⟩
  · skip
    rintro mz fz lz ⟨f0, k, nd, n, ds, D, p, cc, ⟨hk0, hok, hlen, hnd, hn, ho, hl, hp, hs⟩, hmz, rfl, rfl⟩
    subst mz
    try simp only [List.cons_append, List.nil_append]
    have hnl : n ≤ 3072 := by have := length_logB_le 0 0 ds; omega
    refine T.seq ?_
    refine T.region ?_
    refine LW.q rfl (Qt.lss rfl rfl) ?_
    refine LW.done ?_
    refine T.seq ?_
    refine T.condP rfl (fun hlt => ?_) (fun hlt => ?_)
    · skip
      obtain ⟨kb, ko, C, rfl, hro, hC⟩ := hcell.resolve_left (by intro e; rw [e] at hlt; simp at hlt; omega)
      obtain ⟨da, dc, hrd, hdv⟩ := hC k (by omega)
      have hxl := h2 _ (List.getElem_mem (show k < ls.length by omega))
      obtain ⟨xk, hxk⟩ : ∃ xk, ls[k]'(by omega) = xk := ⟨_, rfl⟩
      rw [hxk] at hrd hdv hxl
      obtain ⟨ds', r', e', b1, b2, b3, b4, b5, b6⟩ := addW_any (first := 0) (count := 12) (dur := (logB 0 0 (ds.take nd)).length) xk hok hlen
      have hdt : ds'.take nd = ds.take nd := by rcases b6 with ⟨_, rfl⟩ | ⟨_, rfl⟩; exact List.take_append_of_le_length hnd; rfl
      have hlt0 : (logB 0 0 (ds.take nd)).length ≤ (logB 0 0 ds).length := by have := congrArg List.length (logB_take (s := 0) (k := 0) (nd := nd) (ds := ds)); rw [List.length_take] at this; omega
      have hs' : Secs D 0 12 ((logB 0 0 ds').take (logB 0 0 (ds.take nd)).length) := by rw [← hdt, logB_take, hdt]; exact hs
      refine T.skip ?_
      refine T.seq ?_
      refine T.block ?_
      refine T.seq ?_
      refine T.region ?_
      refine LW.q rfl (Qt.move rfl) ?_
      refine LW.q rfl (Qt.index _ (e := 22) (sz := 1) (by kernel_rfl) rfl rfl rfl (by omega)) ?_
      refine LW.q rfl (Qt.load (v := .slice da xk.length dc) (by kernel_rfl) rfl hrd.1) ?_
      refine LW.q rfl (Qt.assign rfl) ?_
      refine LW.q rfl (Qt.assign rfl) ?_
      refine LW.done ?_
      refine T.cut (fun fz lz => ∃ (f0 : Fr) (n' : Nat) (p' : Option Addr) (cc' : Nat), (n' = ds'.length) ∧ fz = (upd (upd (upd (upd (upd (upd (upd (upd (upd (upd (upd f0 0 (.slice (some ⟨kb, ko, none⟩) ls.length c)) 2 (.int .i64 cut)) 4 (.pointer (some ⟨g4, 0, none⟩))) 7 (.pointer (some ⟨bd, 0, none⟩))) 9 (.pointer (some ⟨gl, 0, none⟩))) 12 (.slice p' n' cc')) 13 (.int .i64 nd)) 14 (.int .i64 k)) 53 (.slice (some ⟨kb, ko, none⟩) ls.length c)) 54 (.int .i64 ls.length)) 55 (.int .i64 k)) ∧ lz = wlA gl bd (mkW 0 12 ds' (logB 0 0 (ds.take nd)).length) :: dskA bd D :: rS (.slice p' n' cc') n' ds' :: blk g4 [.int .i64 kind, vd, .int .i64 mark, vk, .int .i64 t0, .int .i64 t1] 76 :: F) ?_ ?_
      · skip
        refine T.seq ?_
        refine T.region ?_
        refine LW.q rfl (Qt.move rfl) ?_
        refine LW.q rfl (Qt.move rfl) ?_
        refine LW.e rfl (Ef.one [_] (e := 22) (sz := 1) (by kernel_rfl) ⟨.slice none 0 0, by kernel_rfl, rfl⟩ rfl rfl rfl (by omega) (by omega) ?_)
        intro g63
        refine LW.e rfl (Ef.call (Wl.add B [blk g63 [.slice da xk.length dc] 22] gl bd (mkW 0 12 ds (logB 0 0 (ds.take nd)).length) (some ⟨g63, 0, none⟩) 1 [xk] 1 rfl (PartsV.one (hdv.rd _)) (by simp) (by simp) xk (by simp) (by omega) (by simp [mkW]) hlen) Tryd.func26 rfl rfl rfl ?_)
        rintro _ _ ⟨rfl, rfl⟩
        try simp only [List.cons_append, List.nil_append]
        simp only [b1]
        refine LW.q rfl (Qt.move rfl) ?_
        refine LW.q rfl (Qt.extract rfl rfl) ?_
        refine LW.q rfl (Qt.extract rfl rfl) ?_
        refine LW.q rfl (Qt.assign rfl) ?_
        refine LW.q rfl (Qt.assign rfl) ?_
        refine LW.done ?_
        refine T.seq ?_
        refine T.region ?_
        refine LW.q rfl (Qt.move rfl) ?_
        refine LW.q rfl (Qt.eql rfl rfl) ?_
        refine LW.done ?_
        by_cases he : e' = 0
        · skip
          obtain rfl : ds' = ds ++ [xk] := by rcases b6 with ⟨_, h⟩ | ⟨h, _⟩; exact h; exact absurd he h
          first | refine T.condT rfl ?_ | refine T.condPT rfl (by omega) ?_ | refine T.condBT rfl (by omega) ?_
          refine T.region ?_
          refine LW.q rfl (Qt.move rfl) ?_
          refine LW.q rfl (Qt.move rfl) ?_
          refine LW.q rfl (Qt.str xk (by kernel_rfl) (by kernel_rfl) rfl (hdv.rd _).str) ?_
          refine LW.e rfl (Ef.one [_] (e := 9) (sz := 1) (by kernel_rfl) ⟨.string .empty, by kernel_rfl, rfl⟩ rfl rfl rfl (by omega) (by omega) ?_)
          intro g72
          refine LW.e rfl (Ef.append Rf.elemS rfl rfl (SrcOf.blk (by kernel_rfl) rfl (by simp [Value.oneCell'])) (by unfold maxLen; omega) (by omega) ?_)
          rintro p2 a2 hp2
          try simp only [List.cons_append, List.nil_append]
          rw [show Value.string (strOf xk) = strW xk from rfl, map_snoc]
          refine LW.q rfl (Qt.assign rfl) ?_
          refine LW.done ?_
          exact ⟨_, ⟨_, n + 1, p2, a2, by simp [hn], (updS rfl (updS rfl (updS rfl (updS rfl (updS rfl (updS rfl (updS rfl (updS rfl (updS rfl (updS rfl (updS rfl rfl))))))))))), rfl⟩, Sub.any⟩
        · skip
          obtain rfl : ds' = ds := by rcases b6 with ⟨h, _⟩ | ⟨_, h⟩; exact absurd h he; exact h
          first | refine T.condF rfl ?_ | refine T.condPF rfl (by omega) ?_ | refine T.condBF rfl (by omega) ?_
          refine T.skip ?_
          exact ⟨_, ⟨_, n, p, cc, hn, (updS rfl (updS rfl (updS rfl (updS rfl (updS rfl (updS rfl (updS rfl (updS rfl (updS rfl (updS rfl (updS rfl rfl))))))))))), rfl⟩, Sub.any⟩
      rintro fz lz ⟨f0, n', p', cc', hn', rfl, rfl⟩
      try simp only [List.cons_append, List.nil_append]
      refine T.seq ?_
      refine T.region ?_
      refine LW.q rfl (Qt.move rfl) ?_
      refine LW.q rfl (Qt.move rfl) ?_
      refine LW.q rfl (Qt.eql rfl rfl) ?_
      refine LW.done ?_
      refine T.condP rfl (fun hcut => ?_) (fun hcut => ?_)
      · skip
        obtain ⟨f1, f2, f3⟩ := flushE_ok (W := mkW 0 12 ds' (logB 0 0 (ds.take nd)).length) ho (by simp [mkW]; omega) b3 (by show (logB 0 0 (ds.take nd)).length ≤ (logB 0 0 ds').length; omega) hp
        have f4 := flushE_secs (W := mkW 0 12 ds' (logB 0 0 (ds.take nd)).length) ho (by simp [mkW]; omega) hs' (by show (logB 0 0 (ds.take nd)).length ≤ (logB 0 0 ds').length; omega) b3
        obtain ⟨D2, hD2⟩ : ∃ D2, flushE (mkW 0 12 ds' (logB 0 0 (ds.take nd)).length) D = D2 := ⟨_, rfl⟩
        rw [hD2] at f1 f2 f3 f4
        refine T.seq ?_
        refine T.region ?_
        refine LW.q rfl (Qt.move rfl) ?_
        refine LW.e rfl (Ef.call (Wl.flush B gl bd (mkW 0 12 ds' (logB 0 0 (ds.take nd)).length) D (by simp [mkW]; omega) (by omega) b3 (by show (logB 0 0 (ds.take nd)).length ≤ (logB 0 0 ds').length; omega) (by rw [hp]; simp)) Tryd.func27 rfl rfl rfl ?_)
        rintro _ _ ⟨rfl, rfl⟩
        try simp only [List.cons_append, List.nil_append]
        rw [hD2, flushed_mk, show (logB 0 0 ds').length = (logB 0 0 (ds'.take n')).length by rw [hn', List.take_length]]
        refine LW.done ?_
        refine T.region ?_
        refine LW.q rfl (Qt.move rfl) ?_
        refine LW.q rfl (Qt.len (e := 9) (sz := 1) (by kernel_rfl) rfl) ?_
        refine LW.q rfl (Qt.assign rfl) ?_
        refine LW.done ?_
        refine T.region ?_
        refine LW.q rfl (Qt.add rfl rfl (wr64 (by omega) (by omega))) ?_
        refine LW.q rfl (Qt.move rfl) ?_
        refine LW.done ?_
        refine ⟨_, ?_, _, ⟨_, k + 1, n', n', ds', D2, p', cc', ⟨by omega, b2, b3, by omega, hn', f1, f2.trans hl, f3, by rw [hn', List.take_length]; exact f4⟩, rfl, (updS rfl (updS rfl (updS rfl (updS rfl (updS rfl (updS rfl (updS rfl (updS rfl (updS rfl (updS rfl rfl)))))))))), rfl⟩, Sub.any⟩
        first | omega | (simp; omega)
      · skip
        have hnd' : nd ≤ ds'.length := by rcases b6 with ⟨_, rfl⟩ | ⟨_, rfl⟩; simp; omega; exact hnd
        rw [← hdt]
        refine T.skip ?_
        refine T.region ?_
        refine LW.q rfl (Qt.add rfl rfl (wr64 (by omega) (by omega))) ?_
        refine LW.q rfl (Qt.move rfl) ?_
        refine LW.done ?_
        refine ⟨_, ?_, _, ⟨_, k + 1, nd, n', ds', D, p', cc', ⟨by omega, b2, b3, hnd', hn', ho, hl, hp, by rw [hdt]; exact hs⟩, rfl, (updS rfl (updS rfl (updS rfl (updS rfl (updS rfl (updS rfl (updS rfl (updS rfl (updS rfl (updS rfl rfl)))))))))), rfl⟩, Sub.any⟩
        first | omega | (simp; omega)
    · skip
      clear hlt hk0
      obtain ⟨Sc, rfl⟩ : ∃ Sc, D = ⟨Sc, []⟩ := ⟨D.secs, by cases D; simp_all⟩
      replace hl : Sc.length = 12 := hl
      obtain ⟨ds0, hds0⟩ : ∃ ds0, ds.take nd = ds0 := ⟨_, rfl⟩
      have hok0 : ∀ d ∈ ds0, OkD d := by rw [← hds0]; exact fun d hd => hok d (List.mem_of_mem_take hd)
      have hl00 : ds0.length = nd := by rw [← hds0]; simp; omega
      have htk : (logB 0 0 ds).take (logB 0 0 ds0).length = logB 0 0 ds0 := by rw [← hds0]; exact logB_take
      have hlt0 : (logB 0 0 ds0).length ≤ (logB 0 0 ds).length := by have := congrArg List.length htk; rw [List.length_take] at this; omega
      rw [hds0] at hs
      rw [hds0]
      refine T.exit ?_
      refine T.seq ?_
      refine T.region ?_
      refine LW.q rfl (Qt.move rfl) ?_
      refine LW.e rfl (Ef.call (Dk.forkF B bd ⟨Sc, []⟩ (by simp)) Tryd.func45 rfl rfl rfl ?_)
      rintro _ _ ⟨bf, rfl, rfl⟩
      try simp only [List.cons_append, List.nil_append]
      refine LW.q rfl (Qt.assign rfl) ?_
      refine LW.done ?_
      refine T.seq ?_
      refine T.seq ?_
      refine T.region ?_
      refine LW.q rfl (Qt.move rfl) ?_
      first | refine LW.q rfl (Qt.eqlNil (by kernel_rfl) rfl rfl) ?_ | refine LW.q rfl (Qt.eqlNN (by kernel_rfl) rfl rfl) ?_
      refine LW.done ?_
      first | refine T.condF rfl ?_ | refine T.condPF rfl (by omega) ?_ | refine T.condBF rfl (by omega) ?_
      have hs' : Secs ⟨Sc, []⟩ 0 12 ((logB 0 0 ds).take (logB 0 0 ds0).length) := by rw [htk]; exact hs
      obtain ⟨f1, f2, f3⟩ := flushE_ok (W := mkW 0 12 ds (logB 0 0 ds0).length) ho (by show 0 + 12 ≤ Sc.length; omega) hlen hlt0 rfl
      have f4 := flushE_secs (W := mkW 0 12 ds (logB 0 0 ds0).length) ho (by show 0 + 12 ≤ Sc.length; omega) hs' hlt0 hlen
      obtain ⟨D2, hD2⟩ : ∃ D2, flushE (mkW 0 12 ds (logB 0 0 ds0).length) ⟨Sc, []⟩ = D2 := ⟨_, rfl⟩
      rw [hD2] at f1 f2 f3 f4
      have f2' : D2.secs.length = 12 := f2.trans hl
      refine T.skip ?_
      refine T.seq ?_
      refine T.region ?_
      refine LW.q rfl (Qt.move rfl) ?_
      refine LW.e rfl (Ef.call (Wl.flush B gl bd (mkW 0 12 ds (logB 0 0 ds0).length) ⟨Sc, []⟩ (by show 0 + 12 ≤ Sc.length; omega) (by show Sc.length ≤ _; omega) hlen hlt0 (by simp)) Tryd.func27 rfl rfl rfl ?_)
      rintro _ _ ⟨rfl, rfl⟩
      try simp only [List.cons_append, List.nil_append]
      rw [hD2]
      refine LW.done ?_
      refine T.seq ?_
      refine T.seq ?_
      refine T.region ?_
      refine LW.q rfl (Qt.assign rfl) ?_
      refine LW.done ?_
      refine T.block ?_
      refine T.loop (fun mz fz lz => ∃ (f0 : Fr) (i m : Nat) (P : List (Nat × List UInt8)), (i ≤ 12 ∧ m = P.length ∧ m ≤ i ∧ DD.Ok ⟨Sc, P⟩ ∧ ∀ x ∈ P, x.2 = D2.read x.1) ∧ mz = 12 - i ∧ fz = (upd (upd (upd (upd (upd (upd f0 4 (.pointer (some ⟨g4, 0, none⟩))) 7 (.pointer (some ⟨bd, 0, none⟩))) 12 (.slice p n cc)) 13 (.int .i64 nd)) 18 (.pointer (some ⟨bf, 0, none⟩))) 19 (.int .i64 i)) ∧ lz = dskA bf ⟨Sc, P⟩ :: dskA bd D2 :: rS (.slice p n cc) n ds :: blk g4 [.int .i64 kind, vd, .int .i64 mark, vk, .int .i64 t0, .int .i64 t1] 76 :: F) ?_ ?_
      · refine ⟨_, _, ⟨_, 0, 0, [], ⟨Nat.zero_le _, rfl, Nat.le_refl _, ho, by simp⟩, rfl, (updS rfl (updS rfl (updS rfl (updS rfl (updS rfl (updS rfl rfl)))))), rfl⟩, Sub.any⟩
      · skip
        rintro mz fz lz ⟨f0, i, m, P, ⟨hi, hm, hmi, ho2, hP⟩, hmz, rfl, rfl⟩
        subst mz
        try simp only [List.cons_append, List.nil_append]
        refine T.seq ?_
        refine T.seq ?_
        refine T.region ?_
        refine LW.q rfl (Qt.move rfl) ?_
        refine LW.q rfl (Qt.lss rfl rfl) ?_
        refine LW.done ?_
        refine T.condP rfl (fun hlt => ?_) (fun hlt => ?_)
        · skip
          have hra : (DD.read ⟨Sc, P⟩ i).length = 256 := ho2.rd i (by show i < Sc.length; omega)
          have hrb : (D2.read i).length = 256 := f1.rd i (by omega)
          refine T.skip ?_
          refine T.seq ?_
          refine T.block ?_
          refine T.seq ?_
          refine T.region ?_
          refine LW.q rfl (Qt.move rfl) ?_
          refine LW.q rfl (Qt.move rfl) ?_
          refine LW.e rfl (Ef.call (Dk.readF B bf ⟨Sc, P⟩ i i rfl (by show i < Sc.length; omega) (by show P.length < _; omega)) Tryd.func43 rfl rfl rfl ?_)
          rintro _ _ ⟨g5, c5, rfl, rfl⟩
          try simp only [List.cons_append, List.nil_append]
          refine LW.q rfl (Qt.move rfl) ?_
          refine LW.q rfl (Qt.extract rfl rfl) ?_
          refine LW.q rfl (Qt.extract rfl rfl) ?_
          refine LW.q rfl (Qt.assign rfl) ?_
          refine LW.q rfl (Qt.assign rfl) ?_
          refine LW.done ?_
          refine T.seq ?_
          refine T.region ?_
          refine LW.q rfl (Qt.move rfl) ?_
          refine LW.q rfl (Qt.move rfl) ?_
          refine LW.e rfl (Ef.call (Dk.readF B bd D2 i i rfl (by omega) (by rw [f3]; simp)) Tryd.func43 rfl rfl rfl ?_)
          rintro _ _ ⟨g6, c6, rfl, rfl⟩
          try simp only [List.cons_append, List.nil_append]
          refine LW.q rfl (Qt.move rfl) ?_
          refine LW.q rfl (Qt.extract rfl rfl) ?_
          refine LW.q rfl (Qt.extract rfl rfl) ?_
          refine LW.q rfl (Qt.assign rfl) ?_
          refine LW.q rfl (Qt.assign rfl) ?_
          refine LW.done ?_
          refine T.seq ?_
          refine T.region ?_
          refine LW.q rfl (Qt.move rfl) ?_
          refine LW.q rfl (Qt.str (DD.read ⟨Sc, P⟩ i) (by kernel_rfl) (by kernel_rfl) rfl (fun w ho => (RdV.rB (p := some ⟨g5, 0, none⟩) (c := c5) hra (fun _ => ⟨_, rfl⟩)).reads w (ho.map Sub.any))) ?_
          refine LW.q rfl (Qt.move rfl) ?_
          refine LW.q rfl (Qt.str (D2.read i) (by kernel_rfl) (by kernel_rfl) rfl (fun w ho => (RdV.rB (p := some ⟨g6, 0, none⟩) (c := c6) hrb (fun _ => ⟨_, rfl⟩)).reads w (ho.map Sub.any))) ?_
          refine LW.q rfl (Qt.neqS rfl rfl) ?_
          refine LW.done ?_
          refine T.condP rfl (fun hne => ?_) (fun hne => ?_)
          · skip
            refine T.region ?_
            refine LW.q rfl (Qt.move rfl) ?_
            refine LW.q rfl (Qt.move rfl) ?_
            refine LW.q rfl (Qt.move rfl) ?_
            refine LW.e rfl (Ef.call (Dk.writeF B bf ⟨Sc, P⟩ (rB (.slice (some ⟨g6, 0, none⟩) 256 c6) 256 (D2.read i)) g6 0 c6 i i rfl (D2.read i) (row_bytes (p := none)) (by show i < Sc.length; omega) hrb (by show P.length < _; omega)) Tryd.func34 rfl rfl rfl ?_)
            rintro _ _ ⟨rfl, rfl⟩
            try simp only [List.cons_append, List.nil_append]
            rw [show DD.write ⟨Sc, P⟩ i (D2.read i) = ⟨Sc, P ++ [(i, D2.read i)]⟩ from rfl]
            refine LW.done ?_
            refine T.region ?_
            refine LW.q rfl (Qt.move rfl) ?_
            refine LW.q rfl (Qt.add rfl rfl (wr64 (by omega) (by omega))) ?_
            refine LW.q rfl (Qt.assign rfl) ?_
            refine LW.done ?_
            refine ⟨_, ?_, _, ⟨_, i + 1, m + 1, P ++ [(i, D2.read i)], ⟨by omega, by simp; omega, by omega, ho2.wr2 i (D2.read i) (by show i < Sc.length; omega) hrb, by intro x hx; rcases List.mem_append.1 hx with hx | hx; exact hP x hx; simp at hx; subst hx; rfl⟩, rfl, (updS rfl (updS rfl (updS rfl (updS rfl (updS rfl (updS rfl rfl)))))), rfl⟩, Sub.any⟩
            first | omega | (simp; omega)
          · skip
            refine T.skip ?_
            refine T.region ?_
            refine LW.q rfl (Qt.move rfl) ?_
            refine LW.q rfl (Qt.add rfl rfl (wr64 (by omega) (by omega))) ?_
            refine LW.q rfl (Qt.assign rfl) ?_
            refine LW.done ?_
            refine ⟨_, ?_, _, ⟨_, i + 1, m, P, ⟨by omega, hm, by omega, ho2, hP⟩, rfl, (updS rfl (updS rfl (updS rfl (updS rfl (updS rfl (updS rfl rfl)))))), rfl⟩, Sub.any⟩
            first | omega | (simp; omega)
        · skip
          clear hlt
          have oc := ho2.cr keep t0 t1
          have ocl := DD.crash_len ho2 keep t0 t1
          have hkeep := crash_keeps (D := ⟨Sc, []⟩) ho2 hl rfl hs f4 htk (by show (logB 0 0 ds0).length ≤ _; omega) hlen hP keep t0 t1
          obtain ⟨S5, hS5⟩ : ∃ S5, (DD.crash ⟨Sc, P⟩ keep t0 t1) = ⟨S5, []⟩ := ⟨_, rfl⟩
          rw [show DD.crash ⟨(⟨Sc, []⟩ : DD).secs, P⟩ keep t0 t1 = ⟨S5, []⟩ from hS5] at hkeep
          rw [hS5] at oc ocl
          have ocl6 : S5.length = 12 := ocl.trans hl
          refine T.exit ?_
          refine T.seq ?_
          refine T.region ?_
          refine LW.q rfl (Qt.move rfl) ?_
          refine LW.q rfl (Qt.fieldAddr (off := 3) (by kernel_rfl) rfl) ?_
          first | refine LW.q rfl (Qt.load (by kernel_rfl) rfl rfl) ?_ | refine LW.q rfl (Qt.load (by kernel_rfl) rfl (map_at _ _ _ (by omega))) ?_ | refine LW.q rfl (Qt.load (by kernel_rfl) rfl (flat_cell0 _ _ _ (by intros; rfl) _ (by omega) (by rfl))) ?_ | refine LW.q rfl (Qt.load (by kernel_rfl) rfl (flat_cell _ _ _ (by intros; rfl) _ _ (by omega) (by rfl))) ?_ | refine LW.q rfl (Qt.load (by kernel_rfl) rfl (bytes_at _ _ (by omega))) ?_
          refine LW.q rfl (Qt.fieldAddr (off := 4) (by kernel_rfl) rfl) ?_
          refine LW.q rfl (Qt.indexA 0 (len := 2) (e := 3) (sz := 1) (by kernel_rfl) rfl rfl rfl (by omega)) ?_
          first | refine LW.q rfl (Qt.load (by kernel_rfl) rfl rfl) ?_ | refine LW.q rfl (Qt.load (by kernel_rfl) rfl (map_at _ _ _ (by omega))) ?_ | refine LW.q rfl (Qt.load (by kernel_rfl) rfl (flat_cell0 _ _ _ (by intros; rfl) _ (by omega) (by rfl))) ?_ | refine LW.q rfl (Qt.load (by kernel_rfl) rfl (flat_cell _ _ _ (by intros; rfl) _ _ (by omega) (by rfl))) ?_ | refine LW.q rfl (Qt.load (by kernel_rfl) rfl (bytes_at _ _ (by omega))) ?_
          refine LW.q rfl (Qt.fieldAddr (off := 4) (by kernel_rfl) rfl) ?_
          refine LW.q rfl (Qt.indexA 1 (len := 2) (e := 3) (sz := 1) (by kernel_rfl) rfl rfl rfl (by omega)) ?_
          first | refine LW.q rfl (Qt.load (by kernel_rfl) rfl rfl) ?_ | refine LW.q rfl (Qt.load (by kernel_rfl) rfl (map_at _ _ _ (by omega))) ?_ | refine LW.q rfl (Qt.load (by kernel_rfl) rfl (flat_cell0 _ _ _ (by intros; rfl) _ (by omega) (by rfl))) ?_ | refine LW.q rfl (Qt.load (by kernel_rfl) rfl (flat_cell _ _ _ (by intros; rfl) _ _ (by omega) (by rfl))) ?_ | refine LW.q rfl (Qt.load (by kernel_rfl) rfl (bytes_at _ _ (by omega))) ?_
          refine LW.e rfl (Ef.call (Dk.crashF B bf ⟨Sc, P⟩ vk keep t0 t1 hk (by show P.length < _; omega)) Tryd.func37 rfl rfl rfl ?_)
          rintro _ _ ⟨rfl, rfl⟩
          try simp only [List.cons_append, List.nil_append]
          rw [hS5]
          refine LW.done ?_
          refine T.seq ?_
          refine T.seq ?_
          refine T.region ?_
          refine LW.q rfl (Qt.move rfl) ?_
          refine LW.q rfl (Qt.move rfl) ?_
          refine LW.e rfl (Ef.call (Rl.prefixed B bf ⟨S5, []⟩ 12 ocl6 oc (by simp) p cc n ds hn.symm (by omega)) Tryd.func46 rfl rfl rfl ?_)
          rintro _ _ ⟨bb, kk, ss, R, rfl, y1, y2, rfl⟩
          try simp only [List.cons_append, List.nil_append]
          first | refine LW.q rfl (Qt.notP rfl) ?_ | refine LW.q rfl (Qt.notB rfl) ?_
          refine LW.done ?_
          by_cases hbb : bb = true
          · skip
            subst hbb
            first | refine T.condF rfl ?_ | refine T.condPF rfl (by omega) ?_ | refine T.condBF rfl (by omega) ?_
            refine T.skip ?_
            refine T.seq ?_
            refine T.region ?_
            refine LW.q rfl (Qt.move rfl) ?_
            refine LW.e rfl (Ef.call (Wl.openAny B bf ⟨S5, []⟩ 0 12 0 12 rfl rfl (by omega) (by show 0 + 12 ≤ S5.length; omega) (by simp)) Tryd.func25 rfl rfl rfl ?_)
            rintro _ _ ⟨gk, q3, cq3, R3, es, D6, w1, w2, w3, w4, w5, w6, w7, w8, w9, rfl, rfl⟩
            try simp only [List.cons_append, List.nil_append]
            have hge : nd ≤ es.length := by rw [← hl00]; exact scan_least hkeep hok0 (by have := length_logB_le 0 0 ds0; omega) w9
            rw [y1] at w9
            injection w9 with _ w9
            injection w9 with _ w9
            obtain ⟨z1, z2⟩ := y2 rfl
            subst w9
            rw [length_logR] at z1
            have z3 : ∀ i, i < es.length → ds[i]? = es[i]? := fun i hi => by rw [z2 i (by rw [length_logR]; exact hi)]; have := congrArg (fun l => l[i]?) (logR_snd 0 es); simp only [List.getElem?_map, List.getElem?_eq_getElem (show i < (logR 0 es).length by rw [length_logR]; exact hi), Option.map_some] at this; exact this
            have hl6 : D6.secs.length = 12 := w4.trans ocl6
            have hR3 : R3.length = es.length := by rw [← length_logR 0 es, ← w2, List.length_map]
            refine LW.own (fun w ho => ?_)
            have hq3 : 0 < es.length → ∃ g, q3 = some ⟨g, 0, none⟩ := (ho.slice_at (p := q3) (m := es.length) (c := cq3)).2.1
            have hro3 : RecOk (R3.map WRec.r) := ho.tl.recOk
            clear ho
            refine LW.q rfl (Qt.move rfl) ?_
            refine LW.q rfl (Qt.extract rfl rfl) ?_
            refine LW.q rfl (Qt.extract rfl rfl) ?_
            refine LW.q rfl (Qt.extract rfl rfl) ?_
            refine LW.q rfl (Qt.assign rfl) ?_
            refine LW.q rfl (Qt.assign rfl) ?_
            refine LW.q rfl (Qt.assign rfl) ?_
            refine LW.done ?_
            refine T.seq ?_
            refine T.seq ?_
            refine T.region ?_
            refine LW.q rfl (Qt.move rfl) ?_
            first | refine LW.q rfl (Qt.eqlNil (by kernel_rfl) rfl rfl) ?_ | refine LW.q rfl (Qt.eqlNN (by kernel_rfl) rfl rfl) ?_
            refine LW.q rfl (Qt.move rfl) ?_
            first | refine LW.gF (t := 135) rfl rfl ?_ | refine LW.gF (t := 135) rfl (decide_eq_false (by omega)) ?_ | refine LW.gF (t := 135) rfl (by omega) ?_
            refine LW.q rfl (Qt.move rfl) ?_
            refine LW.q rfl (Qt.neq rfl rfl) ?_
            refine LW.q rfl (Qt.pick rfl rfl) ?_
            refine LW.q rfl (Qt.move rfl) ?_
            first | refine LW.gF (t := 139) rfl rfl ?_ | refine LW.gF (t := 139) rfl (decide_eq_false (by omega)) ?_ | refine LW.gF (t := 139) rfl (by omega) ?_
            refine LW.q rfl (Qt.move rfl) ?_
            refine LW.q rfl (Qt.len (e := 59) (sz := 2) (by kernel_rfl) rfl) ?_
            refine LW.q rfl (Qt.move rfl) ?_
            refine LW.q rfl (Qt.lss rfl rfl) ?_
            refine LW.q rfl (Qt.pick rfl rfl) ?_
            refine LW.q rfl (Qt.move rfl) ?_
            first | refine LW.gF (t := 145) rfl rfl ?_ | refine LW.gF (t := 145) rfl (decide_eq_false (by omega)) ?_ | refine LW.gF (t := 145) rfl (by omega) ?_
            refine LW.q rfl (Qt.move rfl) ?_
            refine LW.q rfl (Qt.len (e := 59) (sz := 2) (by kernel_rfl) rfl) ?_
            refine LW.q rfl (Qt.move rfl) ?_
            refine LW.q rfl (Qt.len (e := 9) (sz := 1) (by kernel_rfl) rfl) ?_
            refine LW.q rfl (Qt.gtr rfl rfl) ?_
            refine LW.q rfl (Qt.pick rfl rfl) ?_
            refine LW.done ?_
            first | refine T.condF rfl ?_ | refine T.condPF rfl (by omega) ?_ | refine T.condBF rfl (by omega) ?_
            refine T.own (fun w ho => ?_)
            have hpp : 0 < n → ∃ g, p = some ⟨g, 0, none⟩ := (ho.slice_at (p := p) (m := n) (c := cc)).2.1
            clear ho
            refine T.skip ?_
            refine T.seq ?_
            refine T.seq ?_
            refine T.region ?_
            refine LW.q rfl (Qt.move rfl) ?_
            refine LW.q rfl (Qt.len (e := 59) (sz := 2) (by kernel_rfl) rfl) ?_
            refine LW.q rfl (Qt.move rfl) ?_
            refine LW.done ?_
            refine T.block ?_
            refine T.loop (fun mz fz lz => ∃ (f0 : Fr) (i : Nat), (i ≤ es.length) ∧ mz = es.length - i ∧ fz = (upd (upd (upd (upd (upd (upd f0 12 (.slice p n cc)) 18 (.pointer (some ⟨bf, 0, none⟩))) 24 (.pointer (some ⟨gk, 0, none⟩))) 25 (.slice q3 es.length cq3)) 153 (.int .i64 es.length)) 154 (.int .i64 i)) ∧ lz = wrecR q3 es.length cq3 R3 :: recsA (R3.map WRec.r) :: wlA gk bf (mkW 0 12 es (logB 0 0 es).length) :: dskA bf D6 :: rS (.slice p n cc) n ds :: F) ?_ ?_
            · refine ⟨_, _, ⟨_, 0, Nat.zero_le _, rfl, (updS rfl (updS rfl (updS rfl (updS rfl (updS rfl (updS rfl rfl)))))), rfl⟩, Sub.any⟩
            · skip
              rintro mz fz lz ⟨f0, i, hi, hmz, rfl, rfl⟩
              subst mz
              try simp only [List.cons_append, List.nil_append]
              refine T.seq ?_
              refine T.region ?_
              refine LW.q rfl (Qt.lss rfl rfl) ?_
              refine LW.done ?_
              refine T.seq ?_
              refine T.condP rfl (fun hlt => ?_) (fun hlt => ?_)
              · skip
                obtain ⟨gr, rfl⟩ := hq3 (by omega)
                obtain ⟨gs, rfl⟩ := hpp (by omega)
                obtain ⟨x, hx⟩ : ∃ x, R3[i]? = some x := ⟨_, List.getElem?_eq_getElem (by omega)⟩
                have hds : ds[i]? = some x.r.b := by rw [z3 i (by omega), ← rec_datas w2, List.getElem?_map, hx]; rfl
                have rx : RdV B [recsA (R3.map WRec.r)] (recV x.r) (bytesV x.r.b) := by have := RdV.rec (B := B) hro3 (j := i) (by simp; omega); simpa [(List.getElem?_eq_some_iff.1 hx).2] using this
                refine T.skip ?_
                refine T.seq ?_
                refine T.block ?_
                refine T.seq ?_
                refine T.region ?_
                refine LW.q rfl (Qt.move rfl) ?_
                refine LW.q rfl (Qt.assign rfl) ?_
                refine LW.done ?_
                refine T.seq ?_
                refine T.drawAll 11 (by kernel_rfl) (Nat.le_of_ble_eq_true rfl) (by kernel_rfl) ?_
                refine RW.q 0 rfl rfl (by kernel_rfl) (Sub.refl _) (Qt.move rfl) ?_
                refine RW.q 1 rfl rfl (by kernel_rfl) (Sub.refl _) (Qt.move rfl) ?_
                refine RW.q 2 rfl rfl (by kernel_rfl) (Sub.refl _) (Qt.index _ (e := 59) (sz := 2) (by kernel_rfl) rfl rfl rfl (by omega)) ?_
                refine RW.q 3 rfl rfl (by kernel_rfl) (Sub.refl _) (Qt.fieldAddr (off := 1) (by kernel_rfl) rfl) ?_
                refine RW.q 4 rfl rfl (by kernel_rfl) (Sub.refl _) (Qt.load (v := .slice x.r.p x.r.b.length x.r.c) (by kernel_rfl) rfl (by have := (wrec_at hx).2; simpa [recV] using this)) ?_
                refine RW.q 5 rfl rfl (by kernel_rfl) (Sub.refl _) (Qt.str x.r.b (by kernel_rfl) (by kernel_rfl) rfl (fun w ho => rx.reads w (ho.map Sub.any))) ?_
                refine RW.q 6 rfl rfl (by kernel_rfl) (Sub.refl _) (Qt.move rfl) ?_
                refine RW.q 7 rfl rfl (by kernel_rfl) (Sub.refl _) (Qt.move rfl) ?_
                refine RW.q 8 rfl rfl (by kernel_rfl) (Sub.refl _) (Qt.index _ (e := 9) (sz := 1) (by kernel_rfl) rfl rfl rfl (by omega)) ?_
                refine RW.q 9 rfl rfl (by kernel_rfl) (Sub.refl _) (Qt.load (v := strW x.r.b) (by kernel_rfl) rfl (by simp [hds])) ?_
                refine RW.q 10 rfl rfl (by kernel_rfl) (Sub.refl _) (Qt.neqS rfl rfl) ?_
                refine RW.done (by rfl) ?_
                simp only [List.drop_succ_cons, List.drop_zero, List.drop_nil]
                refine LW.done ?_
                first | refine T.condF rfl ?_ | refine T.condPF rfl ((by simp)) ?_ | refine T.condBF rfl ((by simp)) ?_
                refine T.skip ?_
                refine T.region ?_
                refine LW.q rfl (Qt.add rfl rfl (wr64 (by omega) (by omega))) ?_
                refine LW.q rfl (Qt.move rfl) ?_
                refine LW.done ?_
                refine ⟨_, ?_, _, ⟨_, i + 1, by omega, rfl, (updS rfl (updS rfl (updS rfl (updS rfl (updS rfl (updS rfl rfl)))))), rfl⟩, Sub.any⟩
                first | omega | (simp; omega)
              · skip
                obtain ⟨es', r', e', c1, c2, c3, c4, c5, c6⟩ := addW_more (first := 0) (count := 12) (dur := (logB 0 0 es).length) w1 w7
                refine T.exit ?_
                refine T.seq ?_
                refine T.region ?_
                refine LW.q rfl (Qt.move rfl) ?_
                refine LW.e rfl (Ef.lit [_, _, _, _] (e := 5) (by kernel_rfl) (by kernel_rfl) rfl (by simp [Value.cells]) rfl (by omega) (by omega) ?_)
                intro g171
                refine LW.e rfl (Ef.mark (by kernel_rfl) rfl ?_)
                refine LW.e rfl (Ef.one [_] (e := 22) (sz := 1) (by kernel_rfl) ⟨.slice none 0 0, by kernel_rfl, rfl⟩ rfl rfl rfl (by omega) (by omega) ?_)
                intro g173
                refine LW.e rfl (Ef.call (Wl.add B [blk g173 [.slice (some ⟨g171, 0, none⟩) 4 4] 22, fblk g171 [.int .u8 109, .int .u8 111, .int .u8 114, .int .u8 101] 5 (4, 5)] gk bf (mkW 0 12 es (logB 0 0 es).length) (some ⟨g173, 0, none⟩) 1 [moreW] 1 rfl (PartsV.one (rdv_blk (C := [.int .u8 109, .int .u8 111, .int .u8 114, .int .u8 101]) rfl rfl)) (by simp) (by simp) moreW (by simp) (by simp) (by simp [mkW]) w7) Tryd.func26 rfl rfl rfl ?_)
                rintro _ _ ⟨rfl, rfl⟩
                try simp only [List.cons_append, List.nil_append]
                simp only [c1]
                refine LW.q rfl (Qt.move rfl) ?_
                refine LW.q rfl (Qt.extract rfl rfl) ?_
                refine LW.q rfl (Qt.extract rfl rfl) ?_
                refine LW.q rfl (Qt.assign rfl) ?_
                refine LW.q rfl (Qt.assign rfl) ?_
                refine LW.done ?_
                refine T.seq ?_
                refine T.region ?_
                refine LW.q rfl (Qt.move rfl) ?_
                have ws : Secs D6 0 12 ((logB 0 0 es').take (logB 0 0 es).length) := by rw [c5]; exact w6
                obtain ⟨v1, v2, v3⟩ := flushE_ok (W := mkW 0 12 es' (logB 0 0 es).length) w3 (by simp only [mkW]; omega) c3 c4 w5
                have v4 := flushE_secs (W := mkW 0 12 es' (logB 0 0 es).length) w3 (by simp only [mkW]; omega) ws c4 c3
                obtain ⟨D7, hD7⟩ : ∃ D7, flushE (mkW 0 12 es' (logB 0 0 es).length) D6 = D7 := ⟨_, rfl⟩
                rw [hD7] at v1 v2 v3 v4
                have v2' : D7.secs.length = 12 := v2.trans hl6
                refine LW.e rfl (Ef.call (Wl.flush B gk bf (mkW 0 12 es' (logB 0 0 es).length) D6 (by simp only [mkW]; omega) (by omega) c3 c4 (by rw [w5]; simp)) Tryd.func27 rfl rfl rfl ?_)
                rintro _ _ ⟨rfl, rfl⟩
                try simp only [List.cons_append, List.nil_append]
                rw [hD7, flushed_mk]
                refine LW.done ?_
                refine T.seq ?_
                refine T.region ?_
                refine LW.q rfl (Qt.move rfl) ?_
                refine LW.e rfl (Ef.call (Wl.openText B bf D7 0 12 es' 0 12 rfl rfl (by omega) (by omega) (by rw [v3]; simp) v4 c2 c3) Tryd.func25 rfl rfl rfl ?_)
                rintro _ _ ⟨gb, q7, cq7, R7, D8, u1, u2, u3, u4, u5, u6, rfl, rfl⟩
                try simp only [List.cons_append, List.nil_append]
                refine LW.own (fun w ho => ?_)
                have hq7 : 0 < es'.length → ∃ g, q7 = some ⟨g, 0, none⟩ := (ho.slice_at (p := q7) (m := es'.length) (c := cq7)).2.1
                have hro7 : RecOk (R7.map WRec.r) := ho.tl.recOk
                clear ho
                refine LW.q rfl (Qt.move rfl) ?_
                refine LW.q rfl (Qt.extract rfl rfl) ?_
                refine LW.q rfl (Qt.extract rfl rfl) ?_
                refine LW.q rfl (Qt.extract rfl rfl) ?_
                refine LW.q rfl (Qt.assign rfl) ?_
                refine LW.q rfl (Qt.assign rfl) ?_
                refine LW.q rfl (Qt.assign rfl) ?_
                refine LW.done ?_
                refine T.seq ?_
                refine T.region ?_
                refine LW.q rfl (Qt.move rfl) ?_
                refine LW.q rfl (Qt.eql rfl rfl) ?_
                refine LW.q rfl (Qt.move rfl) ?_
                have hel : es.length ≤ 3072 := by have := length_logB_le 0 0 es; omega
                by_cases he0 : e' = 0
                · skip
                  obtain rfl : es' = es ++ [moreW] := by rcases c6 with ⟨_, h⟩ | ⟨h, _⟩; exact h; omega
                  subst he0
                  obtain ⟨g7, rfl⟩ := hq7 (by simp)
                  obtain ⟨x, hx, hxb⟩ := rec_last u1
                  have rx : RdV B [recsA (R7.map WRec.r)] (recV x.r) (bytesV x.r.b) := by have := RdV.rec (B := B) hro7 (j := es.length) (by simp; have := (List.getElem?_eq_some_iff.1 hx).1; omega); simpa [(List.getElem?_eq_some_iff.1 hx).2] using this
                  first | refine LW.gT (t := 187) rfl rfl ?_ | refine LW.gT (t := 187) rfl (decide_eq_true (by omega)) ?_ | refine LW.gT (t := 187) rfl (by omega) ?_
                  refine LW.q rfl (Qt.move rfl) ?_
                  refine LW.q rfl (Qt.eql rfl rfl) ?_
                  refine LW.q rfl (Qt.move rfl) ?_
                  first | refine LW.gT (t := 190) rfl rfl ?_ | refine LW.gT (t := 190) rfl (decide_eq_true (by omega)) ?_ | refine LW.gT (t := 190) rfl (by omega) ?_
                  refine LW.q rfl (Qt.move rfl) ?_
                  refine LW.q rfl (Qt.len (e := 59) (sz := 2) (by kernel_rfl) rfl) ?_
                  refine LW.q rfl (Qt.move rfl) ?_
                  refine LW.q rfl (Qt.len (e := 59) (sz := 2) (by kernel_rfl) rfl) ?_
                  refine LW.q rfl (Qt.add rfl rfl (wr64 (by omega) (by omega))) ?_
                  refine LW.q rfl (Qt.eql rfl rfl) ?_
                  refine LW.q rfl (Qt.pick rfl rfl) ?_
                  refine LW.q rfl (Qt.move rfl) ?_
                  first | refine LW.gT (t := 198) rfl rfl ?_ | refine LW.gT (t := 198) rfl (decide_eq_true ((by simp))) ?_ | refine LW.gT (t := 198) rfl ((by simp)) ?_
                  refine LW.q rfl (Qt.move rfl) ?_
                  refine LW.q rfl (Qt.move rfl) ?_
                  refine LW.q rfl (Qt.len (e := 59) (sz := 2) (by kernel_rfl) rfl) ?_
                  refine LW.q rfl (Qt.index es.length (e := 59) (sz := 2) (by kernel_rfl) rfl rfl rfl (by simp)) ?_
                  refine LW.q rfl (Qt.fieldAddr (off := 1) (by kernel_rfl) rfl) ?_
                  refine LW.q rfl (Qt.load (v := .slice x.r.p x.r.b.length x.r.c) (by kernel_rfl) rfl (by have := (wrec_at hx).2; simpa [recV] using this)) ?_
                  refine LW.q rfl (Qt.str x.r.b (by kernel_rfl) (by kernel_rfl) rfl (fun w ho => rx.reads w (ho.map Sub.any))) ?_
                  refine LW.q rfl (Qt.eqlS rfl rfl) ?_
                  refine LW.q rfl (Qt.pick rfl rfl) ?_
                  refine LW.q rfl (Qt.move rfl) ?_
                  first | refine LW.gT (t := 208) rfl rfl ?_ | refine LW.gT (t := 208) rfl (decide_eq_true (by omega)) ?_ | refine LW.gT (t := 208) rfl (by omega) ?_
                  refine LW.s rfl ?_
                  refine LW.s rfl ?_
                  refine LW.s rfl ?_
                  refine LW.s rfl ?_
                  refine LW.s rfl ?_
                  refine LW.s rfl ?_
                  refine LW.s rfl ?_
                  refine LW.s rfl ?_
                  refine LW.s rfl ?_
                  refine LW.q rfl (Qt.pick rfl rfl) ?_
                  refine LW.q rfl (Qt.pick rfl rfl) ?_
                  refine LW.q rfl (Qt.assign rfl) ?_
                  refine LW.done ?_
                  refine T.ret ?_
                  exact ⟨.inl rfl, _, _, res [_] rfl ⟨rvT rfl, trivial⟩, ⟨by simp [hxb, outV], rfl⟩, Sub.any⟩
                · skip
                  obtain ⟨rfl, rfl⟩ : e' = 3 ∧ es' = es := by rcases c6 with ⟨h, _⟩ | h; exact absurd h he0; exact h
                  first | refine LW.gT (t := 187) rfl rfl ?_ | refine LW.gT (t := 187) rfl (decide_eq_true (by omega)) ?_ | refine LW.gT (t := 187) rfl (by omega) ?_
                  refine LW.q rfl (Qt.move rfl) ?_
                  refine LW.q rfl (Qt.eql rfl rfl) ?_
                  refine LW.q rfl (Qt.move rfl) ?_
                  first | refine LW.gF (t := 190) rfl rfl ?_ | refine LW.gF (t := 190) rfl (decide_eq_false (by omega)) ?_ | refine LW.gF (t := 190) rfl (by omega) ?_
                  refine LW.s rfl ?_
                  refine LW.s rfl ?_
                  refine LW.s rfl ?_
                  refine LW.s rfl ?_
                  refine LW.s rfl ?_
                  refine LW.s rfl ?_
                  refine LW.q rfl (Qt.pick rfl rfl) ?_
                  refine LW.q rfl (Qt.move rfl) ?_
                  first | refine LW.gF (t := 198) rfl rfl ?_ | refine LW.gF (t := 198) rfl (decide_eq_false (by omega)) ?_ | refine LW.gF (t := 198) rfl (by omega) ?_
                  refine LW.s rfl ?_
                  refine LW.s rfl ?_
                  refine LW.s rfl ?_
                  refine LW.s rfl ?_
                  refine LW.s rfl ?_
                  refine LW.s rfl ?_
                  refine LW.s rfl ?_
                  refine LW.s rfl ?_
                  refine LW.q rfl (Qt.pick rfl rfl) ?_
                  refine LW.q rfl (Qt.move rfl) ?_
                  first | refine LW.gF (t := 208) rfl rfl ?_ | refine LW.gF (t := 208) rfl (decide_eq_false (by omega)) ?_ | refine LW.gF (t := 208) rfl (by omega) ?_
                  refine LW.q rfl (Qt.move rfl) ?_
                  refine LW.q rfl (Qt.eql rfl rfl) ?_
                  refine LW.q rfl (Qt.move rfl) ?_
                  first | refine LW.gT (t := 211) rfl rfl ?_ | refine LW.gT (t := 211) rfl (decide_eq_true (by omega)) ?_ | refine LW.gT (t := 211) rfl (by omega) ?_
                  refine LW.q rfl (Qt.move rfl) ?_
                  refine LW.q rfl (Qt.len (e := 59) (sz := 2) (by kernel_rfl) rfl) ?_
                  refine LW.q rfl (Qt.move rfl) ?_
                  refine LW.q rfl (Qt.len (e := 59) (sz := 2) (by kernel_rfl) rfl) ?_
                  refine LW.q rfl (Qt.eql rfl rfl) ?_
                  refine LW.q rfl (Qt.pick rfl rfl) ?_
                  refine LW.q rfl (Qt.pick rfl rfl) ?_
                  refine LW.q rfl (Qt.pick rfl rfl) ?_
                  refine LW.q rfl (Qt.assign rfl) ?_
                  refine LW.done ?_
                  refine T.ret ?_
                  exact ⟨.inl rfl, _, _, res [_] rfl ⟨rvT rfl, trivial⟩, ⟨by simp [outV], rfl⟩, Sub.any⟩
          · skip
            obtain rfl : bb = false := by cases bb; rfl; exact absurd rfl hbb
            first | refine T.condT rfl ?_ | refine T.condPT rfl (by omega) ?_ | refine T.condBT rfl (by omega) ?_
            refine T.seq ?_
            refine T.region ?_
            refine LW.q rfl (Qt.assign rfl) ?_
            refine LW.done ?_
            refine T.ret ?_
            exact ⟨.inl rfl, _, _, res [_] rfl ⟨rvT rfl, trivial⟩, ⟨rfl, rfl⟩, Sub.any⟩
end Go.Proofs.YtjjhbpjbngdlnaaDoor
