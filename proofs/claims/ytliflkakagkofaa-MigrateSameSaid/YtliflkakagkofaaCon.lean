/- Contracts of the functions that the law reaches. -/
import Derived.Test.YtliflkakagkofaaFns
import Derived.Test.YtliflkakagkofaaAvY
set_option linter.unusedVariables false
set_option linter.unusedSimpArgs false
set_option linter.unusedSectionVars false
section
/- Contracts: numbers, lists of numbers, cells that are found. -/
namespace Go.Av
theorem value_ok (k : Int) : iso (PC pfs) 32 [.i .i64 k] = some (.b (decide (1 ≤ k) && decide (k ≤ 6))) := by
  unfold iso
  rw [PC_eq (F := pf32) rfl]
  by_cases h : 1 ≤ k <;> simp [pf32, h]
theorem within_ok (a n : Int) (hn : 0 < n) (hn2 : n ≤ 4611686018427387904) : iso (PC pfs) 12 [.i .i64 a, .i .i64 n] = some (.i .i64 (a % n)) := by
  unfold iso
  rw [PC_eq (F := pf12) rfl]
  have h0 : n ≠ 0 := by omega
  have h1 : a.tmod n < n := Int.tmod_lt_of_pos a hn
  have h2 : -n < a.tmod n := by
    have := Int.tmod_lt_of_pos (-a) hn
    rw [Int.neg_tmod] at this
    omega
  have h3 : a % n = if a.tmod n < 0 then a.tmod n + n else a.tmod n := by
    have e := Int.mul_tdiv_add_tmod a n
    have e2 : a % n = a.tmod n % n := by
      have : (n * a.tdiv n + a.tmod n) % n = a.tmod n % n := Int.mul_add_emod_self_left ..
      rwa [e] at this
    rw [e2]
    split
    · rw [← Int.emod_eq_of_lt (a := a.tmod n + n) (b := n) (by omega) (by omega)]
      simp
    · exact Int.emod_eq_of_lt (by omega) h1
  by_cases h : a.tmod n < 0
  · simp [pf12, h0, h, h3]
    exact awrap_id (by omega) (by omega)
  · simp [pf12, h0, h, h3]
/-- Are two lists of numbers the same? -/
def stI (a b : Bool) (l m : List Int) (v2 v4 : PV) (i : Nat) (t : PV × PV) : PSt := ⟨[.ls (.v a false) l.length (l.flatMap encI), .ls (.v b false) m.length (m.flatMap encI), v2, .i .i64 (i : Nat), v4, t.1, t.2], .empty⟩
theorem ints_ok (a b : Bool) (l m : List Int) (hl : l.length ≤ 1073741824) : iso (PC pfs) 15 [.ls (.v a false) l.length (l.flatMap encI), .ls (.v b false) m.length (m.flatMap encI)] = some (.b (decide (l = m))) := by
  unfold iso
  rw [PC_eq (F := pf15) rfl]
  by_cases hlm : l.length = m.length
  · have key := @for_find (pdenL (PC pfs) lp15_1) (PV × PV) 0 (stI a b l m (.b false) (.b false)) (stI a b l m (.b false) (.b false) l.length) (fun i => l[i]? ≠ m[i]?) (fun i t => ⟨[.ls (.v a false) l.length (l.flatMap encI), .ls (.v b false) m.length (m.flatMap encI), .b false, .i .i64 (i : Nat), .b false, t.1, t.2], .empty⟩) l.length ?_ ?_ ?_ (.und, .und)
    · rcases key with ⟨i, hi, hp, hj, t', h⟩ | ⟨hj, t', h⟩
      · have hne : l ≠ m := fun e => hp (by rw [e])
        simp [stI] at h
        simp [pf15, hlm, hne]
        simp [hlm] at h
        simp [h]
      · have he : l = m := List.ext_getElem? fun i => by
          by_cases hi : i < l.length
          · exact Decidable.byContradiction (hj i hi)
          · rw [List.getElem?_eq_none (by omega), List.getElem?_eq_none (by omega)]
        subst he
        simp [stI] at h
        simp [pf15]
        simp [h]
    · intro i hi hp t
      have hm : i < m.length := by omega
      have : l[i] ≠ m[i] := by simpa [hi, hm] using hp
      refine ⟨(.b true, .b true), ?_⟩
      simp [stI, lp15_1, hi, hm, I_at i l hi, I_at i m hm, this]
    · intro i hi hp t
      have hm : i < m.length := by omega
      have : l[i] = m[i] := by simpa [hi, hm] using hp
      refine ⟨(.b true, .b false), ?_⟩
      simp [stI, lp15_1, hi, hm, I_at i l hi, I_at i m hm, this, awrap_nat1 (n := i) (by omega)]
    · intro t
      refine ⟨(.b false, t.2), ?_⟩
      simp [stI, lp15_1]
  · have hne : l ≠ m := fun e => hlm (by rw [e])
    have hc : ¬ ((l.length : Int) = m.length) := by omega
    simp [pf15, hc, hne]
/-- Where is a path? -/
def stF (b : Bool) (cs : List PCell) (p : List UInt8) (v2 v3 : PV) (i : Nat) (t : PV × PV) : PSt := ⟨[.ls (.v b false) cs.length (cs.flatMap PCell.enc), .s p, v2, v3, .i .i64 (i : Nat), t.1, t.2], .empty⟩
def found (cs : List PCell) (p : List UInt8) : PV := match cs.findIdx? (fun c => decide (c.path = p)) with
  | some i => .tup [.i .i64 (i : Nat), .b true]
  | none => .tup [.i .i64 0, .b false]
theorem find_ok (b : Bool) (cs : List PCell) (p : List UInt8) (hl : cs.length ≤ 1073741824) : iso (PC pfs) 20 [.ls (.v b false) cs.length (cs.flatMap PCell.enc), .s p] = some (found cs p) := by
  unfold iso
  rw [PC_eq (F := pf20) rfl]
  have key := @for_find (pdenL (PC pfs) lp20_1) (PV × PV) 0 (stF b cs p (.i .i64 0) (.b false)) (stF b cs p (.i .i64 0) (.b false) cs.length) (fun i => ∃ h : i < cs.length, cs[i].path = p) (fun i t => stF b cs p (.i .i64 (i : Nat)) (.b true) i t) cs.length ?_ ?_ ?_ (.und, .und)
  · rcases key with ⟨i, hi, ⟨_, hp⟩, hj, t', h⟩ | ⟨hj, t', h⟩
    · have hf : found cs p = .tup [.i .i64 (i : Nat), .b true] := by
        unfold found
        rw [findIdx_some hi (by simpa using hp) (fun j hji => by simpa using fun e => hj j hji ⟨by omega, e⟩)]
      rw [hf]
      simp [stF] at h
      simp [pf20]
      simp [h]
    · have hf : found cs p = .tup [.i .i64 0, .b false] := by
        unfold found
        rw [findIdx_none (fun j h => by simpa using fun e => hj j h ⟨h, e⟩)]
      rw [hf]
      simp [stF] at h
      simp [pf20]
      simp [h]
  · rintro i hi ⟨_, hp⟩ t
    refine ⟨(.b true, .b true), ?_⟩
    simp [stF, lp20_1, hi, C_path i cs hi, hp]
  · intro i hi hp t
    have : cs[i].path ≠ p := fun e => hp ⟨hi, e⟩
    refine ⟨(.b true, .b false), ?_⟩
    simp [stF, lp20_1, hi, C_path i cs hi, this, awrap_nat1 (n := i) (by omega)]
  · intro t
    refine ⟨(.b false, t.2), ?_⟩
    simp [stF, lp20_1]
/-- A value of a kind. -/
def wrapK (k n : Int) : Int := if k = 1 then (if n = 0 then 0 else 1) else if k = 2 then awrap .u8 n else if k = 3 then awrap .u16 n else if k = 4 then awrap .i16 n else if k = 5 then awrap .i32 n else if k = 6 then n else 0
theorem wrap_rng (k : IntKind) (n : Int) (hk : k = .u8 ∨ k = .u16 ∨ k = .i16 ∨ k = .i32) : awrap .i64 (awrap k n) = awrap k n := by
  have : -9223372036854775808 ≤ awrap k n ∧ awrap k n < 9223372036854775808 := by
    rw [awrap_eq]
    rcases hk with rfl | rfl | rfl | rfl <;> simp [IntKind.wrap, IntKind.signed, IntKind.bits] <;> (try split) <;> omega
  exact awrap_id this.1 this.2
theorem wrap_ok (k n : Int) : iso (PC pfs) 21 [.i .i64 k, .i .i64 n] = some (.i .i64 (wrapK k n)) := by
  unfold iso
  rw [PC_eq (F := pf21) rfl]
  by_cases h1 : k = 1
  · by_cases hn : n = 0 <;> simp [pf21, h1, hn, wrapK]
  · by_cases h2 : k = 2
    · simp [pf21, h2, wrapK, wrap_rng]
    · by_cases h3 : k = 3
      · simp [pf21, h3, wrapK, wrap_rng]
      · by_cases h4 : k = 4
        · simp [pf21, h4, wrapK, wrap_rng]
        · by_cases h5 : k = 5
          · simp [pf21, h5, wrapK, wrap_rng]
          · by_cases h6 : k = 6 <;> simp [pf21, h1, h2, h3, h4, h5, h6, wrapK]
end Go.Av
end
section
namespace Go.Av
/-- solenoidref8.Begin -/
def stB (b : Bool) (cs : List PCell) (v1 : PV) (i : Nat) (t : PV) : PSt := ⟨[.ls (.v b false) cs.length (cs.flatMap PCell.enc), v1, .ls (.own 0 i) i (((cs.map PCell.init).take i).flatMap encI), .i .i64 (i : Nat), t], ⟨[], 0, [.live i i 1], 0⟩⟩
theorem begin_loop {b : Bool} (cs : List PCell) (hb : cs.length ≤ 1073741824) (v1 : PV) : ∀ t, ∃ t', piterL (pdenL (PC pfs) lp27_1) (stB b cs v1 0 t) = some (.exit 0, stB b cs v1 cs.length t') := by
  refine for_loop 0 (stB b cs v1) (stB b cs v1 cs.length) cs.length ?_ ?_
  · intro i hlt t
    refine ⟨.b true, ?_⟩
    have ha := pan_flat (enc := encI) (k := 1) (bytes := 8) (r := 0) (v := i) (n := i) (σ := ⟨[], 0, [.live i i 1], 0⟩) (fun _ => rfl) (by omega) ((cs.map PCell.init).take i) ((cs.map PCell.init).take (i + 1)) cs[i].init (take_map_succ PCell.init hlt) (by simp; omega) rfl (by omega) (by omega)
    simp only [encI] at ha
    simp [stB, lp27_1, hlt, C_init i cs hlt, psplice, psub]
    simp [ha, awrap_nat1 (n := i) (by omega)]
  · intro t
    refine ⟨.b false, ?_⟩
    simp [stB, lp27_1]
theorem begin_ok {b : Bool} (cs : List PCell) (hb : cs.length ≤ 1073741824) : iso (PC pfs) 27 [.ls (.v b false) cs.length (cs.flatMap PCell.enc)] = some (.ls (.fresh cs.length 1) cs.length ((cs.map PCell.init).flatMap encI)) := by
  obtain ⟨t', h⟩ := begin_loop (b := b) cs hb (.ls (.v false true) 0 []) .und
  unfold iso
  rw [PC_eq (F := pf27) rfl]
  simp [pf27, stB] at h ⊢
  simp [h]
end Go.Av
end
section
/- Contracts: values, the document's way from version to version. -/
namespace Go.Av
/-- solenoidlaw15.values: what cells may hold. -/
def valuesOf (cs : List PCell) (ns : List Int) : List Int := (List.range cs.length).map fun i => match cs[i]?, ns[i]? with
  | some c, some n => wrapK c.kind n
  | some c, none => c.init
  | none, _ => 0
theorem valuesOf_length (cs : List PCell) (ns : List Int) : (valuesOf cs ns).length = cs.length := by simp [valuesOf]
theorem valuesOf_get {cs : List PCell} {ns : List Int} {i : Nat} (h : i < cs.length) (hn : i < ns.length) : (valuesOf cs ns)[i]'(by simp [valuesOf, h]) = wrapK cs[i].kind ns[i] := by
  simp [valuesOf, h, hn]
theorem valuesOf_rest {cs : List PCell} {ns : List Int} {i : Nat} (h : i < cs.length) (hn : ns.length ≤ i) : (valuesOf cs ns)[i]'(by simp [valuesOf, h]) = cs[i].init := by
  simp [valuesOf, h, hn]
def stV (a b : Bool) (cs : List PCell) (ns : List Int) (v2 : PV) (i : Nat) (t : PV) : PSt := ⟨[.ls (.v a false) cs.length (cs.flatMap PCell.enc), .ls (.v b false) ns.length (ns.flatMap encI), v2, .sl 0 0 cs.length none, .i .i64 (i : Nat), t], ⟨[.cells (((valuesOf cs ns).take i ++ (cs.map PCell.init).drop i).flatMap encI) 1], 0, [], 0⟩⟩
theorem values_ok (a b : Bool) (cs : List PCell) (ns : List Int) (hl : cs.length ≤ 1073741824) : iso (PC pfs) 14 [.ls (.v a false) cs.length (cs.flatMap PCell.enc), .ls (.v b false) ns.length (ns.flatMap encI)] = some (vl encI (valuesOf cs ns)) := by
  unfold iso
  rw [PC_eq (F := pf14) rfl]
  by_cases h0 : cs.length = 0
  · have : cs = [] := by simpa using h0
    subst this
    have hb := begin_ok (b := a) [] hl
    simp at hb
    simp [pf14, hb, vl, valuesOf]
    rw [piterL_eq]
    simp [lp14_1]
  · have hb := begin_ok (b := a) cs hl
    have key := @for_loop (pdenL (PC pfs) lp14_1) PV 0 (stV a b cs ns (.ls (.v false true) 0 [])) (stV a b cs ns (.ls (.v false true) 0 []) (min cs.length ns.length)) (min cs.length ns.length) ?_ ?_ .und
    · obtain ⟨t', key⟩ := key
      obtain ⟨n, hn⟩ := Nat.exists_eq_succ_of_ne_zero h0
      have e : (valuesOf cs ns).take (min cs.length ns.length) ++ (cs.map PCell.init).drop (min cs.length ns.length) = valuesOf cs ns := by
        apply List.ext_getElem
        · simp [valuesOf_length]; omega
        · intro j h1 h2
          rw [valuesOf_length] at h2
          rw [List.getElem_append]
          split
          · simp
          · rename_i h3
            simp [valuesOf_length] at h3
            rw [valuesOf_rest h2 (by omega)]
            simp [valuesOf_length]
            congr 2; omega
      simp only [stV] at key
      rw [e] at key
      simp at key
      simp [pf14, hb, key]
      simp [psub_all (l := (valuesOf cs ns).flatMap encI) (n := cs.length) (by rw [flat_lenI, valuesOf_length]), clo_shutL (shutI _), vl, valuesOf_length]
    · intro i hi t
      have h1 : i < cs.length := by omega
      have h2 : i < ns.length := by omega
      refine ⟨.b true, ?_⟩
      have hw := wrap_ok cs[i].kind ns[i]
      have hs := splice_flat (enc := encI) (k := 1) (fun _ => rfl) ((valuesOf cs ns).take i ++ (cs.map PCell.init).drop i) i (wrapK cs[i].kind ns[i]) (by rw [List.length_append, List.length_take, List.length_drop, List.length_map, valuesOf_length]; omega)
      have hm := set_mix (l := cs.map PCell.init) (m := valuesOf cs ns) i (by rw [List.length_map]; exact h1) (by rw [List.length_map, valuesOf_length])
      rw [valuesOf_get h1 h2] at hm
      rw [hm] at hs
      simp only [encI, List.flatMap_append, Nat.mul_one] at hs
      simp [stV, lp14_1, h1, h2, C_kind i cs h1, I_at i ns h2, hw, awrap_nat1 (n := i) (by omega)]
      simp [hs, awrap_nat1 (n := i) (by omega)]
    · intro t
      refine ⟨.b false, ?_⟩
      by_cases h : cs.length < ns.length
      · have e : min cs.length ns.length = cs.length := by omega
        simp [stV, lp14_1, e]
      · have e : min cs.length ns.length = ns.length := by omega
        by_cases h3 : ns.length < cs.length
        · simp [stV, lp14_1, e, h3]
        · simp [stV, lp14_1, e, h3]
end Go.Av
end
section
/- Contracts: the document's way from version to version. -/
namespace Go.Av
def sameCell (c o : PCell) : Bool := decide (o.path = c.path) && decide (o.kind = c.kind)
/-- Where a cell was. -/
def wasAt (old : List PCell) (c : PCell) : Int := match old.findIdx? (sameCell c) with
  | some i => (i : Nat)
  | none => -1
def diffOf (old fresh : List PCell) : List Int := fresh.map (wasAt old)
def stD (a b : Bool) (old fresh : List PCell) (v2 v3 : PV) (i : Nat) (k : Int) (v7 : PV) (σ : PH) (j : Nat) (t : PV × PV) : PSt :=
  ⟨[.ls (.v a false) old.length (old.flatMap PCell.enc), .ls (.v b false) fresh.length (fresh.flatMap PCell.enc), v2, v3, .i .i64 (i : Nat), .i .i64 k, .i .i64 (j : Nat), v7, t.1, t.2], σ⟩
theorem diff_in (a b : Bool) (old fresh : List PCell) (v2 v3 : PV) (i : Nat) (hi : i < fresh.length) (v7 : PV) (σ : PH) (ho : old.length ≤ 1073741824) (t : PV × PV) :
    ∃ j t', piterL (pdenL (PC pfs) lp17_1) (stD a b old fresh v2 v3 i (-1) v7 σ 0 t) = some (.exit 2, stD a b old fresh v2 v3 i (wasAt old fresh[i]) v7 σ j t') := by
  cases h : old.findIdx? (sameCell fresh[i]) with
  | none =>
    have hw : wasAt old fresh[i] = -1 := by simp [wasAt, h]
    rw [hw]
    have hn := List.findIdx?_eq_none_iff.1 h
    refine ⟨old.length, @for_loop (pdenL (PC pfs) lp17_1) (PV × PV) 2 (stD a b old fresh v2 v3 i (-1) v7 σ) (stD a b old fresh v2 v3 i (-1) v7 σ old.length) old.length ?_ ?_ t⟩
    · intro j hj t
      have hne := hn old[j] (by simp)
      refine ⟨(.b true, .b false), ?_⟩
      by_cases hp : old[j].path = fresh[i].path
      · have hk : old[j].kind ≠ fresh[i].kind := by simpa [sameCell, hp] using hne
        simp [stD, lp17_1, hi, hj, C_path j old hj, C_path i fresh hi, C_kind j old hj, C_kind i fresh hi, hp, hk, awrap_nat1 (n := j) (by omega)]
      · simp [stD, lp17_1, hi, hj, C_path j old hj, C_path i fresh hi, C_kind j old hj, C_kind i fresh hi, hp, awrap_nat1 (n := j) (by omega)]
    · intro t
      refine ⟨(.b false, t.2), ?_⟩
      simp [stD, lp17_1]
  | some m =>
    have hw : wasAt old fresh[i] = (m : Nat) := by simp [wasAt, h]
    rw [hw]
    obtain ⟨hm, hs, hl⟩ := List.findIdx?_eq_some_iff_getElem.1 h
    have key := @for_loop (pdenL (PC pfs) lp17_1) (PV × PV) 2 (fun j => stD a b old fresh v2 v3 i (if j = m + 1 then (m : Nat) else -1) v7 σ j) (stD a b old fresh v2 v3 i (m : Nat) v7 σ (m + 1)) (m + 1) ?_ ?_ t
    · exact ⟨m + 1, by simpa using key⟩
    · intro j hj t
      have hjo : j < old.length := by omega
      have h0 : j ≠ m + 1 := by omega
      by_cases hjm : j = m
      · subst hjm
        have : old[j].path = fresh[i].path ∧ old[j].kind = fresh[i].kind := by simpa [sameCell] using hs
        refine ⟨(.b true, .b true), ?_⟩
        simp [stD, lp17_1, hi, hjo, C_path j old hjo, C_path i fresh hi, C_kind j old hjo, C_kind i fresh hi, this, awrap_nat1 (n := j) (by omega)]
      · have hne : sameCell fresh[i] old[j] = false := by
          have := hl j (by omega)
          simpa using this
        have h1 : j + 1 ≠ m + 1 := by omega
        refine ⟨(.b true, .b false), ?_⟩
        by_cases hp : old[j].path = fresh[i].path
        · have hk : old[j].kind ≠ fresh[i].kind := by simpa [sameCell, hp] using hne
          simp [stD, lp17_1, hi, hjo, h0, hjm, C_path j old hjo, C_path i fresh hi, C_kind j old hjo, C_kind i fresh hi, hp, hk, awrap_nat1 (n := j) (by omega)]
        · simp [stD, lp17_1, hi, hjo, h0, hjm, C_path j old hjo, C_path i fresh hi, C_kind j old hjo, C_kind i fresh hi, hp, awrap_nat1 (n := j) (by omega)]
    · intro t
      refine ⟨(.b false, t.2), ?_⟩
      have hn : ¬ ((m : Int) < 0) := by omega
      by_cases hm1 : (m : Int) + 1 < (old.length : Int)
      · simp [stD, lp17_1, hm1, hn]
      · simp [stD, lp17_1, hm1, hn]
def stD2 (a b : Bool) (old fresh : List PCell) (v2 : PV) (i : Nat) (t : PV × PV × PV × PV × PV) : PSt :=
  ⟨[.ls (.v a false) old.length (old.flatMap PCell.enc), .ls (.v b false) fresh.length (fresh.flatMap PCell.enc), v2, .ls (.own 0 i) i (((diffOf old fresh).take i).flatMap encI), .i .i64 (i : Nat), t.1, t.2.1, t.2.2.1, t.2.2.2.1, t.2.2.2.2], ⟨[], 0, [.live i i 1], 0⟩⟩
theorem refDiff_ok (a b : Bool) (old fresh : List PCell) (ho : old.length ≤ 1073741824) (hf : fresh.length ≤ 1073741824) :
    iso (PC pfs) 17 [.ls (.v a false) old.length (old.flatMap PCell.enc), .ls (.v b false) fresh.length (fresh.flatMap PCell.enc)] = some (.ls (.fresh fresh.length 1) fresh.length ((diffOf old fresh).flatMap encI)) := by
  unfold iso
  rw [PC_eq (F := pf17) rfl]
  have key := @for_loop (pdenL (PC pfs) lp17_2) (PV × PV × PV × PV × PV) 0 (stD2 a b old fresh (.ls (.v false true) 0 [])) (stD2 a b old fresh (.ls (.v false true) 0 []) fresh.length) fresh.length ?_ ?_ (.und, .und, .und, .und, .und)
  · obtain ⟨t', h⟩ := key
    simp [stD2] at h
    have e : (diffOf old fresh).take fresh.length = diffOf old fresh := List.take_of_length_le (by simp [diffOf])
    rw [e] at h
    simp [pf17]
    simp [h]
  · intro i hi t
    obtain ⟨j, t', h⟩ := diff_in a b old fresh (.ls (.v false true) 0 []) (.ls (.own 0 i) i (((diffOf old fresh).take i).flatMap encI)) i hi (.b true) ⟨[], 0, [.live i i 1], 0⟩ ho (t.2.2.2.1, t.2.2.2.2)
    refine ⟨(.i .i64 (wasAt old fresh[i]), .i .i64 (j : Nat), .b true, t'.1, t'.2), ?_⟩
    have ha := pan_flat (enc := encI) (k := 1) (bytes := 8) (r := 0) (v := i) (n := i) (σ := ⟨[], 0, [.live i i 1], 0⟩) (fun _ => rfl) (by omega) ((diffOf old fresh).take i) ((diffOf old fresh).take (i + 1)) (wasAt old fresh[i]) (take_map_succ (wasAt old) hi) (by simp [diffOf]; omega) rfl (by omega) (by omega)
    simp only [encI] at ha
    simp [stD] at h
    simp [stD2, lp17_2, hi]
    simp [h, psplice, psub]
    simp [ha, awrap_nat1 (n := i) (by omega)]
  · intro t
    refine ⟨(t.1, t.2.1, .b false, t.2.2.2.1, t.2.2.2.2), ?_⟩
    simp [stD2, lp17_2]
/-- What goes over. -/
def overOf (old fresh : List PCell) (vs : List Int) : List Int := fresh.map fun c => match old.findIdx? (sameCell c) with
  | some i => vs[i]?.getD c.init
  | none => c.init
def stE (a b c : Bool) (old fresh : List PCell) (vs : List Int) (v3 : PV) (i : Nat) (t : PV × PV × PV) : PSt :=
  ⟨[.ls (.v a false) old.length (old.flatMap PCell.enc), .ls (.v b false) fresh.length (fresh.flatMap PCell.enc), .ls (.v c false) vs.length (vs.flatMap encI), v3, .ls (.v false false) fresh.length ((diffOf old fresh).flatMap encI), .ls (.own 0 i) i (((overOf old fresh vs).take i).flatMap encI), .i .i64 (i : Nat), t.1, t.2.1, t.2.2], ⟨[], 0, [.live i i 1], 0⟩⟩
theorem refCells_ok (a b c : Bool) (old fresh : List PCell) (vs : List Int) (ho : old.length ≤ 1073741824) (hf : fresh.length ≤ 1073741824) (hv : vs.length ≤ 1073741824) :
    iso (PC pfs) 19 [.ls (.v a false) old.length (old.flatMap PCell.enc), .ls (.v b false) fresh.length (fresh.flatMap PCell.enc), .ls (.v c false) vs.length (vs.flatMap encI)] = some (.ls (.fresh fresh.length 1) fresh.length ((overOf old fresh vs).flatMap encI)) := by
  unfold iso
  rw [PC_eq (F := pf19) rfl]
  have hd := refDiff_ok a b old fresh ho hf
  have key := @for_loop (pdenL (PC pfs) lp19_1) (PV × PV × PV) 0 (stE a b c old fresh vs (.ls (.v false true) 0 [])) (stE a b c old fresh vs (.ls (.v false true) 0 []) fresh.length) fresh.length ?_ ?_ (.und, .und, .und)
  · obtain ⟨t', h⟩ := key
    simp [stE] at h
    have e : (overOf old fresh vs).take fresh.length = overOf old fresh vs := List.take_of_length_le (by simp [overOf])
    rw [e] at h
    simp [pf19, hd]
    simp [h]
  · intro i hi t
    have hg : pget ((diffOf old fresh).flatMap encI) i = some (.i .i64 (wasAt old fresh[i])) := by
      have := I_at i (diffOf old fresh) (by simp [diffOf, hi])
      simpa [diffOf] using this
    have fin : ∀ x, x = (overOf old fresh vs)[i]'(by simp [overOf, hi]) → pappendNew ⟨[], 0, [.live i i 1], 0⟩ 1 8 (.ls (.own 0 i) i (((overOf old fresh vs).take i).flatMap encI)) 1 [.i .i64 x] = some (.ls (.own 0 (i + 1)) (i + 1) (((overOf old fresh vs).take (i + 1)).flatMap encI), (PH.mk [] 0 [.live i i 1] 0).setRoot 0 (.live (i + 1) (i + 1) 1)) := by
      intro x hx
      have ha := pan_flat (enc := encI) (k := 1) (bytes := 8) (r := 0) (v := i) (n := i) (σ := ⟨[], 0, [.live i i 1], 0⟩) (fun _ => rfl) (by omega) ((overOf old fresh vs).take i) ((overOf old fresh vs).take (i + 1)) x (by rw [hx, ← take_succ]) (by simp [overOf]; omega) rfl (by omega) (by omega)
      exact ha
    cases hw : old.findIdx? (sameCell fresh[i]) with
    | none =>
      have ha := fin fresh[i].init (by simp [overOf, hw])
      refine ⟨(.i .i64 fresh[i].init, .b true, .b false), ?_⟩
      simp [wasAt, hw] at hg
      simp [stE, lp19_1, hi, C_init i fresh hi, hg, psplice, psub]
      simp [ha, awrap_nat1 (n := i) (by omega)]
    | some m =>
      simp [wasAt, hw] at hg
      by_cases hm : m < vs.length
      · have ha := fin vs[m] (by simp [overOf, hw, hm])
        refine ⟨(.i .i64 vs[m], .b true, .b true), ?_⟩
        have hmi : (0 : Int) ≤ m := by omega
        simp [stE, lp19_1, hi, C_init i fresh hi, hg, hmi, hm, I_at m vs hm, psplice, psub]
        simp [ha, awrap_nat1 (n := i) (by omega)]
      · have ha := fin fresh[i].init (by simp [overOf, hw, hm])
        refine ⟨(.i .i64 fresh[i].init, .b true, .b false), ?_⟩
        have hmi : (0 : Int) ≤ m := by omega
        simp [stE, lp19_1, hi, C_init i fresh hi, hg, hmi, hm, psplice, psub]
        simp [ha, awrap_nat1 (n := i) (by omega)]
  · intro t
    refine ⟨(t.1, .b false, t.2.2), ?_⟩
    simp [stE, lp19_1]
end Go.Av
end
section
/- Contracts: the program's way from version to version: a map of the cells' places. -/
namespace Go.Av
@[simp] theorem getO_succ (a : PObj) (l : List PObj) (n : Nat) : getO (a :: l) (n + 1) = getO l n := rfl
@[simp] theorem getO_zero (a : PObj) (l : List PObj) : getO (a :: l) 0 = a := rfl
@[simp] theorem setO_succ (a : PObj) (l : List PObj) (n : Nat) (v : PObj) : setO (a :: l) (n + 1) v = a :: setO l n v := rfl
@[simp] theorem setO_zero (a : PObj) (l : List PObj) (v : PObj) : setO (a :: l) 0 v = v :: l := rfl
@[simp] theorem getO_at (l m : List PObj) : getO (l ++ m) l.length = getO m 0 := by
  induction l with
  | nil => rfl
  | cons a l ih => exact ih
@[simp] theorem getO_at1 (l m : List PObj) (k : Nat) : getO (l ++ m) (l.length + k) = getO m k := by
  induction l with
  | nil => simp
  | cons a l ih =>
    have : (a :: l).length + k = (l.length + k) + 1 := by simp; omega
    rw [this]; exact ih
@[simp] theorem setO_at (l m : List PObj) (v : PObj) : setO (l ++ m) l.length v = l ++ setO m 0 v := by
  induction l with
  | nil => rfl
  | cons a l ih => simp [setO, ih]
@[simp] theorem setO_at1 (l m : List PObj) (k : Nat) (v : PObj) : setO (l ++ m) (l.length + k) v = l ++ setO m k v := by
  induction l with
  | nil => simp
  | cons a l ih =>
    have : (a :: l).length + k = (l.length + k) + 1 := by simp; omega
    rw [this]; simp [ih]
def keyV (p : List UInt8) (k : Int) : PV := .agg [.s p, .i .i64 k]
@[simp] theorem key_eq (p q : List UInt8) (k m : Int) : pkeyEq (.st [1, 0]) (.agg [.s p, .i .i64 k]) (.agg [.s q, .i .i64 m]) = some (decide (p = q) && decide (k = m)) := by
  by_cases h : p = q <;> simp [pkeyEq, pleavesEq, pleafEq, leafEq, h]
  by_cases h2 : k = m <;> simp [h2]
theorem find_app' (kk : KK) (k : PV) (e : PV × PV × Nat) (g : Nat → Option (Option (Nat × PV × Nat))) (hg : ∀ j, pmfind kk k [e] j = g j) : ∀ (es : List (PV × PV × Nat)) (j : Nat), pmfind kk k (es ++ [e]) j = match pmfind kk k es j with
    | some none => g (j + es.length)
    | r => r
  | [], j => by simp only [List.nil_append, hg]; rfl
  | (k', v, b) :: es, j => by
    simp only [List.cons_append, pmfind]
    cases pkeyEq kk k k' with
    | none => rfl
    | some x =>
      cases x with
      | true => rfl
      | false =>
        simp only
        rw [find_app' kk k e g hg es (j + 1)]
        have : j + 1 + es.length = j + (es.length + 1) := by omega
        simp only [List.length_cons, this]
theorem find_app (kk : KK) (k : PV) (e : PV × PV × Nat) (es : List (PV × PV × Nat)) (j : Nat) : pmfind kk k (es ++ [e]) j = match pmfind kk k es j with
    | some none => pmfind kk k [e] (j + es.length)
    | r => r := find_app' kk k e _ (fun _ => rfl) es j
/-- What a map of places has. -/
def MapOk (es : List (PV × PV × Nat)) (cs : List PCell) : Prop := ∀ p k, ∃ r, pmfind (.st [1, 0]) (.agg [.s p, .i .i64 k]) es 0 = some r ∧
  r.map (fun x => x.2.1) = (cs.findIdx? (fun o => decide (o.path = p) && decide (o.kind = k))).map fun j => PV.i .i64 (j : Nat)
theorem MapOk.nil : MapOk [] [] := fun p k => ⟨none, rfl, rfl⟩
theorem MapOk.hit {es : List (PV × PV × Nat)} {cs : List PCell} (h : MapOk es cs) {c : PCell} {x : Nat × PV × Nat} (e : pmfind (.st [1, 0]) (.agg [.s c.path, .i .i64 c.kind]) es 0 = some (some x)) : MapOk es (cs ++ [c]) := by
  intro p k
  obtain ⟨r, h1, h2⟩ := h p k
  refine ⟨r, h1, ?_⟩
  rw [h2, List.findIdx?_append]
  cases hf : cs.findIdx? (fun o => decide (o.path = p) && decide (o.kind = k)) with
  | some j => simp
  | none =>
    by_cases hc : c.path = p ∧ c.kind = k
    · obtain ⟨rfl, rfl⟩ := hc
      obtain ⟨r', h3, h4⟩ := h c.path c.kind
      rw [e] at h3
      injection h3 with h3
      rw [← h3, hf] at h4
      simp at h4
    · have : (decide (c.path = p) && decide (c.kind = k)) = false := by simpa using hc
      simp [List.findIdx?_cons, this]
theorem MapOk.miss {es : List (PV × PV × Nat)} {cs : List PCell} (h : MapOk es cs) {c : PCell} {cl : Nat} (e : pmfind (.st [1, 0]) (.agg [.s c.path, .i .i64 c.kind]) es 0 = some none) : MapOk (es ++ [(.agg [.s c.path, .i .i64 c.kind], .i .i64 (cs.length : Nat), cl)]) (cs ++ [c]) := by
  intro p k
  obtain ⟨r, h1, h2⟩ := h p k
  rw [find_app, h1]
  cases r with
  | some x =>
    refine ⟨_, rfl, ?_⟩
    rw [h2, List.findIdx?_append]
    cases hf : cs.findIdx? (fun o => decide (o.path = p) && decide (o.kind = k)) with
    | some j => simp
    | none => rw [hf] at h2; simp at h2
  | none =>
    rw [List.findIdx?_append]
    cases hf : cs.findIdx? (fun o => decide (o.path = p) && decide (o.kind = k)) with
    | some j => rw [hf] at h2; simp at h2
    | none =>
      by_cases hc : c.path = p ∧ c.kind = k
      · obtain ⟨rfl, rfl⟩ := hc
        exact ⟨some (0 + es.length, .i .i64 (cs.length : Nat), cl), by simp [pmfind], by simp [List.findIdx?_cons]⟩
      · have h3 : (decide (c.path = p) && decide (c.kind = k)) = false := by simpa using hc
        have h4 : (decide (p = c.path) && decide (k = c.kind)) = false := by
          simp only [Bool.and_eq_false_iff, decide_eq_false_iff_not] at h3 ⊢
          exact h3.imp (fun a b => a b.symm) (fun a b => a b.symm)
        exact ⟨none, by simp only [pmfind, key_eq, h4], by simp [List.findIdx?_cons, h3]⟩
structure TP where
  es : List (PV × PV × Nat)
  cl : Nat
  J : List PObj
  a : PV
  b : PV
  c : PV
  d : PV
  e : PV
  f : PV
def stP (a : Bool) (cs : List PCell) (v1 : PV) (i : Nat) (t : TP) : PSt :=
  ⟨[.ls (.v a false) cs.length (cs.flatMap PCell.enc), v1, .m 0, t.a, t.b, t.c, t.d, .ls (.v a false) cs.length (cs.flatMap PCell.enc), .i .i64 cs.length, .i .i64 (i : Nat), t.e, t.f], ⟨.map t.es t.cl :: t.J, 0, [], 0⟩⟩
theorem places_loop (a : Bool) (cs : List PCell) (v1 : PV) (hl : cs.length ≤ 1073741824) : ∀ m i, i + m = cs.length → ∀ t : TP, MapOk t.es (cs.take i) → ∃ t' : TP, MapOk t'.es cs ∧ piterL (pdenL (PC pfs) lp28_1) (stP a cs v1 i t) = some (.exit 0, stP a cs v1 cs.length t') := by
  intro m
  induction m with
  | zero =>
    intro i hi t hm
    have : i = cs.length := by omega
    subst this
    refine ⟨⟨t.es, t.cl, t.J, t.a, t.b, t.c, t.d, .b false, t.f⟩, by simpa using hm, ?_⟩
    rw [piterL_eq]
    simp [stP, lp28_1]
  | succ m ih =>
    intro i hi t hm
    have hlt : i < cs.length := by omega
    have h1 := C_at i cs hlt
    simp only [PCell.enc] at h1
    have hk : psub [.s cs[i].path, .i .i64 cs[i].kind] 0 2 = some [.s cs[i].path, .i .i64 cs[i].kind] := rfl
    obtain ⟨r, h2, h3⟩ := hm cs[i].path cs[i].kind
    cases r with
    | some x =>
      obtain ⟨q0, w0, b0⟩ := x
      have hj : ∃ j : Nat, w0 = .i .i64 j := by
        cases hf : (cs.take i).findIdx? (fun o => decide (o.path = cs[i].path) && decide (o.kind = cs[i].kind)) with
        | none => rw [hf] at h3; simp at h3
        | some j => rw [hf] at h3; exact ⟨j, by simpa using h3⟩
      obtain ⟨j0, rfl⟩ := hj
      have step : ∃ t' : TP, t'.es = t.es ∧ pdenL (PC pfs) lp28_1 (stP a cs v1 i t) = some (.norm, stP a cs v1 (i + 1) t') := by
        refine ⟨⟨t.es, t.cl, t.J ++ [.cells cs[i].enc 0, .cells [.s cs[i].path, .i .i64 cs[i].kind] 0], .i .i64 (i : Nat), .p (t.J.length + 1) 0, .p (t.J.length + 1 + 1) 0, .b true, .b true, .b false⟩, rfl, ?_⟩
        simp [stP, lp28_1, hlt, h1, hk, psplice, pget, pLook, pokKey, plookOut, h2, PCell.enc, awrap_nat1 (n := i) (by omega)]
      obtain ⟨t1, he, h4⟩ := step
      have := (hm.hit h2)
      rw [take_succ hlt] at this
      obtain ⟨t', h5, h6⟩ := ih (i + 1) (by omega) t1 (by rw [he]; exact this)
      exact ⟨t', h5, by rw [piterL_eq, h4]; exact h6⟩
    | none =>
      have step : ∃ t' : TP, t'.es = t.es ++ [(.agg [.s cs[i].path, .i .i64 cs[i].kind], .i .i64 (i : Nat), t.cl)] ∧ pdenL (PC pfs) lp28_1 (stP a cs v1 i t) = some (.norm, stP a cs v1 (i + 1) t') := by
        refine ⟨⟨t.es ++ [(.agg [.s cs[i].path, .i .i64 cs[i].kind], .i .i64 (i : Nat), t.cl)], t.cl + 1, t.J ++ [.cells cs[i].enc 0, .cells [.s cs[i].path, .i .i64 cs[i].kind] 0], .i .i64 (i : Nat), .p (t.J.length + 1) 0, .p (t.J.length + 1 + 1) 0, .b false, .b true, .b true⟩, rfl, ?_⟩
        simp [stP, lp28_1, hlt, h1, hk, psplice, pget, pLook, pMupd, pokKey, plookOut, h2, PCell.enc, awrap_nat1 (n := i) (by omega)]
      obtain ⟨t1, he, h4⟩ := step
      have := (hm.miss (cl := t.cl) h2)
      rw [take_succ hlt] at this
      obtain ⟨t', h5, h6⟩ := ih (i + 1) (by omega) t1 (by rw [he]; simpa [Nat.min_eq_left (Nat.le_of_lt hlt)] using this)
      exact ⟨t', h5, by rw [piterL_eq, h4]; exact h6⟩
theorem places_ok (a : Bool) (cs : List PCell) (hl : cs.length ≤ 1073741824) : ∃ es cl J, MapOk es cs ∧ PC pfs 28 [.ls (.v a false) cs.length (cs.flatMap PCell.enc)] .empty = some (.m 0, ⟨.map es cl :: J, 0, [], 0⟩) := by
  obtain ⟨t', hm, h⟩ := places_loop a cs .nilm hl cs.length 0 (by omega) ⟨[], 0, [], .und, .und, .und, .und, .und, .und⟩ (by simpa using MapOk.nil)
  refine ⟨t'.es, t'.cl, t'.J, hm, ?_⟩
  rw [PC_eq (F := pf28) rfl]
  simp [stP] at h
  simp [pf28]
  simp [h]
structure TD where
  J : List PObj
  a : PV
  b : PV
  c : PV
  d : PV
  e : PV
  f : PV
def stG (a b : Bool) (old fresh : List PCell) (es : List (PV × PV × Nat)) (cl : Nat) (J0 : List PObj) (v2 : PV) (i : Nat) (t : TD) : PSt :=
  ⟨[.ls (.v a false) old.length (old.flatMap PCell.enc), .ls (.v b false) fresh.length (fresh.flatMap PCell.enc), v2, .m 0, .sl (J0.length + 1) 0 fresh.length (some fresh.length), t.a, t.b, t.c, t.d, .ls (.v b false) fresh.length (fresh.flatMap PCell.enc), .i .i64 fresh.length, .i .i64 (i : Nat), t.e, t.f],
   ⟨.map es cl :: (J0 ++ (.cells (((diffOf old fresh).take i ++ (List.replicate fresh.length (0 : Int)).drop i).flatMap encI) 1 :: t.J)), 0, [], 0⟩⟩
@[simp] theorem diffOf_len (old fresh : List PCell) : (diffOf old fresh).length = fresh.length := by simp [diffOf]
theorem spl6 (x0 x1 x2 x3 x4 x5 a b c d e f : PV) : psplice [x0, x1, x2, x3, x4, x5] 0 [a, b, c, d, e, f] = some [a, b, c, d, e, f] := rfl
theorem spl20 (x0 x1 a : PV) : psplice [x0, x1] 0 [a] = some [a, x1] := rfl
theorem spl21 (x0 x1 a : PV) : psplice [x0, x1] 1 [a] = some [x0, a] := rfl
theorem diff_loop (a b : Bool) (old fresh : List PCell) (es : List (PV × PV × Nat)) (cl : Nat) (J0 : List PObj) (v2 : PV) (hm : MapOk es old) (hl : fresh.length ≤ 1073741824) (t : TD) :
    ∃ t', piterL (pdenL (PC pfs) lp16_1) (stG a b old fresh es cl J0 v2 0 t) = some (.exit 0, stG a b old fresh es cl J0 v2 fresh.length t') := by
  refine @for_loop (pdenL (PC pfs) lp16_1) TD 0 (stG a b old fresh es cl J0 v2) (stG a b old fresh es cl J0 v2 fresh.length) fresh.length ?_ ?_ t
  · intro i hlt t
    have h1 := C_at i fresh hlt
    simp only [PCell.enc] at h1
    have hd : (diffOf old fresh)[i]'(by simp [diffOf, hlt]) = wasAt old fresh[i] := by simp [diffOf]
    have hs := splice_flat (enc := encI) (k := 1) (fun _ => rfl) ((diffOf old fresh).take i ++ (List.replicate fresh.length (0 : Int)).drop i) i (wasAt old fresh[i]) (by rw [List.length_append, List.length_take, List.length_drop, List.length_replicate]; simp [diffOf]; omega)
    have hx := set_mix (l := List.replicate fresh.length (0 : Int)) (m := diffOf old fresh) i (by rw [List.length_replicate]; exact hlt) (by simp [diffOf])
    rw [hd] at hx
    rw [hx] at hs
    simp only [encI, List.flatMap_append, Nat.mul_one, List.drop_replicate] at hs
    obtain ⟨r, h2, h3⟩ := hm fresh[i].path fresh[i].kind
    cases r with
    | some x =>
      obtain ⟨q0, w0, b0⟩ := x
      have hj : w0 = .i .i64 (wasAt old fresh[i]) := by
        cases hf : old.findIdx? (sameCell fresh[i]) with
        | none => rw [show (fun o : PCell => decide (o.path = fresh[i].path) && decide (o.kind = fresh[i].kind)) = sameCell fresh[i] from rfl, hf] at h3; simp at h3
        | some j => rw [show (fun o : PCell => decide (o.path = fresh[i].path) && decide (o.kind = fresh[i].kind)) = sameCell fresh[i] from rfl, hf] at h3; simp [wasAt, hf]; simpa using h3
      subst hj
      refine ⟨⟨t.J ++ [.cells fresh[i].enc 0], .i .i64 (i : Nat), .p (J0.length + 1 + (t.J.length + 1)) 0, .i .i64 (wasAt old fresh[i]), .b true, .b true, .b false⟩, ?_⟩
      simp [stG, lp16_1, hlt, h1, spl6, spl20, spl21, pget, pLook, pokKey, plookOut, h2, PCell.enc, awrap_nat1 (n := i) (by omega)]
      simp [hs, awrap_nat1 (n := i) (by omega)]
      omega
    | none =>
      have hj : wasAt old fresh[i] = -1 := by
        cases hf : old.findIdx? (sameCell fresh[i]) with
        | none => simp [wasAt, hf]
        | some j => rw [show (fun o : PCell => decide (o.path = fresh[i].path) && decide (o.kind = fresh[i].kind)) = sameCell fresh[i] from rfl, hf] at h3; simp at h3
      rw [hj] at hs
      refine ⟨⟨t.J ++ [.cells fresh[i].enc 0], .i .i64 (i : Nat), .p (J0.length + 1 + (t.J.length + 1)) 0, .i .i64 (-1), .b false, .b true, .b true⟩, ?_⟩
      simp [stG, lp16_1, hlt, h1, spl6, spl20, spl21, pget, pLook, pokKey, plookOut, h2, PCell.enc, awrap_nat1 (n := i) (by omega)]
      simp [hs, awrap_nat1 (n := i) (by omega)]
      omega
  · intro t
    refine ⟨⟨t.J, t.a, t.b, t.c, t.d, .b false, t.f⟩, ?_⟩
    simp [stG, lp16_1]
theorem mig_ok (a b : Bool) (old fresh : List PCell) (ho : old.length ≤ 1073741824) (hl : fresh.length ≤ 1073741824) :
    ∃ r, iso (PC pfs) 16 [.ls (.v a false) old.length (old.flatMap PCell.enc), .ls (.v b false) fresh.length (fresh.flatMap PCell.enc)] = some r ∧ (r = vl encI (diffOf old fresh) ∨ r = .ls (.fresh fresh.length 1) fresh.length ((diffOf old fresh).flatMap encI)) := by
  obtain ⟨es, cl, J, hm, hp⟩ := places_ok a old ho
  obtain ⟨t', h⟩ := diff_loop a b old fresh es cl J (.ls (.v false true) 0 []) hm hl ⟨[], .und, .und, .und, .und, .und, .und⟩
  simp only [stG] at h
  have e1 : (diffOf old fresh).take 0 ++ (List.replicate fresh.length (0 : Int)).drop 0 = List.replicate fresh.length 0 := by simp
  have e2 : (diffOf old fresh).take fresh.length ++ (List.replicate fresh.length (0 : Int)).drop fresh.length = diffOf old fresh := by
    rw [List.take_of_length_le (by simp), List.drop_of_length_le (by simp)]; simp
  have e3 : prep fresh.length [.i .i64 0] = (List.replicate fresh.length (0 : Int)).flatMap encI := by
    simp [prep, List.flatMap_def, encI]
  rw [e1, e2] at h
  simp only [PH.empty] at hp
  unfold iso
  rw [PC_eq (F := pf16) rfl]
  have hc : fresh.length ≤ 35184372088832 := by omega
  have hc2 : fresh.length ≤ 4611686018427387904 := by omega
  have hc3 : 8 * fresh.length ≤ 281474976710656 := by omega
  cases hn : fresh.length with
  | zero =>
    have : fresh = [] := by simpa using hn
    subst this
    refine ⟨.ls (.v false false) 0 [], ?_, .inl (by simp [vl, diffOf])⟩
    simp at h
    simp [pf16, hp]
    simp [h, diffOf, psub]
  | succ n =>
    refine ⟨.ls (.fresh fresh.length 1) fresh.length ((diffOf old fresh).flatMap encI), ?_, .inr (by rw [hn])⟩
    rw [← hn]
    simp at h
    simp [-prep, pf16, hp, hc2, hc3, e3]
    have hs : psub ((diffOf old fresh).flatMap encI) 0 fresh.length = some ((diffOf old fresh).flatMap encI) := psub_all (by simp)
    simp [h, hs, clo_shutL (shutI _)]
    rw [hn]
end Go.Av
end
section
/- Contracts: migrate.Cells. -/
namespace Go.Av
@[simp] theorem overOf_len (old fresh : List PCell) (vs : List Int) : (overOf old fresh vs).length = fresh.length := by simp [overOf]
theorem mix_len (l m : List Int) (i : Nat) (hm : l.length = m.length) : (m.take i ++ l.drop i).length = l.length := by simp; omega
theorem set_mix' {l m : List Int} (i : Nat) (x y : Int) (hl : i < l.length) (hm : l.length = m.length) (hy : y = m[i]) : ((m.take i ++ l.drop i).set i x).set i y = m.take (i + 1) ++ l.drop (i + 1) := by
  subst hy
  rw [List.set_set, set_mix i hl hm]
structure TM where
  a : PV
  b : PV
  c : PV
  d : PV
def stM (a b c : Bool) (old fresh : List PCell) (vs : List Int) (v3 : PV) (i : Nat) (t : TM) : PSt :=
  ⟨[.ls (.v a false) old.length (old.flatMap PCell.enc), .ls (.v b false) fresh.length (fresh.flatMap PCell.enc), .ls (.v c false) vs.length (vs.flatMap encI), v3, .sl 0 0 fresh.length (some fresh.length), t.a, t.b, .ls (.v false false) fresh.length ((diffOf old fresh).flatMap encI), .i .i64 fresh.length, .i .i64 (i : Nat), t.c, t.d],
   ⟨[.cells (((overOf old fresh vs).take i ++ (List.replicate fresh.length (0 : Int)).drop i).flatMap encI) 1], 0, [], 0⟩⟩
theorem mcells_loop (a b c : Bool) (old fresh : List PCell) (vs : List Int) (v3 : PV) (hl : fresh.length ≤ 1073741824) (t : TM) :
    ∃ t', piterL (pdenL (PC pfs) lp18_1) (stM a b c old fresh vs v3 0 t) = some (.exit 0, stM a b c old fresh vs v3 fresh.length t') := by
  refine @for_loop (pdenL (PC pfs) lp18_1) TM 0 (stM a b c old fresh vs v3) (stM a b c old fresh vs v3 fresh.length) fresh.length ?_ ?_ t
  · intro i hlt t
    have hg : pget ((diffOf old fresh).flatMap encI) i = some (.i .i64 (wasAt old fresh[i])) := by
      have := I_at i (diffOf old fresh) (by simp [hlt])
      simpa [diffOf] using this
    have one : ∀ x, psplice (((overOf old fresh vs).take i ++ (List.replicate fresh.length (0 : Int)).drop i).flatMap encI) i [.i .i64 x] = some ((((overOf old fresh vs).take i ++ (List.replicate fresh.length (0 : Int)).drop i).set i x).flatMap encI) := by
      intro x
      have := splice_flat (enc := encI) (k := 1) (fun _ => rfl) ((overOf old fresh vs).take i ++ (List.replicate fresh.length (0 : Int)).drop i) i x (by rw [mix_len _ _ _ (by simp)]; simpa using hlt)
      simpa only [encI, Nat.mul_one] using this
    have two : ∀ x y, psplice ((((overOf old fresh vs).take i ++ (List.replicate fresh.length (0 : Int)).drop i).set i x).flatMap encI) i [.i .i64 y] = some (((((overOf old fresh vs).take i ++ (List.replicate fresh.length (0 : Int)).drop i).set i x).set i y).flatMap encI) := by
      intro x y
      have := splice_flat (enc := encI) (k := 1) (fun _ => rfl) (((overOf old fresh vs).take i ++ (List.replicate fresh.length (0 : Int)).drop i).set i x) i y (by rw [List.length_set, mix_len _ _ _ (by simp)]; simpa using hlt)
      simpa only [encI, Nat.mul_one] using this
    have end1 : ∀ x, x = (overOf old fresh vs)[i]'(by simp [hlt]) → ((overOf old fresh vs).take i ++ (List.replicate fresh.length (0 : Int)).drop i).set i x = (overOf old fresh vs).take (i + 1) ++ (List.replicate fresh.length (0 : Int)).drop (i + 1) := by
      rintro x rfl
      exact set_mix i (by simpa using hlt) (by simp)
    have end2 : ∀ x y, y = (overOf old fresh vs)[i]'(by simp [hlt]) → (((overOf old fresh vs).take i ++ (List.replicate fresh.length (0 : Int)).drop i).set i x).set i y = (overOf old fresh vs).take (i + 1) ++ (List.replicate fresh.length (0 : Int)).drop (i + 1) := by
      intro x y hy
      exact set_mix' i x y (by simpa using hlt) (by simp) hy
    simp only [stM]
    generalize hM : (overOf old fresh vs).take i ++ (List.replicate fresh.length (0 : Int)).drop i = M at one two end1 end2 ⊢
    cases hw : old.findIdx? (sameCell fresh[i]) with
    | none =>
      have e := end1 fresh[i].init (by simp [overOf, hw])
      rw [← e]
      simp [wasAt, hw] at hg
      refine ⟨⟨.i .i64 (i : Nat), .i .i64 (-1), .b true, .b false⟩, ?_⟩
      simp [lp18_1, hlt, C_init i fresh hlt, hg, one, awrap_nat1 (n := i) (by omega)]
    | some m =>
      simp [wasAt, hw] at hg
      have hmi : (0 : Int) ≤ m := by omega
      by_cases hm : m < vs.length
      · have e := end2 fresh[i].init vs[m] (by simp [overOf, hw, hm])
        rw [← e]
        refine ⟨⟨.i .i64 (i : Nat), .i .i64 (m : Nat), .b true, .b true⟩, ?_⟩
        simp [-List.set_set, lp18_1, hlt, C_init i fresh hlt, hg, hmi, hm, I_at m vs hm, one, two, awrap_nat1 (n := i) (by omega)]
      · have e := end1 fresh[i].init (by simp [overOf, hw, hm])
        rw [← e]
        refine ⟨⟨.i .i64 (i : Nat), .i .i64 (m : Nat), .b true, .b false⟩, ?_⟩
        simp [lp18_1, hlt, C_init i fresh hlt, hg, hmi, hm, one, awrap_nat1 (n := i) (by omega)]
  · intro t
    refine ⟨⟨t.a, t.b, .b false, t.d⟩, ?_⟩
    simp [stM, lp18_1]
theorem mcells_ok (a b c : Bool) (old fresh : List PCell) (vs : List Int) (ho : old.length ≤ 1073741824) (hl : fresh.length ≤ 1073741824) :
    ∃ r, iso (PC pfs) 18 [.ls (.v a false) old.length (old.flatMap PCell.enc), .ls (.v b false) fresh.length (fresh.flatMap PCell.enc), .ls (.v c false) vs.length (vs.flatMap encI)] = some r ∧ (r = vl encI (overOf old fresh vs) ∨ r = .ls (.fresh fresh.length 1) fresh.length ((overOf old fresh vs).flatMap encI)) := by
  obtain ⟨r0, hr, hr2⟩ := mig_ok a b old fresh ho hl
  obtain ⟨t', h⟩ := mcells_loop a b c old fresh vs (.ls (.v false true) 0 []) hl ⟨.und, .und, .und, .und⟩
  simp only [stM] at h
  have e1 : (overOf old fresh vs).take 0 ++ (List.replicate fresh.length (0 : Int)).drop 0 = List.replicate fresh.length 0 := by simp
  have e2 : (overOf old fresh vs).take fresh.length ++ (List.replicate fresh.length (0 : Int)).drop fresh.length = overOf old fresh vs := by
    rw [List.take_of_length_le (by simp), List.drop_of_length_le (by simp)]; simp
  have e3 : prep fresh.length [.i .i64 0] = (List.replicate fresh.length (0 : Int)).flatMap encI := by
    simp [prep, List.flatMap_def, encI]
  rw [e1, e2] at h
  unfold iso
  rw [PC_eq (F := pf18) rfl]
  have hc2 : fresh.length ≤ 4611686018427387904 := by omega
  have hc3 : 8 * fresh.length ≤ 281474976710656 := by omega
  cases hn : fresh.length with
  | zero =>
    have : fresh = [] := by simpa using hn
    subst this
    refine ⟨.ls (.v false false) 0 [], ?_, .inl (by simp [vl, overOf])⟩
    simp at h
    rcases hr2 with rfl | rfl
    · simp [vl] at hr
      simp [pf18, hr]
      simp [h, overOf, psub]
    · simp at hr
      simp [pf18, hr]
      simp [h, overOf, psub]
  | succ n =>
    refine ⟨.ls (.fresh fresh.length 1) fresh.length ((overOf old fresh vs).flatMap encI), ?_, .inr (by rw [hn])⟩
    rw [← hn]
    simp at h
    have hs : psub ((overOf old fresh vs).flatMap encI) 0 fresh.length = some ((overOf old fresh vs).flatMap encI) := psub_all (by simp)
    rcases hr2 with rfl | rfl
    · simp [vl] at hr
      simp [-prep, pf18, hr, hc2, hc3, e3]
      simp [h, hs, clo_shutL (shutI _)]
      rw [hn]
    · simp [-prep, pf18, hr, hc2, hc3, e3]
      simp [h, hs, clo_shutL (shutI _)]
      rw [hn]
end Go.Av
end
section
/- Contracts: a type's fields, a size. -/
namespace Go.Av
def tonF : List PFld := [⟨[73, 78], 1⟩, ⟨[80, 84], 6⟩, ⟨[81], 1⟩, ⟨[69, 84], 6⟩, ⟨[84, 48], 6⟩, ⟨[82, 85, 78], 1⟩]
def ctuF : List PFld := [⟨[67, 85], 1⟩, ⟨[82], 1⟩, ⟨[80, 86], 5⟩, ⟨[81], 1⟩, ⟨[67, 86], 5⟩, ⟨[79, 76, 68], 1⟩]
def fieldsOf (t : PTy) : List PFld := if t.kind = 8 then t.fields else if t.kind = 9 then tonF else if t.kind = 10 then ctuF else []
/-- A list as a call's answer. -/
def Ls {α : Type} (enc : α → List PV) (k : Nat) (l : List α) (r : PV) : Prop := r = vl enc l ∨ r = .ls (.fresh l.length k) l.length (l.flatMap enc)
theorem fields_ok (t : PTy) (hl : t.fields.length ≤ 1073741824) : iso (PC pfs) 33 [.agg t.enc] = some (vl PFld.enc (fieldsOf t)) := by
  unfold iso
  rw [PC_eq (F := pf33) rfl]
  by_cases h8 : t.kind = 8
  · cases hn : t.fields.length with
    | zero =>
      have : t.fields = [] := by simpa using hn
      skip
      simp [pf33, PTy.enc, h8, vl, fieldsOf, this, psplice, pget]
    | succ n =>
      skip
      have ha := pan_view (σ := ⟨[.cells [.i .i64 8, .i .i64 t.elem, .i .i64 t.n, vl PFld.enc t.fields] 0], 0, [], 0⟩) (ez := 2) (bytes := 24) (n := t.fields.length) (sn := 0) (b := false) (cs := []) (new := t.fields.flatMap PFld.enc) (by simp) (by omega) (by omega) (.inl rfl)
      simp [vl, hn] at ha
      have hs : psub (t.fields.flatMap PFld.enc) 0 (t.fields.length * 2) = some (t.fields.flatMap PFld.enc) := psub_all (by simp)
      rw [hn] at hs
      simp [pf33, PTy.enc, h8, vl, fieldsOf, psplice, pget, hn, hs, clo_shutL (shutF _)]
      simp [ha]
  · by_cases h9 : t.kind = 9
    · simp [pf33, PTy.enc, h9, vl, fieldsOf, psplice, pget, tonF, PFld.enc]
      trace_state
    · by_cases h10 : t.kind = 10
      · simp [pf33, PTy.enc, h10, vl, fieldsOf, psplice, pget, ctuF, PFld.enc]
      · simp [pf33, PTy.enc, h8, h9, h10, vl, fieldsOf, psplice, pget]
def valueK (k : Int) : Bool := decide (1 ≤ k) && decide (k ≤ 6)
def sizeOf' (t : PTy) : Int := if valueK t.kind = true then 1 else if t.kind = 7 then t.n else (fieldsOf t).length
theorem size_ok (t : PTy) (hl : t.fields.length ≤ 1073741824) : iso (PC pfs) 25 [.agg t.enc] = some (.i .i64 (sizeOf' t)) := by
  have hf := fields_ok t hl
  have hv := value_ok t.kind
  unfold iso
  rw [PC_eq (F := pf25) rfl]
  by_cases h1 : valueK t.kind = true
  · unfold valueK at h1
    rw [h1] at hv
    simp [pf25, PTy.enc, vl, psplice, pget, sizeOf', valueK, h1, hv]
  · have h1' : valueK t.kind = false := by simpa using h1
    unfold valueK at h1'
    rw [h1'] at hv
    by_cases h7 : t.kind = 7
    · rw [h7] at hv
      simp [pf25, PTy.enc, vl, psplice, pget, sizeOf', valueK, hv, h7]
    · simp [PTy.enc, vl] at hf
      simp [pf25, PTy.enc, vl, psplice, pget, psub, sizeOf', valueK, h1', hv, h7, hf]
end Go.Av
end
section
/- Contracts: a number's digits. -/
namespace Go.Av
def digitsOf (n : Nat) : List UInt8 := if h : n < 10 then [UInt8.ofNat (48 + n)] else digitsOf (n / 10) ++ digitsOf (n % 10)
termination_by n
decreasing_by all_goals omega
theorem digitsOf_len (n : Nat) : (digitsOf n).length ≤ n + 1 := by
  induction n using Nat.strongRecOn with
  | _ n ih =>
    rw [digitsOf]
    split
    · simp
    · rename_i h
      have h1 := ih (n / 10) (by omega)
      have h2 := ih (n % 10) (by omega)
      rw [List.length_append]; omega
theorem digits_ok (n : Nat) (hn : n ≤ 1000000) : iso (PC pfs) 34 [.i .i64 n] = some (.s (digitsOf n)) := by
  induction n using Nat.strongRecOn with
  | _ n ih =>
    unfold iso
    rw [PC_eq (F := pf34) rfl, digitsOf]
    by_cases h : n < 10
    · have h1 : ¬ (10 : Int) ≤ n := by omega
      have h2 : awrap .i64 (48 + n) = 48 + n := awrap_id (by omega) (by omega)
      have h3 : awrap .u8 (48 + n) = 48 + n := by
        rw [awrap_eq]
        simp [IntKind.wrap, IntKind.signed, IntKind.bits]; omega
      have hb : ∀ n : Nat, n < 10 → pbytesOf [.i .u8 (48 + (n : Int))] = some [UInt8.ofNat (48 + n)] := by decide
      simp [pf34, h, h1, h2, h3, psplice, psub, hb n h]
    · have h1 : (10 : Int) ≤ n := by omega
      have i1 := ih (n / 10) (by omega) (by omega)
      have i2 := ih (n % 10) (by omega) (by omega)
      have l1 := digitsOf_len (n / 10)
      have l2 := digitsOf_len (n % 10)
      have h2 : (n : Int).tdiv 10 = ((n / 10 : Nat) : Int) := by rw [Int.tdiv_eq_ediv_of_nonneg (by omega)]; omega
      have h3 : (n : Int).tmod 10 = ((n % 10 : Nat) : Int) := by rw [Int.tmod_eq_emod_of_nonneg (by omega)]; omega
      have h4 : (digitsOf (n / 10)).length + (digitsOf (n % 10)).length ≤ 4611686018427387904 := by omega
      simp at i1 i2
      have h5 : awrap .i64 ((n : Int) / 10) = (n : Int) / 10 := awrap_id (by omega) (by omega)
      simp [pf34, h, h1, h2, h3, h5, i1, i2, h4]
end Go.Av
end
section
/- Contracts: names. -/
namespace Go.Av
def chA (c : UInt8) : Bool := decide (97 ≤ c.toNat) && decide (c.toNat ≤ 122)
def chN (c : UInt8) : Bool := chA c || (decide (48 ≤ c.toNat) && decide (c.toNat ≤ 57))
def nameOk (s : List UInt8) (m : Nat) : Bool := decide (s.length ≤ m) && (match s with
  | [] => false
  | c :: _ => chA c) && s.all chN
theorem nth8_at : ∀ (s : List UInt8) (i : Nat) (h : i < s.length), nth8 s i = some s[i]
  | c :: s, 0, _ => rfl
  | c :: s, i + 1, h => by simp only [nth8]; exact nth8_at s i (by simpa using h)
def stN (s : List UInt8) (m : Nat) (v2 v4 : PV) (i : Nat) (t : PV × PV) : PSt := ⟨[.s s, .i .i64 m, v2, .i .i64 (i : Nat), v4, t.1, t.2], .empty⟩
theorem name_loop (s : List UInt8) (m : Nat) (hs : s.length ≤ 1073741824) :
    (s.all chN = false ∧ ∃ i t', piterL (pdenL (PC pfs) lp29_1) (stN s m (.b false) (.b false) 0 (.und, .und)) = some (.ret, stN s m (.b false) (.b false) i t')) ∨
    (s.all chN = true ∧ ∃ t', piterL (pdenL (PC pfs) lp29_1) (stN s m (.b false) (.b false) 0 (.und, .und)) = some (.exit 0, stN s m (.b false) (.b false) s.length t')) := by
  have key := @for_find (pdenL (PC pfs) lp29_1) (PV × PV) 0 (stN s m (.b false) (.b false)) (stN s m (.b false) (.b false) s.length) (fun i => ∃ h : i < s.length, chN s[i] = false) (fun i t => stN s m (.b false) (.b false) i t) s.length ?_ ?_ ?_ (.und, .und)
  · rcases key with ⟨i, hi, ⟨_, hp⟩, _, t', h⟩ | ⟨hj, t', h⟩
    · refine .inl ⟨?_, i, t', h⟩
      rw [Bool.eq_false_iff]
      intro ha
      rw [List.all_eq_true.1 ha s[i] (by simp)] at hp
      cases hp
    · refine .inr ⟨?_, t', h⟩
      rw [List.all_eq_true]
      intro x hx
      obtain ⟨j, h, rfl⟩ := List.getElem_of_mem hx
      cases e : chN s[j] with
      | true => rfl
      | false => exact absurd ⟨h, e⟩ (hj j h)
  · rintro i hi ⟨_, hp⟩ t
    refine ⟨(.b true, .b true), ?_⟩
    have hn := nth8_at s i hi
    simp only [chN, chA, Bool.or_eq_false_iff, Bool.and_eq_false_iff, decide_eq_false_iff_not] at hp
    generalize hg : s[i] = ch at hn hp
    by_cases a1 : ((ch.toNat : Nat) : Int) < 97 <;> by_cases a2 : 122 < ((ch.toNat : Nat) : Int) <;> by_cases a3 : ((ch.toNat : Nat) : Int) < 48 <;> by_cases a4 : 57 < ((ch.toNat : Nat) : Int) <;>
      first
      | (exfalso; omega)
      | simp [stN, lp29_1, hi, hn, a1, a2, a3, a4]
  · intro i hi hp t
    refine ⟨(.b true, .b false), ?_⟩
    have hn := nth8_at s i hi
    have hp : chN s[i] = true := by
      cases e : chN s[i] with
      | true => rfl
      | false => exact absurd ⟨hi, e⟩ hp
    simp only [chN, chA, Bool.or_eq_true, Bool.and_eq_true, decide_eq_true_eq] at hp
    generalize hg : s[i] = ch at hn hp
    by_cases a1 : ((ch.toNat : Nat) : Int) < 97 <;> by_cases a2 : 122 < ((ch.toNat : Nat) : Int) <;> by_cases a3 : ((ch.toNat : Nat) : Int) < 48 <;> by_cases a4 : 57 < ((ch.toNat : Nat) : Int) <;>
      first
      | (exfalso; omega)
      | simp [stN, lp29_1, hi, hn, a1, a2, a3, a4, awrap_nat1 (n := i) (by omega)]
  · intro t
    refine ⟨(.b false, t.2), ?_⟩
    simp [stN, lp29_1]
theorem name_ok (s : List UInt8) (m : Nat) (hs : s.length ≤ 1073741824) : iso (PC pfs) 29 [.s s, .i .i64 m] = some (.b (nameOk s m)) := by
  unfold iso
  rw [PC_eq (F := pf29) rfl]
  cases s with
  | nil => simp [pf29, nameOk]
  | cons c s =>
    have h0 : ¬ ((s.length : Int) + 1 < 1) := by omega
    have hn : nth8 (c :: s) 0 = some c := rfl
    by_cases hm : (m : Int) < (s.length : Int) + 1
    · have h1 : ¬ (s.length + 1 ≤ m) := by omega
      simp [pf29, nameOk, h0, hm, h1]
    · have h1 : s.length + 1 ≤ m := by omega
      by_cases a1 : ((c.toNat : Nat) : Int) < 97
      · have a3 : ¬ (97 ≤ c.toNat) := by omega
        simp [pf29, nameOk, h0, hm, h1, hn, a1, a3, chA]
      · by_cases a2 : 122 < ((c.toNat : Nat) : Int)
        · have a3 : ¬ (c.toNat ≤ 122) := by omega
          simp [pf29, nameOk, h0, hm, h1, hn, a1, a2, a3, chA]
        · have a3 : 97 ≤ c.toNat := by omega
          have a4 : c.toNat ≤ 122 := by omega
          rcases name_loop (c :: s) m hs with ⟨ha, i, t', h⟩ | ⟨ha, t', h⟩
          · simp only [stN, PH.empty] at h
            simp at h
            have e : nameOk (c :: s) m = false := by simp only [nameOk, ha, Bool.and_false]
            rw [e]
            simp [pf29, h0, hm, hn, a1, a2]
            simp [h]
          · simp only [stN, PH.empty] at h
            simp at h
            have e : nameOk (c :: s) m = true := by simp only [nameOk, ha]; simp [h1, chA, a3, a4]
            rw [e]
            simp [pf29, h0, hm, hn, a1, a2]
            simp [h]
end Go.Av
end
section
/- Contracts: a variable's cells (under way). -/
namespace Go.Av
def cell0 (s : PSym) (p : List UInt8) (k len block : Int) (i : Nat) : PCell := ⟨p, k, s.retain, s.init[i]?.getD 0, len, block⟩
/-- solenoidref8.of -/
def cellsOf (s : PSym) : List PCell :=
  if valueK s.type.kind = true then [cell0 s s.name s.type.kind 0 0 0]
  else if s.type.kind = 7 then (List.range s.type.n.toNat).map fun i => cell0 s (s.name ++ [91] ++ digitsOf i ++ [93]) s.type.elem (if i = 0 then s.type.n else 0) 0 i
  else (fieldsOf s.type).mapIdx fun i f => cell0 s (s.name ++ [46] ++ f.name) f.kind 0 (if i = 0 ∧ s.type.kind ≠ 8 then s.type.kind else 0) i
/-- One field is written. -/
theorem splice_fld {α : Type} {enc : α → List PV} {k : Nat} (h : ∀ a, (enc a).length = k) (l : List α) (i : Nat) (hi : i < l.length) (j : Nat) (hj : j < k) (v : PV) (a : α) (ha : enc a = (enc l[i]).set j v) : psplice (l.flatMap enc) (i * k + j) [v] = some ((l.set i a).flatMap enc) := by
  have hb : i * k + j + 1 ≤ l.length * k := by
    have := Nat.mul_le_mul_right k (show i + 1 ≤ l.length from hi)
    rw [Nat.succ_mul] at this; omega
  have key : ∀ (L : List PV) (n : Nat), n < L.length → psplice L n [v] = some (L.set n v) := by
    intro L n hn
    unfold psplice
    rw [if_pos (by simp only [List.length_cons, List.length_nil]; omega)]
    congr 1
    apply List.ext_getElem?
    intro m
    rw [List.getElem?_set]
    simp only [List.append_assoc, List.getElem?_append, List.length_take, List.getElem?_take, List.getElem?_drop, List.length_cons, List.length_nil]
    have : min n L.length = n := by omega
    rw [this]
    by_cases h1 : m < n
    · simp [h1, show ¬ n = m by omega]
    · by_cases h2 : n = m
      · subst h2; simp [hn]
      · have h3 : ¬ m - n < 1 := by omega
        simp [h1, h2, h3]
        congr 1; omega
  rw [key _ _ (by rw [flat_len h]; omega)]
  congr 1
  clear key hb
  induction l generalizing i with
  | nil => simp at hi
  | cons b l ih =>
    cases i with
    | zero =>
      simp at ha
      simp [List.set_append, h, hj, ha]
    | succ i =>
      have := ih i (by simpa using hi) (by simpa using ha)
      simp only [List.flatMap_cons, List.set_cons_succ]
      rw [← this, List.set_append, if_neg (by rw [h, Nat.succ_mul]; omega)]
      congr 2
      rw [h, Nat.succ_mul]; omega
end Go.Av
end
section
/- Contracts: a variable's cells: the last loop (under way). -/
namespace Go.Av
theorem S5 (s : PSym) : pget s.enc 5 = some (.b s.retain) := rfl
theorem S6 (s : PSym) : pget s.enc 6 = some (.ls (.v s.bor false) s.init.length (s.init.flatMap encI)) := rfl
def fillC (s : PSym) (i : Nat) (c : PCell) : PCell := { c with retain := s.retain, init := s.init[i]?.getD c.init }
def fillS (s : PSym) (raw : List PCell) : List PCell := raw.mapIdx (fillC s)
@[simp] theorem fill_len (s : PSym) (raw : List PCell) : (fillS s raw).length = raw.length := by simp [fillS]
def stO (s : PSym) (raw : List PCell) (J : List PObj) (rt : List Root) (v0 v2 v4 v5 v6 v7 v8 v10 v11 v12 v13 v14 v15 : PV) (i : Nat) (t : PV × PV) : PSt :=
  ⟨[v0, .p 0 0, v2, .sl (J.length + 1) 0 raw.length none, v4, v5, v6, v7, v8, .i .i64 (i : Nat), v10, v11, v12, v13, v14, v15, t.1, t.2], ⟨.cells s.enc 0 :: (J ++ [.cells (((fillS s raw).take i ++ raw.drop i).flatMap PCell.enc) 6]), 0, rt, 0⟩⟩
theorem fill_loop (s : PSym) (raw : List PCell) (J : List PObj) (rt : List Root) (v0 v2 v4 v5 v6 v7 v8 v10 v11 v12 v13 v14 v15 : PV) (hl : raw.length ≤ 1073741824) (t : PV × PV) :
    ∃ t', piterL (pdenL (PC pfs) lp26_3) (stO s raw J rt v0 v2 v4 v5 v6 v7 v8 v10 v11 v12 v13 v14 v15 0 t) = some (.exit 5, stO s raw J rt v0 v2 v4 v5 v6 v7 v8 v10 v11 v12 v13 v14 v15 raw.length t') := by
  refine @for_loop (pdenL (PC pfs) lp26_3) (PV × PV) 5 (stO s raw J rt v0 v2 v4 v5 v6 v7 v8 v10 v11 v12 v13 v14 v15) (stO s raw J rt v0 v2 v4 v5 v6 v7 v8 v10 v11 v12 v13 v14 v15 raw.length) raw.length ?_ ?_ t
  · intro i hlt t
    have hM : ((fillS s raw).take i ++ raw.drop i).length = raw.length := by simp; omega
    have hget : ((fillS s raw).take i ++ raw.drop i)[i]'(by rw [hM]; exact hlt) = raw[i] := by
      rw [List.getElem_append_right (by simp; omega)]; simp; congr 1; omega
    have hfin : ∀ c : PCell, c = (fillS s raw)[i]'(by simp [hlt]) → ((fillS s raw).take i ++ raw.drop i).set i c = (fillS s raw).take (i + 1) ++ raw.drop (i + 1) := by
      rintro c rfl
      exact set_mix i hlt (by simp)
    simp only [stO]
    generalize (fillS s raw).take i ++ raw.drop i = M at hM hget hfin ⊢
    have hiM : i < M.length := by omega
    have s1 := splice_fld (enc := PCell.enc) (k := 6) (fun _ => rfl) M i hiM 2 (by omega) (.b s.retain) { raw[i] with retain := s.retain } (by rw [hget]; rfl)
    by_cases hi : i < s.init.length
    · have s2 := splice_fld (enc := PCell.enc) (k := 6) (fun _ => rfl) (M.set i { raw[i] with retain := s.retain }) i (by simpa using hiM) 3 (by omega) (.i .i64 s.init[i]) { raw[i] with retain := s.retain, init := s.init[i] } (by simp; rfl)
      simp only [] at s1 s2
      rw [List.set_set] at s2
      have e := hfin { raw[i] with retain := s.retain, init := s.init[i] } (by simp [fillS, fillC, hi])
      rw [← e]
      refine ⟨(.b true, .b true), ?_⟩
      simp [lp26_3, hlt, S5, S6, hi, I_at i s.init hi, s1, s2, awrap_nat1 (n := i) (by omega)]
    · have e := hfin { raw[i] with retain := s.retain } (by simp [fillS, fillC, hi])
      rw [← e]
      refine ⟨(.b true, .b false), ?_⟩
      simp [lp26_3, hlt, S5, S6, hi, s1, awrap_nat1 (n := i) (by omega)]
  · intro t
    refine ⟨(.b false, t.2), ?_⟩
    simp [stO, lp26_3]
end Go.Av
end
section
/- Contracts: a variable's cells: fields (under way). -/
namespace Go.Av
theorem S0 (s : PSym) : pget s.enc 0 = some (.s s.name) := rfl
theorem S1 (s : PSym) : pget s.enc 1 = some (.i .i64 s.type.kind) := rfl
theorem S2 (s : PSym) : pget s.enc 2 = some (.i .i64 s.type.elem) := rfl
theorem S3 (s : PSym) : pget s.enc 3 = some (.i .i64 s.type.n) := rfl
def rawF (s : PSym) (i : Nat) (f : PFld) : PCell := ⟨s.name ++ [46] ++ f.name, f.kind, false, 0, 0, if i = 0 ∧ s.type.kind ≠ 8 then s.type.kind else 0⟩
def rawFs (s : PSym) (fs : List PFld) : List PCell := fs.mapIdx (rawF s)
@[simp] theorem rawFs_len (s : PSym) (fs : List PFld) : (rawFs s fs).length = fs.length := by simp [rawFs]
structure TO where
  J : List PObj
  a : PV
  b : PV
  c : PV
def stQ (s : PSym) (fs : List PFld) (v0 v2 v4 v5 v9 v12 v13 v14 v15 v16 v17 : PV) (i : Nat) (t : TO) : PSt :=
  ⟨[v0, .p 0 0, v2, .ls (.own 0 i) i (((rawFs s fs).take i).flatMap PCell.enc), v4, v5, .ls (.v false false) fs.length (fs.flatMap PFld.enc), .i .i64 (i : Nat), t.a, v9, t.b, t.c, v12, v13, v14, v15, v16, v17], ⟨.cells s.enc 0 :: t.J, 0, [.live i i 6], 0⟩⟩
theorem fld_loop (s : PSym) (fs : List PFld) (v0 v2 v4 v5 v9 v12 v13 v14 v15 v16 v17 : PV) (hl : fs.length ≤ 1073741823) (hn : s.name.length ≤ 1073741824) (hf : ∀ f ∈ fs, f.name.length ≤ 1073741824) (t : TO) :
    ∃ t', piterL (pdenL (PC pfs) lp26_2) (stQ s fs v0 v2 v4 v5 v9 v12 v13 v14 v15 v16 v17 0 t) = some (.exit 1, stQ s fs v0 v2 v4 v5 v9 v12 v13 v14 v15 v16 v17 fs.length t') := by
  refine @for_loop (pdenL (PC pfs) lp26_2) TO 1 (stQ s fs v0 v2 v4 v5 v9 v12 v13 v14 v15 v16 v17) (stQ s fs v0 v2 v4 v5 v9 v12 v13 v14 v15 v16 v17 fs.length) fs.length ?_ ?_ t
  · intro i hlt t
    have hfi := hf fs[i] (by simp)
    have l1 : s.name.length + 1 ≤ 4611686018427387904 := by omega
    have l2 : s.name.length + (fs[i].name.length + 1) ≤ 4611686018427387904 := by omega
    have l3 : s.name.length + 1 + fs[i].name.length ≤ 4611686018427387904 := by omega
    have ha : ∀ σ : PH, σ.root 0 = .live i i 6 → ∀ c : PCell, c = rawF s i fs[i] → pappendNew σ 6 56 (.ls (.own 0 i) i (((rawFs s fs).take i).flatMap PCell.enc)) 1 c.enc = some (.ls (.own 0 (i + 1)) (i + 1) (((rawFs s fs).take (i + 1)).flatMap PCell.enc), σ.setRoot 0 (.live (i + 1) (i + 1) 6)) := by
      rintro σ hσ c rfl
      exact pan_flat (enc := PCell.enc) (k := 6) (fun _ => rfl) (by omega) _ _ _ (by
        have : (rawFs s fs)[i]'(by simp [hlt]) = rawF s i fs[i] := by simp [rawFs]
        rw [← this, take_succ]) (by simp; omega) hσ (by omega) (by omega)
    by_cases h0 : i = 0
    · by_cases h8 : s.type.kind = 8
      · have hz : (i : Int) = 0 := by omega
        have hc : rawF s i fs[i] = ⟨s.name ++ [46] ++ fs[i].name, fs[i].kind, false, 0, 0, 0⟩ := by simp [rawF, h8]
        have hb := ha ⟨.cells s.enc 0 :: (t.J ++ [.cells (rawF s i fs[i]).enc 0]), 0, [.live i i 6], 0⟩ rfl _ rfl
        rw [hc] at hb
        simp only [PCell.enc] at hb
        refine ⟨⟨t.J ++ [.cells (rawF s i fs[i]).enc 0], .p (t.J.length + 1) 0, .b true, .b false⟩, ?_⟩
        subst h0
        simp [stQ, lp26_2, hlt, S0, S1, F_name 0 fs hlt, F_kind 0 fs hlt, l1, l2, l3, psplice, psub, hc, h8, PCell.enc]
        simp at hb
        simp [hb]
        exact awrap_id (by omega) (by omega)
      · have hz : (i : Int) = 0 := by omega
        have hc : rawF s i fs[i] = ⟨s.name ++ [46] ++ fs[i].name, fs[i].kind, false, 0, 0, s.type.kind⟩ := by simp [rawF, h0, h8]
        have hb := ha ⟨.cells s.enc 0 :: (t.J ++ [.cells (rawF s i fs[i]).enc 0]), 0, [.live i i 6], 0⟩ rfl _ rfl
        rw [hc] at hb
        simp only [PCell.enc] at hb
        refine ⟨⟨t.J ++ [.cells (rawF s i fs[i]).enc 0], .p (t.J.length + 1) 0, .b true, .b true⟩, ?_⟩
        subst h0
        simp [stQ, lp26_2, hlt, S0, S1, F_name 0 fs hlt, F_kind 0 fs hlt, l1, l2, l3, psplice, psub, hc, h8, PCell.enc]
        simp at hb
        simp [hb]
        exact awrap_id (by omega) (by omega)
    · have hz : ¬ ((i : Int) = 0) := by omega
      have hc : rawF s i fs[i] = ⟨s.name ++ [46] ++ fs[i].name, fs[i].kind, false, 0, 0, 0⟩ := by simp [rawF, h0]
      have hb := ha ⟨.cells s.enc 0 :: (t.J ++ [.cells (rawF s i fs[i]).enc 0]), 0, [.live i i 6], 0⟩ rfl _ rfl
      rw [hc] at hb
      simp only [PCell.enc] at hb
      refine ⟨⟨t.J ++ [.cells (rawF s i fs[i]).enc 0], .p (t.J.length + 1) 0, .b true, .b false⟩, ?_⟩
      simp [stQ, lp26_2, hlt, S0, S1, F_name i fs hlt, F_kind i fs hlt, l1, l2, l3, psplice, psub, hc, h0, hz, PCell.enc]
      simp at hb
      simp [hb, awrap_nat1 (n := i) (by omega)]
  · intro t
    refine ⟨⟨t.J, t.a, .b false, t.c⟩, ?_⟩
    simp [stQ, lp26_2]
end Go.Av
end
section
/- Contracts: a variable's cells: an array (under way). -/
namespace Go.Av
def rawA (s : PSym) (i : Nat) : PCell := ⟨s.name ++ [91] ++ digitsOf i ++ [93], s.type.elem, false, 0, if i = 0 then s.type.n else 0, 0⟩
def rawAs (s : PSym) (n : Nat) : List PCell := (List.range n).map (rawA s)
@[simp] theorem rawAs_len (s : PSym) (n : Nat) : (rawAs s n).length = n := by simp [rawAs]
def stR (s : PSym) (n : Nat) (v0 v2 v6 v7 v8 v9 v10 v11 v12 v13 v16 v17 : PV) (i : Nat) (t : TO) : PSt :=
  ⟨[v0, .p 0 0, v2, .ls (.own 0 i) i (((rawAs s n).take i).flatMap PCell.enc), .i .i64 (i : Nat), t.a, v6, v7, v8, v9, v10, v11, v12, v13, t.b, t.c, v16, v17], ⟨.cells s.enc 0 :: t.J, 0, [.live i i 6], 0⟩⟩
theorem arr_loop (s : PSym) (n : Nat) (hN : s.type.n = n) (v0 v2 v6 v7 v8 v9 v10 v11 v12 v13 v16 v17 : PV) (hl : n ≤ 1000000) (hn : s.name.length ≤ 1073741824) (t : TO) :
    ∃ t', piterL (pdenL (PC pfs) lp26_1) (stR s n v0 v2 v6 v7 v8 v9 v10 v11 v12 v13 v16 v17 0 t) = some (.exit 3, stR s n v0 v2 v6 v7 v8 v9 v10 v11 v12 v13 v16 v17 n t') := by
  refine @for_loop (pdenL (PC pfs) lp26_1) TO 3 (stR s n v0 v2 v6 v7 v8 v9 v10 v11 v12 v13 v16 v17) (stR s n v0 v2 v6 v7 v8 v9 v10 v11 v12 v13 v16 v17 n) n ?_ ?_ t
  · intro i hlt t
    have hd := digits_ok i (by omega)
    have hdl := digitsOf_len i
    have l1 : s.name.length + 1 ≤ 4611686018427387904 := by omega
    have l2 : s.name.length + ((digitsOf i).length + 1) ≤ 4611686018427387904 := by omega
    have l3 : s.name.length + ((digitsOf i).length + 1) + 1 ≤ 4611686018427387904 := by omega
    have l4 : s.name.length + 1 + (digitsOf i).length ≤ 4611686018427387904 := by omega
    have l5 : s.name.length + 1 + (digitsOf i).length + 1 ≤ 4611686018427387904 := by omega
    have hz : (i : Int) < (n : Int) := by omega
    have ha : ∀ σ : PH, σ.root 0 = .live i i 6 → ∀ c : PCell, c = rawA s i → pappendNew σ 6 56 (.ls (.own 0 i) i (((rawAs s n).take i).flatMap PCell.enc)) 1 c.enc = some (.ls (.own 0 (i + 1)) (i + 1) (((rawAs s n).take (i + 1)).flatMap PCell.enc), σ.setRoot 0 (.live (i + 1) (i + 1) 6)) := by
      rintro σ hσ c rfl
      exact pan_flat (enc := PCell.enc) (k := 6) (fun _ => rfl) (by omega) _ _ _ (by
        have : (rawAs s n)[i]'(by simp [hlt]) = rawA s i := by simp [rawAs]
        rw [← this, take_succ]) (by simp; omega) hσ (by omega) (by omega)
    have hb := ha ⟨.cells s.enc 0 :: (t.J ++ [.cells (rawA s i).enc 0]), 0, [.live i i 6], 0⟩ rfl _ rfl
    by_cases h0 : i = 0
    · have hc : rawA s i = ⟨s.name ++ [91] ++ digitsOf i ++ [93], s.type.elem, false, 0, s.type.n, 0⟩ := by simp [rawA, h0]
      rw [hc] at hb
      simp only [PCell.enc] at hb
      refine ⟨⟨t.J ++ [.cells (rawA s i).enc 0], .p (t.J.length + 1) 0, .b true, .b true⟩, ?_⟩
      subst h0
      simp at hd
      simp [stR, lp26_1, hlt, hN, S0, S2, S3, hd, l1, l2, l3, l4, l5, psplice, psub, hc, PCell.enc]
      simp [hN] at hb
      simp [hb]
      exact awrap_id (by omega) (by omega)
    · have hz0 : ¬ ((i : Int) = 0) := by omega
      have hc : rawA s i = ⟨s.name ++ [91] ++ digitsOf i ++ [93], s.type.elem, false, 0, 0, 0⟩ := by simp [rawA, h0]
      rw [hc] at hb
      simp only [PCell.enc] at hb
      refine ⟨⟨t.J ++ [.cells (rawA s i).enc 0], .p (t.J.length + 1) 0, .b true, .b false⟩, ?_⟩
      simp [stR, lp26_1, hlt, hN, S0, S2, S3, hd, hz, l1, l2, l3, l4, l5, psplice, psub, hc, h0, hz0, PCell.enc]
      simp at hb
      simp [hb, awrap_nat1 (n := i) (by omega)]
  · intro t
    refine ⟨⟨t.J, t.a, .b false, t.c⟩, ?_⟩
    simp [stR, lp26_1, S3, hN]
end Go.Av
end
section
/- Contracts: ref8.of (under way). -/
namespace Go.Av
theorem okS (s : PSym) : pokCells s.enc = true := by simp [PSym.enc, vl]
def rawOf (s : PSym) : List PCell := if valueK s.type.kind = true then [⟨s.name, s.type.kind, false, 0, 0, 0⟩] else if s.type.kind = 7 then rawAs s s.type.n.toNat else rawFs s (fieldsOf s.type)
theorem of_value (s : PSym) (hv : valueK s.type.kind = true) : iso (PC pfs) 26 [.agg s.enc] = some (vl PCell.enc (fillS s (rawOf s))) := by
  have h1 := value_ok s.type.kind
  unfold valueK at hv
  rw [hv] at h1
  have hr : rawOf s = [⟨s.name, s.type.kind, false, 0, 0, 0⟩] := by simp [rawOf, valueK, hv]
  obtain ⟨t', h⟩ := fill_loop s (rawOf s) [] [.gone] (.agg s.enc) (.ls (.v false true) 0 []) .und .und .und .und .und .und .und (.b true) .und .und .und (by rw [hr]; simp) (.und, .und)
  rw [hr] at h ⊢
  simp [stO, fillS, fillC, PCell.enc] at h
  unfold iso
  rw [PC_eq (F := pf26) rfl]
  have ha := pan_flat (enc := PCell.enc) (k := 6) (bytes := 56) (r := 0) (v := 0) (n := 0) (σ := ⟨[.cells s.enc 0], 0, [.live 0 0 6], 0⟩) (fun _ => rfl) (by omega) [] [⟨s.name, s.type.kind, false, 0, 0, 0⟩] ⟨s.name, s.type.kind, false, 0, 0, 0⟩ rfl rfl rfl (by omega) (by omega)
  simp [PCell.enc] at ha
  simp [pf26, okS, S0, S1, h1, psplice, psub, ha]
  simp [h, psub, vl, fillS, fillC, PCell.enc]
theorem of_array (s : PSym) (hv : s.type.kind = 7) (n : Nat) (hN : s.type.n = n) (hn0 : 0 < n) (hl : n ≤ 1000000) (hn : s.name.length ≤ 1073741824) : iso (PC pfs) 26 [.agg s.enc] = some (vl PCell.enc (fillS s (rawOf s))) := by
  obtain ⟨k, rfl⟩ : ∃ k, n = k + 1 := ⟨n - 1, by omega⟩
  have h1 := value_ok s.type.kind
  rw [hv] at h1
  simp at h1
  have hr : rawOf s = rawAs s (k + 1) := by simp [rawOf, valueK, hv, hN]
  obtain ⟨t1, g⟩ := arr_loop s (k + 1) hN (.agg s.enc) (.ls (.v false true) 0 []) .und .und .und .und .und .und (.b false) (.b true) .und .und hl hn ⟨[], .und, .und, .und⟩
  simp only [stR] at g
  rw [List.take_of_length_le (l := rawAs s (k + 1)) (i := k + 1) (by simp)] at g
  simp at g
  obtain ⟨t', h⟩ := fill_loop s (rawAs s (k + 1)) t1.J [.gone] (.agg s.enc) (.ls (.v false true) 0 []) (.i .i64 ((k + 1 : Nat) : Int)) t1.a .und .und .und .und .und (.b false) (.b true) t1.b t1.c (by simp; omega) (.und, .und)
  simp only [stO] at h
  rw [List.take_of_length_le (l := fillS s (rawAs s (k + 1))) (i := (rawAs s (k + 1)).length) (by simp), List.drop_of_length_le (l := rawAs s (k + 1)) (i := (rawAs s (k + 1)).length) (by simp)] at h
  simp at h
  rw [hr]
  unfold iso
  rw [PC_eq (F := pf26) rfl]
  simp [pf26, okS, S0, S1, h1, hv]
  simp [g]
  have hs : psub ((fillS s (rawAs s (k + 1))).flatMap PCell.enc) 0 ((k + 1) * 6) = some ((fillS s (rawAs s (k + 1))).flatMap PCell.enc) := psub_all (by simp)
  simp [h, hs, clo_shutL (shutC _), vl]
theorem of_fields (s : PSym) (hv : valueK s.type.kind = false) (h7 : s.type.kind ≠ 7) (hpos : 0 < (fieldsOf s.type).length) (hl : s.type.fields.length ≤ 1073741823) (hl2 : (fieldsOf s.type).length ≤ 1073741823) (hn : s.name.length ≤ 1073741824) (hf : ∀ f ∈ fieldsOf s.type, f.name.length ≤ 1073741824) : iso (PC pfs) 26 [.agg s.enc] = some (vl PCell.enc (fillS s (rawOf s))) := by
  have h1 := value_ok s.type.kind
  have hF := fields_ok s.type (by omega)
  have hr : rawOf s = rawFs s (fieldsOf s.type) := by simp [rawOf, hv, h7]
  unfold valueK at hv
  rw [hv] at h1
  rw [hr]
  generalize fieldsOf s.type = fs at hpos hl2 hf hF ⊢
  obtain ⟨t1, g⟩ := fld_loop s fs (.agg s.enc) (.ls (.v false true) 0 []) .und .und .und (.b false) (.b false) .und .und .und .und hl2 hn hf ⟨[], .und, .und, .und⟩
  simp only [stQ] at g
  rw [List.take_of_length_le (l := rawFs s fs) (i := fs.length) (by simp)] at g
  simp at g
  obtain ⟨t', h⟩ := fill_loop s (rawFs s fs) t1.J [.gone] (.agg s.enc) (.ls (.v false true) 0 []) .und .und (.ls (.v false false) fs.length (fs.flatMap PFld.enc)) (.i .i64 fs.length) t1.a t1.b t1.c (.b false) (.b false) .und .und (by simp; omega) (.und, .und)
  simp only [stO] at h
  rw [List.take_of_length_le (l := fillS s (rawFs s fs)) (i := (rawFs s fs).length) (by simp), List.drop_of_length_le (l := rawFs s fs) (i := (rawFs s fs).length) (by simp)] at h
  simp at h
  have hT : psub s.enc 1 4 = some s.type.enc := rfl
  have hz : fs.length ≠ 0 := by omega
  have hs : psub ((fillS s (rawFs s fs)).flatMap PCell.enc) 0 (fs.length * 6) = some ((fillS s (rawFs s fs)).flatMap PCell.enc) := psub_all (by simp)
  have hle : mapO (lendC 8 ⟨[.cells s.enc 0], 0, [.live 0 0 6], 0⟩) s.type.enc = some s.type.enc := lend_shutL (by simp [ShutL, PTy.enc, Shut, vl])
  unfold iso
  rw [PC_eq (F := pf26) rfl]
  simp [vl] at hF
  simp [pf26, okS, S0, S1, h1, h7, hT, hle, hF]
  simp [g, hz]
  simp [h, hs, clo_shutL (shutC _), vl]
end Go.Av
end
section
/- Contracts: ref8.Cells. -/
namespace Go.Av
def cells1 (s : PSym) : List PCell := fillS s (rawOf s)
def cellsL (ss : List PSym) : List PCell := ss.flatMap cells1
/-- A type whose variables have cells. -/
def OkTy (t : PTy) : Prop := 1 ≤ t.kind ∧ t.kind ≤ 10 ∧ (t.kind = 7 → 1 ≤ t.n ∧ t.n ≤ 1000) ∧ (t.kind = 8 → 1 ≤ t.fields.length) ∧ t.fields.length ≤ 1000 ∧ ∀ f ∈ t.fields, f.name.length ≤ 1000
def OkSym (s : PSym) : Prop := OkTy s.type ∧ s.name.length ≤ 1000
theorem fieldsOf_ok {t : PTy} (h : OkTy t) (hv : valueK t.kind = false) (h7 : t.kind ≠ 7) : 0 < (fieldsOf t).length ∧ (fieldsOf t).length ≤ 1000 ∧ ∀ f ∈ fieldsOf t, f.name.length ≤ 1000 := by
  obtain ⟨a, b, c, d, e, f⟩ := h
  unfold fieldsOf
  by_cases h8 : t.kind = 8
  · rw [if_pos h8]; exact ⟨by have := d h8; omega, e, f⟩
  · rw [if_neg h8]
    by_cases h9 : t.kind = 9
    · rw [if_pos h9]; exact ⟨by decide, by decide, by decide⟩
    · rw [if_neg h9]
      have h10 : t.kind = 10 := by
        simp [valueK] at hv
        have := hv a
        omega
      rw [if_pos h10]; exact ⟨by decide, by decide, by decide⟩
theorem of_ok {s : PSym} (h : OkSym s) : iso (PC pfs) 26 [.agg s.enc] = some (vl PCell.enc (cells1 s)) := by
  obtain ⟨ht, hn⟩ := h
  cases hv : valueK s.type.kind with
  | true => exact of_value s hv
  | false =>
    by_cases h7 : s.type.kind = 7
    · obtain ⟨h1, h2⟩ := ht.2.2.1 h7
      exact of_array s h7 s.type.n.toNat (by omega) (by omega) (by omega) (by omega)
    · obtain ⟨a, b, c⟩ := fieldsOf_ok ht hv h7
      exact of_fields s hv h7 a (by have := ht.2.2.2.2.1; omega) (by omega) (by omega) (fun f hf => by have := c f hf; omega)
theorem cells1_pos {s : PSym} (h : OkSym s) : 0 < (cells1 s).length ∧ (cells1 s).length ≤ 1000 := by
  obtain ⟨ht, hn⟩ := h
  simp only [cells1, fill_len, rawOf]
  cases hv : valueK s.type.kind with
  | true => simp
  | false =>
    by_cases h7 : s.type.kind = 7
    · obtain ⟨h1, h2⟩ := ht.2.2.1 h7
      simp [h7]; omega
    · obtain ⟨a, b, c⟩ := fieldsOf_ok ht hv h7
      simp [h7]; omega
/-- A list, at the end of an own list. -/
theorem pan_flats {α : Type} {enc : α → List PV} {k : Nat} (h : ∀ a, (enc a).length = k) (hk : 0 < k) {bytes r v n : Nat} {σ : PH} (l l' : List α) (hn : l.length = n) (hl' : 0 < l'.length) (hr : σ.root r = .live v n k) (hb : n + l'.length ≤ 1073741824) (hby : bytes ≤ 1024) :
    pappendNew σ k bytes (.ls (.own r v) n (l.flatMap enc)) l'.length (l'.flatMap enc) = some (.ls (.own r (v + 1)) (n + l'.length) ((l ++ l').flatMap enc), σ.setRoot r (.live (v + 1) (n + l'.length) k)) := by
  rw [pan_own hr (.inr rfl) hk (by rw [flat_len h, hn]) rfl hl' hb hby]
  simp
def stC (b : Bool) (ss : List PSym) (v1 : PV) (i : Nat) (t : PV) : PSt :=
  ⟨[.ls (.v b false) ss.length (ss.flatMap PSym.enc), v1, .ls (.own 0 i) (cellsL (ss.take i)).length ((cellsL (ss.take i)).flatMap PCell.enc), .i .i64 (i : Nat), t], ⟨[], 0, [.live i (cellsL (ss.take i)).length 6], 0⟩⟩
theorem cellsL_le {ss : List PSym} (h : ∀ s ∈ ss, OkSym s) : (cellsL ss).length ≤ ss.length * 1000 := by
  induction ss with
  | nil => simp [cellsL]
  | cons s ss ih =>
    have := ih (fun x hx => h x (by simp [hx]))
    have h2 := (cells1_pos (h s (by simp))).2
    simp only [cellsL, List.flatMap_cons, List.length_append, List.length_cons] at this ⊢
    omega
theorem cells_ok (b : Bool) (ss : List PSym) (h : ∀ s ∈ ss, OkSym s) (hl : ss.length ≤ 1000) : iso (PC pfs) 13 [.ls (.v b false) ss.length (ss.flatMap PSym.enc)] = some (.ls (.fresh (cellsL ss).length 6) (cellsL ss).length ((cellsL ss).flatMap PCell.enc)) := by
  unfold iso
  rw [PC_eq (F := pf13) rfl]
  have key := @for_loop (pdenL (PC pfs) lp13_1) PV 0 (stC b ss (.ls (.v false true) 0 [])) (stC b ss (.ls (.v false true) 0 []) ss.length) ss.length ?_ ?_ .und
  · obtain ⟨t', g⟩ := key
    simp only [stC] at g
    simp [cellsL] at g
    simp [pf13]
    simp [g, cellsL]
  · intro i hlt t
    have ho := of_ok (h ss[i] (by simp))
    have hp := cells1_pos (h ss[i] (by simp))
    have hle := cellsL_le (ss := ss.take i) (fun s hs => h s (List.mem_of_mem_take hs))
    have hi : (ss.take i).length ≤ 1000 := by simp; omega
    have hs := S_at i ss hlt
    have hlend : mapO (lendC 8 ⟨[], 0, [.live i (cellsL (ss.take i)).length 6], 0⟩) ss[i].enc = some ss[i].enc := by simp [PSym.enc, vl]
    have e : cellsL (ss.take i) ++ cells1 ss[i] = cellsL (ss.take (i + 1)) := by
      rw [← take_succ hlt, cellsL, cellsL, List.flatMap_append]; simp
    have ha := pan_flats (enc := PCell.enc) (k := 6) (bytes := 56) (r := 0) (v := i) (n := (cellsL (ss.take i)).length) (σ := ⟨[], 0, [.live i (cellsL (ss.take i)).length 6], 0⟩) (fun _ => rfl) (by omega) (cellsL (ss.take i)) (cells1 ss[i]) rfl hp.1 rfl (by omega) (by omega)
    rw [e] at ha
    have e2 : (cellsL (ss.take i)).length + (cells1 ss[i]).length = (cellsL (ss.take (i + 1))).length := by rw [← e]; simp
    rw [e2] at ha
    have hps : psub ((cells1 ss[i]).flatMap PCell.enc) 0 ((cells1 ss[i]).length * 6) = some ((cells1 ss[i]).flatMap PCell.enc) := psub_all (by simp)
    have hne : (cells1 ss[i]).length ≠ 0 := by omega
    obtain ⟨k, hk⟩ := Nat.exists_eq_succ_of_ne_zero hne
    refine ⟨.b true, ?_⟩
    simp only [stC]
    generalize cellsL (ss.take i) = A at *
    generalize cellsL (ss.take (i + 1)) = B at *
    rw [hk] at hps ha
    simp [lp13_1, hlt, hs, hlend, ho, vl, hk]
    simp at ha hps
    simp [hps, clo_shutL (shutC _), ha, awrap_nat1 (n := i) (by omega)]
  · intro t
    refine ⟨.b false, ?_⟩
    simp [stC, lp13_1]
end Go.Av
end
section
/- Contracts: the chapter's example. -/
namespace Go.Av
def kn1 : PSym := ⟨[97], ⟨7, 4, 2, []⟩, false, [1, 2], false⟩
def kn2 : PSym := ⟨[97], ⟨7, 4, 3, []⟩, false, [7, 8, 9], false⟩
def kc (p : List UInt8) (i l : Int) : PCell := ⟨p, 4, false, i, l, 0⟩
theorem ok_kn1 : OkSym kn1 := by simp [OkSym, OkTy, kn1]
theorem ok_kn2 : OkSym kn2 := by simp [OkSym, OkTy, kn2]
theorem cells_kn1 : cellsL [kn1] = [kc [97, 91, 48, 93] 1 2, kc [97, 91, 49, 93] 2 0] := by
  simp [cellsL, cells1, fillS, fillC, rawOf, rawAs, rawA, kn1, valueK, digitsOf, kc, List.range, List.range.loop]
theorem cells_kn2 : cellsL [kn2] = [kc [97, 91, 48, 93] 7 3, kc [97, 91, 49, 93] 8 0, kc [97, 91, 50, 93] 9 0] := by
  simp [cellsL, cells1, fillS, fillC, rawOf, rawAs, rawA, kn2, valueK, digitsOf, kc, List.range, List.range.loop]
theorem known_ok : iso (PC pfs) 9 [] = some (.b true) := by
  have h1 := cells_ok false [kn1] (by simp [ok_kn1]) (by simp)
  have h2 := cells_ok false [kn2] (by simp [ok_kn2]) (by simp)
  rw [cells_kn1] at h1
  rw [cells_kn2] at h2
  obtain ⟨r, h3, h4⟩ := mcells_ok false false false [kc [97, 91, 48, 93] 1 2, kc [97, 91, 49, 93] 2 0] [kc [97, 91, 48, 93] 7 3, kc [97, 91, 49, 93] 8 0, kc [97, 91, 50, 93] 9 0] [4, 5] (by simp) (by simp)
  have h5 : overOf [kc [97, 91, 48, 93] 1 2, kc [97, 91, 49, 93] 2 0] [kc [97, 91, 48, 93] 7 3, kc [97, 91, 49, 93] 8 0, kc [97, 91, 50, 93] 9 0] [4, 5] = [4, 5, 9] := by
    simp [overOf, sameCell, kc, List.findIdx?_cons]
  rw [h5] at h4
  simp [kn1, kn2, PSym.enc, vl, encI, kc, PCell.enc] at h1 h2 h3 h4
  unfold iso
  rw [PC_eq (F := pf9) rfl]
  rcases h4 with rfl | rfl <;> simp [pf9, psplice, psub, pget, h1, h2, h3]
end Go.Av
end
section
/- The law MigrateDrops, on the second machine. -/
namespace Go.Av
def dr (k i : Int) : PSym := ⟨[120], ⟨k, 0, 0, []⟩, false, [i], false⟩
def dc (k i : Int) : PCell := ⟨[120], k, false, i, 0, 0⟩
theorem ok_dr (k i : Int) (h1 : 1 ≤ k) (h2 : k ≤ 6) : OkSym (dr k i) := by
  refine ⟨⟨h1, by simp [dr]; omega, ?_, ?_, ?_, ?_⟩, ?_⟩ <;> simp [dr] <;> omega
theorem valueK_of {k : Int} (h1 : 1 ≤ k) (h2 : k ≤ 6) : valueK k = true := by simp [valueK]; omega
theorem cells_dr (k i : Int) (h1 : 1 ≤ k) (h2 : k ≤ 6) : cellsL [dr k i] = [dc k i] := by
  simp [cellsL, cells1, fillS, fillC, rawOf, dr, dc, valueK_of h1 h2]
theorem over_dr (k o i j n : Int) : overOf [dc k i] [dc o j] [n] = [if k = o then n else j] := by
  by_cases h : k = o <;> simp [overOf, sameCell, dc, h, List.findIdx?_cons]
theorem drops_ok (kind other v : Int) : iso (PC pfs) 5 [.i .i64 kind, .i .i64 other, .i .i64 v] = some (.b true) := by
  have w1 := within_ok kind 6 (by omega) (by omega)
  have w2 := within_ok other 6 (by omega) (by omega)
  obtain ⟨k, hk⟩ : ∃ k, k = 1 + kind % 6 := ⟨_, rfl⟩
  obtain ⟨o, ho⟩ : ∃ o, o = 1 + other % 6 := ⟨_, rfl⟩
  have k1 : 1 ≤ k := by omega
  have k2 : k ≤ 6 := by omega
  have o1 : 1 ≤ o := by omega
  have o2 : o ≤ 6 := by omega
  have hk' : awrap .i64 (1 + kind % 6) = k := by rw [awrap_id (by omega) (by omega), hk]
  have ho' : awrap .i64 (1 + other % 6) = o := by rw [awrap_id (by omega) (by omega), ho]
  have c1 := cells_ok false [dr k 1] (by simp [ok_dr k 1 k1 k2]) (by simp)
  have c2 := cells_ok false [dr o 0] (by simp [ok_dr o 0 o1 o2]) (by simp)
  rw [cells_dr k 1 k1 k2] at c1
  rw [cells_dr o 0 o1 o2] at c2
  obtain ⟨n, hn⟩ : ∃ n, n = wrapK k v := ⟨_, rfl⟩
  have hw := wrap_ok k v
  rw [← hn] at hw
  obtain ⟨r1, m1, e1⟩ := mcells_ok false false false [dc k 1] [dc o 0] [n] (by simp) (by simp)
  obtain ⟨r2, m2, e2⟩ := mcells_ok false false false [dc o 0] [dc k 1] [if k = o then n else 0] (by simp) (by simp)
  obtain ⟨r3, m3, e3⟩ := mcells_ok false false false [dc k 1] [] [n] (by simp) (by simp)
  obtain ⟨r4, m4, e4⟩ := mcells_ok false false false [] [dc k 1] [] (by simp) (by simp)
  rw [over_dr] at e1 e2
  have e5 : overOf [dc k 1] [] [n] = [] := by simp [overOf]
  have e6 : overOf [] [dc k 1] [] = [1] := by simp [overOf, dc]
  rw [e5] at e3
  rw [e6] at e4
  have hne : (if o = k then (if k = o then n else 0) else 1) = if k = o then n else 1 := by
    by_cases h : k = o <;> simp [h]
    intro h'; exact absurd h'.symm h
  simp only [hne] at e2
  simp [dr, PSym.enc, vl, encI, dc, PCell.enc] at c1 c2 m1 m2 m3 m4 e1 e2 e3 e4
  unfold iso
  rw [PC_eq (F := pf5) rfl]
  by_cases hko : k = o
  · subst hko
    simp at e1 e2 m2
    rcases e1 with rfl | rfl <;> rcases e2 with rfl | rfl <;> rcases e3 with rfl | rfl <;> rcases e4 with rfl | rfl <;>
      simp [pf5, psplice, psub, pget, known_ok, w1, w2, hk', ho', c1, c2, hw, m1, m2, m3, m4]
  · simp [hko] at e1 e2 m2
    rcases e1 with rfl | rfl <;> rcases e2 with rfl | rfl <;> rcases e3 with rfl | rfl <;> rcases e4 with rfl | rfl <;>
      simp [pf5, psplice, psub, pget, known_ok, w1, w2, hk', ho', c1, c2, hw, m1, m2, m3, m4, hko]
end Go.Av
end
section
/- Plain laws: digits tell the number; where the cells of an array are found. -/
namespace Go.Av
def valD (l : List UInt8) : Nat := l.foldl (fun a b => a * 10 + (b.toNat - 48)) 0
theorem valD_app (l : List UInt8) (b : UInt8) : valD (l ++ [b]) = valD l * 10 + (b.toNat - 48) := by simp [valD]
theorem valD_one (b : UInt8) : valD [b] = b.toNat - 48 := by simp [valD]
theorem digits_one {n : Nat} (h : n < 10) : digitsOf n = [UInt8.ofNat (48 + n)] := by rw [digitsOf, dif_pos h]
theorem digits_more {n : Nat} (h : ¬ n < 10) : digitsOf n = digitsOf (n / 10) ++ [UInt8.ofNat (48 + n % 10)] := by
  rw [digitsOf, dif_neg h, digits_one (n := n % 10) (by omega)]
theorem byte_of {n : Nat} (h : n < 10) : (UInt8.ofNat (48 + n)).toNat - 48 = n := by
  simp [UInt8.toNat_ofNat']; omega
theorem valD_digits (n : Nat) : valD (digitsOf n) = n := by
  induction n using Nat.strongRecOn with
  | _ n ih =>
    by_cases h : n < 10
    · rw [digits_one h, valD_one, byte_of h]
    · rw [digits_more h, valD_app, ih (n / 10) (by omega), byte_of (by omega)]; omega
theorem digits_inj {m n : Nat} (h : digitsOf m = digitsOf n) : m = n := by rw [← valD_digits m, h, valD_digits]
/-- An array of times, of name a. -/
def la (N : Nat) : PSym := ⟨[97], ⟨7, 6, N, []⟩, false, List.replicate N 0, false⟩
def lc (N i : Nat) : PCell := ⟨[97] ++ [91] ++ digitsOf i ++ [93], 6, false, 0, if i = 0 then N else 0, 0⟩
theorem ok_la (N : Nat) (h : 1 ≤ N) (h2 : N ≤ 1000) : OkSym (la N) := by simp [OkSym, OkTy, la]; omega
def lcs (N : Nat) : List PCell := (List.range N).map (lc N)
theorem cells_la (N : Nat) : cellsL [la N] = lcs N := by
  apply List.ext_getElem
  · simp [cellsL, cells1, rawOf, la, valueK, lcs]
  · intro i h1 h2
    have hi : i < N := by simpa [lcs] using h2
    simp [cellsL, cells1, rawOf, la, valueK, lcs, fillS, fillC, rawAs, rawA, lc, hi]
@[simp] theorem lcs_len (N : Nat) : (lcs N).length = N := by simp [lcs]
theorem find_lcs (N M i : Nat) : (lcs N).findIdx? (sameCell (lc M i)) = if i < N then some i else none := by
  by_cases h : i < N
  · rw [if_pos h]
    refine findIdx_some (by simpa using h) (by simp [lcs, sameCell, lc]) fun j hj => ?_
    simp [lcs, sameCell, lc]
    intro e
    have := digits_inj e
    omega
  · rw [if_neg h]
    refine findIdx_none fun j hj => ?_
    have hj : j < N := by simpa using hj
    simp [lcs, sameCell, lc]
    intro e
    have := digits_inj e
    omega
def lw (N M : Nat) (v : List Int) : List Int := (List.range M).map fun i => if i < N then v[i]?.getD 0 else 0
def ld (N M : Nat) : List Int := (List.range M).map fun i => if i < N then (i : Int) else -1
theorem over_la (N M : Nat) (v : List Int) (hv : v.length = N) : overOf (lcs N) (lcs M) v = lw N M v := by
  apply List.ext_getElem
  · simp [lw]
  · intro i h1 h2
    have hi : i < M := by simpa using h1
    have e : (lcs M)[i]'(by simpa using hi) = lc M i := by simp [lcs]
    simp only [overOf, lw, List.getElem_map, e, find_lcs, List.getElem_range]
    by_cases h : i < N
    · simp [h, hv]
    · simp [h, lc]
theorem diff_la (N M : Nat) : diffOf (lcs N) (lcs M) = ld N M := by
  apply List.ext_getElem
  · simp [ld, diffOf]
  · intro i h1 h2
    have hi : i < M := by simpa [ld] using h2
    have e : (lcs M)[i]'(by simpa using hi) = lc M i := by simp [lcs]
    simp only [diffOf, ld, List.getElem_map, wasAt, e, find_lcs, List.getElem_range]
    by_cases h : i < N <;> simp [h]
end Go.Av
end
section
/- The law MigrateLonger, on the second machine. -/
namespace Go.Av
theorem prep_one (l : List PV) : prep 1 l = l := by simp [prep]
@[simp] theorem lw_len (N M : Nat) (v : List Int) : (lw N M v).length = M := by simp [lw]
@[simp] theorem ld_len (N M : Nat) : (ld N M).length = M := by simp [ld]
def stLo (N M : Nat) (v : List Int) (v2 v3 v4 v5 v10 : PV) (σ : PH) (i : Nat) (t : PV × PV) : PSt :=
  ⟨[.i .i64 N, .i .i64 M, v2, v3, v4, v5, .ls (.v false false) N (v.flatMap encI), .ls (.v false false) M ((lw N M v).flatMap encI), .ls (.v false false) M ((ld N M).flatMap encI), .i .i64 (i : Nat), v10, t.1, t.2], σ⟩
theorem longer_loop (N M : Nat) (v : List Int) (hv : v.length = N) (hM : M ≤ 1000) (v2 v3 v4 v5 v10 : PV) (σ : PH) (t : PV × PV) :
    ∃ t', piterL (pdenL (PC pfs) lp7_1) (stLo N M v v2 v3 v4 v5 v10 σ 0 t) = some (.exit 0, stLo N M v v2 v3 v4 v5 v10 σ M t') := by
  refine @for_loop (pdenL (PC pfs) lp7_1) (PV × PV) 0 (stLo N M v v2 v3 v4 v5 v10 σ) (stLo N M v v2 v3 v4 v5 v10 σ M) M ?_ ?_ t
  · intro i hlt t
    refine ⟨(.b true, .b false), ?_⟩
    have hw := I_at i (lw N M v) (by simpa using hlt)
    have hd := I_at i (ld N M) (by simpa using hlt)
    by_cases h : i < N
    · have hvi := I_at i v (by omega)
      have e1 : (lw N M v)[i]'(by simpa using hlt) = v[i] := by simp [lw, h, hv]
      have e2 : (ld N M)[i]'(by simpa using hlt) = (i : Int) := by simp [ld, h]
      rw [e1] at hw
      rw [e2] at hd
      have hn : ¬ (N : Int) ≤ (i : Int) := by omega
      have hn' : ¬ N ≤ i := by omega
      simp [-prunOps, stLo, lp7_1, hlt, h, hw, hd, hvi, hn, awrap_nat1 (n := i) (by omega)]
    · have e1 : (lw N M v)[i]'(by simpa using hlt) = 0 := by simp [lw, h]
      have e2 : (ld N M)[i]'(by simpa using hlt) = -1 := by simp [ld, h]
      rw [e1] at hw
      rw [e2] at hd
      have hn : (N : Int) ≤ (i : Int) := by omega
      have hn' : N ≤ i := by omega
      simp [-prunOps, stLo, lp7_1, hlt, h, hw, hd, hn, awrap_nat1 (n := i) (by omega)]
  · intro t
    refine ⟨(.b false, t.2), ?_⟩
    simp [stLo, lp7_1]
theorem longer_ok (n m : Int) (ns : List Int) : iso (PC pfs) 7 [.i .i64 n, .i .i64 m, .ls (.v false false) ns.length (ns.flatMap encI)] = some (.b true) := by
  have w1 := within_ok n 32 (by omega) (by omega)
  have w2 := within_ok m 32 (by omega) (by omega)
  obtain ⟨N, hN⟩ : ∃ N : Nat, N = 1 + n % 32 := ⟨(1 + n % 32).toNat, by omega⟩
  obtain ⟨M, hM⟩ : ∃ M : Nat, M = 1 + m % 32 := ⟨(1 + m % 32).toNat, by omega⟩
  have n1 : 1 ≤ N := by omega
  have n2 : N ≤ 32 := by omega
  have m1 : 1 ≤ M := by omega
  have m2 : M ≤ 32 := by omega
  have hN' : awrap .i64 (1 + n % 32) = (N : Int) := by rw [awrap_id (by omega) (by omega), hN]
  have hM' : awrap .i64 (1 + m % 32) = (M : Int) := by rw [awrap_id (by omega) (by omega), hM]
  have c1 := cells_ok false [la N] (by simp [ok_la N n1 (by omega)]) (by simp)
  have c2 := cells_ok false [la M] (by simp [ok_la M m1 (by omega)]) (by simp)
  rw [cells_la, lcs_len] at c1 c2
  have hv := values_ok false false (lcs N) ns (by simp; omega)
  obtain ⟨v, hvv⟩ : ∃ v, v = valuesOf (lcs N) ns := ⟨_, rfl⟩
  rw [← hvv] at hv
  have hvl : v.length = N := by rw [hvv, valuesOf_length, lcs_len]
  obtain ⟨r1, q1, e1⟩ := mcells_ok false false false (lcs N) (lcs M) v (by simp; omega) (by simp; omega)
  obtain ⟨r2, q2, e2⟩ := mig_ok false false (lcs N) (lcs M) (by simp; omega) (by simp; omega)
  rw [over_la N M v hvl] at e1
  rw [diff_la] at e2
  have p1 : prep N [.i .i64 0] = (List.replicate N (0 : Int)).flatMap encI := by simp [prep, List.flatMap_def, encI]
  have p2 : prep M [.i .i64 0] = (List.replicate M (0 : Int)).flatMap encI := by simp [prep, List.flatMap_def, encI]
  have s1 : psub ((List.replicate N (0 : Int)).flatMap encI) 0 N = some ((List.replicate N (0 : Int)).flatMap encI) := psub_all (by simp)
  have s2 : psub ((List.replicate M (0 : Int)).flatMap encI) 0 M = some ((List.replicate M (0 : Int)).flatMap encI) := psub_all (by simp)
  have b1 : N ≤ 4611686018427387904 := by omega
  have b2 : M ≤ 4611686018427387904 := by omega
  have b3 : 8 * N ≤ 281474976710656 := by omega
  have b4 : 8 * M ≤ 281474976710656 := by omega
  simp [la, PSym.enc, vl] at c1 c2
  simp [vl, hvl] at hv q1 q2 e1 e2
  unfold iso
  rw [PC_eq (F := pf7) rfl]
  obtain ⟨t', g⟩ := longer_loop N M v hvl (by omega) (.ls (.v false false) ns.length (ns.flatMap encI)) (.b false) (.ls (.v false false) N ((lcs N).flatMap PCell.enc)) (.ls (.v false false) M ((lcs M).flatMap PCell.enc)) (.b false) ⟨[.dead, .dead], 0, [], 0⟩ (.und, .und)
  simp only [stLo] at g
  simp at g
  rcases e1 with rfl | rfl <;> rcases e2 with rfl | rfl <;>
    (simp [-prep, -prunOps, prep_one, pf7, psplice, known_ok, w1, w2, hN', hM', p1, p2, b1, b2, b3, b4, clo_shutL (shutI _), s1, s2, c1, c2, hv, q1, q2]
     simp [-prunOps, g])
end Go.Av
end
section
/- The law MigrateFields, on the second machine. -/
namespace Go.Av
def fP : PFld := ⟨[112], 6⟩
def fQ (k : Int) : PFld := ⟨[113], k⟩
def fR : PFld := ⟨[114], 6⟩
def ord (k : Int) (o : Nat) : List PFld := if o = 0 then [fP, fQ k, fR] else if o = 1 then [fQ k, fR, fP] else [fR, fP, fQ k]
def sS (fs : List PFld) : PSym := ⟨[115], ⟨8, 0, 0, fs⟩, false, [0, 0, 0], false⟩
def sT : PSym := ⟨[116], ⟨9, 0, 0, []⟩, false, [0, 0, 0, 0, 0, 0], false⟩
theorem ord_len (k : Int) (o : Nat) : (ord k o).length = 3 := by unfold ord; split <;> first | rfl | (split <;> rfl)
theorem ok_sS (k : Int) (o : Nat) : OkSym (sS (ord k o)) := by
  refine ⟨⟨by simp [sS], by simp [sS], by simp [sS], by simp [sS, ord_len], by simp [sS, ord_len], ?_⟩, by simp [sS]⟩
  intro f hf
  simp only [sS, ord] at hf
  have hm : f = fP ∨ f = fQ k ∨ f = fR := by
    split at hf
    · simpa using hf
    · split at hf <;> simp at hf <;> rcases hf with rfl | rfl | rfl <;> simp
  rcases hm with rfl | rfl | rfl <;> simp [fP, fQ, fR]
theorem ok_sT : OkSym sT := by simp [OkSym, OkTy, sT]
def cS (b : UInt8) (k : Int) : PCell := ⟨[115, 46, b], k, false, 0, 0, 0⟩
def tC : List PCell := [⟨[116, 46, 73, 78], 1, false, 0, 0, 9⟩, ⟨[116, 46, 80, 84], 6, false, 0, 0, 0⟩, ⟨[116, 46, 81], 1, false, 0, 0, 0⟩, ⟨[116, 46, 69, 84], 6, false, 0, 0, 0⟩, ⟨[116, 46, 84, 48], 6, false, 0, 0, 0⟩, ⟨[116, 46, 82, 85, 78], 1, false, 0, 0, 0⟩]
def sC (k : Int) (o : Nat) : List PCell := if o = 0 then [cS 112 6, cS 113 k, cS 114 6] else if o = 1 then [cS 113 k, cS 114 6, cS 112 6] else [cS 114 6, cS 112 6, cS 113 k]
theorem cells_sT : cells1 sT = tC := by simp [cells1, fillS, fillC, rawOf, rawFs, rawF, sT, valueK, fieldsOf, tonF, tC]
theorem cells_sS (k : Int) (o : Nat) : cells1 (sS (ord k o)) = sC k o := by
  unfold sC ord
  by_cases h0 : o = 0
  · simp [cells1, fillS, fillC, rawOf, rawFs, rawF, sS, valueK, fieldsOf, cS, h0, fP, fQ, fR]
  · by_cases h1 : o = 1
    · simp [cells1, fillS, fillC, rawOf, rawFs, rawF, sS, valueK, fieldsOf, cS, h1, fP, fQ, fR]
    · simp [cells1, fillS, fillC, rawOf, rawFs, rawF, sS, valueK, fieldsOf, cS, h0, h1, fP, fQ, fR]
def xC (k : Int) : List PCell := sC k 0 ++ tC
def yC (k : Int) (o : Nat) : List PCell := tC ++ sC k o
@[simp] theorem xC_len (k : Int) : (xC k).length = 9 := by simp [xC, sC, tC]
@[simp] theorem yC_len (k : Int) (o : Nat) : (yC k o).length = 9 := by unfold yC sC; split <;> first | rfl | (split <;> rfl)
structure TF where
  a : PV
  b : PV
  c : PV
  d : PV
def stFi (x y : List PCell) (v w : List Int) (v0 v1 v2 v3 v4 v5 v6 v7 v15 v16 : PV) (σ : PH) (i : Nat) (t : TF) : PSt :=
  ⟨[v0, v1, v2, v3, v4, v5, v6, v7, .ls (.v false false) 9 (x.flatMap PCell.enc), .ls (.v false false) 9 (y.flatMap PCell.enc), .ls (.v false false) 9 (v.flatMap encI), .ls (.v false false) 9 (w.flatMap encI), .i .i64 (i : Nat), t.a, t.b, v15, v16, t.c, t.d], σ⟩
theorem fields_loop (x y : List PCell) (v w : List Int) (hx : x.length = 9) (hy : y.length = 9) (hv : v.length = 9) (hw : w.length = 9)
    (H : ∀ i, (h : i < 9) → ∃ j, ∃ hj : j < 9, found x (y[i]'(by omega)).path = .tup [.i .i64 (j : Nat), .b true] ∧ w[i] = v[j] ∧ (i < 6 → j = i + 3)) (v0 v1 v2 v3 v4 v5 v6 v7 v15 v16 : PV) (σ : PH) (t : TF) :
    ∃ t', piterL (pdenL (PC pfs) lp8_1) (stFi x y v w v0 v1 v2 v3 v4 v5 v6 v7 v15 v16 σ 0 t) = some (.exit 0, stFi x y v w v0 v1 v2 v3 v4 v5 v6 v7 v15 v16 σ 9 t') := by
  refine @for_loop (pdenL (PC pfs) lp8_1) TF 0 (stFi x y v w v0 v1 v2 v3 v4 v5 v6 v7 v15 v16 σ) (stFi x y v w v0 v1 v2 v3 v4 v5 v6 v7 v15 v16 σ 9) 9 ?_ ?_ t
  · intro i hlt t
    obtain ⟨j, hj, h1, h2, h3⟩ := H i hlt
    have hf := find_ok false x (y[i]'(by omega)).path (by omega)
    rw [h1, hx] at hf
    have hp := C_path i y (by omega)
    have hwi := I_at i w (by omega)
    have hvj := I_at j v (by omega)
    rw [h2] at hwi
    refine ⟨⟨.i .i64 (j : Nat), .b true, .b true, .b false⟩, ?_⟩
    have h9 : (i : Int) < 9 := by omega
    by_cases h6 : i < 6
    · have h6' : (i : Int) < 6 := by omega
      have e := h3 h6
      have ha : awrap .i64 ((i : Int) + 3) = (j : Int) := by rw [awrap_id (by omega) (by omega)]; omega
      have g2 : ∀ b : Bool, pget [.i .i64 (j : Nat), .b b] 0 = some (.i .i64 (j : Nat)) := fun _ => rfl
      have g3 : ∀ x : PV, pget [x, .b true] 1 = some (.b true) := fun _ => rfl
      simp [-prunOps, stFi, lp8_1, hlt, h9, h6', hp, hf, hwi, hvj, hj, ha, g2, g3, awrap_nat1 (n := i) (by omega)]
    · have h6' : ¬ (i : Int) < 6 := by omega
      have g2 : ∀ b : Bool, pget [.i .i64 (j : Nat), .b b] 0 = some (.i .i64 (j : Nat)) := fun _ => rfl
      have g3 : ∀ x : PV, pget [x, .b true] 1 = some (.b true) := fun _ => rfl
      simp [-prunOps, stFi, lp8_1, hlt, h9, h6', hp, hf, hwi, hvj, hj, g2, g3, awrap_nat1 (n := i) (by omega)]
  · intro t
    refine ⟨⟨t.a, t.b, .b false, t.d⟩, ?_⟩
    simp [stFi, lp8_1]

theorem nine {v : List Int} (h : v.length = 9) : ∃ a b c d e f g i j : Int, v = [a, b, c, d, e, f, g, i, j] := by
  match v, h with
  | [a, b, c, d, e, f, g, i, j], _ => exact ⟨a, b, c, d, e, f, g, i, j, rfl⟩
theorem fields_plain (k : Int) (o : Nat) (v : List Int) (hv : v.length = 9) :
    ∀ i, (h : i < 9) → ∃ j, ∃ hj : j < 9, found (xC k) ((yC k o)[i]'(by rw [yC_len]; omega)).path = .tup [.i .i64 (j : Nat), .b true] ∧ (overOf (xC k) (yC k o) v)[i]'(by rw [overOf_len, yC_len]; omega) = v[j] ∧ (i < 6 → j = i + 3) := by
  obtain ⟨a, b, c, d, e, f, g, l, m, rfl⟩ := nine hv
  intro i h
  have hi : i = 0 ∨ i = 1 ∨ i = 2 ∨ i = 3 ∨ i = 4 ∨ i = 5 ∨ i = 6 ∨ i = 7 ∨ i = 8 := by omega
  by_cases h0 : o = 0
  · subst h0
    rcases hi with rfl | rfl | rfl | rfl | rfl | rfl | rfl | rfl | rfl
    · refine ⟨3, by omega, ?_, ?_, by omega⟩ <;> simp [found, xC, yC, sC, tC, cS, overOf, sameCell, List.findIdx?_cons]
    · refine ⟨4, by omega, ?_, ?_, by omega⟩ <;> simp [found, xC, yC, sC, tC, cS, overOf, sameCell, List.findIdx?_cons]
    · refine ⟨5, by omega, ?_, ?_, by omega⟩ <;> simp [found, xC, yC, sC, tC, cS, overOf, sameCell, List.findIdx?_cons]
    · refine ⟨6, by omega, ?_, ?_, by omega⟩ <;> simp [found, xC, yC, sC, tC, cS, overOf, sameCell, List.findIdx?_cons]
    · refine ⟨7, by omega, ?_, ?_, by omega⟩ <;> simp [found, xC, yC, sC, tC, cS, overOf, sameCell, List.findIdx?_cons]
    · refine ⟨8, by omega, ?_, ?_, by omega⟩ <;> simp [found, xC, yC, sC, tC, cS, overOf, sameCell, List.findIdx?_cons]
    · refine ⟨0, by omega, ?_, ?_, by omega⟩ <;> simp [found, xC, yC, sC, tC, cS, overOf, sameCell, List.findIdx?_cons]
    · refine ⟨1, by omega, ?_, ?_, by omega⟩ <;> simp [found, xC, yC, sC, tC, cS, overOf, sameCell, List.findIdx?_cons]
    · refine ⟨2, by omega, ?_, ?_, by omega⟩ <;> simp [found, xC, yC, sC, tC, cS, overOf, sameCell, List.findIdx?_cons]
  · by_cases h1 : o = 1
    · subst h1
      rcases hi with rfl | rfl | rfl | rfl | rfl | rfl | rfl | rfl | rfl
      · refine ⟨3, by omega, ?_, ?_, by omega⟩ <;> simp [found, xC, yC, sC, tC, cS, overOf, sameCell, List.findIdx?_cons]
      · refine ⟨4, by omega, ?_, ?_, by omega⟩ <;> simp [found, xC, yC, sC, tC, cS, overOf, sameCell, List.findIdx?_cons]
      · refine ⟨5, by omega, ?_, ?_, by omega⟩ <;> simp [found, xC, yC, sC, tC, cS, overOf, sameCell, List.findIdx?_cons]
      · refine ⟨6, by omega, ?_, ?_, by omega⟩ <;> simp [found, xC, yC, sC, tC, cS, overOf, sameCell, List.findIdx?_cons]
      · refine ⟨7, by omega, ?_, ?_, by omega⟩ <;> simp [found, xC, yC, sC, tC, cS, overOf, sameCell, List.findIdx?_cons]
      · refine ⟨8, by omega, ?_, ?_, by omega⟩ <;> simp [found, xC, yC, sC, tC, cS, overOf, sameCell, List.findIdx?_cons]
      · refine ⟨1, by omega, ?_, ?_, by omega⟩ <;> simp [found, xC, yC, sC, tC, cS, overOf, sameCell, List.findIdx?_cons]
      · refine ⟨2, by omega, ?_, ?_, by omega⟩ <;> simp [found, xC, yC, sC, tC, cS, overOf, sameCell, List.findIdx?_cons]
      · refine ⟨0, by omega, ?_, ?_, by omega⟩ <;> simp [found, xC, yC, sC, tC, cS, overOf, sameCell, List.findIdx?_cons]
    · rcases hi with rfl | rfl | rfl | rfl | rfl | rfl | rfl | rfl | rfl
      · refine ⟨3, by omega, ?_, ?_, by omega⟩ <;> simp [h0, h1, found, xC, yC, sC, tC, cS, overOf, sameCell, List.findIdx?_cons]
      · refine ⟨4, by omega, ?_, ?_, by omega⟩ <;> simp [h0, h1, found, xC, yC, sC, tC, cS, overOf, sameCell, List.findIdx?_cons]
      · refine ⟨5, by omega, ?_, ?_, by omega⟩ <;> simp [h0, h1, found, xC, yC, sC, tC, cS, overOf, sameCell, List.findIdx?_cons]
      · refine ⟨6, by omega, ?_, ?_, by omega⟩ <;> simp [h0, h1, found, xC, yC, sC, tC, cS, overOf, sameCell, List.findIdx?_cons]
      · refine ⟨7, by omega, ?_, ?_, by omega⟩ <;> simp [h0, h1, found, xC, yC, sC, tC, cS, overOf, sameCell, List.findIdx?_cons]
      · refine ⟨8, by omega, ?_, ?_, by omega⟩ <;> simp [h0, h1, found, xC, yC, sC, tC, cS, overOf, sameCell, List.findIdx?_cons]
      · refine ⟨2, by omega, ?_, ?_, by omega⟩ <;> simp [h0, h1, found, xC, yC, sC, tC, cS, overOf, sameCell, List.findIdx?_cons]
      · refine ⟨0, by omega, ?_, ?_, by omega⟩ <;> simp [h0, h1, found, xC, yC, sC, tC, cS, overOf, sameCell, List.findIdx?_cons]
      · refine ⟨1, by omega, ?_, ?_, by omega⟩ <;> simp [h0, h1, found, xC, yC, sC, tC, cS, overOf, sameCell, List.findIdx?_cons]
end Go.Av
end
section
/- The law MigrateFields, on the second machine: the way to the loop. -/
namespace Go.Av
theorem cells_x (k : Int) : cellsL [sS (ord k 0), sT] = xC k := by simp [cellsL, cells_sT, cells_sS, xC]
theorem cells_y (k : Int) (o : Nat) : cellsL [sT, sS (ord k o)] = yC k o := by simp [cellsL, cells_sT, cells_sS, yC]
theorem lawFields_ok (order kind : Int) (vs : List Int) : iso (PC pfs) 8 [.i .i64 order, .i .i64 kind, .ls (.v false false) vs.length (vs.flatMap encI)] = some (.b true) := by
  have w1 := within_ok kind 6 (by omega) (by omega)
  have w2 := within_ok order 3 (by omega) (by omega)
  obtain ⟨k, hk⟩ : ∃ k, k = 1 + kind % 6 := ⟨_, rfl⟩
  have hk' : awrap .i64 (1 + kind % 6) = k := by rw [awrap_id (by omega) (by omega), hk]
  obtain ⟨o, ho⟩ : ∃ o : Nat, (o : Int) = order % 3 := ⟨(order % 3).toNat, by omega⟩
  have c1 := cells_ok false [sS (ord k 0), sT] (by simp [ok_sS, ok_sT]) (by simp)
  have c2 := cells_ok false [sT, sS (ord k o)] (by simp [ok_sS, ok_sT]) (by simp)
  rw [cells_x, xC_len] at c1
  rw [cells_y, yC_len] at c2
  have hv := values_ok false false (xC k) vs (by simp)
  obtain ⟨v, hvv⟩ : ∃ v, v = valuesOf (xC k) vs := ⟨_, rfl⟩
  rw [← hvv] at hv
  have hvl : v.length = 9 := by rw [hvv, valuesOf_length, xC_len]
  obtain ⟨r1, q1, e1⟩ := mcells_ok false false false (xC k) (yC k o) v (by simp) (by simp)
  have hpl := fields_plain k o v hvl
  have hwl : (overOf (xC k) (yC k o) v).length = 9 := by simp
  obtain ⟨t', g⟩ := fields_loop (xC k) (yC k o) v (overOf (xC k) (yC k o) v) (by simp) (by simp) hvl hwl hpl
    (.i .i64 order) (.i .i64 k) (.ls (.v false false) vs.length (vs.flatMap encI)) (.b false)
    (.ls (.v false true) 3 ((ord k 0).flatMap PFld.enc)) (.ls (.v false true) 3 ((ord k o).flatMap PFld.enc)) (.ls (.v false true) 2 ([sS (ord k 0), sT].flatMap PSym.enc)) (.ls (.v false true) 2 ([sT, sS (ord k o)].flatMap PSym.enc)) (.b false) (.b false) ⟨[.dead, .dead, .dead, .dead], 0, [], 0⟩ ⟨.und, .und, .und, .und⟩
  clear hpl hvv
  generalize overOf (xC k) (yC k o) v = w at *
  generalize hX : xC k = X at *
  generalize hY : yC k o = Y at *
  simp only [stFi] at g
  have xl : X.length = 9 := by rw [← hX]; simp
  have yl : Y.length = 9 := by rw [← hY]; simp
  clear hX hY
  simp [vl, hvl, hwl, xl, yl] at hv q1 e1
  unfold iso
  rw [PC_eq (F := pf8) rfl]
  have hc : o = 0 ∨ o = 1 ∨ o = 2 := by omega
  have t1 : (awrap .i64 1).tmod 3 = 1 := by rw [awrap_id (by omega) (by omega)]; decide
  have t2 : (awrap .i64 2).tmod 3 = 2 := by rw [awrap_id (by omega) (by omega)]; decide
  have t3 : (awrap .i64 3).tmod 3 = 0 := by rw [awrap_id (by omega) (by omega)]; decide
  have t4 : (awrap .i64 4).tmod 3 = 1 := by rw [awrap_id (by omega) (by omega)]; decide
  rcases hc with rfl | rfl | rfl
  · have ho' : order % 3 = 0 := by omega
    rw [ho'] at w2
    simp [sS, sT, PSym.enc, vl, PFld.enc, ord, fP, fQ, fR, encI] at c1 c2 g
    rcases e1 with rfl | rfl <;>
      simp [-prunOps, pf8, psplice, psub, pget, known_ok, w1, w2, hk', c1, c2, hv, q1, t1, t2, t3, t4, g]
  · have ho' : order % 3 = 1 := by omega
    rw [ho'] at w2
    simp [sS, sT, PSym.enc, vl, PFld.enc, ord, fP, fQ, fR, encI] at c1 c2 g
    rcases e1 with rfl | rfl <;>
      simp [-prunOps, pf8, psplice, psub, pget, known_ok, w1, w2, hk', c1, c2, hv, q1, t1, t2, t3, t4, g]
  · have ho' : order % 3 = 2 := by omega
    rw [ho'] at w2
    simp [sS, sT, PSym.enc, vl, PFld.enc, ord, fP, fQ, fR, encI] at c1 c2 g
    rcases e1 with rfl | rfl <;>
      simp [-prunOps, pf8, psplice, psub, pget, known_ok, w1, w2, hk', c1, c2, hv, q1, t1, t2, t3, t4, g]
end Go.Av
end
section
/- Contracts: law7.within, law7.Few, law8.Few. -/
namespace Go.Av
theorem within7_ok (a n : Int) (hn : 0 < n) (hn2 : n ≤ 4611686018427387904) : iso (PC pfs) 31 [.i .i64 a, .i .i64 n] = some (.i .i64 (a % n)) := by
  unfold iso
  rw [PC_eq (F := pf31) rfl]
  have h0 : n ≠ 0 := by omega
  have h1 : a.tmod n < n := Int.tmod_lt_of_pos a hn
  have h2 : -n < a.tmod n := by
    have := Int.tmod_lt_of_pos (-a) hn
    rw [Int.neg_tmod] at this
    omega
  have h3 : a % n = if a.tmod n < 0 then a.tmod n + n else a.tmod n := by
    have e := Int.mul_tdiv_add_tmod a n
    have e2 : a % n = a.tmod n % n := by
      have : (n * a.tdiv n + a.tmod n) % n = a.tmod n % n := Int.mul_add_emod_self_left ..
      rwa [e] at this
    rw [e2]
    split
    · rw [← Int.emod_eq_of_lt (a := a.tmod n + n) (b := n) (by omega) (by omega)]
      simp
    · exact Int.emod_eq_of_lt (by omega) h1
  by_cases h : a.tmod n < 0
  · simp [-prunOps, pf31, h0, h, h3]
    exact awrap_id (by omega) (by omega)
  · simp [-prunOps, pf31, h0, h, h3]
/-- A type that is not too much. -/
def few7 (t : PTy) : Prop := (∀ f ∈ t.fields, f.name.length ≤ 20) ∧ t.fields.length ≤ 9
open Classical in
noncomputable def few7B (t : PTy) : Bool := decide (few7 t)
def stW7 (t : PTy) (v2 : PV) (i : Nat) (x : PV × PV) : PSt := ⟨[.agg t.enc, .p 0 0, v2, .i .i64 (i : Nat), x.1, x.2], ⟨[.cells t.enc 0], 0, [], 0⟩⟩
theorem T3 (t : PTy) : pget t.enc 3 = some (vl PFld.enc t.fields) := rfl
theorem okT (t : PTy) : pokCells t.enc = true := by simp [PTy.enc, vl]
theorem few7_ok (t : PTy) (hl : t.fields.length ≤ 9223372036854775807) : iso (PC pfs) 23 [.agg t.enc] = some (.b (few7B t)) := by
  unfold iso
  rw [PC_eq (F := pf23) rfl]
  have key := @for_find (pdenL (PC pfs) lp23_1) (PV × PV) 0 (stW7 t (.b false)) (stW7 t (.b false) t.fields.length) (fun i => ∃ h : i < t.fields.length, 20 < t.fields[i].name.length) (fun i x => stW7 t (.b false) i x) t.fields.length ?_ ?_ ?_ (.und, .und)
  · rcases key with ⟨i, hi, ⟨_, hp⟩, hj, t', h⟩ | ⟨hj, t', h⟩
    · have hf : few7B t = false := by
        simp only [few7B, decide_eq_false_iff_not]
        rintro ⟨h1, _⟩
        have := h1 t.fields[i] (by simp)
        omega
      rw [hf]
      simp only [stW7] at h
      simp at h
      simp [-prunOps, pf23, okT]
      simp [-prunOps, h]
    · have hf : few7B t = decide (t.fields.length ≤ 9) := by
        have : (∀ f ∈ t.fields, f.name.length ≤ 20) := by
          intro f hf
          obtain ⟨i, hi, rfl⟩ := List.getElem_of_mem hf
          have := hj i hi
          exact Nat.le_of_not_lt fun h => this ⟨hi, h⟩
        simp only [few7B, few7, this, true_and]
        by_cases h9 : t.fields.length ≤ 9 <;> simp [h9] <;> exact this
      rw [hf]
      simp only [stW7] at h
      simp at h
      simp [-prunOps, pf23, okT]
      simp [-prunOps, h, T3, vl]
      omega
  · rintro i hi ⟨_, hp⟩ x
    refine ⟨(.b true, .b true), ?_⟩
    have hp' : (20 : Int) < (t.fields[i].name.length : Nat) := by omega
    simp [-prunOps, stW7, lp23_1, T3, vl, hi, F_name i t.fields hi, hp']
  · intro i hi hp x
    have hp : ¬ 20 < t.fields[i].name.length := fun h => hp ⟨hi, h⟩
    have hp' : ¬ (20 : Int) < (t.fields[i].name.length : Nat) := by omega
    refine ⟨(.b true, .b false), ?_⟩
    simp [-prunOps, stW7, lp23_1, T3, vl, hi, F_name i t.fields hi, hp', awrap_nat1 (n := i) (by omega)]
  · intro x
    refine ⟨(.b false, x.2), ?_⟩
    simp [-prunOps, stW7, lp23_1, T3, vl]
theorem psub_in {cs e : List PV} {o n j k : Nat} (h : psub cs o k = some e) (hj : j + n ≤ k) : psub cs (o + j) n = psub e j n := by
  unfold psub at h ⊢
  split at h
  · rename_i h1
    injection h with h
    subst h
    have hl : ((cs.drop o).take k).length = k := by simp; omega
    rw [if_pos (by omega), if_pos (by omega)]
    congr 1
    rw [List.drop_take, List.drop_drop, List.take_take]
    congr 1
    omega
  · cases h
theorem S_type (i : Nat) (l : List PSym) (h : i < l.length) : psub (l.flatMap PSym.enc) (i * 7 + 1) 4 = some l[i].type.enc := by
  rw [psub_in (S_at i l h) (by omega)]
  simp [psub, PSym.enc, PTy.enc]
def few8 (s : PSym) : Prop := s.name.length ≤ 20 ∧ few7 s.type ∧ s.init.length ≤ 40
open Classical in
noncomputable def few8B (l : List PSym) : Bool := decide ((∀ s ∈ l, few8 s) ∧ l.length ≤ 16)
def stW8 (b : Bool) (l : List PSym) (v1 : PV) (i : Nat) (x : PV × PV) : PSt := ⟨[.ls (.v b false) l.length (l.flatMap PSym.enc), v1, .i .i64 (i : Nat), x.1, x.2], .empty⟩
theorem few8_ok (b : Bool) (l : List PSym) (hl : l.length ≤ 9223372036854775807) (hf : ∀ s ∈ l, s.type.fields.length ≤ 9223372036854775807) : iso (PC pfs) 10 [.ls (.v b false) l.length (l.flatMap PSym.enc)] = some (.b (few8B l)) := by
  unfold iso
  rw [PC_eq (F := pf10) rfl]
  have key := @for_find (pdenL (PC pfs) lp10_1) (PV × PV) 0 (stW8 b l (.b false)) (stW8 b l (.b false) l.length) (fun i => ∃ h : i < l.length, ¬ few8 l[i]) (fun i x => stW8 b l (.b false) i x) l.length ?_ ?_ ?_ (.und, .und)
  · rcases key with ⟨i, hi, ⟨_, hp⟩, hj, t', h⟩ | ⟨hj, t', h⟩
    · have hf : few8B l = false := by
        simp only [few8B, decide_eq_false_iff_not]
        rintro ⟨h1, _⟩
        exact hp (h1 l[i] (by simp))
      rw [hf]
      simp only [stW8] at h
      simp at h
      simp [-prunOps, pf10]
      simp [-prunOps, h]
    · have hf : few8B l = decide (l.length ≤ 16) := by
        have this : ∀ s ∈ l, few8 s := by
          intro s hs
          obtain ⟨i, hi, rfl⟩ := List.getElem_of_mem hs
          exact Classical.byContradiction fun h => hj i hi ⟨hi, h⟩
        unfold few8B
        by_cases h9 : l.length ≤ 16 <;> simp [h9] <;> exact this
      rw [hf]
      simp only [stW8] at h
      simp at h
      simp [-prunOps, pf10]
      simp [-prunOps, h]
      omega
  · rintro i hi ⟨_, hp⟩ x
    have h7 := few7_ok l[i].type (hf l[i] (by simp))
    have hle : mapO (lendC 8 PH.empty) l[i].type.enc = some l[i].type.enc := lend_shutL (by simp [ShutL, PTy.enc, Shut, vl])
    simp only [PH.empty] at hle
    refine ⟨(.b true, .b true), ?_⟩
    by_cases h1 : l[i].name.length ≤ 20
    · have h1' : ¬ (20 : Int) < (l[i].name.length : Nat) := by omega
      by_cases h2 : few7 l[i].type
      · have h3 : 40 < l[i].init.length := Nat.lt_of_not_le fun h => hp ⟨h1, h2, h⟩
        have h3' : (40 : Int) < (l[i].init.length : Nat) := by omega
        have e : few7B l[i].type = true := by simp [few7B, h2]
        rw [e] at h7
        simp [-prunOps, stW8, lp10_1, hi, S_name i l hi, S_type i l hi, S_init i l hi, hle, h7, h1', h3']
      · have e : few7B l[i].type = false := by simp [few7B, h2]
        rw [e] at h7
        simp [-prunOps, stW8, lp10_1, hi, S_name i l hi, S_type i l hi, hle, h7, h1']
    · have h1' : (20 : Int) < (l[i].name.length : Nat) := by omega
      simp [-prunOps, stW8, lp10_1, hi, S_name i l hi, h1']
  · intro i hi hp x
    have hp : few8 l[i] := Classical.byContradiction fun h => hp ⟨hi, h⟩
    obtain ⟨h1, h2, h3⟩ := hp
    have h7 := few7_ok l[i].type (hf l[i] (by simp))
    have hle : mapO (lendC 8 PH.empty) l[i].type.enc = some l[i].type.enc := lend_shutL (by simp [ShutL, PTy.enc, Shut, vl])
    simp only [PH.empty] at hle
    have h1' : ¬ (20 : Int) < (l[i].name.length : Nat) := by omega
    have h3' : ¬ (40 : Int) < (l[i].init.length : Nat) := by omega
    have e : few7B l[i].type = true := by simp [few7B, h2]
    rw [e] at h7
    refine ⟨(.b true, .b false), ?_⟩
    simp [-prunOps, stW8, lp10_1, hi, S_name i l hi, S_type i l hi, S_init i l hi, hle, h7, h1', h3', awrap_nat1 (n := i) (by omega)]
  · intro x
    refine ⟨(.b false, x.2), ?_⟩
    simp [-prunOps, stW8, lp10_1]
end Go.Av
end
section
/- Contracts: law7.Good. -/
namespace Go.Av
def goodK (t : PTy) (i : Nat) : Int := if h : i < t.fields.length then t.fields[i].kind else awrap .i64 (t.elem + i)
def goodF (t : PTy) (i : Nat) : PFld := ⟨[102, UInt8.ofNat (48 + i)], 1 + goodK t i % 6⟩
def goodFs (t : PTy) (n : Nat) : List PFld := (List.range n).map (goodF t)
def goodT (t : PTy) : PTy :=
  if 1 + t.kind % 10 = 7 then ⟨7, 1 + t.elem % 6, 1 + t.n % 8, []⟩ else if 1 + t.kind % 10 = 8 then ⟨8, 0, 0, goodFs t (1 + t.n % 4).toNat⟩ else ⟨1 + t.kind % 10, 0, 0, []⟩
theorem T0 (t : PTy) : pget t.enc 0 = some (.i .i64 t.kind) := rfl
theorem T1 (t : PTy) : pget t.enc 1 = some (.i .i64 t.elem) := rfl
theorem T2 (t : PTy) : pget t.enc 2 = some (.i .i64 t.n) := rfl
@[simp] theorem goodFs_len (t : PTy) (n : Nat) : (goodFs t n).length = n := by simp [goodFs]
theorem goodFs_succ (t : PTy) (n : Nat) : goodFs t (n + 1) = goodFs t n ++ [goodF t n] := by simp [goodFs, List.range_succ]
def ge (t : PTy) : Nat → List PV
  | 0 => []
  | n + 1 => ge t n ++ [.s [102, UInt8.ofNat (48 + n)], .i .i64 (1 + goodK t n % 6)]
theorem ge_eq (t : PTy) (n : Nat) : (goodFs t n).flatMap PFld.enc = ge t n := by
  induction n with
  | zero => rfl
  | succ n ih => rw [goodFs_succ, List.flatMap_append, ih, ge]; simp [goodF, PFld.enc]
/-- The list in the field, as it grows: nothing, then an own one. -/
def gl (t : PTy) (i : Nat) : PV := if i = 0 then .ls (.v false true) 0 [] else .ls (.own 0 (i - 1)) i (ge t i)
def glR (i : Nat) : List Root := if i = 0 then [] else [.live (i - 1) i 2]
def stGo (t : PTy) (v7 v8 : PV) (i : Nat) (x : PV × PV × PV × PV) : PSt :=
  ⟨[.agg t.enc, .p 0 0, .p 1 0, .p 2 0, .i .i64 (i : Nat), x.1, .i .i64 8, v7, v8, x.2.1, x.2.2.1], ⟨[.cells t.enc 0, .cells [.i .i64 0, .i .i64 0, .i .i64 0, .ls (.v false true) 0 []] 0, .cells [.i .i64 8, .i .i64 0, .i .i64 0, gl t i] 0], 0, glR i, 0⟩⟩
set_option maxRecDepth 100000 in
theorem good_loop (t : PTy) (n : Nat) (hn : (n : Int) = 1 + t.n % 4) (v7 v8 : PV) (hfl : t.fields.length ≤ 9223372036854775807) (x : PV × PV × PV × PV) :
    ∃ x', piterL (pdenL (PC pfs) lp24_1) (stGo t v7 v8 0 x) = some (.exit 1, stGo t v7 v8 n x') := by
  have w2 := within7_ok t.n 4 (by omega) (by omega)
  have h4 : awrap .i64 (1 + t.n % 4) = n := by rw [awrap_id (by omega) (by omega)]; omega
  have hn4 : n ≤ 4 := by omega
  refine @for_loop (pdenL (PC pfs) lp24_1) (PV × PV × PV × PV) 1 (stGo t v7 v8) (stGo t v7 v8 n) n ?_ ?_ x
  · intro i hlt x
    have hlt' : (i : Int) < n := by omega
    have wk := within7_ok (goodK t i) 6 (by omega) (by omega)
    have ak : awrap .i64 (1 + goodK t i % 6) = 1 + goodK t i % 6 := awrap_id (by omega) (by omega)
    have ab : awrap .u8 (awrap .i64 (48 + (i : Int))) = 48 + (i : Int) := by
      rw [awrap_id (by omega) (by omega), awrap_eq]; simp [IntKind.wrap, IntKind.signed, IntKind.bits]; omega
    have o3 : ∀ l : PV, pget [.i .i64 8, .i .i64 0, .i .i64 0, l] 3 = some l := fun _ => rfl
    have p0 : ∀ (σ : PH) (e : List PV), pappendNew σ 2 24 (.ls (.v false true) 0 []) 1 e = some (.ls (.fresh 1 2) 1 e, σ) := fun σ e => by
      have := pan_view (σ := σ) (ez := 2) (bytes := 24) (n := 1) (sn := 0) (b := false) (cs := []) (new := e) rfl (by omega) (by omega) (.inl rfl)
      simpa using this
    have p1 : ∀ (ob : List PObj) (a b : PV) (e : List PV), pappendNew ⟨ob, 0, [.live 0 1 2], 0⟩ 2 24 (.ls (.own 0 0) 1 [a, b]) 1 e = some (.ls (.own 0 1) 2 (a :: b :: e), ⟨ob, 0, [.live 1 2 2], 0⟩) :=
      fun ob a b e => pan_own (σ := ⟨ob, 0, [.live 0 1 2], 0⟩) (cs := [a, b]) rfl (.inr rfl) (by omega) rfl rfl (by omega) (by omega) (by omega)
    have p2 : ∀ (ob : List PObj) (a b c d : PV) (e : List PV), pappendNew ⟨ob, 0, [.live 1 2 2], 0⟩ 2 24 (.ls (.own 0 1) 2 [a, b, c, d]) 1 e = some (.ls (.own 0 2) 3 (a :: b :: c :: d :: e), ⟨ob, 0, [.live 2 3 2], 0⟩) :=
      fun ob a b c d e => pan_own (σ := ⟨ob, 0, [.live 1 2 2], 0⟩) (cs := [a, b, c, d]) rfl (.inr rfl) (by omega) rfl rfl (by omega) (by omega) (by omega)
    have p3 : ∀ (ob : List PObj) (a b c d f g : PV) (e : List PV), pappendNew ⟨ob, 0, [.live 2 3 2], 0⟩ 2 24 (.ls (.own 0 2) 3 [a, b, c, d, f, g]) 1 e = some (.ls (.own 0 3) 4 (a :: b :: c :: d :: f :: g :: e), ⟨ob, 0, [.live 3 4 2], 0⟩) :=
      fun ob a b c d f g e => pan_own (σ := ⟨ob, 0, [.live 2 3 2], 0⟩) (cs := [a, b, c, d, f, g]) rfl (.inr rfl) (by omega) rfl rfl (by omega) (by omega) (by omega)
    refine ⟨(.i .i64 (goodK t i), .b true, .b (decide (i < t.fields.length)), x.2.2.2), ?_⟩
    have hc : i = 0 ∨ i = 1 ∨ i = 2 ∨ i = 3 := by omega
    have n1 : awrap .i64 1 = 1 := awrap_id (by omega) (by omega)
    have n2 : awrap .i64 2 = 2 := awrap_id (by omega) (by omega)
    have n3 : awrap .i64 3 = 3 := awrap_id (by omega) (by omega)
    have n4 : awrap .i64 4 = 4 := awrap_id (by omega) (by omega)
    by_cases hi : i < t.fields.length
    · have e : goodK t i = t.fields[i].kind := by simp [goodK, hi]
      have hF := F_kind i t.fields hi
      rw [← e] at hF
      rcases hc with rfl | rfl | rfl | rfl
      · simp at ab hi hF
        simp [-prunOps, stGo, lp24_1, gl, glR, ge, hlt, T1, T2, T3, vl, w2, h4, hi, hF, wk, ak, psplice, psub, ab, o3, pbytesOf, p0, n1]
      · simp at ab hi hF
        have l1 : (1 : Int) < n := by omega
        have f1 : ((1 : Int) < (t.fields.length : Nat)) := by omega
        simp [-prunOps, stGo, lp24_1, gl, glR, ge, hlt, T1, T2, T3, vl, w2, h4, hi, hF, wk, ak, psplice, psub, ab, o3, pbytesOf, p1, n2, l1, f1]
      · simp at ab hi hF
        have l2 : (2 : Int) < n := by omega
        have f2 : ((2 : Int) < (t.fields.length : Nat)) := by omega
        simp [-prunOps, stGo, lp24_1, gl, glR, ge, hlt, T1, T2, T3, vl, w2, h4, hi, hF, wk, ak, psplice, psub, ab, o3, pbytesOf, p2, n3, l2, f2]
      · simp at ab hi hF
        have l3 : (3 : Int) < n := by omega
        have f3 : ((3 : Int) < (t.fields.length : Nat)) := by omega
        simp [-prunOps, stGo, lp24_1, gl, glR, ge, hlt, T1, T2, T3, vl, w2, h4, hi, hF, wk, ak, psplice, psub, ab, o3, pbytesOf, p3, n4, l3, f3]
    · have e : goodK t i = awrap .i64 (t.elem + i) := by simp [goodK, hi]
      have eg : awrap .i64 (t.elem + i) = goodK t i := e.symm
      rcases hc with rfl | rfl | rfl | rfl
      · simp at ab hi eg
        simp [-prunOps, stGo, lp24_1, gl, glR, ge, hlt, T1, T2, T3, vl, w2, h4, hi, eg, wk, ak, psplice, psub, ab, o3, pbytesOf, p0, n1]
      · simp at ab hi eg
        have l1 : (1 : Int) < n := by omega
        have f1 : ¬ ((1 : Int) < (t.fields.length : Nat)) := by omega
        simp [-prunOps, stGo, lp24_1, gl, glR, ge, hlt, T1, T2, T3, vl, w2, h4, hi, eg, wk, ak, psplice, psub, ab, o3, pbytesOf, p1, n2, l1, f1]
      · simp at ab hi eg
        have l2 : (2 : Int) < n := by omega
        have f2 : ¬ ((2 : Int) < (t.fields.length : Nat)) := by omega
        simp [-prunOps, stGo, lp24_1, gl, glR, ge, hlt, T1, T2, T3, vl, w2, h4, hi, eg, wk, ak, psplice, psub, ab, o3, pbytesOf, p2, n3, l2, f2]
      · simp at ab hi eg
        have l3 : (3 : Int) < n := by omega
        have f3 : ¬ ((3 : Int) < (t.fields.length : Nat)) := by omega
        simp [-prunOps, stGo, lp24_1, gl, glR, ge, hlt, T1, T2, T3, vl, w2, h4, hi, eg, wk, ak, psplice, psub, ab, o3, pbytesOf, p3, n4, l3, f3]
  · intro x
    refine ⟨(x.1, .b false, x.2.2.1, x.2.2.2), ?_⟩
    simp [-prunOps, stGo, lp24_1, T2, w2, h4]
theorem good7_ok (t : PTy) (hfl : t.fields.length ≤ 9223372036854775807) : iso (PC pfs) 24 [.agg t.enc] = some (.agg (goodT t).enc) := by
  have w1 := within7_ok t.kind 10 (by omega) (by omega)
  have w2 := within7_ok t.elem 6 (by omega) (by omega)
  have w3 := within7_ok t.n 8 (by omega) (by omega)
  obtain ⟨k, hk⟩ : ∃ k, k = 1 + t.kind % 10 := ⟨_, rfl⟩
  have k1 : awrap .i64 (1 + t.kind % 10) = k := by rw [awrap_id (by omega) (by omega), hk]
  have k2 : awrap .i64 (1 + t.elem % 6) = 1 + t.elem % 6 := awrap_id (by omega) (by omega)
  have k3 : awrap .i64 (1 + t.n % 8) = 1 + t.n % 8 := awrap_id (by omega) (by omega)
  obtain ⟨n, hn⟩ : ∃ n : Nat, (n : Int) = 1 + t.n % 4 := ⟨(1 + t.n % 4).toNat, by omega⟩
  have hn0 : n ≠ 0 := by omega
  have o0 : ∀ a b c d : PV, pget [a, b, c, d] 0 = some a := fun _ _ _ _ => rfl
  obtain ⟨x', g⟩ := good_loop t n hn (.b false) (.b true) hfl (.und, .und, .und, .und)
  simp only [stGo, gl, glR, if_neg hn0, if_pos (rfl : (0 : Nat) = 0)] at g
  unfold iso
  rw [PC_eq (F := pf24) rfl]
  unfold goodT
  rw [← hk]
  have z0 : ∀ a b c : Int, PTy.enc ⟨a, b, c, []⟩ = [.i .i64 a, .i .i64 b, .i .i64 c, .ls (.v false false) 0 []] := fun _ _ _ => rfl
  have z1 : ∀ a b c : Int, PTy.enc ⟨a, b, c, goodFs t n⟩ = [.i .i64 a, .i .i64 b, .i .i64 c, .ls (.v false false) n (ge t n)] := fun _ _ _ => by
    simp [PTy.enc, vl, ge_eq]
  by_cases h7 : k = 7
  · subst h7
    simp [-prunOps, pf24, okT, T0, T1, T2, w1, k1, k2, w2, w3, k3, o0, psplice, psub, z0]
  · by_cases h8 : k = 8
    · subst h8
      have e4 : (1 + t.n % 4).toNat = n := by omega
      rw [e4]
      simp at g
      simp [-prunOps, pf24, okT, T0, T1, T2, w1, k1, k2, w2, w3, k3, o0, psplice, psub, g, z1]
    · simp [-prunOps, pf24, okT, T0, T1, T2, w1, k1, k2, w2, w3, k3, o0, psplice, psub, z0, h7, h8]
end Go.Av
end
section
/- Contracts: law8.Good: the inner loop. -/
namespace Go.Av
/-- A loop that may be left in a round. -/
theorem for_brk {f : PSt → Option (Ex × PSt)} {T : Type} (k : Nat) (σ : Nat → T → PSt) (I : Nat → T → Prop) (R : PSt → Prop) (n : Nat)
    (hs : ∀ i, i < n → ∀ t, I i t → (∃ t', f (σ i t) = some (.norm, σ (i + 1) t') ∧ I (i + 1) t') ∨ (∃ s, f (σ i t) = some (.exit k, s) ∧ R s))
    (he : ∀ t, I n t → ∃ s, f (σ n t) = some (.exit k, s) ∧ R s) (t : T) (h0 : I 0 t) : ∃ s, piterL f (σ 0 t) = some (.exit k, s) ∧ R s := by
  have key : ∀ m i, i + m = n → ∀ t, I i t → ∃ s, piterL f (σ i t) = some (.exit k, s) ∧ R s := by
    intro m
    induction m with
    | zero =>
      intro i hi t ht
      have : i = n := by omega
      subst this
      obtain ⟨s, h, hr⟩ := he t ht
      exact ⟨s, by rw [piterL_eq, h], hr⟩
    | succ m ih =>
      intro i hi t ht
      rcases hs i (by omega) t ht with ⟨t1, h1, ht1⟩ | ⟨s, h, hr⟩
      · obtain ⟨s, h2, hr⟩ := ih (i + 1) (by omega) t1 ht1
        exact ⟨s, by rw [piterL_eq, h1]; exact h2, hr⟩
      · exact ⟨s, by rw [piterL_eq, h], hr⟩
  exact key n 0 (by omega) t h0
def goodX (ini : List Int) (k : Nat) : Int := ini[k]?.getD k
def goodI (cs : List PCell) (ini : List Int) : List Int := cs.mapIdx fun k c => wrapK c.kind (goodX ini k)
@[simp] theorem goodI_len (cs : List PCell) (ini : List Int) : (goodI cs ini).length = cs.length := by simp [goodI]
structure TI where
  a : PV
  b : PV
  c : PV
def stI1 (b : Bool) (l : List PSym) (i : Nat) (cs : List PCell) (s : PSym) (J K : List PObj) (rt : List Root) (v1 v2 v3 v4 v11 v12 v13 v14 : PV) (ini : List Int) (k : Nat) (t : TI) : PSt :=
  ⟨[.ls (.v b false) l.length (l.flatMap PSym.enc), v1, v2, v3, v4, .i .i64 (i : Nat), .p J.length 0, .i .i64 (cs.length : Nat), .ls (.v false false) cs.length (cs.flatMap PCell.enc), .i .i64 (k : Nat), t.a, v11, v12, v13, v14, t.b, t.c],
   ⟨J ++ .cells [.s s.name, .i .i64 s.type.kind, .i .i64 s.type.elem, .i .i64 s.type.n, vl PFld.enc s.type.fields, .b s.retain, .sl (J.length + 1) 0 cs.length (some cs.length)] 0 :: .cells (((goodI cs ini).take k ++ (List.replicate cs.length (0 : Int)).drop k).flatMap encI) 1 :: K, 0, rt, 0⟩⟩
theorem inner_loop (b : Bool) (l : List PSym) (i : Nat) (hi : i < l.length) (cs : List PCell) (hcs : cs.length ≤ 1000) (s : PSym) (J K : List PObj) (rt : List Root) (v1 v2 v3 v4 v11 v12 v13 v14 : PV) (t : TI) :
    ∃ t', piterL (pdenL (PC pfs) lp11_1) (stI1 b l i cs s J K rt v1 v2 v3 v4 v11 v12 v13 v14 l[i].init 0 t) = some (.exit 2, stI1 b l i cs s J K rt v1 v2 v3 v4 v11 v12 v13 v14 l[i].init cs.length t') := by
  refine @for_loop (pdenL (PC pfs) lp11_1) TI 2 (stI1 b l i cs s J K rt v1 v2 v3 v4 v11 v12 v13 v14 l[i].init) (stI1 b l i cs s J K rt v1 v2 v3 v4 v11 v12 v13 v14 l[i].init cs.length) cs.length ?_ ?_ t
  · intro k hlt t
    have o6 : ∀ a b c d e f g : PV, pget [a, b, c, d, e, f, g] 6 = some g := fun _ _ _ _ _ _ _ => rfl
    have hw := wrap_ok cs[k].kind (goodX l[i].init k)
    have hM : ((goodI cs l[i].init).take k ++ (List.replicate cs.length (0 : Int)).drop k).length = cs.length := by simp; omega
    have hfin : ((goodI cs l[i].init).take k ++ (List.replicate cs.length (0 : Int)).drop k).set k (wrapK cs[k].kind (goodX l[i].init k)) = (goodI cs l[i].init).take (k + 1) ++ (List.replicate cs.length (0 : Int)).drop (k + 1) := by
      have e : wrapK cs[k].kind (goodX l[i].init k) = (goodI cs l[i].init)[k]'(by simpa using hlt) := by simp [goodI]
      rw [e]
      exact set_mix k (by simpa using hlt) (by simp)
    simp only [stI1]
    generalize hMe : (goodI cs l[i].init).take k ++ (List.replicate cs.length (0 : Int)).drop k = M at hM hfin ⊢
    have hsp : psplice (M.flatMap encI) k [.i .i64 (wrapK cs[k].kind (goodX l[i].init k))] = some ((M.set k (wrapK cs[k].kind (goodX l[i].init k))).flatMap encI) := by
      have := splice_flat (enc := encI) (k := 1) (fun _ => rfl) M k (wrapK cs[k].kind (goodX l[i].init k)) (by omega)
      simpa only [encI, Nat.mul_one] using this
    rw [hfin] at hsp
    refine ⟨⟨.i .i64 (goodX l[i].init k), .b true, .b (decide (k < l[i].init.length))⟩, ?_⟩
    by_cases hk : k < l[i].init.length
    · have e : goodX l[i].init k = l[i].init[k] := by simp [goodX, hk]
      rw [e] at hw hsp ⊢
      simp [-prunOps, lp11_1, hlt, hi, hk, S_init i l hi, I_at k l[i].init hk, o6, C_kind k cs hlt, hw, hsp, awrap_nat1 (n := k) (by omega)]
    · have e : goodX l[i].init k = (k : Int) := by simp [goodX, hk]
      rw [e] at hw hsp ⊢
      simp [-prunOps, lp11_1, hlt, hi, hk, S_init i l hi, o6, C_kind k cs hlt, hw, hsp, awrap_nat1 (n := k) (by omega)]
  · intro t
    refine ⟨⟨t.a, .b false, t.c⟩, ?_⟩
    simp [-prunOps, stI1, lp11_1]
end Go.Av
end
section
/- Contracts: law8.Good. -/
namespace Go.Av
/-- Kinds that are good, their sizes. -/
theorem goodT_kind (t : PTy) : (goodT t).kind = 1 + t.kind % 10 := by
  unfold goodT
  split
  · rename_i h; simp [h]
  · split
    · rename_i h; simp [h]
    · rfl
theorem goodT_ok (t : PTy) : OkTy (goodT t) := by
  have hk : 1 ≤ 1 + t.kind % 10 ∧ 1 + t.kind % 10 ≤ 10 := by omega
  unfold goodT
  split
  · refine ⟨by simp, by simp, fun _ => by simp; omega, fun h => by simp at h, by simp, by simp⟩
  · split
    · refine ⟨by simp, by simp, fun h => by simp at h, fun _ => by simp; omega, by simp; omega, ?_⟩
      intro f hf
      simp [goodFs] at hf
      obtain ⟨j, _, rfl⟩ := hf
      simp [goodF]
    · rename_i h7 h8
      refine ⟨hk.1, hk.2, fun h => absurd h h7, fun h => absurd h h8, by simp, by simp⟩
theorem size_pos {t : PTy} (h : OkTy t) : 1 ≤ sizeOf' t ∧ sizeOf' t ≤ 1000 := by
  unfold sizeOf'
  split
  · omega
  · rename_i hv
    split
    · rename_i h7; exact h.2.2.1 h7
    · rename_i h7
      obtain ⟨a, b, _⟩ := fieldsOf_ok h (by simpa using hv) h7
      omega
theorem good_size (t : PTy) : sizeOf' (goodT t) ≤ 8 := by
  have hk := goodT_kind t
  unfold sizeOf'
  split
  · omega
  · split
    · rename_i h7
      have : (goodT t).n = 1 + t.n % 8 := by
        rw [hk] at h7
        unfold goodT; rw [if_pos h7]
      omega
    · unfold fieldsOf
      split
      · rename_i h8
        have : (goodT t).fields = goodFs t (1 + t.n % 4).toNat := by
          rw [hk] at h8
          unfold goodT; rw [if_neg (by omega), if_pos h8]
        rw [this]; simp; omega
      · split
        · simp [tonF]
        · split <;> simp [ctuF]
theorem cells1_len (s : PSym) (h : OkTy s.type) : ((cells1 s).length : Int) = sizeOf' s.type := by
  simp only [cells1, fill_len, rawOf, sizeOf']
  split
  · simp
  · split
    · rename_i h7
      have := h.2.2.1 h7
      simp; omega
    · simp
def nm (i : Nat) : List UInt8 := [118, UInt8.ofNat (97 + i)]
/-- A variable that is good. -/
structure GoodAt (i : Nat) (g : PSym) : Prop where
  name : g.name = nm i
  type : ∃ t, g.type = goodT t
  bor : g.bor = false
  len : g.init.length = (cells1 g).length
  wrap : ∀ k, (h : k < g.init.length) → ∃ x, g.init[k] = wrapK ((cells1 g)[k]'(by omega)).kind x
def g0 (i : Nat) (t : PTy) (ret bor : Bool) (N : Nat) : PSym := ⟨nm i, goodT t, ret, List.replicate N 0, bor⟩
def g1 (i : Nat) (t : PTy) (ret : Bool) (N : Nat) (ini : List Int) : PSym := ⟨nm i, goodT t, ret, goodI (cells1 (g0 i t ret true N)) ini, false⟩
theorem g1_good (i : Nat) (t : PTy) (ret : Bool) (N : Nat) (ini : List Int) : GoodAt i (g1 i t ret N ini) := by
  have hraw : rawOf (g1 i t ret N ini) = rawOf (g0 i t ret true N) := rfl
  have hl : (goodI (cells1 (g0 i t ret true N)) ini).length = (cells1 (g1 i t ret N ini)).length := by
    simp [cells1, hraw]
  refine ⟨rfl, ⟨t, rfl⟩, rfl, hl, fun k h => ⟨goodX ini k, ?_⟩⟩
  have hk : k < (rawOf (g0 i t ret true N)).length := by
    have := h
    simp [g1, cells1] at this
    exact this
  show (goodI (cells1 (g0 i t ret true N)) ini)[k]'(by simpa [cells1] using hk) = _
  simp [goodI, cells1, fillS, fillC, hraw]
end Go.Av
end
section
/- Contracts: law8.Good: a round of the outer loop, step by step. -/
namespace Go.Av
theorem seq_step {call : PCall} {a b : PCode} {s s' : PSt} (h : pdenL call a s = some (.norm, s')) : pdenL call (.seq a b) s = pdenL call b s' := by rw [pdenL, h]
theorem seq_exit {call : PCall} {a b : PCode} {k : Nat} {s s' : PSt} (h : pdenL call a s = some (.exit k, s')) : pdenL call (.seq a b) s = some (.exit k, s') := by rw [pdenL, h]
theorem blk_norm {call : PCall} {c : PCode} {k : Nat} {s s' : PSt} (h : pdenL call c s = some (.norm, s')) : pdenL call (.blk k c) s = some (.norm, s') := by rw [pdenL, h]
theorem blk_here {call : PCall} {c : PCode} {k : Nat} {s s' : PSt} (h : pdenL call c s = some (.exit k, s')) : pdenL call (.blk k c) s = some (.norm, s') := by rw [pdenL, h]; simp
theorem blk_out {call : PCall} {c : PCode} {k j : Nat} {s s' : PSt} (hne : j ≠ k) (h : pdenL call c s = some (.exit j, s')) : pdenL call (.blk k c) s = some (.exit j, s') := by rw [pdenL, h]; simp [hne]
structure TG where
  gs : List PSym
  n : Nat
  kept : Nat
  J : List PObj
  v6 : PV
  v7 : PV
  v8 : PV
  v9 : PV
  v10 : PV
  v11 : PV
  v12 : PV
  v13 : PV
  v14 : PV
  v15 : PV
  v16 : PV
/-- A state in a round. -/
def sG (b : Bool) (l : List PSym) (v1 : PV) (i : Nat) (v2 v3 v4 v6 v7 v8 v9 v10 v11 v12 v13 v14 v15 v16 : PV) (ob : List PObj) (rt : List Root) : PSt :=
  ⟨[.ls (.v b false) l.length (l.flatMap PSym.enc), v1, v2, v3, v4, .i .i64 (i : Nat), v6, v7, v8, v9, v10, v11, v12, v13, v14, v15, v16], ⟨ob, 0, rt, 0⟩⟩
def stGd (b : Bool) (l : List PSym) (v1 : PV) (i : Nat) (t : TG) : PSt :=
  sG b l v1 i (.ls (.own 0 i) i (t.gs.flatMap PSym.enc)) (.i .i64 (t.n : Nat)) (.i .i64 (t.kept : Nat)) t.v6 t.v7 t.v8 t.v9 t.v10 t.v11 t.v12 t.v13 t.v14 t.v15 t.v16 t.J [.live i i 7]
structure InvG (i : Nat) (t : TG) : Prop where
  len : t.gs.length = i
  good : ∀ j, (h : j < t.gs.length) → GoodAt j t.gs[j]
  n : t.n ≤ 64
  kept : t.kept ≤ t.n
  i10 : i ≤ 10
/-- The variable's box. -/
def bx (i : Nat) (G : PTy) (r : Bool) (x : PV) : List PV := [.s (nm i), .i .i64 G.kind, .i .i64 G.elem, .i .i64 G.n, vl PFld.enc G.fields, .b r, x]
theorem good_app {gs : List PSym} {g : PSym} (i : Nat) (hl : gs.length = i) (hg : ∀ j, (h : j < gs.length) → GoodAt j gs[j]) (hh : GoodAt i g) : ∀ j, (h : j < (gs ++ [g]).length) → GoodAt j (gs ++ [g])[j] := by
  intro j hj
  by_cases e : j < gs.length
  · simp only [List.getElem_append_left e]; exact hg j e
  · have : j = i := by simp at hj; omega
    subst this
    simp only [List.getElem_append_right (by omega : gs.length ≤ j)]
    simpa [hl] using hh
set_option maxRecDepth 100000 in
theorem good_round (b : Bool) (l : List PSym) (v1 : PV) (i : Nat) (hi : i < l.length) (hi10 : i < 10) (hfl : l[i].type.fields.length ≤ 9223372036854775807) (t : TG) (ht : InvG i t) :
    (∃ t', pdenL (PC pfs) lp11_2 (stGd b l v1 i t) = some (.norm, stGd b l v1 (i + 1) t') ∧ InvG (i + 1) t') ∨ (∃ t', pdenL (PC pfs) lp11_2 (stGd b l v1 i t) = some (.exit 0, stGd b l v1 i t') ∧ InvG i t') := by
  obtain ⟨gs, n, kept, J, w6, w7, w8, w9, w10, w11, w12, w13, w14, w15, w16⟩ := t
  obtain ⟨glen, ggood, hn, hkept, -⟩ := ht
  simp only at glen ggood hn hkept
  have h10 : (i : Int) < 10 := by omega
  have ab : awrap .u8 (awrap .i64 (97 + (i : Int))) = 97 + (i : Int) := by
    rw [awrap_id (by omega) (by omega), awrap_eq]; simp [IntKind.wrap, IntKind.signed, IntKind.bits]; omega
  have pb : pbytesOf [.i .u8 (97 + (i : Int))] = some [UInt8.ofNat (97 + i)] := by
    have : ∀ n : Nat, n < 10 → pbytesOf [.i .u8 (97 + (n : Int))] = some [UInt8.ofNat (97 + n)] := by decide
    exact this i hi10
  have hg := good7_ok l[i].type hfl
  have hle : ∀ σ, mapO (lendC 8 σ) l[i].type.enc = some l[i].type.enc := fun σ => lend_shutL (by simp [ShutL, PTy.enc, Shut, vl])
  have hok := goodT_ok l[i].type
  have hsz := good_size l[i].type
  have gat0 := fun ret N => g1_good i l[i].type ret N l[i].init
  obtain ⟨N, hN⟩ : ∃ N : Nat, (N : Int) = sizeOf' (goodT l[i].type) := ⟨(sizeOf' (goodT l[i].type)).toNat, by have := (size_pos hok).1; omega⟩
  have N1 : 1 ≤ N := by have := (size_pos hok).1; omega
  have N8 : N ≤ 8 := by omega
  have hs := size_ok (goodT l[i].type) (by have := hok.2.2.2.2.1; omega)
  rw [← hN] at hs
  have c0 : ∀ ret bor, (cells1 (g0 i l[i].type ret bor N)).length = N := fun ret bor => by
    have := cells1_len (g0 i l[i].type ret bor N) hok
    have e : sizeOf' (g0 i l[i].type ret bor N).type = N := hN.symm
    omega
  have hcall := fun ret => cells_ok true [g0 i l[i].type ret true N] (by simp; exact ⟨hok, by simp [g0, nm]⟩) (by simp)
  have cl1 : ∀ s, cellsL [s] = cells1 s := fun s => by simp [cellsL]
  simp only [cl1, c0] at hcall
  have hinner := fun ret => inner_loop b l i hi (cells1 (g0 i l[i].type ret true N)) (by rw [c0]; omega) ⟨nm i, goodT l[i].type, ret, [], false⟩ J
  simp only [stI1, c0] at hinner
  have gl : ∀ ret, (goodI (cells1 (g0 i l[i].type ret true N)) l[i].init).length = N := fun ret => by simp [c0]
  have e0 : ∀ ret, (g0 i l[i].type ret true N).enc = [.s (nm i), .i .i64 (goodT l[i].type).kind, .i .i64 (goodT l[i].type).elem, .i .i64 (goodT l[i].type).n, .ls (.v false false) (goodT l[i].type).fields.length ((goodT l[i].type).fields.flatMap PFld.enc), .b ret, .ls (.v true false) N ((List.replicate N (0 : Int)).flatMap encI)] := fun ret => by simp [g0, PSym.enc, vl]
  have e1 : ∀ ret, (g1 i l[i].type ret N l[i].init).enc = [.s (nm i), .i .i64 (goodT l[i].type).kind, .i .i64 (goodT l[i].type).elem, .i .i64 (goodT l[i].type).n, .ls (.v false false) (goodT l[i].type).fields.length ((goodT l[i].type).fields.flatMap PFld.enc), .b ret, .ls (.v false false) N ((goodI (cells1 (g0 i l[i].type ret true N)) l[i].init).flatMap encI)] := fun ret => by
    show [_, _, _, _, vl PFld.enc _, _, PV.ls _ (goodI _ _).length _] = _
    rw [gl]; rfl
  have hpan := fun ret (σ : PH) (hr : σ.root 0 = .live i i 7) => pan_flat (enc := PSym.enc) (k := 7) (bytes := 96) (r := 0) (v := i) (n := i) (σ := σ) (fun _ => rfl) (by omega) gs (gs ++ [g1 i l[i].type ret N l[i].init]) (g1 i l[i].type ret N l[i].init) rfl glen hr (by omega) (by omega)
  have gat := fun ret => gat0 ret N
  have kn : awrap .i64 ((kept : Int) + N) = ((kept + N : Nat) : Int) := by rw [awrap_id (by omega) (by omega)]; omega
  have nn : awrap .i64 ((n : Int) + N) = ((n + N : Nat) : Int) := by rw [awrap_id (by omega) (by omega)]; omega
  have o5 : ∀ a b c d e f g : PV, pget [a, b, c, d, e, f, g] 5 = some f := fun _ _ _ _ _ _ _ => rfl
  -- what is kept
  obtain ⟨ov, hov⟩ : ∃ ov, ov = (l[i].retain && decide (24 < kept + N)) := ⟨_, rfl⟩
  obtain ⟨ret, hret⟩ : ∃ ret, ret = (l[i].retain && !ov) := ⟨_, rfl⟩
  obtain ⟨kept', hk'⟩ : ∃ k', k' = if ret = true then kept + N else kept := ⟨_, rfl⟩
  generalize hG : goodT l[i].type = G at *
  have hbx : ∀ r x, bx i G r x = [.s (nm i), .i .i64 G.kind, .i .i64 G.elem, .i .i64 G.n, vl PFld.enc G.fields, .b r, x] := fun _ _ => rfl
  have hGe : G.enc = [.i .i64 G.kind, .i .i64 G.elem, .i .i64 G.n, vl PFld.enc G.fields] := rfl
  have st0 : pdenL (PC pfs) (.seq (.reg [q (.mv (.v 5)), q (.mv (.v 0)), q (.len 1 (.r 0)), q (.bin .lss (.r 2) (.r 0)), q (.mv (.r 0)), qg 0 true (.mv (.v 5)), qg 1 true (.bin .lss (.r 0) (.c (.i .i64 10))), qv 11 (.pick (.r 2) (.r 0) (.c (.b false)))]) (.cond (.v 11) .skip (.exit 0)))
      (stGd b l v1 i ⟨gs, n, kept, J, w6, w7, w8, w9, w10, w11, w12, w13, w14, w15, w16⟩) = some (.norm, sG b l v1 i (.ls (.own 0 i) i (gs.flatMap PSym.enc)) (.i .i64 (n : Nat)) (.i .i64 (kept : Nat)) w6 w7 w8 w9 w10 (.b true) w12 w13 w14 w15 w16 J [.live i i 7]) := by
    simp [-prunOps, stGd, sG, hi, h10]
  have cat : ([118, 97 + UInt8.ofNat i] : List UInt8) = nm i := by simp [nm]
  have ps1 : ∀ x : PV, psub [x] 0 1 = some [x] := fun _ => rfl
  have hleG : ∀ σ, mapO (lendC 8 σ) G.enc = some G.enc := fun σ => lend_shutL (by simp [ShutL, PTy.enc, Shut, vl])
  have b14 : ∀ r x, psub (bx i G r x) 1 4 = some G.enc := fun _ _ => rfl
  have b07 : ∀ r x, psub (bx i G r x) 0 7 = some (bx i G r x) := fun _ _ => rfl
  have b5 : ∀ r x, pget (bx i G r x) 5 = some (.b r) := fun _ _ => rfl
  have p5 : ∀ r r' x, psplice (bx i G r x) 5 [.b r'] = some (bx i G r' x) := fun _ _ _ => rfl
  have p6 : ∀ r x y, psplice (bx i G r x) 6 [y] = some (bx i G r y) := fun _ _ _ => rfl
  have bl : ∀ r x, (bx i G r x).length = 7 := fun _ _ => rfl
  have bs : ∀ r x a b c d e f g, psplice [a, b, c, d, e, f, g] 0 (bx i G r x) = some (bx i G r x) := fun _ _ _ _ _ _ _ _ _ => rfl
  have bok : ∀ r a b c d, pokCells (bx i G r (.sl a b c d)) = true := fun r a b c d => by simp [bx, vl]
  have A : pdenL (PC pfs) (.reg [qn (.mv (.v 5)), qn (.bin .add (.c (.i .i64 97)) (.r 0)), qn (.conv .u8 (.r 0)), qn (.buildSl 1 1 [(.i .u8 0)] [(0, 1, (.r 0))]), qn (.b2s (.r 0)), qn (.bin .add (.c (.s [118])) (.r 0)), qn (.mv (.v 0)), qn (.mv (.v 5)), qn (.iaS 7 (.r 1) (.r 0)), qn (.faddr 1 (.r 0)), qn (.load (some 4) (.r 0)), qn (.call (.c (.f 24 [] [])) [(.r 0)]), qn (.mv (.v 0)), qn (.mv (.v 5)), qn (.iaS 7 (.r 1) (.r 0)), qn (.faddr 5 (.r 0)), qn (.load none (.r 0)), qn (.build [(.s []), (.i .i64 0), (.i .i64 0), (.i .i64 0), .nils, (.b false), .nils] [(0, 1, (.r 11)), (1, 4, (.r 5)), (5, 1, (.r 0))]), ⟨.box (.c (.agg [(.s []), (.i .i64 0), (.i .i64 0), (.i .i64 0), .nils, (.b false), .nils])), none, (some 6), .new, .d⟩, q (.store 7 (.r 0) (.r 1))])
      (sG b l v1 i (.ls (.own 0 i) i (gs.flatMap PSym.enc)) (.i .i64 (n : Nat)) (.i .i64 (kept : Nat)) w6 w7 w8 w9 w10 (.b true) w12 w13 w14 w15 w16 J [.live i i 7]) =
      some (.norm, sG b l v1 i (.ls (.own 0 i) i (gs.flatMap PSym.enc)) (.i .i64 (n : Nat)) (.i .i64 (kept : Nat)) (.p J.length 0) w7 w8 w9 w10 (.b true) w12 w13 w14 w15 w16 (J ++ [.cells (bx i G l[i].retain (.ls (.v false true) 0 [])) 0]) [.live i i 7]) := by
    simp [-prunOps, sG, hi, ab, pb, cat, S_type i l hi, S_retain i l hi, hle, hg, hGe, psplice, ps1, bx, vl]
  have B : pdenL (PC pfs) (.reg [q (.faddr 1 (.v 6)), q (.load (some 4) (.r 0)), q (.call (.c (.f 25 [] [])) [(.r 0)]), qv 7 (.mv (.r 0))])
      (sG b l v1 i (.ls (.own 0 i) i (gs.flatMap PSym.enc)) (.i .i64 (n : Nat)) (.i .i64 (kept : Nat)) (.p J.length 0) w7 w8 w9 w10 (.b true) w12 w13 w14 w15 w16 (J ++ [.cells (bx i G l[i].retain (.ls (.v false true) 0 [])) 0]) [.live i i 7]) =
      some (.norm, sG b l v1 i (.ls (.own 0 i) i (gs.flatMap PSym.enc)) (.i .i64 (n : Nat)) (.i .i64 (kept : Nat)) (.p J.length 0) (.i .i64 N) w8 w9 w10 (.b true) w12 w13 w14 w15 w16 (J ++ [.cells (bx i G l[i].retain (.ls (.v false true) 0 [])) 0]) [.live i i 7]) := by
    simp [-prunOps, sG, b14, hleG, hs]
  have C : pdenL (PC pfs) (.seq (.reg [q (.faddr 5 (.v 6)), q (.load none (.r 0)), q (.mv (.r 0)), qg 0 true (.mv (.v 4)), qg 1 true (.mv (.v 7)), qg 2 true (.bin .add (.r 1) (.r 0)), qg 3 true (.bin .gtr (.r 0) (.c (.i .i64 24))), qv 12 (.pick (.r 4) (.r 0) (.c (.b false)))]) (.cond (.v 12) (.reg [q (.faddr 5 (.v 6)), q (.store 1 (.r 0) (.c (.b false)))]) .skip))
      (sG b l v1 i (.ls (.own 0 i) i (gs.flatMap PSym.enc)) (.i .i64 (n : Nat)) (.i .i64 (kept : Nat)) (.p J.length 0) (.i .i64 N) w8 w9 w10 (.b true) w12 w13 w14 w15 w16 (J ++ [.cells (bx i G l[i].retain (.ls (.v false true) 0 [])) 0]) [.live i i 7]) =
      some (.norm, sG b l v1 i (.ls (.own 0 i) i (gs.flatMap PSym.enc)) (.i .i64 (n : Nat)) (.i .i64 (kept : Nat)) (.p J.length 0) (.i .i64 N) w8 w9 w10 (.b true) (.b ov) w13 w14 w15 w16 (J ++ [.cells (bx i G ret (.ls (.v false true) 0 [])) 0]) [.live i i 7]) := by
    rw [hret]
    cases hr : l[i].retain with
    | false =>
      rw [hr] at hov
      simp at hov
      simp [-prunOps, sG, b5, hov]
    | true =>
      rw [hr] at hov
      by_cases h24 : 24 < kept + N
      · have h24' : (24 : Int) < ((kept + N : Nat) : Int) := by omega
        have hov : ov = true := by rw [hov]; simp [h24]
        simp [-prunOps, -Int.natCast_add, sG, b5, p5, kn, h24', hov]
      · have h24' : ¬ (24 : Int) < ((kept + N : Nat) : Int) := by omega
        have hov : ov = false := by rw [hov]; simp [h24]
        simp [-prunOps, -Int.natCast_add, sG, b5, p5, kn, h24', hov]
  have hkc : kept' ≤ n + N := by rw [hk']; split <;> omega
  by_cases hbr : 64 < n + N
  · right
    have hbr' : (64 : Int) < ((n + N : Nat) : Int) := by omega
    refine ⟨⟨gs, n, kept, J ++ [.cells (bx i G ret (.ls (.v false true) 0 [])) 0], .p J.length 0, .i .i64 N, w8, w9, w10, .b true, .b ov, .b true, w14, w15, w16⟩, ?_, glen, ggood, hn, hkept, by omega⟩
    unfold lp11_2
    refine (seq_step st0).trans (seq_exit (blk_out (by omega) ((seq_step A).trans ((seq_step B).trans ((seq_step C).trans (seq_exit ?_))))))
    simp [-prunOps, -Int.natCast_add, stGd, sG, nn, hbr']
  · left
    have hbr' : ¬ (64 : Int) < ((n + N : Nat) : Int) := by omega
    have D : ∀ X Y : PCode, pdenL (PC pfs) (.seq (.seq (.reg [q (.mv (.v 3)), q (.mv (.v 7)), q (.bin .add (.r 1) (.r 0)), qv 13 (.bin .gtr (.r 0) (.c (.i .i64 64)))]) (.cond (.v 13) (.exit 0) .skip)) (.seq (.reg [q (.mv (.v 3)), q (.mv (.v 7)), q (.bin .add (.r 1) (.r 0)), qv 3 (.mv (.r 0))]) (.seq (.seq (.reg [q (.faddr 5 (.v 6)), qv 14 (.load none (.r 0))]) (.cond (.v 14) (.reg [q (.mv (.v 4)), q (.mv (.v 7)), q (.bin .add (.r 1) (.r 0)), qv 4 (.mv (.r 0))]) .skip)) X)))
      (sG b l v1 i (.ls (.own 0 i) i (gs.flatMap PSym.enc)) (.i .i64 (n : Nat)) (.i .i64 (kept : Nat)) (.p J.length 0) (.i .i64 N) w8 w9 w10 (.b true) (.b ov) w13 w14 w15 w16 (J ++ [.cells (bx i G ret (.ls (.v false true) 0 [])) 0]) [.live i i 7]) =
      pdenL (PC pfs) X (sG b l v1 i (.ls (.own 0 i) i (gs.flatMap PSym.enc)) (.i .i64 ((n + N : Nat) : Int)) (.i .i64 (kept' : Nat)) (.p J.length 0) (.i .i64 N) w8 w9 w10 (.b true) (.b ov) (.b false) (.b ret) w15 w16 (J ++ [.cells (bx i G ret (.ls (.v false true) 0 [])) 0]) [.live i i 7]) := by
      intro X Y
      rw [hk']
      cases ret <;> simp [-prunOps, -Int.natCast_add, sG, nn, kn, hbr', b5]
    have p1 : prep N [.i .i64 0] = (List.replicate N (0 : Int)).flatMap encI := by simp [prep, List.flatMap_def, encI]
    have z1 : N ≤ 4611686018427387904 := by omega
    have z3 : 8 * N ≤ 281474976710656 := by omega
    have E : pdenL (PC pfs) (.reg [q (.mv (.v 7)), q (.mksl 1 8 [(.i .i64 0)] (.r 0) (.r 0)), q (.faddr 6 (.v 6)), q (.store 1 (.r 0) (.r 1))])
      (sG b l v1 i (.ls (.own 0 i) i (gs.flatMap PSym.enc)) (.i .i64 ((n + N : Nat) : Int)) (.i .i64 (kept' : Nat)) (.p J.length 0) (.i .i64 N) w8 w9 w10 (.b true) (.b ov) (.b false) (.b ret) w15 w16 (J ++ [.cells (bx i G ret (.ls (.v false true) 0 [])) 0]) [.live i i 7]) =
      some (.norm, sG b l v1 i (.ls (.own 0 i) i (gs.flatMap PSym.enc)) (.i .i64 ((n + N : Nat) : Int)) (.i .i64 (kept' : Nat)) (.p J.length 0) (.i .i64 N) w8 w9 w10 (.b true) (.b ov) (.b false) (.b ret) w15 w16 (J ++ [.cells (bx i G ret (.sl (J.length + 1) 0 N (some N))) 0, .cells ((List.replicate N (0 : Int)).flatMap encI) 1]) [.live i i 7]) := by
      simp [-prunOps, -prep, sG, p1, z1, z3, p6]
    have hc := hcall ret
    simp only [List.length_cons, List.length_nil, List.flatMap_cons, List.flatMap_nil, List.append_nil, e0] at hc
    have s1 : psub ((List.replicate N (0 : Int)).flatMap encI) 0 N = some ((List.replicate N (0 : Int)).flatMap encI) := psub_all (by simp)
    have F : pdenL (PC pfs) (.reg [q (.load (some 7) (.v 6)), ⟨.buildSl 1 7 [(.s []), (.i .i64 0), (.i .i64 0), (.i .i64 0), .nils, (.b false), .nils] [(0, 7, (.r 0))], none, none, .full, .obj⟩, q (.call (.c (.f 13 [] [])) [(.r 0)]), qv 8 (.mv (.r 0))])
      (sG b l v1 i (.ls (.own 0 i) i (gs.flatMap PSym.enc)) (.i .i64 ((n + N : Nat) : Int)) (.i .i64 (kept' : Nat)) (.p J.length 0) (.i .i64 N) w8 w9 w10 (.b true) (.b ov) (.b false) (.b ret) w15 w16 (J ++ [.cells (bx i G ret (.sl (J.length + 1) 0 N (some N))) 0, .cells ((List.replicate N (0 : Int)).flatMap encI) 1]) [.live i i 7]) =
      some (.norm, sG b l v1 i (.ls (.own 0 i) i (gs.flatMap PSym.enc)) (.i .i64 ((n + N : Nat) : Int)) (.i .i64 (kept' : Nat)) (.p J.length 0) (.i .i64 N) (.ls (.v false false) N ((cells1 (g0 i l[i].type ret true N)).flatMap PCell.enc)) w9 w10 (.b true) (.b ov) (.b false) (.b ret) w15 w16 (J ++ [.cells (bx i G ret (.sl (J.length + 1) 0 N (some N))) 0, .cells ((List.replicate N (0 : Int)).flatMap encI) 1, .cells (bx i G ret (.sl (J.length + 1) 0 N (some N))) 7]) [.live i i 7]) := by
      have bp : ∀ x, bx i G ret x = [.s (nm i), .i .i64 G.kind, .i .i64 G.elem, .i .i64 G.n, .ls (.v false false) G.fields.length (G.fields.flatMap PFld.enc), .b ret, x] := fun _ => rfl
      simp [-prunOps, -prep, sG, prep_one, b07, bl, bs, bok]
      simp [-prunOps, bp, s1, lend_shutL (shutI _), hc]
    obtain ⟨GI, hGI⟩ : ∃ GI, GI = goodI (cells1 (g0 i l[i].type ret true N)) l[i].init := ⟨_, rfl⟩
    have hGl : GI.length = N := by rw [hGI]; exact gl ret
    obtain ⟨t', hin⟩ := hinner ret [.cells (bx i G ret (.sl (J.length + 1) 0 N (some N))) 7] [.live i i 7] v1 (.ls (.own 0 i) i (gs.flatMap PSym.enc)) (.i .i64 ((n + N : Nat) : Int)) (.i .i64 (kept' : Nat)) (.b true) (.b ov) (.b false) (.b ret) ⟨w10, w15, w16⟩
    rw [← hGI] at hin
    rw [List.take_zero, List.drop_zero, List.nil_append, List.take_of_length_le (l := GI) (i := N) (by omega), List.drop_of_length_le (l := List.replicate N (0 : Int)) (i := N) (by simp), List.append_nil] at hin
    have Gs : pdenL (PC pfs) (.seq (.reg [qv 9 (.mv (.c (.i .i64 0)))]) (.blk 2 (.loop lp11_1)))
      (sG b l v1 i (.ls (.own 0 i) i (gs.flatMap PSym.enc)) (.i .i64 ((n + N : Nat) : Int)) (.i .i64 (kept' : Nat)) (.p J.length 0) (.i .i64 N) (.ls (.v false false) N ((cells1 (g0 i l[i].type ret true N)).flatMap PCell.enc)) w9 w10 (.b true) (.b ov) (.b false) (.b ret) w15 w16 (J ++ [.cells (bx i G ret (.sl (J.length + 1) 0 N (some N))) 0, .cells ((List.replicate N (0 : Int)).flatMap encI) 1, .cells (bx i G ret (.sl (J.length + 1) 0 N (some N))) 7]) [.live i i 7]) =
      some (.norm, sG b l v1 i (.ls (.own 0 i) i (gs.flatMap PSym.enc)) (.i .i64 ((n + N : Nat) : Int)) (.i .i64 (kept' : Nat)) (.p J.length 0) (.i .i64 N) (.ls (.v false false) N ((cells1 (g0 i l[i].type ret true N)).flatMap PCell.enc)) (.i .i64 N) t'.a (.b true) (.b ov) (.b false) (.b ret) t'.b t'.c (J ++ [.cells (bx i G ret (.sl (J.length + 1) 0 N (some N))) 0, .cells (GI.flatMap encI) 1, .cells (bx i G ret (.sl (J.length + 1) 0 N (some N))) 7]) [.live i i 7]) := by
      refine (seq_step (s' := sG b l v1 i (.ls (.own 0 i) i (gs.flatMap PSym.enc)) (.i .i64 ((n + N : Nat) : Int)) (.i .i64 (kept' : Nat)) (.p J.length 0) (.i .i64 N) (.ls (.v false false) N ((cells1 (g0 i l[i].type ret true N)).flatMap PCell.enc)) (.i .i64 0) w10 (.b true) (.b ov) (.b false) (.b ret) w15 w16 (J ++ [.cells (bx i G ret (.sl (J.length + 1) 0 N (some N))) 0, .cells ((List.replicate N (0 : Int)).flatMap encI) 1, .cells (bx i G ret (.sl (J.length + 1) 0 N (some N))) 7]) [.live i i 7]) (by simp [-prunOps, sG])).trans (blk_here (k := 2) ?_)
      rw [pdenL]
      exact hin
    have hp := hpan ret ⟨J ++ [.cells (bx i G ret (.sl (J.length + 1) 0 N (some N))) 0, .dead, .cells (bx i G ret (.sl (J.length + 1) 0 N (some N))) 7], 0, [.live i i 7], 0⟩ rfl
    have s2 : psub (GI.flatMap encI) 0 N = some (GI.flatMap encI) := psub_all (by simp [hGl])
    have e1' := e1 ret
    rw [← hGI] at e1'
    obtain ⟨ge, hge⟩ : ∃ ge, ge = gs ++ [g1 i l[i].type ret N l[i].init] := ⟨_, rfl⟩
    rw [← hge, e1'] at hp
    have H : pdenL (PC pfs) (.reg [q (.mv (.v 2)), q (.load (some 7) (.v 6)), q (.buildSl 1 7 [(.s []), (.i .i64 0), (.i .i64 0), (.i .i64 0), .nils, (.b false), .nils] [(0, 7, (.r 0))]), ⟨.append 7 96 (.r 2) (.r 0), none, none, .full, (.own 7)⟩, qv 2 (.mv (.r 0))])
      (sG b l v1 i (.ls (.own 0 i) i (gs.flatMap PSym.enc)) (.i .i64 ((n + N : Nat) : Int)) (.i .i64 (kept' : Nat)) (.p J.length 0) (.i .i64 N) (.ls (.v false false) N ((cells1 (g0 i l[i].type ret true N)).flatMap PCell.enc)) (.i .i64 N) t'.a (.b true) (.b ov) (.b false) (.b ret) t'.b t'.c (J ++ [.cells (bx i G ret (.sl (J.length + 1) 0 N (some N))) 0, .cells (GI.flatMap encI) 1, .cells (bx i G ret (.sl (J.length + 1) 0 N (some N))) 7]) [.live i i 7]) =
      some (.norm, sG b l v1 i (.ls (.own 0 (i + 1)) (i + 1) (ge.flatMap PSym.enc)) (.i .i64 ((n + N : Nat) : Int)) (.i .i64 (kept' : Nat)) (.p J.length 0) (.i .i64 N) (.ls (.v false false) N ((cells1 (g0 i l[i].type ret true N)).flatMap PCell.enc)) (.i .i64 N) t'.a (.b true) (.b ov) (.b false) (.b ret) t'.b t'.c (J ++ [.cells (bx i G ret (.sl (J.length + 1) 0 N (some N))) 0, .dead, .cells (bx i G ret (.sl (J.length + 1) 0 N (some N))) 7]) [.live (i + 1) (i + 1) 7]) := by
      have bp : ∀ x, bx i G ret x = [.s (nm i), .i .i64 G.kind, .i .i64 G.elem, .i .i64 G.n, .ls (.v false false) G.fields.length (G.fields.flatMap PFld.enc), .b ret, x] := fun _ => rfl
      have cbx : mapC (clo 8) ⟨J ++ [.cells (bx i G ret (.sl (J.length + 1) 0 N (some N))) 0, .cells (GI.flatMap encI) 1, .cells (bx i G ret (.sl (J.length + 1) 0 N (some N))) 7], 0, [.live i i 7], 0⟩ (bx i G ret (.sl (J.length + 1) 0 N (some N))) = some ([.s (nm i), .i .i64 G.kind, .i .i64 G.elem, .i .i64 G.n, .ls (.v false false) G.fields.length (G.fields.flatMap PFld.enc), .b ret, .ls (.v false false) N (GI.flatMap encI)], ⟨J ++ [.cells (bx i G ret (.sl (J.length + 1) 0 N (some N))) 0, .dead, .cells (bx i G ret (.sl (J.length + 1) 0 N (some N))) 7], 0, [.live i i 7], 0⟩) := by
        generalize hb1 : PObj.cells (bx i G ret (.sl (J.length + 1) 0 N (some N))) 0 = B1
        generalize hb2 : PObj.cells (bx i G ret (.sl (J.length + 1) 0 N (some N))) 7 = B2
        rw [bp]
        simp [s2, clo_shutL (shutI _)]
      have f7 : ∀ a b c d e f g : PV, psub [a, b, c, d, e, f, g] 0 7 = some [a, b, c, d, e, f, g] := fun _ _ _ _ _ _ _ => rfl
      simp at hp
      simp [-prunOps, -prep, sG, prep_one, b07, bl, bs]
      rw [cbx]
      simp [-prunOps, f7, hp]
    unfold lp11_2
    refine ⟨⟨ge, n + N, kept', J ++ [.cells (bx i G ret (.sl (J.length + 1) 0 N (some N))) 0, .dead, .cells (bx i G ret (.sl (J.length + 1) 0 N (some N))) 7], .p J.length 0, .i .i64 N, .ls (.v false false) N ((cells1 (g0 i l[i].type ret true N)).flatMap PCell.enc), .i .i64 N, t'.a, .b true, .b ov, .b false, .b ret, t'.b, t'.c⟩, ?_, ?_⟩
    · rw [seq_step st0]
      refine Eq.trans (seq_step (blk_norm (k := 1) (s' := ?s) ?h1)) ?h2
      case h1 =>
        rw [seq_step A, seq_step B, seq_step C, D _ .skip, seq_step E, seq_step F, seq_step Gs]
        exact H
      case h2 => simp [-prunOps, stGd, sG, awrap_nat1 (n := i) (by omega)]
    · have hgl : ge.length = i + 1 := by rw [hge]; simp [glen]
      refine ⟨hgl, ?_, Nat.le_of_not_lt hbr, hkc, hi10⟩
      subst hge
      exact good_app i glen ggood (gat ret)
end Go.Av
end
section
/- Contracts: law8.Good. -/
namespace Go.Av
/-- Variables that are good. -/
structure GoodL (gs : List PSym) : Prop where
  len : gs.length ≤ 10
  at_ : ∀ j, (h : j < gs.length) → GoodAt j gs[j]
theorem good8_ok (b : Bool) (l : List PSym) (hfl : ∀ s ∈ l, s.type.fields.length ≤ 9223372036854775807) :
    ∃ gs, GoodL gs ∧ iso (PC pfs) 11 [.ls (.v b false) l.length (l.flatMap PSym.enc)] = some (.ls (.fresh gs.length 7) gs.length (gs.flatMap PSym.enc)) := by
  have key := @for_brk (pdenL (PC pfs) lp11_2) TG 0 (stGd b l (.ls (.v false true) 0 [])) InvG (fun s => ∃ i t, InvG i t ∧ s = stGd b l (.ls (.v false true) 0 []) i t) (min l.length 10) ?_ ?_ ⟨[], 0, 0, [], .und, .und, .und, .und, .und, .und, .und, .und, .und, .und, .und⟩ ⟨rfl, fun j h => (by cases h), by decide, by decide, by decide⟩
  · obtain ⟨s, h, i, t, ht, rfl⟩ := key
    obtain ⟨gs, n, kept, J, w6, w7, w8, w9, w10, w11, w12, w13, w14, w15, w16⟩ := t
    have hl : gs.length = i := ht.len
    refine ⟨gs, ⟨by rw [hl]; exact ht.i10, ht.good⟩, ?_⟩
    unfold iso
    rw [PC_eq (F := pf11) rfl]
    simp only [stGd, sG] at h
    simp at h
    simp [-prunOps, pf11]
    simp [-prunOps, h, hl]
  · intro i hi t ht
    have hi1 : i < l.length := by omega
    rcases good_round b l (.ls (.v false true) 0 []) i hi1 (by omega) (hfl l[i] (by simp)) t ht with h | ⟨t', h, ht'⟩
    · exact .inl h
    · exact .inr ⟨_, h, i, t', ht', rfl⟩
  · intro t ht
    obtain ⟨gs, n, kept, J, w6, w7, w8, w9, w10, w11, w12, w13, w14, w15, w16⟩ := t
    obtain ⟨h1, h2, h3, h4, h5⟩ := ht
    refine ⟨stGd b l (.ls (.v false true) 0 []) (min l.length 10) ⟨gs, n, kept, J, w6, w7, w8, w9, w10, .b false, w12, w13, w14, w15, w16⟩, ?_, min l.length 10, ⟨gs, n, kept, J, w6, w7, w8, w9, w10, .b false, w12, w13, w14, w15, w16⟩, ⟨h1, h2, h3, h4, h5⟩, rfl⟩
    by_cases hl : l.length ≤ 10
    · have e : min l.length 10 = l.length := by omega
      rw [e]
      simp [-prunOps, stGd, sG, lp11_2]
    · have e : min l.length 10 = 10 := by omega
      rw [e]
      have hl' : 10 < l.length := by omega
      have hl2 : (10 : Int) < (l.length : Nat) := by omega
      simp [-prunOps, stGd, sG, lp11_2, hl', hl2]
end Go.Av
end
section
/- Plain laws: cells of good variables. -/
namespace Go.Av
theorem wrapK_idem (k n : Int) : wrapK k (wrapK k n) = wrapK k n := by
  unfold wrapK
  by_cases h1 : k = 1
  · simp only [if_pos h1]; by_cases h : n = 0 <;> simp [h]
  · have key : ∀ q : IntKind, q = .u8 ∨ q = .u16 ∨ q = .i16 ∨ q = .i32 → awrap q (awrap q n) = awrap q n := by
      intro q hq
      simp only [awrap_eq]
      rcases hq with rfl | rfl | rfl | rfl <;> simp [IntKind.wrap, IntKind.signed, IntKind.bits] <;> (repeat' split) <;> omega
    simp only [if_neg h1]
    by_cases h2 : k = 2
    · simp only [if_pos h2]; exact key _ (by simp)
    · simp only [if_neg h2]
      by_cases h3 : k = 3
      · simp only [if_pos h3]; exact key _ (by simp)
      · simp only [if_neg h3]
        by_cases h4 : k = 4
        · simp only [if_pos h4]; exact key _ (by simp)
        · simp only [if_neg h4]
          by_cases h5 : k = 5
          · simp only [if_pos h5]; exact key _ (by simp)
          · simp only [if_neg h5]
            by_cases h6 : k = 6 <;> simp [h6]
/-- What a variable begins with is of its kinds. -/
def Wr (s : PSym) : Prop := ∀ k, (h : k < (rawOf s).length) → k < s.init.length ∧ ∃ x, s.init[k]? = some (wrapK (rawOf s)[k].kind x)
theorem GoodAt.wr {i : Nat} {g : PSym} (h : GoodAt i g) : Wr g := by
  intro k hk
  have hl : k < g.init.length := by rw [h.len]; simpa [cells1] using hk
  obtain ⟨x, hx⟩ := h.wrap k hl
  refine ⟨hl, x, ?_⟩
  rw [List.getElem?_eq_getElem hl, hx]
  simp [cells1, fillS, fillC]
theorem rawOf_kinds {s s' : PSym} (ht : s'.type = s.type) : (rawOf s').map PCell.kind = (rawOf s).map PCell.kind := by
  unfold rawOf
  rw [ht]
  split
  · simp
  · split
    · simp [rawAs, rawA, ht]
    · apply List.ext_getElem
      · simp
      · intro i h1 h2; simp [rawFs, rawF]
theorem Wr.rename {s s' : PSym} (h : Wr s) (ht : s'.type = s.type) (hi : s'.init = s.init) : Wr s' := by
  intro k hk
  have hk' := rawOf_kinds ht
  have hl : (rawOf s').length = (rawOf s).length := by simpa using congrArg List.length hk'
  obtain ⟨h1, x, h2⟩ := h k (by omega)
  refine ⟨by rw [hi]; exact h1, x, ?_⟩
  rw [hi, h2]
  have : ((rawOf s').map PCell.kind)[k]? = ((rawOf s).map PCell.kind)[k]? := by rw [hk']
  simp [hk, (by omega : k < (rawOf s).length)] at this
  rw [this]
theorem Wr.cells {s : PSym} (h : Wr s) : ∀ c ∈ cells1 s, wrapK c.kind c.init = c.init := by
  intro c hc
  obtain ⟨k, hk, rfl⟩ := List.getElem_of_mem hc
  have hk' : k < (rawOf s).length := by simpa [cells1] using hk
  obtain ⟨_, x, hx⟩ := h k hk'
  simp [cells1, fillS, fillC, hx, wrapK_idem]
theorem wr_cells {ss : List PSym} (h : ∀ s ∈ ss, Wr s) : ∀ c ∈ cellsL ss, wrapK c.kind c.init = c.init := by
  intro c hc
  obtain ⟨s, hs, hc⟩ := List.mem_flatMap.1 hc
  exact (h s hs).cells c hc
theorem GoodAt.okSym {i : Nat} {g : PSym} (h : GoodAt i g) : OkSym g := by
  obtain ⟨t, ht⟩ := h.type
  exact ⟨by rw [ht]; exact goodT_ok t, by rw [h.name]; simp [nm]⟩
theorem GoodL.ok {gs : List PSym} (h : GoodL gs) : ∀ s ∈ gs, OkSym s := by
  intro s hs
  obtain ⟨j, hj, rfl⟩ := List.getElem_of_mem hs
  exact (h.at_ j hj).okSym
theorem GoodL.wr {gs : List PSym} (h : GoodL gs) : ∀ s ∈ gs, Wr s := by
  intro s hs
  obtain ⟨j, hj, rfl⟩ := List.getElem_of_mem hs
  exact (h.at_ j hj).wr
/-! ## Paths -/
theorem nm_inj {i j : Nat} (hi : i < 10) (hj : j < 10) (h : nm i = nm j) : i = j := by
  have : ∀ i < 10, ∀ j < 10, nm i = nm j → i = j := by decide
  exact this i hi j hj h
/-- Paths of one variable begin with its name, and differ. -/
theorem raw_path (s : PSym) : ∀ k, (h : k < (rawOf s).length) → ∃ r, (rawOf s)[k].path = s.name ++ r := by
  intro k h
  unfold rawOf at h ⊢
  split
  · exact ⟨[], by simp⟩
  · split
    · exact ⟨[91] ++ digitsOf k ++ [93], by simp [rawAs, rawA]⟩
    · rename_i h1 h2
      exact ⟨[46] ++ ((fieldsOf s.type)[k]'(by simpa [h1, h2] using h)).name, by simp [rawFs, rawF]⟩
theorem good_fields (t : PTy) : ∀ i j, (hi : i < (fieldsOf (goodT t)).length) → (hj : j < (fieldsOf (goodT t)).length) → (fieldsOf (goodT t))[i].name = (fieldsOf (goodT t))[j].name → i = j := by
  have hk := goodT_kind t
  unfold fieldsOf
  split
  · rename_i h8
    have hf : (goodT t).fields = goodFs t (1 + t.n % 4).toNat := by
      rw [hk] at h8
      unfold goodT; rw [if_neg (by omega), if_pos h8]
    rw [hf]
    intro i j hi hj h
    simp at hi hj
    have : ∀ i < 4, ∀ j < 4, ([102, UInt8.ofNat (48 + i)] : List UInt8) = [102, UInt8.ofNat (48 + j)] → i = j := by decide
    exact this i (by omega) j (by omega) (by simpa only [goodFs, List.getElem_map, List.getElem_range, goodF] using h)
  · split
    · have : ∀ i, (hi : i < tonF.length) → ∀ j, (hj : j < tonF.length) → tonF[i].name = tonF[j].name → i = j := by decide
      intro i j hi hj h; exact this i hi j hj h
    · split
      · have : ∀ i, (hi : i < ctuF.length) → ∀ j, (hj : j < ctuF.length) → ctuF[i].name = ctuF[j].name → i = j := by decide
        intro i j hi hj h; exact this i hi j hj h
      · intro i j hi; simp at hi
end Go.Av
end
section
/- Plain laws: paths of good variables differ; what is found. -/
namespace Go.Av
theorem raw_inj {s : PSym} (hs : ∃ t, s.type = goodT t) : ∀ i j, (hi : i < (rawOf s).length) → (hj : j < (rawOf s).length) → (rawOf s)[i].path = (rawOf s)[j].path → i = j := by
  obtain ⟨t, ht⟩ := hs
  by_cases hv : valueK s.type.kind = true
  · have e : rawOf s = [⟨s.name, s.type.kind, false, 0, 0, 0⟩] := by simp [rawOf, hv]
    intro i j hi hj _
    rw [e] at hi hj
    simp at hi hj
    omega
  · by_cases h7 : s.type.kind = 7
    · have e : rawOf s = rawAs s s.type.n.toNat := by unfold rawOf; rw [if_neg hv, if_pos h7]
      simp only [e]
      intro i j hi hj h
      simp [rawAs, rawA] at h
      exact digits_inj h
    · have e : rawOf s = rawFs s (fieldsOf s.type) := by unfold rawOf; rw [if_neg hv, if_neg h7]
      simp only [e]
      intro i j hi hj h
      have hf := good_fields t
      rw [← ht] at hf
      simp [rawFs, rawF] at h
      exact hf i j (by simpa using hi) (by simpa using hj) h
def Diff (l : List PCell) : Prop := l.Pairwise fun x y => x.path ≠ y.path
theorem cells1_path (s : PSym) (k : Nat) (h : k < (cells1 s).length) : (cells1 s)[k].path = ((rawOf s)[k]'(by simpa [cells1] using h)).path := by
  simp [cells1, fillS, fillC]
theorem diff_cells1 {s : PSym} (hs : ∃ t, s.type = goodT t) : Diff (cells1 s) := by
  refine List.pairwise_iff_getElem.2 fun i j hi hj hij h => ?_
  rw [cells1_path, cells1_path] at h
  have := raw_inj hs i j (by simpa [cells1] using hi) (by simpa [cells1] using hj) h
  omega
/-- Variables whose names differ, none being the beginning of another one's, their names being equally long. -/
structure Apart (gs : List PSym) : Prop where
  type : ∀ s ∈ gs, ∃ t, s.type = goodT t
  len : ∀ s ∈ gs, s.name.length = 2
  name : gs.Pairwise fun x y => x.name ≠ y.name
theorem GoodL.apart {gs : List PSym} (h : GoodL gs) : Apart gs := by
  refine ⟨fun s hs => ?_, fun s hs => ?_, List.pairwise_iff_getElem.2 fun i j hi hj hij e => ?_⟩
  · obtain ⟨j, hj, rfl⟩ := List.getElem_of_mem hs
    exact (h.at_ j hj).type
  · obtain ⟨j, hj, rfl⟩ := List.getElem_of_mem hs
    rw [(h.at_ j hj).name]; rfl
  · rw [(h.at_ i hi).name, (h.at_ j hj).name] at e
    have := nm_inj (by have := h.len; omega) (by have := h.len; omega) e
    omega
theorem mem_path {s : PSym} {c : PCell} (hc : c ∈ cells1 s) : ∃ r, c.path = s.name ++ r := by
  obtain ⟨k, hk, rfl⟩ := List.getElem_of_mem hc
  obtain ⟨r, hr⟩ := raw_path s k (by simpa [cells1] using hk)
  exact ⟨r, by rw [cells1_path, hr]⟩
theorem diff_cells {gs : List PSym} (h : Apart gs) : Diff (cellsL gs) := by
  refine List.pairwise_flatMap.2 ⟨fun s hs => diff_cells1 (h.type s hs), ?_⟩
  refine List.Pairwise.imp_of_mem ?_ h.name
  intro s s' hs hs' hne x hx y hy e
  obtain ⟨r, hr⟩ := mem_path hx
  obtain ⟨r', hr'⟩ := mem_path hy
  rw [hr, hr'] at e
  exact hne (List.append_inj_left e (by rw [h.len s hs, h.len s' hs']))
theorem diff_at {l : List PCell} (h : Diff l) {i j : Nat} (hi : i < l.length) (hj : j < l.length) (e : l[i].path = l[j].path) : i = j := by
  have := List.pairwise_iff_getElem.1 h
  rcases Nat.lt_trichotomy i j with h1 | h1 | h1
  · exact absurd e (this i j hi hj h1)
  · exact h1
  · exact absurd e.symm (this j i hj hi h1)
/-- Of cells whose paths differ: the same cell is where the path is. -/
theorem same_find {p : List PCell} (hp : Diff p) (c : PCell) :
    (p.findIdx? (fun x => decide (x.path = c.path)) = none ∧ p.findIdx? (sameCell c) = none) ∨
    (∃ k, ∃ hk : k < p.length, p.findIdx? (fun x => decide (x.path = c.path)) = some k ∧ p[k].path = c.path ∧ p.findIdx? (sameCell c) = if p[k].kind = c.kind then some k else none) := by
  cases h : p.findIdx? (fun x => decide (x.path = c.path)) with
  | none =>
    refine .inl ⟨rfl, findIdx_none fun j hj => ?_⟩
    have := List.findIdx?_eq_none_iff.1 h p[j] (by simp)
    simp at this
    simp [sameCell, this]
  | some k =>
    obtain ⟨hk, h1, h2⟩ := List.findIdx?_eq_some_iff_getElem.1 h
    simp at h1
    refine .inr ⟨k, hk, rfl, h1, ?_⟩
    by_cases hkd : p[k].kind = c.kind
    · rw [if_pos hkd]
      refine findIdx_some hk (by simp [sameCell, h1, hkd]) fun j hj => ?_
      have := h2 j hj
      simp at this
      simp [sameCell, this]
    · rw [if_neg hkd]
      refine findIdx_none fun j hj => ?_
      by_cases e : p[j].path = c.path
      · have : j = k := diff_at hp hj hk (by rw [e, h1])
        subst this
        simp [sameCell, hkd]
      · simp [sameCell, e]
end Go.Av
end
section
/- The law MigrateCells: the names' loop. -/
namespace Go.Av
/-- The same variables, named otherwise. -/
structure Named (ys y : List PSym) : Prop where
  len : y.length = ys.length
  at_ : ∀ j, (h : j < y.length) → y[j].type = (ys[j]'(by omega)).type ∧ y[j].retain = (ys[j]'(by omega)).retain ∧ y[j].init = (ys[j]'(by omega)).init ∧ y[j].bor = (ys[j]'(by omega)).bor
  nm : ∀ s ∈ y, s.name.length = 2
theorem Named.set {ys y : List PSym} (h : Named ys y) (i : Nat) (hi : i < y.length) (n : List UInt8) (hn : n.length = 2) : Named ys (y.set i { y[i] with name := n }) := by
  refine ⟨by simp [h.len], fun j hj => ?_, fun s hs => ?_⟩
  · have hj' : j < y.length := by simpa using hj
    have ha := h.at_ j hj'
    rw [List.getElem_set]
    split
    · rename_i e; subst e; exact ha
    · exact ha
  · rcases List.mem_or_eq_of_mem_set hs with h1 | rfl
    · exact h.nm s h1
    · exact hn
structure TN where
  y : List PSym
  a : PV
  b : PV
def stNm (a b n : Bool) (l1 l2 : List PSym) (v2 : PV) (names : List Int) (v4 v5 : PV) (m : Nat) (v9 v10 v11 v12 v13 v14 v15 v16 v17 v18 v20 v21 v22 v23 v24 : PV) (i : Nat) (t : TN) : PSt :=
  ⟨[.ls (.v a false) l1.length (l1.flatMap PSym.enc), .ls (.v b false) l2.length (l2.flatMap PSym.enc), v2, .ls (.v n false) names.length (names.flatMap encI), v4, v5, .sl 0 0 m none, .i .i64 (i : Nat), t.a, v9, v10, v11, v12, v13, v14, v15, v16, v17, v18, t.b, v20, v21, v22, v23, v24], ⟨[.cells (t.y.flatMap PSym.enc) 7], 0, [], 0⟩⟩
theorem names_loop (a b n : Bool) (l1 l2 : List PSym) (v2 : PV) (names : List Int) (v4 v5 : PV) (ys : List PSym) (hm : 0 < ys.length) (hm2 : ys.length ≤ 1000) (h2 : ∀ s ∈ ys, s.name.length = 2) (v9 v10 v11 v12 v13 v14 v15 v16 v17 v18 v20 v21 v22 v23 v24 : PV) :
    ∃ s, piterL (pdenL (PC pfs) lp3_1) (stNm a b n l1 l2 v2 names v4 v5 ys.length v9 v10 v11 v12 v13 v14 v15 v16 v17 v18 v20 v21 v22 v23 v24 0 ⟨ys, .und, .und⟩) = some (.exit 0, s) ∧
      ∃ i t, Named ys t.y ∧ s = stNm a b n l1 l2 v2 names v4 v5 ys.length v9 v10 v11 v12 v13 v14 v15 v16 v17 v18 v20 v21 v22 v23 v24 i t := by
  refine @for_brk (pdenL (PC pfs) lp3_1) TN 0 (stNm a b n l1 l2 v2 names v4 v5 ys.length v9 v10 v11 v12 v13 v14 v15 v16 v17 v18 v20 v21 v22 v23 v24) (fun _ t => Named ys t.y) (fun s => ∃ i t, Named ys t.y ∧ s = stNm a b n l1 l2 v2 names v4 v5 ys.length v9 v10 v11 v12 v13 v14 v15 v16 v17 v18 v20 v21 v22 v23 v24 i t) (min ys.length names.length) ?_ ?_ ⟨ys, .und, .und⟩ ⟨rfl, fun j h => ⟨rfl, rfl, rfl, rfl⟩, h2⟩
  · intro i hi t ht
    left
    obtain ⟨y, w8, w19⟩ := t
    simp only at ht
    have hiy : i < ys.length := by omega
    have hin : i < names.length := by omega
    have hy : i < y.length := by rw [ht.len]; exact hiy
    have hw := within_ok names[i] (ys.length : Nat) (by omega) (by omega)
    obtain ⟨j, hj⟩ : ∃ j : Nat, (j : Int) = names[i] % (ys.length : Nat) := ⟨(names[i] % (ys.length : Nat)).toNat, by have := Int.emod_nonneg names[i] (by omega : ((ys.length : Nat) : Int) ≠ 0); omega⟩
    have hjl : j < ys.length := by have := Int.emod_lt_of_pos names[i] (by omega : (0 : Int) < (ys.length : Nat)); omega
    rw [← hj] at hw
    have hjy : j < y.length := by rw [ht.len]; exact hjl
    have s1 := splice_fld (enc := PSym.enc) (k := 7) (fun _ => rfl) y i hy 0 (by omega) (.s y[j].name) { y[i] with name := y[j].name } rfl
    have t1 := ht.set i hy y[j].name (ht.nm _ (by simp))
    have hj2 : j < (y.set i { y[i] with name := y[j].name }).length := by simpa using hjy
    have s2 := splice_fld (enc := PSym.enc) (k := 7) (fun _ => rfl) (y.set i { y[i] with name := y[j].name }) j hj2 0 (by omega) (.s y[i].name) { (y.set i { y[i] with name := y[j].name })[j] with name := y[i].name } rfl
    have t2 := t1.set j hj2 y[i].name (ht.nm _ (by simp))
    generalize hy1 : y.set i { y[i] with name := y[j].name } = y1 at *
    generalize hy2 : y1.set j { y1[j] with name := y[i].name } = y2 at *
    simp only [Nat.add_zero] at s1 s2
    refine ⟨⟨y2, .i .i64 (j : Nat), .b true⟩, ?_, t2⟩
    have n1 := S_name i y hy
    have n2 := S_name j y hjy
    simp [-prunOps, stNm, lp3_1, hiy, hin, I_at i names hin, hw, hjl, n1, n2, s1, s2, awrap_nat1 (n := i) (by omega)]
  · intro t ht
    obtain ⟨y, w8, w19⟩ := t
    refine ⟨stNm a b n l1 l2 v2 names v4 v5 ys.length v9 v10 v11 v12 v13 v14 v15 v16 v17 v18 v20 v21 v22 v23 v24 (min ys.length names.length) ⟨y, w8, .b false⟩, ?_, min ys.length names.length, ⟨y, w8, .b false⟩, ht, rfl⟩
    by_cases hl : ys.length ≤ names.length
    · have e : min ys.length names.length = ys.length := by omega
      rw [e]
      simp [-prunOps, stNm, lp3_1]
    · have e : min ys.length names.length = names.length := by omega
      rw [e]
      have hl' : names.length < ys.length := by omega
      simp [-prunOps, stNm, lp3_1, hl']
end Go.Av
end
section
/- The law MigrateCells: the last loop. -/
namespace Go.Av
structure TE where
  a : PV
  b : PV
  c : PV
  d : PV
  e : PV
  f : PV
def stE2 (p q : List PCell) (v w : List Int) (v0 v1 v2 v3 v4 v5 v6 v7 v8 v17 v18 v19 v20 v21 : PV) (σ : PH) (i : Nat) (t : TE) : PSt :=
  ⟨[v0, v1, v2, v3, v4, v5, v6, v7, v8, .ls (.v false false) p.length (p.flatMap PCell.enc), .ls (.v false false) q.length (q.flatMap PCell.enc), .ls (.v false false) p.length (v.flatMap encI), .ls (.v false false) q.length (w.flatMap encI), .i .i64 (i : Nat), t.a, t.b, t.c, v17, v18, v19, v20, v21, t.d, t.e, t.f], σ⟩
theorem want_loop (p q : List PCell) (v w : List Int) (hv : v.length = p.length) (hw : w.length = q.length) (hp : p.length ≤ 1073741824) (hq : q.length ≤ 1073741824)
    (H : ∀ i, (h : i < q.length) → wrapK q[i].kind (w[i]'(by omega)) = w[i]'(by omega) ∧
      ((p.findIdx? (fun x => decide (x.path = q[i].path)) = none ∧ w[i]'(by omega) = q[i].init) ∨
       ∃ k, ∃ hk : k < p.length, p.findIdx? (fun x => decide (x.path = q[i].path)) = some k ∧ w[i]'(by omega) = if p[k].kind = q[i].kind then v[k] else q[i].init))
    (v0 v1 v2 v3 v4 v5 v6 v7 v8 v17 v18 v19 v20 v21 : PV) (σ : PH) (t : TE) :
    ∃ t', piterL (pdenL (PC pfs) lp3_2) (stE2 p q v w v0 v1 v2 v3 v4 v5 v6 v7 v8 v17 v18 v19 v20 v21 σ 0 t) = some (.exit 2, stE2 p q v w v0 v1 v2 v3 v4 v5 v6 v7 v8 v17 v18 v19 v20 v21 σ q.length t') := by
  refine @for_loop (pdenL (PC pfs) lp3_2) TE 2 (stE2 p q v w v0 v1 v2 v3 v4 v5 v6 v7 v8 v17 v18 v19 v20 v21 σ) (stE2 p q v w v0 v1 v2 v3 v4 v5 v6 v7 v8 v17 v18 v19 v20 v21 σ q.length) q.length ?_ ?_ t
  · intro i hlt t
    obtain ⟨hwr, hc⟩ := H i hlt
    have hf := find_ok false p q[i].path hp
    have hwp := wrap_ok q[i].kind (w[i]'(by omega))
    rw [hwr] at hwp
    have hwi := I_at i w (by omega)
    have g2 : ∀ x y : PV, pget [x, y] 0 = some x := fun _ _ => rfl
    have g3 : ∀ x y : PV, pget [x, y] 1 = some y := fun _ _ => rfl
    rcases hc with ⟨hn, he⟩ | ⟨k, hk, hs, he⟩
    · have hfd : found p q[i].path = .tup [.i .i64 0, .b false] := by unfold found; rw [hn]
      rw [hfd] at hf
      rw [he] at hwi hwp
      refine ⟨⟨.i .i64 0, .b false, .i .i64 q[i].init, .b true, .b false, .b false⟩, ?_⟩
      simp [-prunOps, stE2, lp3_2, hlt, C_path i q hlt, C_kind i q hlt, C_init i q hlt, hf, hwi, hwp, g2, g3, awrap_nat1 (n := i) (by omega)]
    · have hfd : found p q[i].path = .tup [.i .i64 (k : Nat), .b true] := by unfold found; rw [hs]
      rw [hfd] at hf
      have hvk := I_at k v (by omega)
      by_cases hkd : p[k].kind = q[i].kind
      · rw [if_pos hkd] at he
        rw [he] at hwi hwp
        refine ⟨⟨.i .i64 (k : Nat), .b true, .i .i64 v[k], .b true, .b true, .b false⟩, ?_⟩
        simp [-prunOps, stE2, lp3_2, hlt, hk, C_path i q hlt, C_kind i q hlt, C_init i q hlt, C_kind k p hk, hkd, hf, hwi, hwp, hvk, g2, g3, awrap_nat1 (n := i) (by omega)]
      · rw [if_neg hkd] at he
        rw [he] at hwi hwp
        refine ⟨⟨.i .i64 (k : Nat), .b true, .i .i64 q[i].init, .b true, .b false, .b false⟩, ?_⟩
        simp [-prunOps, stE2, lp3_2, hlt, hk, C_path i q hlt, C_kind i q hlt, C_init i q hlt, C_kind k p hk, hkd, hf, hwi, hwp, g2, g3, awrap_nat1 (n := i) (by omega)]
  · intro t
    refine ⟨⟨t.a, t.b, t.c, .b false, t.e, t.f⟩, ?_⟩
    simp [-prunOps, stE2, lp3_2]
/-- The plain law. -/
theorem want_plain {p q : List PCell} (hp : Diff p) (wp : ∀ c ∈ p, wrapK c.kind c.init = c.init) (wq : ∀ c ∈ q, wrapK c.kind c.init = c.init) (ns : List Int) :
    ∀ i, (h : i < q.length) → wrapK q[i].kind ((overOf p q (valuesOf p ns))[i]'(by simpa using h)) = (overOf p q (valuesOf p ns))[i]'(by simpa using h) ∧
      ((p.findIdx? (fun x => decide (x.path = q[i].path)) = none ∧ (overOf p q (valuesOf p ns))[i]'(by simpa using h) = q[i].init) ∨
       ∃ k, ∃ hk : k < p.length, p.findIdx? (fun x => decide (x.path = q[i].path)) = some k ∧ (overOf p q (valuesOf p ns))[i]'(by simpa using h) = if p[k].kind = q[i].kind then (valuesOf p ns)[k]'(by simpa [valuesOf_length] using hk) else q[i].init) := by
  intro i h
  have hwq := wq q[i] (by simp)
  rcases same_find hp q[i] with ⟨h1, h2⟩ | ⟨k, hk, h1, h2, h3⟩
  · have e : (overOf p q (valuesOf p ns))[i]'(by simpa using h) = q[i].init := by simp [overOf, h2]
    rw [e]
    exact ⟨hwq, .inl ⟨h1, rfl⟩⟩
  · by_cases hkd : p[k].kind = q[i].kind
    · rw [if_pos hkd] at h3
      have hkv : k < (valuesOf p ns).length := by rw [valuesOf_length]; exact hk
      have e : (overOf p q (valuesOf p ns))[i]'(by simpa using h) = (valuesOf p ns)[k] := by simp [overOf, h3, hkv]
      rw [e]
      refine ⟨?_, .inr ⟨k, hk, h1, by rw [if_pos hkd]⟩⟩
      rw [← hkd]
      by_cases hn : k < ns.length
      · rw [valuesOf_get hk hn, wrapK_idem]
      · rw [valuesOf_rest hk (by omega)]
        exact wp p[k] (by simp)
    · rw [if_neg hkd] at h3
      have e : (overOf p q (valuesOf p ns))[i]'(by simpa using h) = q[i].init := by simp [overOf, h3]
      rw [e]
      exact ⟨hwq, .inr ⟨k, hk, h1, by rw [if_neg hkd]⟩⟩
end Go.Av
end
section
/- The law MigrateCells, on the second machine. -/
namespace Go.Av
theorem Named.ok {ys y : List PSym} (h : Named ys y) (g : GoodL ys) : (∀ s ∈ y, OkSym s) ∧ (∀ s ∈ y, Wr s) ∧ (∀ s ∈ y, s.bor = false) := by
  refine ⟨fun s hs => ?_, fun s hs => ?_, fun s hs => ?_⟩ <;> obtain ⟨j, hj, rfl⟩ := List.getElem_of_mem hs
  · have ha := h.at_ j hj
    obtain ⟨t, ht⟩ := (g.at_ j (by rw [← h.len]; exact hj)).type
    exact ⟨by rw [ha.1, ht]; exact goodT_ok t, by rw [h.nm _ hs]; omega⟩
  · have ha := h.at_ j hj
    exact (g.at_ j (by rw [← h.len]; exact hj)).wr.rename ha.1 ha.2.2.1
  · have ha := h.at_ j hj
    rw [ha.2.2.2]; exact (g.at_ j (by rw [← h.len]; exact hj)).bor
theorem GoodL.named {ys : List PSym} (g : GoodL ys) : ∀ s ∈ ys, s.name.length = 2 := by
  intro s hs
  obtain ⟨j, hj, rfl⟩ := List.getElem_of_mem hs
  rw [(g.at_ j hj).name]; rfl
theorem want_plain' {p q : List PCell} (hp : Diff p) (wp : ∀ c ∈ p, wrapK c.kind c.init = c.init) (wq : ∀ c ∈ q, wrapK c.kind c.init = c.init) (ns v : List Int) (hv : v = valuesOf p ns) (hl : v.length = p.length) :
    ∀ i, (h : i < q.length) → wrapK q[i].kind ((overOf p q v)[i]'(by simpa using h)) = (overOf p q v)[i]'(by simpa using h) ∧
      ((p.findIdx? (fun x => decide (x.path = q[i].path)) = none ∧ (overOf p q v)[i]'(by simpa using h) = q[i].init) ∨
       ∃ k, ∃ hk : k < p.length, p.findIdx? (fun x => decide (x.path = q[i].path)) = some k ∧ (overOf p q v)[i]'(by simpa using h) = if p[k].kind = q[i].kind then v[k]'(by omega) else q[i].init) := by
  subst hv; exact want_plain hp wp wq ns
set_option maxRecDepth 100000 in
set_option maxHeartbeats 4000000 in
theorem lawCells_ok (a b : List PSym) (ns names : List Int) (hfa : ∀ s ∈ a, s.type.fields.length ≤ 9223372036854775807) (hfb : ∀ s ∈ b, s.type.fields.length ≤ 9223372036854775807) (hla : a.length ≤ 9223372036854775807) (hlb : b.length ≤ 9223372036854775807) :
    iso (PC pfs) 3 [.ls (.v false false) a.length (a.flatMap PSym.enc), .ls (.v false false) b.length (b.flatMap PSym.enc), .ls (.v false false) ns.length (ns.flatMap encI), .ls (.v false false) names.length (names.flatMap encI)] = some (.b true) := by
  have f1 := few8_ok false a hla hfa
  have f2 := few8_ok false b hlb hfb
  unfold iso
  rw [PC_eq (F := pf3) rfl]
  cases h1 : few8B a with
  | false =>
    rw [h1] at f1
    simp [-prunOps, pf3, known_ok, f1]
  | true =>
    rw [h1] at f1
    cases h2 : few8B b with
    | false =>
      rw [h2] at f2
      simp [-prunOps, pf3, known_ok, f1, f2]
    | true =>
      rw [h2] at f2
      obtain ⟨x, gx, ex⟩ := good8_ok false a hfa
      obtain ⟨ys, gy, ey⟩ := good8_ok false b hfb
      have hx := gx.len
      have hy := gy.len
      rcases Nat.eq_zero_or_pos ys.length with h0 | hm0
      · have hyn : ys = [] := by simpa using h0
        have hy3 : (∀ s ∈ ys, OkSym s) ∧ (∀ s ∈ ys, Wr s) ∧ (∀ s ∈ ys, s.bor = false) := by rw [hyn]; simp
        have hoy := hy3.1
        have cx := cells_ok false x gx.ok (by omega)
        have cy := cells_ok false ys hoy (by omega)
        have lx := cellsL_le gx.ok
        have ly := cellsL_le hoy
        have dx := diff_cells gx.apart
        have wx := wr_cells gx.wr
        have wy := wr_cells hy3.2.1
        obtain ⟨Pc, hPc⟩ : ∃ P, P = cellsL x := ⟨_, rfl⟩
        obtain ⟨Qc, hQc⟩ : ∃ Q, Q = cellsL ys := ⟨_, rfl⟩
        rw [← hPc] at cx lx dx wx
        rw [← hQc] at cy ly wy
        have lp : Pc.length ≤ 1073741824 := by omega
        have lq : Qc.length ≤ 1073741824 := by omega
        have hv := values_ok false false Pc ns lp
        have vl0 := valuesOf_length Pc ns
        obtain ⟨v, hvv⟩ : ∃ v, v = valuesOf Pc ns := ⟨_, rfl⟩
        have wl : (overOf Pc Qc v).length = Qc.length := overOf_len _ _ _
        rw [← hvv] at hv vl0
        have hpl := want_plain' dx wx wy ns v hvv vl0
        have rd1 := refDiff_ok false false Pc Qc lp lq
        have rd2 := refDiff_ok false false [] Qc (by simp) lq
        have rc := refCells_ok false false false Pc Qc v lp lq (by omega)
        obtain ⟨r1, m1, e1⟩ := mig_ok false false Pc Qc lp lq
        obtain ⟨r2, m2, e2⟩ := mig_ok false false [] Qc (by simp) lq
        obtain ⟨r3, m3, e3⟩ := mcells_ok false false false Pc Qc v lp lq
        have i1 := ints_ok false false (diffOf Pc Qc) (diffOf Pc Qc) (by simp [diffOf]; omega)
        have i2 := ints_ok false false (diffOf [] Qc) (diffOf [] Qc) (by simp [diffOf]; omega)
        have i3 := ints_ok false false (overOf Pc Qc v) (overOf Pc Qc v) (by omega)
        have dl1 : (diffOf Pc Qc).length = Qc.length := by simp [diffOf]
        have dl2 : (diffOf [] Qc).length = Qc.length := by simp [diffOf]
        have hs : piterL (pdenL (PC pfs) lp3_1) ⟨[.ls (.v false false) a.length (a.flatMap PSym.enc), .ls (.v false false) b.length (b.flatMap PSym.enc), .ls (.v false false) ns.length (ns.flatMap encI), .ls (.v false false) names.length (names.flatMap encI), .b false, .ls (.v false false) x.length (x.flatMap PSym.enc), .ls (.v false false) 0 [], .i .i64 0, .und, .und, .und, .und, .und, .und, .und, .und, .und, .b false, .b false, .und, .und, .und, .und, .und, .und], ⟨[], 0, [], 0⟩⟩ =
            some (.exit 0, ⟨[.ls (.v false false) a.length (a.flatMap PSym.enc), .ls (.v false false) b.length (b.flatMap PSym.enc), .ls (.v false false) ns.length (ns.flatMap encI), .ls (.v false false) names.length (names.flatMap encI), .b false, .ls (.v false false) x.length (x.flatMap PSym.enc), .ls (.v false false) 0 [], .i .i64 0, .und, .und, .und, .und, .und, .und, .und, .und, .und, .b false, .b false, .b false, .und, .und, .und, .und, .und], ⟨[], 0, [], 0⟩⟩) := by
          rw [piterL_eq]
          simp [-prunOps, lp3_1]
        obtain ⟨t', g⟩ := want_loop Pc Qc v (overOf Pc Qc v) vl0 wl lp lq hpl (.ls (.v false false) a.length (a.flatMap PSym.enc)) (.ls (.v false false) b.length (b.flatMap PSym.enc)) (.ls (.v false false) ns.length (ns.flatMap encI)) (.ls (.v false false) names.length (names.flatMap encI)) (.b false) (.ls (.v false false) x.length (x.flatMap PSym.enc)) (.ls (.v false false) 0 []) (.i .i64 0) .und (.b false) (.b false) (.b false) (.b false) (.b false) ⟨[], 0, [], 0⟩ ⟨.und, .und, .und, .und, .und, .und⟩
        simp only [stE2] at g
        clear hpl
        generalize overOf Pc Qc v = w at *
        subst hyn
        simp [vl, dl1, dl2, wl, vl0] at g hv rd1 rd2 rc m1 m2 m3 e1 e2 e3 i1 i2 i3 cx cy ey
        rcases e1 with rfl | rfl <;> rcases e2 with rfl | rfl <;> rcases e3 with rfl | rfl
        all_goals
          simp [-prunOps, pf3, known_ok, f1, f2, ex, ey]
          simp [-prunOps, hs]
          simp [-prunOps, cx, cy, hv, m1, m2, m3, rd1, rd2, rc, i1, i2, i3, wl]
          simp [-prunOps, g]
      · obtain ⟨k, hk⟩ : ∃ k, ys.length = k + 1 := ⟨ys.length - 1, by omega⟩
        obtain ⟨s, hs, i, t, ht, rfl⟩ := names_loop false false false a b (.ls (.v false false) ns.length (ns.flatMap encI)) names (.b false) (.ls (.v false false) x.length (x.flatMap PSym.enc)) ys hm0 (by omega) gy.named .und .und .und .und .und .und .und .und (.b false) (.b false) .und .und .und .und .und
        have hy3 := ht.ok gy
        have htl := ht.len
        obtain ⟨y, ta, tb⟩ := t
        simp only at hy3 htl
        simp only [stNm] at hs
        simp [hk] at hs ey
        have hlen : ∀ σ, mapO (lendC 7 σ) (y.flatMap PSym.enc) = some (y.flatMap PSym.enc) := fun σ => lend_shutL (shutS hy3.2.2)
        have hsub : psub (y.flatMap PSym.enc) 0 ((k + 1) * 7) = some (y.flatMap PSym.enc) := psub_all (by rw [flat_lenS, htl, hk])
        have hoy := hy3.1
        have cx := cells_ok false x gx.ok (by omega)
        have cy := cells_ok true y hoy (by omega)
        have lx := cellsL_le gx.ok
        have ly := cellsL_le hoy
        have dx := diff_cells gx.apart
        have wx := wr_cells gx.wr
        have wy := wr_cells hy3.2.1
        obtain ⟨Pc, hPc⟩ : ∃ P, P = cellsL x := ⟨_, rfl⟩
        obtain ⟨Qc, hQc⟩ : ∃ Q, Q = cellsL y := ⟨_, rfl⟩
        rw [← hPc] at cx lx dx wx
        rw [← hQc] at cy ly wy
        have lp : Pc.length ≤ 1073741824 := by omega
        have lq : Qc.length ≤ 1073741824 := by omega
        have hv := values_ok false false Pc ns lp
        have vl0 := valuesOf_length Pc ns
        obtain ⟨v, hvv⟩ : ∃ v, v = valuesOf Pc ns := ⟨_, rfl⟩
        have wl : (overOf Pc Qc v).length = Qc.length := overOf_len _ _ _
        rw [← hvv] at hv vl0
        have hpl := want_plain' dx wx wy ns v hvv vl0
        have rd1 := refDiff_ok false false Pc Qc lp lq
        have rd2 := refDiff_ok false false [] Qc (by simp) lq
        have rc := refCells_ok false false false Pc Qc v lp lq (by omega)
        obtain ⟨r1, m1, e1⟩ := mig_ok false false Pc Qc lp lq
        obtain ⟨r2, m2, e2⟩ := mig_ok false false [] Qc (by simp) lq
        obtain ⟨r3, m3, e3⟩ := mcells_ok false false false Pc Qc v lp lq
        have i1 := ints_ok false false (diffOf Pc Qc) (diffOf Pc Qc) (by simp [diffOf]; omega)
        have i2 := ints_ok false false (diffOf [] Qc) (diffOf [] Qc) (by simp [diffOf]; omega)
        have i3 := ints_ok false false (overOf Pc Qc v) (overOf Pc Qc v) (by omega)
        have dl1 : (diffOf Pc Qc).length = Qc.length := by simp [diffOf]
        have dl2 : (diffOf [] Qc).length = Qc.length := by simp [diffOf]
        obtain ⟨t', g⟩ := want_loop Pc Qc v (overOf Pc Qc v) vl0 wl lp lq hpl (.ls (.v false false) a.length (a.flatMap PSym.enc)) (.ls (.v false false) b.length (b.flatMap PSym.enc)) (.ls (.v false false) ns.length (ns.flatMap encI)) (.ls (.v false false) names.length (names.flatMap encI)) (.b false) (.ls (.v false false) x.length (x.flatMap PSym.enc)) (.sl 0 0 (k + 1) none) (.i .i64 (i : Nat)) ta (.b false) (.b false) tb (.b false) (.b false) ⟨[.cells (y.flatMap PSym.enc) 7], 0, [], 0⟩ ⟨.und, .und, .und, .und, .und, .und⟩
        simp only [stE2] at g
        clear hpl
        generalize overOf Pc Qc v = w at *
        rw [htl, hk] at cy
        simp [vl, dl1, dl2, wl, vl0] at g hv rd1 rd2 rc m1 m2 m3 e1 e2 e3 i1 i2 i3 cx cy
        rcases e1 with rfl | rfl <;> rcases e2 with rfl | rfl <;> rcases e3 with rfl | rfl
        all_goals
          simp [-prunOps, pf3, known_ok, f1, f2, ex, ey]
          simp [-prunOps, hs]
          simp [-prunOps, hsub, hlen, cx, cy, hv, m1, m2, m3, rd1, rd2, rc, i1, i2, i3, wl]
          simp [-prunOps, g]
end Go.Av
end
section
/- The law MigrateRenames: plain law and loop. -/
namespace Go.Av
def oth : List UInt8 := [111, 116, 104, 101, 114]
/-- What is there is found, with its value. -/
theorem find_mem {p : List PCell} (hp : Diff p) {c : PCell} (hc : c ∈ p) (v : List Int) (hv : v.length = p.length) :
    ∃ k, ∃ hk : k < p.length, p.findIdx? (fun x => decide (x.path = c.path)) = some k ∧ (match p.findIdx? (sameCell c) with
      | some i => v[i]?.getD c.init
      | none => c.init) = v[k] := by
  obtain ⟨m, hm, e⟩ := List.getElem_of_mem hc
  rcases same_find hp c with ⟨h1, _⟩ | ⟨k, hk, h1, h2, h3⟩
  · have := List.findIdx?_eq_none_iff.1 h1 c hc
    simp at this
  · have hkm : k = m := diff_at hp hk hm (by rw [h2, e])
    subst hkm
    refine ⟨k, hk, h1, ?_⟩
    rw [h3, if_pos (by rw [e])]
    simp [hv, hk]
theorem find_not {p : List PCell} {c : PCell} (h : ∀ x ∈ p, x.path ≠ c.path) : p.findIdx? (fun x => decide (x.path = c.path)) = none ∧ p.findIdx? (sameCell c) = none := by
  refine ⟨findIdx_none fun j hj => ?_, findIdx_none fun j hj => ?_⟩
  · simpa using h p[j] (by simp)
  · have := h p[j] (by simp)
    simp [sameCell, this]
/-- What a round of the last loop needs. -/
def RnH (p q : List PCell) (v w : List Int) (swap : Bool) (hv : v.length = p.length) (hw : w.length = q.length) : Prop :=
  ∀ i, (h : i < q.length) →
    (∃ k, ∃ hk : k < p.length, p.findIdx? (fun x => decide (x.path = q[i].path)) = some k ∧ w[i]'(by omega) = v[k] ∧ (swap = true ∨ q[i].path.length < 5 ∨ (5 ≤ q[i].path.length ∧ q[i].path.take 5 ≠ oth))) ∨
    (swap = false ∧ 5 ≤ q[i].path.length ∧ q[i].path.take 5 = oth ∧ p.findIdx? (fun x => decide (x.path = q[i].path)) = none ∧ w[i]'(by omega) = q[i].init)
structure TR where
  a : PV
  b : PV
  c : PV
  d : PV
def stRn (p q : List PCell) (v w : List Int) (swap : Bool) (v0 v1 v2 v4 v5 v8 v14 v15 v16 v17 : PV) (σ : PH) (i : Nat) (t : TR) : PSt :=
  ⟨[v0, v1, v2, .b swap, v4, v5, .ls (.v false false) p.length (p.flatMap PCell.enc), .ls (.v false false) p.length (v.flatMap encI), v8, .ls (.v false false) q.length (q.flatMap PCell.enc), .ls (.v false false) q.length (w.flatMap encI), .i .i64 (i : Nat), t.a, t.b, v14, v15, v16, v17, t.c, t.d], σ⟩
theorem rn_loop (p q : List PCell) (v w : List Int) (swap : Bool) (hv : v.length = p.length) (hw : w.length = q.length) (hp : p.length ≤ 1073741824) (hq : q.length ≤ 1073741824) (H : RnH p q v w swap hv hw)
    (v0 v1 v2 v4 v5 v8 v14 v15 v16 v17 : PV) (σ : PH) (t : TR) :
    ∃ t', piterL (pdenL (PC pfs) lp6_1) (stRn p q v w swap v0 v1 v2 v4 v5 v8 v14 v15 v16 v17 σ 0 t) = some (.exit 0, stRn p q v w swap v0 v1 v2 v4 v5 v8 v14 v15 v16 v17 σ q.length t') := by
  refine @for_loop (pdenL (PC pfs) lp6_1) TR 0 (stRn p q v w swap v0 v1 v2 v4 v5 v8 v14 v15 v16 v17 σ) (stRn p q v w swap v0 v1 v2 v4 v5 v8 v14 v15 v16 v17 σ q.length) q.length ?_ ?_ t
  · intro i hlt t
    have hf := find_ok false p q[i].path hp
    have hwi := I_at i w (by omega)
    have e8 : 5 ≤ q[i].path.length → sub8 q[i].path 0 5 = q[i].path.take 5 := fun h => by simp [sub8]
    have g2 : ∀ x y : PV, pget [x, y] 0 = some x := fun _ _ => rfl
    have g3 : ∀ x y : PV, pget [x, y] 1 = some y := fun _ _ => rfl
    rcases H i hlt with ⟨k, hk, hs, he, hc⟩ | ⟨hsw, h5, ho, hn, he⟩
    · have hfd : found p q[i].path = .tup [.i .i64 (k : Nat), .b true] := by unfold found; rw [hs]
      rw [hfd] at hf
      have hvk := I_at k v (by omega)
      rw [he] at hwi
      refine ⟨⟨.i .i64 (k : Nat), .b true, .b true, .b false⟩, ?_⟩
      cases swap with
      | true => simp [-prunOps, stRn, lp6_1, hlt, hk, C_path i q hlt, hf, hwi, hvk, g2, g3, awrap_nat1 (n := i) (by omega)]
      | false =>
        simp at hc
        rcases hc with hc | ⟨h5, hne⟩
        · have hc' : (q[i].path.length : Int) < 5 := by omega
          simp [-prunOps, stRn, lp6_1, hlt, hk, C_path i q hlt, hf, hwi, hvk, g2, g3, hc', awrap_nat1 (n := i) (by omega)]
        · have hc' : ¬ (q[i].path.length : Int) < 5 := by omega
          have hne' : ¬ q[i].path.take 5 = [111, 116, 104, 101, 114] := hne
          simp [-prunOps, stRn, lp6_1, hlt, hk, C_path i q hlt, hf, hwi, hvk, g2, g3, hc', h5, hne', e8 h5, awrap_nat1 (n := i) (by omega)]
    · have hfd : found p q[i].path = .tup [.i .i64 0, .b false] := by unfold found; rw [hn]
      rw [hfd] at hf
      rw [he] at hwi
      subst hsw
      have hc' : ¬ (q[i].path.length : Int) < 5 := by omega
      have ho' : q[i].path.take 5 = [111, 116, 104, 101, 114] := ho
      refine ⟨⟨.i .i64 0, .b false, .b true, .b false⟩, ?_⟩
      simp [-prunOps, stRn, lp6_1, hlt, C_path i q hlt, C_init i q hlt, hf, hwi, g2, g3, hc', h5, ho', e8 h5, awrap_nat1 (n := i) (by omega)]
  · intro t
    refine ⟨⟨t.a, t.b, .b false, t.d⟩, ?_⟩
    simp [-prunOps, stRn, lp6_1]
end Go.Av
end
section
/- The law MigrateRenames: plain law. -/
namespace Go.Av
theorem over_at (p q : List PCell) (v : List Int) (i : Nat) (h : i < q.length) : (overOf p q v)[i]'(by simpa using h) = (match p.findIdx? (sameCell q[i]) with
    | some j => v[j]?.getD q[i].init
    | none => q[i].init) := by
  simp only [overOf, List.getElem_map] <;> cases p.findIdx? (sameCell q[i]) <;> rfl
theorem GoodL.name118 {x : List PSym} (g : GoodL x) {s : PSym} (hs : s ∈ x) : ∃ b, s.name = [118, b] := by
  obtain ⟨j, hj, rfl⟩ := List.getElem_of_mem hs
  exact ⟨_, (g.at_ j hj).name⟩
theorem cells_mem {ss : List PSym} {c : PCell} (h : c ∈ cellsL ss) : ∃ s ∈ ss, c ∈ cells1 s := List.mem_flatMap.1 h
theorem mem_cells {ss : List PSym} {s : PSym} {c : PCell} (h : s ∈ ss) (k : c ∈ cells1 s) : c ∈ cellsL ss := List.mem_flatMap.2 ⟨s, h, k⟩
theorem rn_swap {x y : List PSym} (g : GoodL x) (hy : ∀ s ∈ y, s ∈ x) (v : List Int) (hv : v.length = (cellsL x).length) :
    RnH (cellsL x) (cellsL y) v (overOf (cellsL x) (cellsL y) v) true hv (by simp) := by
  intro i h
  left
  obtain ⟨s, hs, hc⟩ := cells_mem (List.getElem_mem h)
  obtain ⟨k, hk, h1, h2⟩ := find_mem (diff_cells g.apart) (mem_cells (hy s hs) hc) v hv
  exact ⟨k, hk, h1, by rw [over_at _ _ _ _ h]; exact h2, .inl rfl⟩
theorem rn_name {x : List PSym} (g : GoodL x) (k : Nat) (hk : k < x.length) (v : List Int) (hv : v.length = (cellsL x).length) :
    RnH (cellsL x) (cellsL (x.set k { x[k] with name := oth })) v (overOf (cellsL x) (cellsL (x.set k { x[k] with name := oth })) v) false hv (by simp) := by
  intro i h
  obtain ⟨s, hs, hc⟩ := cells_mem (List.getElem_mem h)
  rcases List.mem_or_eq_of_mem_set hs with hx | rfl
  · left
    obtain ⟨j, hj, h1, h2⟩ := find_mem (diff_cells g.apart) (mem_cells hx hc) v hv
    refine ⟨j, hj, h1, by rw [over_at _ _ _ _ h]; exact h2, .inr ?_⟩
    obtain ⟨r, hr⟩ := mem_path hc
    obtain ⟨b, hb⟩ := g.name118 hx
    rw [hb] at hr
    by_cases h5 : (cellsL (x.set k { x[k] with name := oth }))[i].path.length < 5
    · exact .inl h5
    · refine .inr ⟨by omega, ?_⟩
      rw [hr]
      simp [oth]
  · right
    obtain ⟨r, hr⟩ := mem_path hc
    have hr' : (cellsL (x.set k { x[k] with name := oth }))[i].path = oth ++ r := hr
    have hno : ∀ z ∈ cellsL x, z.path ≠ (cellsL (x.set k { x[k] with name := oth }))[i].path := by
      intro z hz e
      obtain ⟨s', hs', hc'⟩ := cells_mem hz
      obtain ⟨r', hr2⟩ := mem_path hc'
      obtain ⟨b, hb⟩ := g.name118 hs'
      rw [hr2, hb, hr'] at e
      simp [oth] at e
    obtain ⟨n1, n2⟩ := find_not hno
    refine ⟨rfl, by rw [hr']; simp [oth], by rw [hr']; simp [oth], n1, ?_⟩
    rw [over_at _ _ _ _ h, n2]
theorem rn_ok {x : List PSym} (g : GoodL x) (k : Nat) (hk : k < x.length) (n : List UInt8) (hn : n.length ≤ 1000) : ∀ s ∈ x.set k { x[k] with name := n }, OkSym s ∧ s.bor = false := by
  intro s hs
  rcases List.mem_or_eq_of_mem_set hs with hx | rfl
  · obtain ⟨j, hj, rfl⟩ := List.getElem_of_mem hx
    exact ⟨(g.at_ j hj).okSym, (g.at_ j hj).bor⟩
  · exact ⟨⟨(g.at_ k hk).okSym.1, hn⟩, (g.at_ k hk).bor⟩
end Go.Av
end
section
/- The law MigrateRenames, on the second machine. -/
namespace Go.Av
theorem encS_len (s : PSym) : s.enc.length = 7 := rfl
set_option maxHeartbeats 4000000 in
theorem lawRenames_ok (a : List PSym) (ns : List Int) (k : Int) (swap : Bool) (hfa : ∀ s ∈ a, s.type.fields.length ≤ 9223372036854775807) (hla : a.length ≤ 9223372036854775807) :
    iso (PC pfs) 6 [.ls (.v false false) a.length (a.flatMap PSym.enc), .ls (.v false false) ns.length (ns.flatMap encI), .i .i64 k, .b swap] = some (.b true) := by
  have f1 := few8_ok false a hla hfa
  unfold iso
  rw [PC_eq (F := pf6) rfl]
  cases h1 : few8B a with
  | false =>
    rw [h1] at f1
    simp [-prunOps, pf6, known_ok, f1]
  | true =>
    rw [h1] at f1
    obtain ⟨x, gx, ex⟩ := good8_ok false a hfa
    have hx := gx.len
    rcases Nat.eq_zero_or_pos x.length with h0 | hm0
    · have hxn : x = [] := by simpa using h0
      subst hxn
      simp at ex
      simp [-prunOps, pf6, known_ok, f1, ex]
    · obtain ⟨n, hn⟩ : ∃ n, x.length = n + 1 := ⟨x.length - 1, by omega⟩
      have hw := within_ok k (x.length : Nat) (by omega) (by omega)
      obtain ⟨j, hj⟩ : ∃ j : Nat, (j : Int) = k % (x.length : Nat) := ⟨(k % (x.length : Nat)).toNat, by have := Int.emod_nonneg k (by omega : ((x.length : Nat) : Int) ≠ 0); omega⟩
      have hjl : j < x.length := by have := Int.emod_lt_of_pos k (by omega : (0 : Int) < (x.length : Nat)); omega
      rw [← hj] at hw
      have hbor : ∀ s ∈ x, s.bor = false := fun s hs => by
        obtain ⟨i, hi, rfl⟩ := List.getElem_of_mem hs
        exact (gx.at_ i hi).bor
      have cx := cells_ok false x gx.ok (by omega)
      have lx := cellsL_le gx.ok
      have lp : (cellsL x).length ≤ 1073741824 := by omega
      have hv := values_ok false false (cellsL x) ns lp
      have vl0 := valuesOf_length (cellsL x) ns
      generalize valuesOf (cellsL x) ns = v at *
      have hz : ¬ ((n : Int) + 1 = 0) := by omega
      have ha : ∀ σ : PH, pappendNew σ 7 96 (.ls (.v false true) 0 []) (n + 1) (x.flatMap PSym.enc) = some (.ls (.fresh (n + 1) 7) (n + 1) (x.flatMap PSym.enc), σ) := fun σ => by
        have := pan_view (σ := σ) (ez := 7) (bytes := 96) (n := n + 1) (sn := 0) (b := false) (cs := []) (new := x.flatMap PSym.enc) rfl (by omega) (by omega) (.inl rfl)
        simpa using this
      have sx : psub (x.flatMap PSym.enc) 0 ((n + 1) * 7) = some (x.flatMap PSym.enc) := psub_all (by rw [flat_lenS, hn])
      cases swap with
      | true =>
        have s0 := S_at 0 x hm0
        have sj := S_at j x hjl
        have p1 := splice_flat (enc := PSym.enc) (k := 7) (fun _ => rfl) x 0 x[j] hm0
        have p2 := splice_flat (enc := PSym.enc) (k := 7) (fun _ => rfl) (x.set 0 x[j]) j x[0] (by simpa using hjl)
        obtain ⟨y, hy⟩ : ∃ y, y = (x.set 0 x[j]).set j x[0] := ⟨_, rfl⟩
        rw [← hy] at p2
        have hyx : ∀ s ∈ y, s ∈ x := by
          intro s hs
          rw [hy] at hs
          rcases List.mem_or_eq_of_mem_set hs with h | rfl
          · rcases List.mem_or_eq_of_mem_set h with h | rfl
            · exact h
            · simp
          · simp
        have hyo : ∀ s ∈ y, OkSym s := fun s hs => gx.ok s (hyx s hs)
        have hyb : ∀ s ∈ y, s.bor = false := fun s hs => hbor s (hyx s hs)
        have hR := rn_swap gx hyx v vl0
        have hyl : y.length = x.length := by rw [hy]; simp
        have cy := cells_ok true y hyo (by omega)
        have ly := cellsL_le hyo
        have lq : (cellsL y).length ≤ 1073741824 := by omega
        obtain ⟨r3, m3, e3⟩ := mcells_ok false false false (cellsL x) (cellsL y) v lp lq
        have wl : (overOf (cellsL x) (cellsL y) v).length = (cellsL y).length := by simp
        obtain ⟨t', g⟩ := rn_loop (cellsL x) (cellsL y) v (overOf (cellsL x) (cellsL y) v) true vl0 wl lp lq hR (.ls (.v false false) a.length (a.flatMap PSym.enc)) (.ls (.v false false) ns.length (ns.flatMap encI)) (.i .i64 (j : Nat)) (.b false) (.ls (.v false false) x.length (x.flatMap PSym.enc)) (.sl 0 0 (n + 1) none) (.b false) (.b false) (.b false) (.b true) ⟨[.cells (y.flatMap PSym.enc) 7], 0, [], 0⟩ ⟨.und, .und, .und, .und⟩
        simp only [stRn] at g
        have sy : psub (y.flatMap PSym.enc) 0 ((n + 1) * 7) = some (y.flatMap PSym.enc) := psub_all (by rw [flat_lenS, hyl, hn])
        have hlen : ∀ σ, mapO (lendC 7 σ) (y.flatMap PSym.enc) = some (y.flatMap PSym.enc) := fun σ => lend_shutL (shutS hyb)
        have hclo : ∀ σ, mapC (clo 8) σ (x.flatMap PSym.enc) = some (x.flatMap PSym.enc, σ) := fun σ => clo_shutL (shutS hbor)
        clear hR
        generalize overOf (cellsL x) (cellsL y) v = w at *
        generalize cellsL x = P at *
        generalize cellsL y = Q at *
        rw [hyl] at cy
        have hjl2 : j < n + 1 := by omega
        simp only [hn] at *
        simp [vl, vl0, wl] at g hv m3 e3 cx cy ex hw
        simp at s0 sj p1 p2
        rcases e3 with rfl | rfl
        all_goals
          simp [-prunOps, pf6, known_ok, f1, ex, hz, cx, hv, sx, hclo, ha, hw, hjl2, s0, sj, p1, p2, okS, encS_len]
          simp [-prunOps, sy, hlen, cy, m3, wl]
          simp [-prunOps, g, wl]
      | false =>
        have p1 := splice_fld (enc := PSym.enc) (k := 7) (fun _ => rfl) x j hjl 0 (by omega) (.s oth) { x[j] with name := oth } rfl
        have hR := rn_name gx j hjl v vl0
        have hok := rn_ok gx j hjl oth (by simp [oth])
        obtain ⟨y, hy⟩ : ∃ y, y = x.set j { x[j] with name := oth } := ⟨_, rfl⟩
        rw [← hy] at p1 hok
        have hR' : RnH (cellsL x) (cellsL y) v (overOf (cellsL x) (cellsL y) v) false vl0 (by simp) := by subst hy; exact hR
        clear hR
        have hyo : ∀ s ∈ y, OkSym s := fun s hs => (hok s hs).1
        have hyb : ∀ s ∈ y, s.bor = false := fun s hs => (hok s hs).2
        have hyl : y.length = x.length := by rw [hy]; simp
        have cy := cells_ok true y hyo (by omega)
        have ly := cellsL_le hyo
        have lq : (cellsL y).length ≤ 1073741824 := by omega
        obtain ⟨r3, m3, e3⟩ := mcells_ok false false false (cellsL x) (cellsL y) v lp lq
        have wl : (overOf (cellsL x) (cellsL y) v).length = (cellsL y).length := by simp
        obtain ⟨t', g⟩ := rn_loop (cellsL x) (cellsL y) v (overOf (cellsL x) (cellsL y) v) false vl0 wl lp lq hR' (.ls (.v false false) a.length (a.flatMap PSym.enc)) (.ls (.v false false) ns.length (ns.flatMap encI)) (.i .i64 (j : Nat)) (.b false) (.ls (.v false false) x.length (x.flatMap PSym.enc)) (.sl 0 0 (n + 1) none) (.b false) (.b false) (.b false) (.b false) ⟨[.cells (y.flatMap PSym.enc) 7], 0, [], 0⟩ ⟨.und, .und, .und, .und⟩
        simp only [stRn] at g
        have sy : psub (y.flatMap PSym.enc) 0 ((n + 1) * 7) = some (y.flatMap PSym.enc) := psub_all (by rw [flat_lenS, hyl, hn])
        have hlen : ∀ σ, mapO (lendC 7 σ) (y.flatMap PSym.enc) = some (y.flatMap PSym.enc) := fun σ => lend_shutL (shutS hyb)
        have hclo : ∀ σ, mapC (clo 8) σ (x.flatMap PSym.enc) = some (x.flatMap PSym.enc, σ) := fun σ => clo_shutL (shutS hbor)
        clear hR'
        generalize overOf (cellsL x) (cellsL y) v = w at *
        generalize cellsL x = P at *
        generalize cellsL y = Q at *
        rw [hyl] at cy
        have hjl2 : j < n + 1 := by omega
        simp only [hn] at *
        simp [vl, vl0, wl] at g hv m3 e3 cx cy ex hw
        simp [oth] at p1
        rcases e3 with rfl | rfl
        all_goals
          simp [-prunOps, pf6, known_ok, f1, ex, hz, cx, hv, sx, hclo, ha, hw, hjl2, p1]
          simp [-prunOps, sy, hlen, cy, m3, wl]
          simp [-prunOps, g, wl]
end Go.Av
end
section
/- Contracts: ref7.Check of good types: it answers. -/
namespace Go.Av
/-- A loop that may answer, or end. -/
theorem for_any {f : PSt → Option (Ex × PSt)} {T : Type} (k : Nat) (σ : Nat → T → PSt) (I : Nat → T → Prop) (R E : PSt → Prop) (n : Nat)
    (hs : ∀ i, i < n → ∀ t, I i t → (∃ t', f (σ i t) = some (.norm, σ (i + 1) t') ∧ I (i + 1) t') ∨ (∃ s, f (σ i t) = some (.ret, s) ∧ R s))
    (he : ∀ t, I n t → ∃ s, f (σ n t) = some (.exit k, s) ∧ E s) (t : T) (h0 : I 0 t) : (∃ s, piterL f (σ 0 t) = some (.ret, s) ∧ R s) ∨ (∃ s, piterL f (σ 0 t) = some (.exit k, s) ∧ E s) := by
  have key : ∀ m i, i + m = n → ∀ t, I i t → (∃ s, piterL f (σ i t) = some (.ret, s) ∧ R s) ∨ (∃ s, piterL f (σ i t) = some (.exit k, s) ∧ E s) := by
    intro m
    induction m with
    | zero =>
      intro i hi t ht
      have : i = n := by omega
      subst this
      obtain ⟨s, h, hr⟩ := he t ht
      exact .inr ⟨s, by rw [piterL_eq, h], hr⟩
    | succ m ih =>
      intro i hi t ht
      rcases hs i (by omega) t ht with ⟨t1, h1, ht1⟩ | ⟨s, h, hr⟩
      · rcases ih (i + 1) (by omega) t1 ht1 with ⟨s, h2, hr⟩ | ⟨s, h2, hr⟩
        · exact .inl ⟨s, by rw [piterL_eq, h1]; exact h2, hr⟩
        · exact .inr ⟨s, by rw [piterL_eq, h1]; exact h2, hr⟩
      · exact .inl ⟨s, by rw [piterL_eq, h], hr⟩
  exact key n 0 (by omega) t h0
theorem seq_ret {call : PCall} {a b : PCode} {s s' : PSt} (h : pdenL call a s = some (.ret, s')) : pdenL call (.seq a b) s = some (.ret, s') := by rw [pdenL, h]
theorem blk_ret {call : PCall} {c : PCode} {k : Nat} {s s' : PSt} (h : pdenL call c s = some (.ret, s')) : pdenL call (.blk k c) s = some (.ret, s') := by rw [pdenL, h]
/-! ## The loops over fields -/
structure T7 where
  a : PV
  b : PV
  c : PV
  d : PV
  e : PV
  f : PV
def st7 (t : PTy) (v2 v5 v6 v7 v8 v9 v10 v11 : PV) (i : Nat) (x : T7) : PSt :=
  ⟨[.agg t.enc, .p 0 0, v2, .i .i64 (i : Nat), x.a, v5, v6, v7, v8, v9, v10, v11, x.b, x.c, x.d, x.e, x.f], ⟨[.cells t.enc 0], 0, [], 0⟩⟩
def st7i (t : PTy) (i : Nat) (v2 v5 v6 v7 v8 v9 v10 v11 v12 v13 v16 : PV) (k : Nat) (x : PV × PV) : PSt :=
  ⟨[.agg t.enc, .p 0 0, v2, .i .i64 (i : Nat), .i .i64 (k : Nat), v5, v6, v7, v8, v9, v10, v11, v12, v13, x.1, x.2, v16], ⟨[.cells t.enc 0], 0, [], 0⟩⟩
/-- A state in which the answer is a number. -/
def IsNum (n : Nat) (s : PSt) : Prop := ∃ r, pnth s.vs n = .i .i64 r
theorem c7_in (t : PTy) (i : Nat) (hi : i < t.fields.length) (hl : t.fields.length ≤ 1000) (v2 v5 v6 v7 v8 v9 v10 v11 v12 v13 v16 : PV) (x : PV × PV) :
    (∃ s, piterL (pdenL (PC pfs) lp30_1) (st7i t i v2 v5 v6 v7 v8 v9 v10 v11 v12 v13 v16 0 x) = some (.ret, s) ∧ IsNum 2 s) ∨
    (∃ s, piterL (pdenL (PC pfs) lp30_1) (st7i t i v2 v5 v6 v7 v8 v9 v10 v11 v12 v13 v16 0 x) = some (.exit 3, s) ∧ ∃ x', s = st7i t i v2 v5 v6 v7 v8 v9 v10 v11 v12 v13 v16 i x') := by
  refine @for_any (pdenL (PC pfs) lp30_1) (PV × PV) 3 (st7i t i v2 v5 v6 v7 v8 v9 v10 v11 v12 v13 v16) (fun _ _ => True) (IsNum 2) _ i ?_ ?_ x trivial
  · intro k hk x _
    have hkf : k < t.fields.length := by omega
    by_cases e : t.fields[k].name = t.fields[i].name
    · right
      refine ⟨⟨[.agg t.enc, .p 0 0, .i .i64 16, .i .i64 (i : Nat), .i .i64 (k : Nat), v5, v6, v7, v8, v9, v10, v11, v12, v13, .b true, .b true, v16], ⟨[.cells t.enc 0], 0, [], 0⟩⟩, ?_, 16, rfl⟩
      simp [-prunOps, st7i, lp30_1, hk, hkf, hi, T3, vl, F_name k t.fields hkf, F_name i t.fields hi, e]
    · left
      refine ⟨(.b true, .b false), ?_, trivial⟩
      simp [-prunOps, st7i, lp30_1, hk, hkf, hi, T3, vl, F_name k t.fields hkf, F_name i t.fields hi, e, awrap_nat1 (n := k) (by omega)]
  · intro x _
    refine ⟨st7i t i v2 v5 v6 v7 v8 v9 v10 v11 v12 v13 v16 i (.b false, x.2), ?_, _, rfl⟩
    simp [-prunOps, st7i, lp30_1]
theorem c7_out (t : PTy) (hl : t.fields.length ≤ 1000) (hn : ∀ f ∈ t.fields, f.name.length ≤ 1000) (v5 v6 v7 v8 v9 v10 v11 : PV) (x : T7) :
    (∃ s, piterL (pdenL (PC pfs) lp30_2) (st7 t (.i .i64 0) v5 v6 v7 v8 v9 v10 v11 0 x) = some (.ret, s) ∧ IsNum 2 s) ∨
    (∃ s, piterL (pdenL (PC pfs) lp30_2) (st7 t (.i .i64 0) v5 v6 v7 v8 v9 v10 v11 0 x) = some (.exit 1, s) ∧ ∃ x', s = st7 t (.i .i64 0) v5 v6 v7 v8 v9 v10 v11 t.fields.length x') := by
  refine @for_any (pdenL (PC pfs) lp30_2) T7 1 (st7 t (.i .i64 0) v5 v6 v7 v8 v9 v10 v11) (fun _ _ => True) (IsNum 2) _ t.fields.length ?_ ?_ x trivial
  · intro i hi x _
    have hname := name_ok t.fields[i].name 8 (by have := hn t.fields[i] (by simp); omega)
    have hval := value_ok t.fields[i].kind
    simp at hname
    cases h1 : nameOk t.fields[i].name 8 with
    | false =>
      rw [h1] at hname
      right
      refine ⟨⟨[.agg t.enc, .p 0 0, .i .i64 16, .i .i64 (i : Nat), x.a, v5, v6, v7, v8, v9, v10, v11, .b true, .b true, x.d, x.e, x.f], ⟨[.cells t.enc 0], 0, [], 0⟩⟩, ?_, 16, rfl⟩
      simp [-prunOps, st7, lp30_2, hi, T3, vl, F_name i t.fields hi, hname]
    | true =>
      rw [h1] at hname
      rcases c7_in t i hi hl (.i .i64 0) v5 v6 v7 v8 v9 v10 v11 (.b true) (.b false) x.f (x.d, x.e) with ⟨s, hin, hr⟩ | ⟨s, hin, y, rfl⟩
      · right
        refine ⟨s, ?_, hr⟩
        simp only [st7i] at hin
        simp at hin
        simp [-prunOps, st7, lp30_2, hi, T3, vl, F_name i t.fields hi, hname]
        simp [-prunOps, hin]
      · simp only [st7i] at hin
        simp at hin
        by_cases hk : 1 ≤ t.fields[i].kind ∧ t.fields[i].kind ≤ 6
        · have hv : (decide (1 ≤ t.fields[i].kind) && decide (t.fields[i].kind ≤ 6)) = true := by simp [hk]
          rw [hv] at hval
          left
          refine ⟨⟨.i .i64 (i : Nat), .b true, .b false, y.1, y.2, .b false⟩, ?_, trivial⟩
          simp [-prunOps, st7, lp30_2, hi, T3, vl, F_name i t.fields hi, hname]
          simp [-prunOps, hin, hi, T3, vl, F_kind i t.fields hi, hval, awrap_nat1 (n := i) (by omega)]
        · have hv : (decide (1 ≤ t.fields[i].kind) && decide (t.fields[i].kind ≤ 6)) = false := by
            by_cases a : 1 ≤ t.fields[i].kind
            · have b : ¬ t.fields[i].kind ≤ 6 := fun b => hk ⟨a, b⟩
              simp [b]
            · simp [a]
          rw [hv] at hval
          right
          refine ⟨⟨[.agg t.enc, .p 0 0, .i .i64 3, .i .i64 (i : Nat), .i .i64 (i : Nat), v5, v6, v7, v8, v9, v10, v11, .b true, .b false, y.1, y.2, .b true], ⟨[.cells t.enc 0], 0, [], 0⟩⟩, ?_, 3, rfl⟩
          simp [-prunOps, st7, lp30_2, hi, T3, vl, F_name i t.fields hi, hname]
          simp [-prunOps, hin, hi, T3, vl, F_kind i t.fields hi, hval]
  · intro x _
    refine ⟨st7 t (.i .i64 0) v5 v6 v7 v8 v9 v10 v11 t.fields.length ⟨x.a, .b false, x.c, x.d, x.e, x.f⟩, ?_, _, rfl⟩
    simp [-prunOps, st7, lp30_2, T3, vl]
theorem chk7_ok (t0 : PTy) : ∃ r, iso (PC pfs) 30 [.agg (goodT t0).enc] = some (.i .i64 r) := by
  have hok := goodT_ok t0
  have hk := goodT_kind t0
  have k1 : 1 ≤ (goodT t0).kind := hok.1
  have k2 : (goodT t0).kind ≤ 10 := hok.2.1
  have he : (goodT t0).kind ≠ 7 → (goodT t0).elem = 0 ∧ (goodT t0).n = 0 := by
    intro h
    unfold goodT at h ⊢
    split
    · rename_i h7; rw [if_pos h7] at h; exact absurd rfl h
    · split <;> exact ⟨rfl, rfl⟩
  have hf : (goodT t0).kind ≠ 8 → (goodT t0).fields = [] := by
    intro h
    rw [hk] at h
    unfold goodT
    split
    · rfl
    · rfl
  have h7 : (goodT t0).kind = 7 → 1 ≤ (goodT t0).elem ∧ (goodT t0).elem ≤ 6 ∧ 1 ≤ (goodT t0).n ∧ (goodT t0).n ≤ 32 := by
    intro h
    rw [hk] at h
    unfold goodT
    rw [if_pos h]
    simp only
    omega
  have h8 : (goodT t0).kind = 8 → 1 ≤ (goodT t0).fields.length ∧ (goodT t0).fields.length ≤ 6 := by
    intro h
    rw [hk] at h
    have : (goodT t0).fields = goodFs t0 (1 + t0.n % 4).toNat := by
      unfold goodT; rw [if_neg (by omega), if_pos h]
    rw [this]; simp; omega
  have hnm := hok.2.2.2.2.2
  generalize goodT t0 = t at *
  have n1 : ¬ t.kind < 1 := by omega
  have n2 : ¬ 10 < t.kind := by omega
  by_cases e7 : t.kind = 7
  · obtain ⟨a1, a2, a3, a4⟩ := h7 e7
    have hf0 := hf (by omega)
    have hval := value_ok t.elem
    have hv : (decide (1 ≤ t.elem) && decide (t.elem ≤ 6)) = true := by simp [a1, a2]
    rw [hv] at hval
    have b1 : ¬ t.n < 1 := by omega
    have b2 : ¬ 32 < t.n := by omega
    refine ⟨0, ?_⟩
    unfold iso
    rw [PC_eq (F := pf30) rfl]
    simp [-prunOps, pf30, okT, T0, T1, T2, T3, vl, e7, hf0, hval, b1, b2]
  · obtain ⟨a1, a2⟩ := he e7
    by_cases e8 : t.kind = 8
    · obtain ⟨a3, a4⟩ := h8 e8
      have b1 : ¬ (t.fields.length : Int) < 1 := by omega
      have b2 : ¬ (6 : Int) < (t.fields.length : Nat) := by omega
      rcases c7_out t (by omega) (fun f hf => hnm f hf) (.b false) (.b false) (.b false) (.b false) (.b false) (.b false) (.b false) ⟨.und, .und, .und, .und, .und, .und⟩ with ⟨s, hin, r, hr⟩ | ⟨s, hin, x', rfl⟩
      · refine ⟨r, ?_⟩
        unfold iso
        rw [PC_eq (F := pf30) rfl]
        simp only [st7] at hin
        simp at hin
        simp [-prunOps, pf30, okT, T0, T1, T2, T3, vl, e8, a1, a2, b1, b2]
        simp [-prunOps, hin, hr]
      · refine ⟨0, ?_⟩
        unfold iso
        rw [PC_eq (F := pf30) rfl]
        simp only [st7] at hin
        simp at hin
        simp [-prunOps, pf30, okT, T0, T1, T2, T3, vl, e8, a1, a2, b1, b2]
        simp [-prunOps, hin]
    · have hf0 := hf e8
      refine ⟨0, ?_⟩
      unfold iso
      rw [PC_eq (F := pf30) rfl]
      simp [-prunOps, pf30, okT, T0, T1, T2, T3, vl, n1, n2, e7, e8, a1, a2, hf0]
end Go.Av
end
section
/- Contracts: ref8.Check of good variables: it answers. -/
namespace Go.Av
def s8 (b : Bool) (l : List PSym) (v1 v2 v3 v4 v5 v6 v7 v8 v9 v10 v11 v12 v13 v14 v15 v16 v17 v18 v19 v20 v21 : PV) : PSt :=
  ⟨[.ls (.v b false) l.length (l.flatMap PSym.enc), v1, v2, v3, v4, v5, v6, v7, v8, v9, v10, v11, v12, v13, v14, v15, v16, v17, v18, v19, v20, v21], ⟨[], 0, [], 0⟩⟩
theorem c8_names (b : Bool) (l : List PSym) (i : Nat) (hi : i < l.length) (hl : l.length ≤ 1000) (v1 v2 v3 v6 v7 v8 v9 v10 v11 v12 v15 v16 v17 v18 v19 v20 v21 : PV) (x : PV × PV) :
    (∃ s, piterL (pdenL (PC pfs) lp22_1) (s8 b l v1 v2 v3 (.i .i64 (i : Nat)) (.i .i64 (0 : Nat)) v6 v7 v8 v9 v10 v11 v12 x.1 x.2 v15 v16 v17 v18 v19 v20 v21) = some (.ret, s) ∧ IsNum 1 s) ∨
    (∃ s, piterL (pdenL (PC pfs) lp22_1) (s8 b l v1 v2 v3 (.i .i64 (i : Nat)) (.i .i64 (0 : Nat)) v6 v7 v8 v9 v10 v11 v12 x.1 x.2 v15 v16 v17 v18 v19 v20 v21) = some (.exit 2, s) ∧
      ∃ x' : PV × PV, s = s8 b l v1 v2 v3 (.i .i64 (i : Nat)) (.i .i64 (i : Nat)) v6 v7 v8 v9 v10 v11 v12 x'.1 x'.2 v15 v16 v17 v18 v19 v20 v21) := by
  refine @for_any (pdenL (PC pfs) lp22_1) (PV × PV) 2 (fun k x => s8 b l v1 v2 v3 (.i .i64 (i : Nat)) (.i .i64 (k : Nat)) v6 v7 v8 v9 v10 v11 v12 x.1 x.2 v15 v16 v17 v18 v19 v20 v21) (fun _ _ => True) (IsNum 1) _ i ?_ ?_ x trivial
  · intro k hk x _
    have hkl : k < l.length := by omega
    by_cases e : l[k].name = l[i].name
    · right
      refine ⟨s8 b l (.i .i64 16) v2 v3 (.i .i64 (i : Nat)) (.i .i64 (k : Nat)) v6 v7 v8 v9 v10 v11 v12 (.b true) (.b true) v15 v16 v17 v18 v19 v20 v21, ?_, 16, rfl⟩
      simp [-prunOps, s8, lp22_1, hk, hkl, hi, S_name k l hkl, S_name i l hi, e]
    · left
      refine ⟨(.b true, .b false), ?_, trivial⟩
      simp [-prunOps, s8, lp22_1, hk, hkl, hi, S_name k l hkl, S_name i l hi, e, awrap_nat1 (n := k) (by omega)]
  · intro x _
    refine ⟨s8 b l v1 v2 v3 (.i .i64 (i : Nat)) (.i .i64 (i : Nat)) v6 v7 v8 v9 v10 v11 v12 (.b false) x.2 v15 v16 v17 v18 v19 v20 v21, ?_, (.b false, x.2), rfl⟩
    simp [-prunOps, s8, lp22_1]
theorem c8_wrap (b : Bool) (l : List PSym) (cs : List PCell) (hl : cs.length ≤ 1000) (v1 v2 v3 v4 v5 v6 v10 v11 v12 v13 v14 v15 v16 v17 v20 v21 : PV) (x : PV × PV) :
    (∃ s, piterL (pdenL (PC pfs) lp22_2) (s8 b l v1 v2 v3 v4 v5 v6 (.i .i64 (cs.length : Nat)) (.ls (.v false false) cs.length (cs.flatMap PCell.enc)) (.i .i64 (0 : Nat)) v10 v11 v12 v13 v14 v15 v16 v17 x.1 x.2 v20 v21) = some (.ret, s) ∧ IsNum 1 s) ∨
    (∃ s, piterL (pdenL (PC pfs) lp22_2) (s8 b l v1 v2 v3 v4 v5 v6 (.i .i64 (cs.length : Nat)) (.ls (.v false false) cs.length (cs.flatMap PCell.enc)) (.i .i64 (0 : Nat)) v10 v11 v12 v13 v14 v15 v16 v17 x.1 x.2 v20 v21) = some (.exit 4, s) ∧
      ∃ x' : PV × PV, s = s8 b l v1 v2 v3 v4 v5 v6 (.i .i64 (cs.length : Nat)) (.ls (.v false false) cs.length (cs.flatMap PCell.enc)) (.i .i64 (cs.length : Nat)) v10 v11 v12 v13 v14 v15 v16 v17 x'.1 x'.2 v20 v21) := by
  refine @for_any (pdenL (PC pfs) lp22_2) (PV × PV) 4 (fun k x => s8 b l v1 v2 v3 v4 v5 v6 (.i .i64 (cs.length : Nat)) (.ls (.v false false) cs.length (cs.flatMap PCell.enc)) (.i .i64 (k : Nat)) v10 v11 v12 v13 v14 v15 v16 v17 x.1 x.2 v20 v21) (fun _ _ => True) (IsNum 1) _ cs.length ?_ ?_ x trivial
  · intro k hk x _
    have hw := wrap_ok cs[k].kind cs[k].init
    by_cases e : wrapK cs[k].kind cs[k].init = cs[k].init
    · left
      refine ⟨(.b true, .b false), ?_, trivial⟩
      simp [-prunOps, s8, lp22_2, hk, C_kind k cs hk, C_init k cs hk, hw, e, awrap_nat1 (n := k) (by omega)]
    · right
      refine ⟨s8 b l (.i .i64 11) v2 v3 v4 v5 v6 (.i .i64 (cs.length : Nat)) (.ls (.v false false) cs.length (cs.flatMap PCell.enc)) (.i .i64 (k : Nat)) v10 v11 v12 v13 v14 v15 v16 v17 (.b true) (.b true) v20 v21, ?_, 11, rfl⟩
      simp [-prunOps, s8, lp22_2, hk, C_kind k cs hk, C_init k cs hk, hw, e]
  · intro x _
    refine ⟨s8 b l v1 v2 v3 v4 v5 v6 (.i .i64 (cs.length : Nat)) (.ls (.v false false) cs.length (cs.flatMap PCell.enc)) (.i .i64 (cs.length : Nat)) v10 v11 v12 v13 v14 v15 v16 v17 (.b false) x.2 v20 v21, ?_, (.b false, x.2), rfl⟩
    simp [-prunOps, s8, lp22_2]
end Go.Av
end
section
/- Contracts: ref8.Check of good variables. -/
namespace Go.Av
/-- Variables that may be checked: their types are good. -/
structure Chk (l : List PSym) : Prop where
  ok : ∀ s ∈ l, OkSym s
  type : ∀ s ∈ l, ∃ t, s.type = goodT t
  bor : ∀ s ∈ l, s.bor = false
structure T8 where
  n : Nat
  kept : Nat
  v5 : PV
  v6 : PV
  v7 : PV
  v8 : PV
  v9 : PV
  v11 : PV
  v12 : PV
  v13 : PV
  v14 : PV
  v15 : PV
  v16 : PV
  v17 : PV
  v18 : PV
  v19 : PV
  v20 : PV
def st8 (b : Bool) (l : List PSym) (v1 v10 v21 : PV) (i : Nat) (t : T8) : PSt :=
  s8 b l v1 (.i .i64 (t.n : Nat)) (.i .i64 (t.kept : Nat)) (.i .i64 (i : Nat)) t.v5 t.v6 t.v7 t.v8 t.v9 v10 t.v11 t.v12 t.v13 t.v14 t.v15 t.v16 t.v17 t.v18 t.v19 t.v20 v21
def Inv8 (t : T8) : Prop := t.n ≤ 64 ∧ t.kept ≤ t.n
set_option maxHeartbeats 4000000 in
theorem c8_round (b : Bool) (l : List PSym) (hl : l.length ≤ 1000) (hc : Chk l) (v10 v21 : PV) (i : Nat) (hi : i < l.length) (t : T8) (ht : Inv8 t) :
    (∃ t', pdenL (PC pfs) lp22_3 (st8 b l (.i .i64 0) v10 v21 i t) = some (.norm, st8 b l (.i .i64 0) v10 v21 (i + 1) t') ∧ Inv8 t') ∨ (∃ s, pdenL (PC pfs) lp22_3 (st8 b l (.i .i64 0) v10 v21 i t) = some (.ret, s) ∧ IsNum 1 s) := by
  obtain ⟨n, kept, w5, w6, w7, w8, w9, w11, w12, w13, w14, w15, w16, w17, w18, w19, w20⟩ := t
  obtain ⟨hn, hkept⟩ := ht
  simp only at hn hkept
  have hok := hc.ok l[i] (by simp)
  obtain ⟨ty, hty⟩ := hc.type l[i] (by simp)
  have hname := name_ok l[i].name 12 (by have := hok.2; omega)
  simp at hname
  have hle : ∀ σ, mapO (lendC 8 σ) l[i].type.enc = some l[i].type.enc := fun σ => lend_shutL (by simp [ShutL, PTy.enc, Shut, vl])
  have hlS : ∀ σ, mapO (lendC 8 σ) l[i].enc = some l[i].enc := fun σ => lend_shutL (by have := hc.bor l[i] (by simp); simp [ShutL, PSym.enc, Shut, vl, this])
  obtain ⟨r7, h7⟩ := chk7_ok ty
  rw [← hty] at h7
  obtain ⟨N, hN⟩ : ∃ N : Nat, (N : Int) = sizeOf' l[i].type := ⟨(sizeOf' l[i].type).toNat, by have := (size_pos hok.1).1; omega⟩
  have hs := size_ok l[i].type (by have := hok.1.2.2.2.2.1; omega)
  rw [← hN] at hs
  have hN2 : N ≤ 1000 := by have := (size_pos hok.1).2; omega
  have hof := of_ok hok
  have hcl : (cells1 l[i]).length = N := by have := cells1_len l[i] hok.1; omega
  generalize cells1 l[i] = cs at *
  subst hcl
  have nn : awrap .i64 ((n : Int) + cs.length) = ((n + cs.length : Nat) : Int) := by rw [awrap_id (by omega) (by omega)]; omega
  have kn : awrap .i64 ((kept : Int) + cs.length) = ((kept + cs.length : Nat) : Int) := by rw [awrap_id (by omega) (by omega)]; omega
  simp [vl] at hof
  cases h1 : nameOk l[i].name 12 with
  | false =>
    rw [h1] at hname
    right
    refine ⟨s8 b l (.i .i64 16) (.i .i64 (n : Nat)) (.i .i64 (kept : Nat)) (.i .i64 (i : Nat)) w5 w6 w7 w8 w9 v10 (.b true) (.b true) w13 w14 w15 w16 w17 w18 w19 w20 v21, ?_, 16, rfl⟩
    simp [-prunOps, st8, s8, lp22_3, hi, S_name i l hi, hname]
  | true =>
    rw [h1] at hname
    rcases c8_names b l i hi hl (.i .i64 0) (.i .i64 (n : Nat)) (.i .i64 (kept : Nat)) w6 w7 w8 w9 v10 (.b true) (.b false) w15 w16 w17 w18 w19 w20 v21 (w13, w14) with ⟨s, hin, hr⟩ | ⟨s, hin, y, rfl⟩
    · right
      refine ⟨s, ?_, hr⟩
      simp only [s8] at hin
      simp at hin
      simp [-prunOps, st8, s8, lp22_3, hi, S_name i l hi, hname]
      simp [-prunOps, hin]
    · simp only [s8] at hin
      simp at hin
      by_cases hr7 : r7 = 0
      · subst hr7
        by_cases h64 : 64 < n + cs.length
        · have h64' : (64 : Int) < ((n + cs.length : Nat) : Int) := by omega
          right
          refine ⟨s8 b l (.i .i64 4) (.i .i64 ((n + cs.length : Nat) : Int)) (.i .i64 (kept : Nat)) (.i .i64 (i : Nat)) (.i .i64 (i : Nat)) (.i .i64 0) (.i .i64 cs.length) w8 w9 v10 (.b true) (.b false) y.1 y.2 (.b false) (.b true) w17 w18 w19 w20 v21, ?_, 4, rfl⟩
          simp [-prunOps, st8, s8, lp22_3, hi, S_name i l hi, hname]
          simp [-prunOps, -Int.natCast_add, hin, hi, S_type i l hi, hle, h7, hs, nn, h64']
          omega
        · have h64' : ¬ (64 : Int) < ((n + cs.length : Nat) : Int) := by omega
          by_cases hil : l[i].init.length = cs.length
          · have hil' : ((l[i].init.length : Nat) : Int) = (cs.length : Nat) := by omega
            rcases c8_wrap b l cs hN2 (.i .i64 0) (.i .i64 ((n + cs.length : Nat) : Int)) (.i .i64 (kept : Nat)) (.i .i64 (i : Nat)) (.i .i64 (i : Nat)) (.i .i64 0) v10 (.b true) (.b false) y.1 y.2 (.b false) (.b false) (.b false) w20 v21 (w18, w19) with ⟨s, hin2, hr⟩ | ⟨s, hin2, z, rfl⟩
            · right
              refine ⟨s, ?_, hr⟩
              simp only [s8] at hin2
              simp [-Int.natCast_add] at hin2
              simp [-prunOps, st8, s8, lp22_3, hi, S_name i l hi, hname]
              simp [-prunOps, -Int.natCast_add, hin, hi, S_type i l hi, S_init i l hi, S_at i l hi, hle, hlS, h7, hs, nn, h64', hil, hof]
              simp [-prunOps, -Int.natCast_add, hin2]
            · simp only [s8] at hin2
              simp [-Int.natCast_add] at hin2
              left
              cases hret : l[i].retain with
              | false =>
                refine ⟨⟨n + cs.length, kept, .i .i64 (i : Nat), .i .i64 0, .i .i64 cs.length, .ls (.v false false) cs.length (cs.flatMap PCell.enc), .i .i64 cs.length, .b true, .b false, y.1, y.2, .b false, .b false, .b false, z.1, z.2, .b false⟩, ?_, by show n + cs.length ≤ 64; omega, by show kept ≤ n + cs.length; omega⟩
                simp [-prunOps, st8, s8, lp22_3, hi, S_name i l hi, hname]
                simp [-prunOps, -Int.natCast_add, hin, hi, S_type i l hi, S_init i l hi, S_at i l hi, hle, hlS, h7, hs, nn, h64', hil, hof]
                simp [-prunOps, -Int.natCast_add, hin2, hi, S_retain i l hi, hret, awrap_nat1 (n := i) (by omega)]
                omega
              | true =>
                refine ⟨⟨n + cs.length, kept + cs.length, .i .i64 (i : Nat), .i .i64 0, .i .i64 cs.length, .ls (.v false false) cs.length (cs.flatMap PCell.enc), .i .i64 cs.length, .b true, .b false, y.1, y.2, .b false, .b false, .b false, z.1, z.2, .b true⟩, ?_, by show n + cs.length ≤ 64; omega, by show kept + cs.length ≤ n + cs.length; omega⟩
                simp [-prunOps, st8, s8, lp22_3, hi, S_name i l hi, hname]
                simp [-prunOps, -Int.natCast_add, hin, hi, S_type i l hi, S_init i l hi, S_at i l hi, hle, hlS, h7, hs, nn, h64', hil, hof]
                simp [-prunOps, -Int.natCast_add, hin2, hi, S_retain i l hi, hret, kn, awrap_nat1 (n := i) (by omega)]
                refine ⟨?_, ?_⟩ <;> omega
          · have hil2 : ¬ ((l[i].init.length : Nat) : Int) = (cs.length : Nat) := by omega
            right
            refine ⟨s8 b l (.i .i64 1) (.i .i64 ((n + cs.length : Nat) : Int)) (.i .i64 (kept : Nat)) (.i .i64 (i : Nat)) (.i .i64 (i : Nat)) (.i .i64 0) (.i .i64 cs.length) w8 w9 v10 (.b true) (.b false) y.1 y.2 (.b false) (.b false) (.b true) w18 w19 w20 v21, ?_, 1, rfl⟩
            simp [-prunOps, st8, s8, lp22_3, hi, S_name i l hi, hname]
            simp [-prunOps, -Int.natCast_add, hin, hi, S_type i l hi, S_init i l hi, hle, h7, hs, nn, h64', hil2]
            omega
      · right
        refine ⟨s8 b l (.i .i64 r7) (.i .i64 (n : Nat)) (.i .i64 (kept : Nat)) (.i .i64 (i : Nat)) (.i .i64 (i : Nat)) (.i .i64 r7) w7 w8 w9 v10 (.b true) (.b false) y.1 y.2 (.b true) w16 w17 w18 w19 w20 v21, ?_, r7, rfl⟩
        simp [-prunOps, st8, s8, lp22_3, hi, S_name i l hi, hname]
        simp [-prunOps, hin, hi, S_type i l hi, hle, h7, hr7]
end Go.Av
end
section
/- Contracts: ref8.Check. -/
namespace Go.Av
theorem chk8_ok (b : Bool) (l : List PSym) (hl : l.length ≤ 1000) (hc : Chk l) : ∃ r, iso (PC pfs) 22 [.ls (.v b false) l.length (l.flatMap PSym.enc)] = some (.i .i64 r) := by
  by_cases h12 : 12 < l.length
  · have h12' : (12 : Int) < (l.length : Nat) := by omega
    refine ⟨4, ?_⟩
    unfold iso
    rw [PC_eq (F := pf22) rfl]
    simp [-prunOps, pf22, h12']
  · have h12' : ¬ (12 : Int) < (l.length : Nat) := by omega
    have key := @for_any (pdenL (PC pfs) lp22_3) T8 0 (st8 b l (.i .i64 0) (.b false) .und) (fun _ t => Inv8 t) (IsNum 1) (fun s => ∃ t, Inv8 t ∧ s = st8 b l (.i .i64 0) (.b false) .und l.length t) l.length ?_ ?_ ⟨0, 0, .und, .und, .und, .und, .und, .und, .und, .und, .und, .und, .und, .und, .und, .und, .und⟩ ⟨by decide, by decide⟩
    · rcases key with ⟨s, h, r, hr⟩ | ⟨s, h, t, ht, rfl⟩
      · refine ⟨r, ?_⟩
        unfold iso
        rw [PC_eq (F := pf22) rfl]
        simp only [st8, s8] at h
        simp at h
        simp [-prunOps, pf22, h12']
        simp [-prunOps, h, hr]
      · by_cases hk : 24 < t.kept
        · have hk' : (24 : Int) < (t.kept : Nat) := by omega
          refine ⟨4, ?_⟩
          unfold iso
          rw [PC_eq (F := pf22) rfl]
          simp only [st8, s8] at h
          simp at h
          simp [-prunOps, pf22, h12']
          simp [-prunOps, h, hk']
        · have hk' : ¬ (24 : Int) < (t.kept : Nat) := by omega
          refine ⟨0, ?_⟩
          unfold iso
          rw [PC_eq (F := pf22) rfl]
          simp only [st8, s8] at h
          simp at h
          simp [-prunOps, pf22, h12']
          simp [-prunOps, h, hk']
    · intro i hi t ht
      rcases c8_round b l hl hc (.b false) .und i hi t ht with h | h
      · exact .inl h
      · exact .inr h
    · intro t ht
      obtain ⟨n, kept, w5, w6, w7, w8, w9, w11, w12, w13, w14, w15, w16, w17, w18, w19, w20⟩ := t
      refine ⟨st8 b l (.i .i64 0) (.b false) .und l.length ⟨n, kept, w5, w6, w7, w8, w9, .b false, w12, w13, w14, w15, w16, w17, w18, w19, w20⟩, ?_, ⟨n, kept, w5, w6, w7, w8, w9, .b false, w12, w13, w14, w15, w16, w17, w18, w19, w20⟩, ht, rfl⟩
      simp [-prunOps, st8, s8, lp22_3]
end Go.Av
end
section
/- The law MigrateSame: plain laws. -/
namespace Go.Av
theorem over_find {p q : List PCell} (v : List Int) (i : Nat) (h : i < q.length) (k : Nat) (hs : p.findIdx? (sameCell q[i]) = some k) (hk : k < v.length) : (overOf p q v)[i]'(by simpa using h) = v[k] := by
  rw [over_at _ _ _ _ h, hs]; simp [hk]
theorem same_at {p : List PCell} (hp : Diff p) {c : PCell} (k : Nat) (hk : k < p.length) (e : p[k] = c) : p.findIdx? (sameCell c) = some k := by
  refine findIdx_some hk (by simp [sameCell, e]) fun j hj => ?_
  have : p[j].path ≠ c.path := fun h => by
    have := diff_at hp (i := j) (j := k) (by omega) hk (by rw [h, e])
    omega
  simp [sameCell, this]
theorem over_self {p : List PCell} (hp : Diff p) (v : List Int) (hv : v.length = p.length) : overOf p p v = v := by
  apply List.ext_getElem
  · simp [hv]
  · intro i h1 h2
    have h : i < p.length := by simpa using h1
    exact over_find v i h i (same_at hp i h rfl) h2
theorem over_back {p q : List PCell} (hp : Diff p) (hq : Diff q) (hs : ∀ c ∈ p, c ∈ q) (v : List Int) (hv : v.length = p.length) : overOf q p (overOf p q v) = v := by
  apply List.ext_getElem
  · simp [hv]
  · intro i h1 h2
    have h : i < p.length := by simpa using h1
    obtain ⟨k, hk, e⟩ := List.getElem_of_mem (hs p[i] (by simp))
    rw [over_find (overOf p q v) i h k (same_at hq k hk e) (by simpa using hk)]
    exact over_find v k hk i (same_at hp i h e.symm) h2
/-! ## Names of which none is another one's beginning -/
def PF (s s' : PSym) : Prop := ∀ r r', s.name ++ r ≠ s'.name ++ r'
theorem PF.symm {s s' : PSym} (h : PF s s') : PF s' s := fun r r' e => h r' r e.symm
theorem diff_pf {gs : List PSym} (ht : ∀ s ∈ gs, ∃ t, s.type = goodT t) (h : gs.Pairwise PF) : Diff (cellsL gs) := by
  refine List.pairwise_flatMap.2 ⟨fun s hs => diff_cells1 (ht s hs), ?_⟩
  refine List.Pairwise.imp ?_ h
  intro s s' hpf x hx y hy e
  obtain ⟨r, hr⟩ := mem_path hx
  obtain ⟨r', hr'⟩ := mem_path hy
  rw [hr, hr'] at e
  exact hpf r r' e
def zz (s : PSym) : PSym := { s with name := [122] ++ s.name }
theorem good_pf {x : List PSym} (g : GoodL x) : x.Pairwise PF := by
  refine List.Pairwise.imp_of_mem ?_ g.apart.name
  intro s s' hs hs' hne r r' e
  exact hne (List.append_inj_left e (by rw [g.apart.len s hs, g.apart.len s' hs']))
theorem good_pf_z {x : List PSym} (g : GoodL x) : (x.map zz).Pairwise PF := by
  refine List.pairwise_map.2 ?_
  refine List.Pairwise.imp_of_mem ?_ (good_pf g)
  intro s s' hs hs' h r r' e
  simp [zz] at e
  exact h r r' e
theorem mix_pf {x z : List PSym} (gx : GoodL x) (gz : GoodL z) : ∀ s ∈ z.map zz, ∀ s' ∈ x, PF s s' := by
  intro s hs s' hs' r r' e
  obtain ⟨u, hu, rfl⟩ := List.mem_map.1 hs
  obtain ⟨b, hb⟩ := gx.name118 hs'
  rw [hb] at e
  simp [zz] at e
theorem same_diff {x z : List PSym} (gx : GoodL x) (gz : GoodL z) (m : Nat) : Diff (cellsL ((z.map zz).take m ++ x.reverse)) := by
  refine diff_pf (fun s hs => ?_) (List.pairwise_append.2 ⟨(good_pf_z gz).sublist (List.take_sublist _ _), ?_, fun a ha b hb => ?_⟩)
  · rcases List.mem_append.1 hs with h | h
    · obtain ⟨u, hu, rfl⟩ := List.mem_map.1 (List.mem_of_mem_take h)
      exact gz.apart.type u hu
    · exact gx.apart.type s (by simpa using h)
  · exact List.pairwise_reverse.2 ((good_pf gx).imp fun h => h.symm)
  · exact mix_pf gx gz a (List.mem_of_mem_take ha) b (by simpa using hb)
theorem same_chk {x z : List PSym} (gx : GoodL x) (gz : GoodL z) (m : Nat) : Chk ((z.map zz).take m ++ x.reverse) := by
  have key : ∀ s ∈ (z.map zz).take m ++ x.reverse, (∃ u ∈ z, s = zz u) ∨ s ∈ x := fun s hs => by
    rcases List.mem_append.1 hs with h | h
    · obtain ⟨u, hu, rfl⟩ := List.mem_map.1 (List.mem_of_mem_take h)
      exact .inl ⟨u, hu, rfl⟩
    · exact .inr (by simpa using h)
  have bor : ∀ {g : List PSym}, GoodL g → ∀ s ∈ g, s.bor = false := fun {g} gg s hs => by
    obtain ⟨i, hi, rfl⟩ := List.getElem_of_mem hs
    exact (gg.at_ i hi).bor
  refine ⟨fun s hs => ?_, fun s hs => ?_, fun s hs => ?_⟩ <;> rcases key s hs with ⟨u, hu, rfl⟩ | h
  · have := gz.ok u hu
    refine ⟨this.1, ?_⟩
    have h2 := gz.apart.len u hu
    simp [zz, h2]
  · exact gx.ok s h
  · exact gz.apart.type u hu
  · exact gx.apart.type s h
  · exact bor gz u hu
  · exact bor gx s h
theorem same_sub {x z : List PSym} (m : Nat) : ∀ c ∈ cellsL x, c ∈ cellsL ((z.map zz).take m ++ x.reverse) := by
  intro c hc
  obtain ⟨s, hs, h⟩ := cells_mem hc
  exact mem_cells (List.mem_append.2 (.inr (by simpa using hs))) h
end Go.Av
end
section
/- The law MigrateSame: its loops. -/
namespace Go.Av
def stS1 (z : List PSym) (v0 v1 v2 v3 v4 v5 v6 v10 v11 v12 v13 v14 v16 v17 : PV) (i : Nat) (t : PV) : PSt :=
  ⟨[v0, v1, v2, v3, v4, v5, v6, .ls (.own 0 i) i (((z.map zz).take i).flatMap PSym.enc), .sl 0 0 z.length none, .i .i64 (i : Nat), v10, v11, v12, v13, v14, t, v16, v17], ⟨[.cells (((z.map zz).take i ++ z.drop i).flatMap PSym.enc) 7], 0, [.live i i 7], 0⟩⟩
theorem same_one (z : List PSym) (hz : z.length ≤ 1000) (hn : ∀ s ∈ z, s.name.length ≤ 1000) (hb : ∀ s ∈ z, s.bor = false) (v0 v1 v2 v3 v4 v5 v6 v10 v11 v12 v13 v14 v16 v17 : PV) (t : PV) :
    ∃ t', piterL (pdenL (PC pfs) lp4_1) (stS1 z v0 v1 v2 v3 v4 v5 v6 v10 v11 v12 v13 v14 v16 v17 0 t) = some (.exit 0, stS1 z v0 v1 v2 v3 v4 v5 v6 v10 v11 v12 v13 v14 v16 v17 (min z.length 2) t') := by
  refine @for_loop (pdenL (PC pfs) lp4_1) PV 0 (stS1 z v0 v1 v2 v3 v4 v5 v6 v10 v11 v12 v13 v14 v16 v17) (stS1 z v0 v1 v2 v3 v4 v5 v6 v10 v11 v12 v13 v14 v16 v17 (min z.length 2)) (min z.length 2) ?_ ?_ t
  · intro i hlt t
    have hi : i < z.length := by omega
    have h2 : (i : Int) < 2 := by omega
    have h2' : i < 2 := by omega
    have hnm := hn z[i] (by simp)
    have hbz : (zz z[i]).bor = false := hb z[i] (by simp)
    have l1 : 1 + z[i].name.length ≤ 4611686018427387904 := by omega
    have l2 : z[i].name.length + 1 ≤ 4611686018427387904 := by omega
    have hM : ((z.map zz).take i ++ z.drop i).length = z.length := by simp; omega
    have hget : ((z.map zz).take i ++ z.drop i)[i]'(by rw [hM]; exact hi) = z[i] := by
      rw [List.getElem_append_right (by simp; omega)]; simp; congr 1; omega
    have hset : ((z.map zz).take i ++ z.drop i).set i (zz z[i]) = (z.map zz).take (i + 1) ++ z.drop (i + 1) := by
      have := set_mix (l := z) (m := z.map zz) i hi (by simp)
      simpa using this
    have hM2 : ((z.map zz).take (i + 1) ++ z.drop (i + 1)).length = z.length := by simp; omega
    have hget2 : ((z.map zz).take (i + 1) ++ z.drop (i + 1))[i]'(by rw [hM2]; exact hi) = zz z[i] := by
      rw [List.getElem_append_left (by simp; omega)]; simp
    have hpan := pan_flat (enc := PSym.enc) (k := 7) (bytes := 96) (r := 0) (v := i) (n := i) (σ := ⟨[.cells (((z.map zz).take (i + 1) ++ z.drop (i + 1)).flatMap PSym.enc) 7], 0, [.live i i 7], 0⟩) (fun _ => rfl) (by omega) ((z.map zz).take i) ((z.map zz).take (i + 1)) (zz z[i])
      (by have := take_succ (l := z.map zz) (i := i) (by simpa using hi); simpa using this) (by simp; omega) rfl (by omega) (by omega)
    simp only [stS1]
    generalize hMe : (z.map zz).take i ++ z.drop i = M at *
    generalize hMe2 : (z.map zz).take (i + 1) ++ z.drop (i + 1) = M2 at *
    generalize hY : (z.map zz).take i = Y at *
    generalize hY2 : (z.map zz).take (i + 1) = Y2 at *
    have s1 := splice_fld (enc := PSym.enc) (k := 7) (fun _ => rfl) M i (by omega) 0 (by omega) (.s ([122] ++ z[i].name)) (zz z[i]) (by rw [hget]; rfl)
    rw [hset] at s1
    have n1 := S_name i M (by omega)
    rw [hget] at n1
    have a1 := S_at i M2 (by omega)
    rw [hget2] at a1
    have hclo : ∀ σ, mapC (clo 8) σ (zz z[i]).enc = some ((zz z[i]).enc, σ) := fun σ => clo_shutL (by simp [ShutL, PSym.enc, Shut, vl, hbz])
    have f7 : psub (zz z[i]).enc 0 7 = some (zz z[i]).enc := rfl
    have bs : ∀ a b c d e f g, psplice [a, b, c, d, e, f, g] 0 (zz z[i]).enc = some (zz z[i]).enc := fun _ _ _ _ _ _ _ => rfl
    have bl : (zz z[i]).enc.length = 7 := rfl
    simp at s1
    refine ⟨.b true, ?_⟩
    generalize (zz z[i]).enc = EZ at *
    simp at hpan
    simp [-prunOps, -prep, prep_one, lp4_1, hi, h2, h2', n1, l1, l2, s1, a1, hclo, f7, bs, bl, hpan, awrap_nat1 (n := i) (by omega)]
  · intro t
    refine ⟨.b false, ?_⟩
    by_cases h : z.length ≤ 2
    · have e : min z.length 2 = z.length := by omega
      rw [e]
      simp [-prunOps, stS1, lp4_1]
    · have e : min z.length 2 = 2 := by omega
      rw [e]
      have h1 : 2 < z.length := by omega
      have h2 : (2 : Int) < (z.length : Nat) := by omega
      simp [-prunOps, stS1, lp4_1, h1, h2]
def stS2 (x y0 : List PSym) (v0 v1 v2 v3 v5 v6 v8 v9 v11 v12 v13 v14 v15 v17 : PV) (ob : List PObj) (j : Nat) (t : PV) : PSt :=
  ⟨[v0, v1, v2, v3, .ls (.v false false) x.length (x.flatMap PSym.enc), v5, v6, .ls (.own 0 (y0.length + j)) (y0.length + j) ((y0 ++ x.reverse.take j).flatMap PSym.enc), v8, v9, .i .i64 ((x.length : Int) - 1 - j), v11, v12, v13, v14, v15, t, v17], ⟨ob, 0, [.live (y0.length + j) (y0.length + j) 7], 0⟩⟩
theorem same_two (x y0 : List PSym) (hx : x.length ≤ 1000) (hy : y0.length ≤ 1000) (hb : ∀ s ∈ x, s.bor = false) (v0 v1 v2 v3 v5 v6 v8 v9 v11 v12 v13 v14 v15 v17 : PV) (ob : List PObj) (t : PV) :
    ∃ t', piterL (pdenL (PC pfs) lp4_2) (stS2 x y0 v0 v1 v2 v3 v5 v6 v8 v9 v11 v12 v13 v14 v15 v17 ob 0 t) = some (.exit 2, stS2 x y0 v0 v1 v2 v3 v5 v6 v8 v9 v11 v12 v13 v14 v15 v17 ob x.length t') := by
  refine @for_loop (pdenL (PC pfs) lp4_2) PV 2 (stS2 x y0 v0 v1 v2 v3 v5 v6 v8 v9 v11 v12 v13 v14 v15 v17 ob) (stS2 x y0 v0 v1 v2 v3 v5 v6 v8 v9 v11 v12 v13 v14 v15 v17 ob x.length) x.length ?_ ?_ t
  · intro j hlt t
    obtain ⟨k, hk⟩ : ∃ k : Nat, (k : Int) = (x.length : Int) - 1 - j := ⟨x.length - 1 - j, by omega⟩
    have hkx : k < x.length := by omega
    have hk2 : (x.length : Int) - 1 - ((j + 1 : Nat) : Int) = k - 1 := by omega
    have hrev : x.reverse[j]'(by simpa using hlt) = x[k] := by
      rw [List.getElem_reverse]; congr 1; omega
    have hbk := hb x[k] (by simp)
    have hpan := pan_flat (enc := PSym.enc) (k := 7) (bytes := 96) (r := 0) (v := y0.length + j) (n := y0.length + j) (σ := ⟨ob, 0, [.live (y0.length + j) (y0.length + j) 7], 0⟩) (fun _ => rfl) (by omega) (y0 ++ x.reverse.take j) (y0 ++ x.reverse.take (j + 1)) x[k]
      (by
        have := take_succ (l := x.reverse) (i := j) (by simpa using hlt)
        rw [hrev] at this
        rw [List.append_assoc, this]) (by simp; omega) rfl (by omega) (by omega)
    have a1 := S_at k x hkx
    have hclo : ∀ σ, mapC (clo 8) σ x[k].enc = some (x[k].enc, σ) := fun σ => clo_shutL (by simp [ShutL, PSym.enc, Shut, vl, hbk])
    have f7 : psub x[k].enc 0 7 = some x[k].enc := rfl
    have bs : ∀ a b c d e f g, psplice [a, b, c, d, e, f, g] 0 x[k].enc = some x[k].enc := fun _ _ _ _ _ _ _ => rfl
    have bl : x[k].enc.length = 7 := rfl
    have hdec : awrap .i64 ((k : Int) - 1) = (k : Int) - 1 := awrap_id (by omega) (by omega)
    have hge : (0 : Int) ≤ (k : Int) := by omega
    simp only [stS2]
    rw [hk2, ← hk]
    have has : y0.length + (j + 1) = y0.length + j + 1 := by omega
    rw [has]
    generalize y0 ++ x.reverse.take j = Y at *
    generalize y0 ++ x.reverse.take (j + 1) = Y2 at *
    generalize y0.length + j = c at *
    refine ⟨.b true, ?_⟩
    generalize x[k].enc = EX at *
    simp at hpan
    simp [-prunOps, -prep, prep_one, lp4_2, hkx, a1, hclo, f7, bs, bl, hpan, hdec]
  · intro t
    refine ⟨.b false, ?_⟩
    have h1 : (x.length : Int) - 1 - (x.length : Nat) = -1 := by omega
    simp only [stS2]
    rw [h1]
    simp [-prunOps, lp4_2]
end Go.Av
end
section
/- The law MigrateSame, on the second machine. -/
namespace Go.Av
set_option maxHeartbeats 4000000 in
theorem lawSame_ok (a : List PSym) (ns : List Int) (more : List PSym) (hfa : ∀ s ∈ a, s.type.fields.length ≤ 9223372036854775807) (hfb : ∀ s ∈ more, s.type.fields.length ≤ 9223372036854775807) (hla : a.length ≤ 9223372036854775807) (hlb : more.length ≤ 9223372036854775807) :
    iso (PC pfs) 4 [.ls (.v false false) a.length (a.flatMap PSym.enc), .ls (.v false false) ns.length (ns.flatMap encI), .ls (.v false false) more.length (more.flatMap PSym.enc)] = some (.b true) := by
  have f1 := few8_ok false a hla hfa
  have f2 := few8_ok false more hlb hfb
  unfold iso
  rw [PC_eq (F := pf4) rfl]
  cases h1 : few8B a with
  | false =>
    rw [h1] at f1
    simp [-prunOps, pf4, known_ok, f1]
  | true =>
    rw [h1] at f1
    cases h2 : few8B more with
    | false =>
      rw [h2] at f2
      simp [-prunOps, pf4, known_ok, f1, f2]
    | true =>
      rw [h2] at f2
      obtain ⟨x, gx, ex⟩ := good8_ok false a hfa
      obtain ⟨z, gz, ez⟩ := good8_ok false more hfb
      have hx := gx.len
      have hz := gz.len
      have hbx : ∀ s ∈ x, s.bor = false := fun s hs => by
        obtain ⟨i, hi, rfl⟩ := List.getElem_of_mem hs
        exact (gx.at_ i hi).bor
      have hbz : ∀ s ∈ z, s.bor = false := fun s hs => by
        obtain ⟨i, hi, rfl⟩ := List.getElem_of_mem hs
        exact (gz.at_ i hi).bor
      have cx := cells_ok false x gx.ok (by omega)
      have lx := cellsL_le gx.ok
      have lp : (cellsL x).length ≤ 1073741824 := by omega
      have hv := values_ok false false (cellsL x) ns lp
      have vl0 := valuesOf_length (cellsL x) ns
      generalize valuesOf (cellsL x) ns = v at *
      have hck := same_chk gx gz (min z.length 2)
      have hdf := same_diff gx gz (min z.length 2)
      have hsub := same_sub (x := x) (z := z) (min z.length 2)
      have hdx := diff_cells gx.apart
      obtain ⟨y0, hy0⟩ : ∃ y0, y0 = (z.map zz).take (min z.length 2) := ⟨_, rfl⟩
      have hyl0 : y0.length = min z.length 2 := by rw [hy0]; simp
      rw [← hy0] at hck hdf hsub
      obtain ⟨y, hy⟩ : ∃ y, y = y0 ++ x.reverse := ⟨_, rfl⟩
      have hyl : y.length = y0.length + x.length := by rw [hy]; simp
      rw [← hy] at hck hdf hsub
      obtain ⟨r, hr⟩ := chk8_ok true y (by omega) hck
      have cy := cells_ok true y hck.ok (by omega)
      have ly := cellsL_le hck.ok
      have lq : (cellsL y).length ≤ 1073741824 := by omega
      obtain ⟨r1, m1, e1⟩ := mcells_ok false false false (cellsL x) (cellsL x) v lp lp
      rw [over_self hdx v vl0] at e1
      obtain ⟨r2, m2, e2⟩ := mcells_ok false false false (cellsL x) (cellsL y) v lp lq
      obtain ⟨r3, m3, e3⟩ := mcells_ok false false false (cellsL y) (cellsL x) (overOf (cellsL x) (cellsL y) v) lq lp
      rw [over_back hdx hdf hsub v vl0] at e3
      have wl : (overOf (cellsL x) (cellsL y) v).length = (cellsL y).length := by simp
      have i1 := ints_ok false false v v (by omega)
      generalize overOf (cellsL x) (cellsL y) v = w at *
      generalize hP : cellsL x = P at *
      generalize hQ : cellsL y = Q at *
      clear hP hQ hdx hdf hsub
      rw [hyl] at hr cy
      rcases Nat.eq_zero_or_pos z.length with h0 | hz0
      · have hzn : z = [] := by simpa using h0
        have hy00 : y0 = [] := by rw [hy0, hzn]; simp
        have g1 : piterL (pdenL (PC pfs) lp4_1) ⟨[.ls (.v false false) a.length (a.flatMap PSym.enc), .ls (.v false false) ns.length (ns.flatMap encI), .ls (.v false false) more.length (more.flatMap PSym.enc), .b false, .ls (.v false false) x.length (x.flatMap PSym.enc), .ls (.v false false) P.length (P.flatMap PCell.enc), .ls (.v false false) P.length (v.flatMap encI), .ls (.own 0 0) 0 [], .ls (.v false false) 0 [], .i .i64 0, .und, .und, .b false, .b false, .b false, .und, .und, .und], ⟨[], 0, [.live 0 0 7], 0⟩⟩ = some (.exit 0, ⟨[.ls (.v false false) a.length (a.flatMap PSym.enc), .ls (.v false false) ns.length (ns.flatMap encI), .ls (.v false false) more.length (more.flatMap PSym.enc), .b false, .ls (.v false false) x.length (x.flatMap PSym.enc), .ls (.v false false) P.length (P.flatMap PCell.enc), .ls (.v false false) P.length (v.flatMap encI), .ls (.own 0 0) 0 [], .ls (.v false false) 0 [], .i .i64 0, .und, .und, .b false, .b false, .b false, .b false, .und, .und], ⟨[], 0, [.live 0 0 7], 0⟩⟩) := by
          rw [piterL_eq]
          simp [-prunOps, lp4_1]
        obtain ⟨t2, g2⟩ := same_two x y0 (by omega) (by omega) hbx (.ls (.v false false) a.length (a.flatMap PSym.enc)) (.ls (.v false false) ns.length (ns.flatMap encI)) (.ls (.v false false) more.length (more.flatMap PSym.enc)) (.b false) (.ls (.v false false) P.length (P.flatMap PCell.enc)) (.ls (.v false false) P.length (v.flatMap encI)) (.ls (.v false false) 0 []) (.i .i64 0) .und (.b false) (.b false) (.b false) (.b false) .und [] .und
        simp only [stS2] at g2
        rw [List.take_zero, List.append_nil, List.take_of_length_le (l := x.reverse) (i := x.length) (by simp), ← hy] at g2
        have hend : (x.length : Int) - 1 - (x.length : Nat) = -1 := by omega
        rw [hend] at g2
        have hst : awrap .i64 ((x.length : Int) - 1) = (x.length : Int) - 1 := awrap_id (by omega) (by omega)
        generalize hYc : y.flatMap PSym.enc = YC at *
        generalize hXc : x.flatMap PSym.enc = XC at *
        generalize hY0c : y0.flatMap PSym.enc = Y0C at *
        generalize hNn : y0.length + x.length = N at *
        subst hy00
        simp at hY0c hNn
        subst hY0c
        rw [hzn] at ez
        simp [vl, vl0, wl] at g2 hv m1 m2 m3 e1 e2 e3 cx cy ex ez g1 hr i1
        rcases e1 with rfl | rfl <;> rcases e2 with rfl | rfl <;> rcases e3 with rfl | rfl
        all_goals
          by_cases hr0 : r = 0
          · subst hr0
            simp [-prunOps, pf4, known_ok, f1, f2, ex, ez, cx, hv, m1, i1]
            simp [-prunOps, g1, hst]
            simp [-prunOps, g2, hr, cy, m2, m3, i1]
          · simp [-prunOps, pf4, known_ok, f1, f2, ex, ez, cx, hv, m1, i1]
            simp [-prunOps, g1, hst]
            simp [-prunOps, g2, hr, hr0]
      · obtain ⟨m, hm⟩ : ∃ m, z.length = m + 1 := ⟨z.length - 1, by omega⟩
        obtain ⟨t1, g1⟩ := same_one z (by omega) (fun s hs => by have := gz.named s hs; omega) hbz (.ls (.v false false) a.length (a.flatMap PSym.enc)) (.ls (.v false false) ns.length (ns.flatMap encI)) (.ls (.v false false) more.length (more.flatMap PSym.enc)) (.b false) (.ls (.v false false) x.length (x.flatMap PSym.enc)) (.ls (.v false false) P.length (P.flatMap PCell.enc)) (.ls (.v false false) P.length (v.flatMap encI)) .und .und (.b false) (.b false) (.b false) .und .und .und
        simp only [stS1] at g1
        rw [List.take_zero, List.drop_zero, List.nil_append, ← hy0, ← hyl0] at g1
        obtain ⟨t2, g2⟩ := same_two x y0 (by omega) (by omega) hbx (.ls (.v false false) a.length (a.flatMap PSym.enc)) (.ls (.v false false) ns.length (ns.flatMap encI)) (.ls (.v false false) more.length (more.flatMap PSym.enc)) (.b false) (.ls (.v false false) P.length (P.flatMap PCell.enc)) (.ls (.v false false) P.length (v.flatMap encI)) (.sl 0 0 z.length none) (.i .i64 (y0.length : Nat)) .und (.b false) (.b false) (.b false) t1 .und [.cells ((y0 ++ z.drop y0.length).flatMap PSym.enc) 7] .und
        simp only [stS2] at g2
        rw [List.take_zero, List.append_nil, List.take_of_length_le (l := x.reverse) (i := x.length) (by simp), ← hy] at g2
        have hend : (x.length : Int) - 1 - (x.length : Nat) = -1 := by omega
        rw [hend] at g2
        have hst : awrap .i64 ((x.length : Int) - 1) = (x.length : Int) - 1 := awrap_id (by omega) (by omega)
        generalize hYc : y.flatMap PSym.enc = YC at *
        generalize hXc : x.flatMap PSym.enc = XC at *
        generalize hY0c : y0.flatMap PSym.enc = Y0C at *
        generalize hNn : y0.length + x.length = N at *
        generalize hZ2 : (y0 ++ z.drop y0.length).flatMap PSym.enc = Z2 at *
        generalize hZc : z.flatMap PSym.enc = ZC at *
        simp only [hm] at *
        simp [vl, vl0, wl] at g2 hv m1 m2 m3 e1 e2 e3 cx cy ex ez g1 hr i1
        rcases e1 with rfl | rfl <;> rcases e2 with rfl | rfl <;> rcases e3 with rfl | rfl
        all_goals
          by_cases hr0 : r = 0
          · subst hr0
            simp [-prunOps, pf4, known_ok, f1, f2, ex, ez, cx, hv, m1, i1]
            simp [-prunOps, g1, hst]
            simp [-prunOps, g2, hr, cy, m2, m3, i1]
          · simp [-prunOps, pf4, known_ok, f1, f2, ex, ez, cx, hv, m1, i1]
            simp [-prunOps, g1, hst]
            simp [-prunOps, g2, hr, hr0]
end Go.Av
end
