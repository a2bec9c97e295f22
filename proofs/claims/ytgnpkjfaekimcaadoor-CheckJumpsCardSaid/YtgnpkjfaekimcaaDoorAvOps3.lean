/- Operations that act on nothing that is there, third part: the whole list. -/
import Derived.Test.YtgnpkjfaekimcaaDoorAvOps2
set_option linter.unusedVariables false
set_option linter.unusedSimpArgs false
set_option linter.unusedSectionVars false
namespace Go.Av
section
variable {P : Program} {m : Mp} {h h' : AHeap} {w : World} {v : AV} {rs vs : List AV} {vt : List Nat} {ds : List (Option Nat)} {ρ : Operand → Value}
variable {dst : Option Tmp} {ty : TypeId} {pos : String} {aft : Array Edge} {gd : Option (Nat × Bool)} {op : AOp}

theorem still_makeSlice {t : TypeId} {n c : Operand} (hc : cOp P vt ds (.makeSlice t n c) = some op) (he : aop op rs vs h = some (v, h')) (hcr : CR m h w) (hop : Ops P m vt ds rs vs ρ [n, c]) :
    StillRun P m h w ρ ⟨dst, .makeSlice t n c, ty, pos, aft, gd⟩ v h' := by
  simp only [cOp] at hc
  split at hc
  · rename_i e hu
    split at hc
    · rename_i an ac i z hn hcc hi hz
      split at hc
      · rename_i s hs
        split at hc
        · rename_i hzl
          injection hc with hc; subst hc
          have hxn := hop n (by simp) an hn
          have hxc := hop c (by simp) ac hcc
          simp only [aop] at he
          split at he
          · rename_i nn cn en ec
            split at he
            · rename_i h1 h2 h3
              simp only [Option.some.injEq, Prod.mk.injEq] at he
              obtain ⟨rfl, rfl⟩ := he
              have h1 := ble_iff.1 h1
              have h2 := ble_iff.1 h2
              have h3 := ble_iff.1 h3
              rw [en] at hxn; rw [ec] at hxc
              generalize hcn : ρ n = vn at hxn
              generalize hcc' : ρ c = vc at hxc
              cases hxn; cases hxc
              obtain ⟨zv, hzr, _, hzv⟩ := zeroOf_run (m := m) (w := w) hz
              have hrep := rep_VRL (n := cn) hzv hzl
              have hwn : IntKind.i64.wrap (Int.ofNat nn) = nn := wrap_nat_lt .i64 nn (by show nn < 9223372036854775808; omega)
              have hwc : IntKind.i64.wrap (Int.ofNat cn) = cn := wrap_nat_lt .i64 cn (by show cn < 9223372036854775808; omega)
              have hsz : ((Array.range (cn * (s + 1))).map (zv.cells[· % zv.cells.size]!)).size = cn * (s + 1) := by simp
              refine ⟨.slice (some ⟨w.heap.size, 0, none⟩) nn cn, _, _, ?_, still_row (e := e) (cap := cn) hcr hrep ⟨by rw [hsz]; exact Nat.le_refl _, fun _ => by rw [rep_length, hzl]; exact Nat.le_refl _⟩
                (vr_newS nn cn (.k cn) cn rfl h1)⟩
              · simp only [execOp, hcn, hcc']
                refine run_v (w' := pushW w (.cells ((Array.range (cn * (s + 1))).map (zv.cells[· % zv.cells.size]!)) e)) ?_
                have hszr : (sizeOf e).run P w = .ok (s + 1) w := by simp [sizeOf, typeInfo, hi, hs]
                have hb : ¬ ((decide ((cn : Int) < 0) || decide ((i.bytes : Int) * (cn : Int) > 2 ^ 48) || decide ((nn : Int) < 0) || decide ((nn : Int) > (cn : Int))) = true) := by
                  simp only [Bool.or_eq_true, decide_eq_true_eq, not_or]
                  refine ⟨⟨⟨by omega, ?_⟩, by omega⟩, by omega⟩
                  have : ((i.bytes * cn : Nat) : Int) ≤ 281474976710656 := by omega
                  have e2 : ((i.bytes : Int) * (cn : Int)) = ((i.bytes * cn : Nat) : Int) := by simp
                  rw [e2]; omega
                simp only [Instr.makeSlice, Sem.run_bind, run_und hu, Result.andThen_ok, asInt, asIntOf, Sem.run_pure, typeInfo, run_program, hi, hwn, hwc]
                rw [if_neg hb]
                simp only [Sem.run_bind, run_askRoom, Result.andThen_ok, Int.toNat_natCast, hszr]
                by_cases h0 : cn * (s + 1) = 0
                · have hc0 : cn = 0 := by rcases Nat.mul_eq_zero.1 h0 with h | h <;> omega
                  subst hc0
                  simp only [Nat.zero_mul, if_true, Sem.run_pure, Result.andThen_ok, Sem.run_bind]
                  have earr : (Array.range 0).map ((#[] : Array Value)[· % (#[] : Array Value).size]!) = (Array.range 0).map (zv.cells[· % zv.cells.size]!) := by simp
                  rw [earr, run_newRow']
                  simp
                · simp only [if_neg h0, Sem.run_bind, hzr, Result.andThen_ok, Sem.run_pure, run_newRow']
            · cases he
          · cases he
        · cases hc
      · cases hc
    · cases hc
  · cases hc

theorem still_slice {t : TypeId} {x : Operand} {lo hi mx : Option Operand} (hc : cOp P vt ds (.slice t x lo hi mx) = some op) (he : aop op rs vs h = some (v, h'))
    (hop : Ops P m vt ds rs vs ρ (x :: (lo.toList ++ hi.toList ++ mx.toList))) : StillRun P m h w ρ ⟨dst, .slice t x lo hi mx, ty, pos, aft, gd⟩ v h' := by
  simp only [cOp] at hc
  split at hc
  · rename_i a alo ahi amx ha hlo hhi hmx
    have hx := hop x (by simp) a ha
    have vlo := ops_opt hlo (fun y hy => hop y (by simp at hy ⊢; exact .inr (.inl hy)))
    have vhi := ops_opt hhi (fun y hy => hop y (by simp at hy ⊢; exact .inr (.inr (.inl hy))))
    have vmx := ops_opt hmx (fun y hy => hop y (by simp at hy ⊢; exact .inr (.inr (.inr hy))))
    unfold cSlice at hc
    have hA : ∀ {n z : Nat} {e : TypeId} {b o : Nat} {q : BI} {l hh mm : Nat}, szOf P e = some z → m b = some q → bounds n n (evOpt rs vs alo) (evOpt rs vs ahi) (evOpt rs vs amx) = some (l, hh, mm) →
        (Instr.sliceBounds false n n (lo.map ρ) (hi.map ρ) (mx.map ρ)).run P w = .ok (l, hh, mm) w ∧
        VR m (.sl b (o + l * z) (hh - l) (.k (mm - l))) (.slice (some (if mm = l then ⟨q.blk, q.base + o, none⟩ else (⟨q.blk, q.base + o, none⟩ : Addr).add (l * z))) (hh - l) (mm - l)) := by
      intro n z e b o q l hh mm hz hq hb
      obtain ⟨hr, h1, h2, h3⟩ := bounds_run (P := P) (w := w) (isS := false) hb vlo vhi vmx (Nat.le_refl _)
      refine ⟨hr, ?_⟩
      by_cases hml : mm = l
      · rw [if_pos hml]
        exact VR.sl b (o + l * z) (hh - l) (.k (mm - l)) q _ hq (by simp only [capOf]; omega) (.inr (by simp only [capOf]; omega))
      · rw [if_neg hml, Addr.add_lit]
        exact VR.sl b (o + l * z) (hh - l) (.k (mm - l)) q _ hq (by simp only [capOf]; omega) (.inl (by congr 1; omega))
    split at hc
    · rename_i n e hu
      split at hc
      · rename_i z hz
        injection hc with hc; subst hc
        obtain ⟨h1, rfl⟩ := ret1_some he
        unfold aSlA at h1
        split at h1
        · rename_i b o hbo
          split at h1
          · rename_i l hh mm hb
            injection h1 with h1; subst h1
            rw [hbo] at hx
            generalize hcx : ρ x = cx at hx
            cases hx with | p _ _ q hq =>
            obtain ⟨hr, hv⟩ := hA (o := o) hz hq hb
            exact still_pure (by simp only [execOp, hcx]; exact run_v (by simp only [Instr.sliceAt, Sem.run_bind, run_und hu, Result.andThen_ok, Instr.sureAddr, Sem.run_pure, hr, run_sizeOf' hz])) hv rfl
          · cases h1
        · cases h1
      · cases hc
    · rename_i hu
      split at hc
      · injection hc with hc; subst hc
        have hmx0 : mx.map ρ = none := by cases mx with
          | none => rfl
          | some y => simp only [cOpt] at hmx; split at hmx <;> cases hmx
        obtain ⟨h1, rfl⟩ := ret1_some he
        unfold aSlS at h1
        split at h1
        · rename_i tt htt
          split at h1
          · rename_i l hh mm hb
            injection h1 with h1; subst h1
            rw [htt] at hx
            generalize hcx : ρ x = cx at hx
            cases hx with | s _ tb etb =>
            subst etb
            have e1 : tb.data.toList.length = tb.size := by simp
            rw [e1] at hb
            obtain ⟨hr, h2, h3, h4⟩ := bounds_run (P := P) (w := w) (isS := false) (cmx := none) hb vlo vhi trivial (Nat.le_refl _)
            refine still_pure (cv := .string (tb.extract l hh)) ?_ (.s _ _ ?_) rfl
            · simp only [execOp, hcx, hmx0]
              exact run_v (by simp only [Instr.sliceAt, Instr.slice, Sem.run_bind, run_und hu, Result.andThen_ok, Option.isSome_none, Bool.false_eq_true, if_false, Sem.run_pure, hr])
            · simp [sub8, List.extract]
          · cases h1
        · cases h1
      · cases hc
    · rename_i e hu
      split at hc
      · rename_i z hz
        injection hc with hc; subst hc
        obtain ⟨h1, rfl⟩ := ret1_some he
        have hrun : ∀ {ad : Option Addr} {len cap l hh mm : Nat} {cx : Value}, cx = .slice ad len cap → (Instr.sliceBounds true len cap (lo.map ρ) (hi.map ρ) (mx.map ρ)).run P w = .ok (l, hh, mm) w →
            (Instr.sliceAt t cx (lo.map ρ) (hi.map ρ) (mx.map ρ)).run P w = .ok (.slice (if mm = l then ad else ad.map (·.add (l * z))) (hh - l) (mm - l)) w := by
          intro ad len cap l hh mm cx hcx hr
          subst hcx
          simp only [Instr.sliceAt, Instr.slice, Sem.run_bind, run_und hu, Result.andThen_ok, hr, run_sizeOf' hz, Sem.run_pure]
        unfold aSlSl at h1
        split at h1
        · rename_i hnil
          split at h1
          · rename_i r hb
            obtain ⟨l, hh, mm⟩ := r
            injection h1 with h1; subst h1
            rw [hnil] at hx
            generalize hcx : ρ x = cx at hx
            cases hx
            obtain ⟨hr, h2, h3, h4⟩ := bounds_run (P := P) (w := w) (isS := true) hb vlo vhi vmx (Nat.le_refl _)
            obtain rfl : mm = 0 := by omega
            obtain rfl : hh = 0 := by omega
            obtain rfl : l = 0 := by omega
            exact still_pure (cv := .slice none 0 0) (by simp only [execOp, hcx]; exact run_v (hrun rfl hr)) .nils rfl
          · cases h1
        · rename_i b o n c hsl
          split at h1
          · rename_i l hh mm hb
            injection h1 with h1; subst h1
            rw [hsl] at hx
            generalize hcx : ρ x = cx at hx
            cases hx with | sl _ _ _ _ q off hq hn ho =>
            simp only [capOf] at hn ho hcx
            obtain ⟨hr, h2, h3, h4⟩ := bounds_run (P := P) (w := w) (isS := true) hb vlo vhi vmx hn
            refine still_pure (cv := _) (by simp only [execOp, hcx]; exact run_v (hrun rfl hr)) ?_ rfl
            by_cases hml : mm = l
            · rw [if_pos hml]
              exact VR.sl b (o + l * z) (hh - l) (.k (mm - l)) q off hq (by simp only [capOf]; omega) (.inr (by simp only [capOf]; omega))
            · rw [if_neg hml]
              obtain rfl : off = ⟨q.blk, q.base + o, none⟩ := by
                rcases ho with ho | ho
                · exact ho
                · omega
              simp only [Option.map_some, Addr.add_lit]
              exact VR.sl b (o + l * z) (hh - l) (.k (mm - l)) q _ hq (by simp only [capOf]; omega) (.inl (by congr 1; omega))
          · cases h1
        · rename_i b o n c hsl
          split at h1
          · rename_i l hh mm hb
            rw [hsl] at hx
            generalize hcx : ρ x = cx at hx
            cases hx with | sl _ _ _ _ q off hq hn ho =>
            simp only [capOf] at hn ho hcx
            -- the model's bounds: cap is at least n
            have hbc : ∃ mm', bounds n (q.cap - c) (evOpt rs vs alo) (evOpt rs vs ahi) (evOpt rs vs amx) = some (l, hh, mm') ∧ (evOpt rs vs amx ≠ none → mm' = mm) ∧ (evOpt rs vs amx = none → mm' = q.cap - c) := by
              have hmono : ∀ (y : AV) (k1 k2 r : Nat), k1 ≤ k2 → bound y k1 = some r → bound y k2 = some r := by
                intro y k1 k2 r hk hy
                unfold bound at hy ⊢
                split at hy
                · rename_i kk j
                  split at hy
                  · rename_i hj
                    have : Nat.ble j k2 = true := ble_iff.2 (Nat.le_trans (ble_iff.1 hj) hk)
                    simp only [this]; exact hy
                  · cases hy
                · cases hy
              generalize evOpt rs vs amx = om at hb ⊢
              generalize evOpt rs vs ahi = oh at hb ⊢
              generalize evOpt rs vs alo = ol at hb ⊢
              unfold bounds at hb ⊢
              cases om with
              | none =>
                simp only at hb ⊢
                cases oh with
                | none =>
                  simp only at hb ⊢
                  split at hb
                  · cases hb
                  · rename_i l' hl'
                    simp only [Option.some.injEq, Prod.mk.injEq] at hb
                    obtain ⟨rfl, rfl, rfl⟩ := hb
                    exact ⟨q.cap - c, rfl, by simp, by simp⟩
                | some yh =>
                  simp only at hb ⊢
                  cases hbh : bound yh n with
                  | none => rw [hbh] at hb; cases hb
                  | some nh =>
                    rw [hbh] at hb
                    rw [hmono yh n _ nh hn hbh]
                    simp only at hb ⊢
                    split at hb
                    · cases hb
                    · rename_i l' hl'
                      simp only [Option.some.injEq, Prod.mk.injEq] at hb
                      obtain ⟨rfl, rfl, rfl⟩ := hb
                      exact ⟨q.cap - c, rfl, by simp, by simp⟩
              | some ym =>
                simp only at hb ⊢
                cases hbm : bound ym n with
                | none => rw [hbm] at hb; cases hb
                | some nm =>
                  rw [hbm] at hb
                  rw [hmono ym n _ nm hn hbm]
                  simp only at hb ⊢
                  exact ⟨mm, hb, by simp, by simp⟩
            obtain ⟨mm', hb', hsome, hnone⟩ := hbc
            obtain ⟨hr, h2, h3, h4⟩ := bounds_run (P := P) (w := w) (isS := true) hb' vlo vhi vmx hn
            split at h1
            · rename_i ym hym
              injection h1 with h1; subst h1
              have := hsome (by rw [hym]; simp); subst this
              refine still_pure (cv := _) (by simp only [execOp, hcx]; exact run_v (hrun rfl hr)) ?_ rfl
              by_cases hml : mm' = l
              · rw [if_pos hml]
                exact VR.sl b (o + l * z) (hh - l) (.k (mm' - l)) q off hq (by simp only [capOf]; omega) (.inr (by simp only [capOf]; omega))
              · rw [if_neg hml]
                obtain rfl : off = ⟨q.blk, q.base + o, none⟩ := by
                  rcases ho with ho | ho
                  · exact ho
                  · omega
                simp only [Option.map_some, Addr.add_lit]
                exact VR.sl b (o + l * z) (hh - l) (.k (mm' - l)) q _ hq (by simp only [capOf]; omega) (.inl (by congr 1; omega))
            · rename_i hym
              injection h1 with h1; subst h1
              have := hnone hym; subst this
              have hcap : q.cap - c - l = capOf q (.u (c + l)) := by simp only [capOf]; omega
              refine still_pure (cv := .slice (if q.cap - c = l then some off else (some off).map (·.add (l * z))) (hh - l) (q.cap - c - l)) (by simp only [execOp, hcx]; exact run_v (hrun rfl hr)) ?_ rfl
              rw [hcap]
              by_cases hml : q.cap - c = l
              · rw [if_pos hml]
                exact VR.sl b (o + l * z) (hh - l) (.u (c + l)) q off hq (by simp only [capOf]; omega) (.inr (by simp only [capOf]; omega))
              · rw [if_neg hml]
                obtain rfl : off = ⟨q.blk, q.base + o, none⟩ := by
                  rcases ho with ho | ho
                  · exact ho
                  · omega
                simp only [Option.map_some, Addr.add_lit]
                exact VR.sl b (o + l * z) (hh - l) (.u (c + l)) q _ hq (by simp only [capOf]; omega) (.inl (by congr 1; omega))
          · cases h1
        · cases h1
      · cases hc
    · rename_i p hu
      split at hc
      · rename_i n e hu2
        split at hc
        · rename_i z hz
          injection hc with hc; subst hc
          obtain ⟨h1, rfl⟩ := ret1_some he
          unfold aSlA at h1
          split at h1
          · rename_i b o hbo
            split at h1
            · rename_i l hh mm hb
              injection h1 with h1; subst h1
              rw [hbo] at hx
              generalize hcx : ρ x = cx at hx
              cases hx with | p _ _ q hq =>
              obtain ⟨hr, hv⟩ := hA (o := o) hz hq hb
              exact still_pure (by simp only [execOp, hcx]; exact run_v (by simp only [Instr.sliceAt, Instr.slice, Sem.run_bind, run_und hu, run_und hu2, Result.andThen_ok, asAddr, Sem.run_pure, hr, run_sizeOf' hz])) hv rfl
            · cases h1
          · cases h1
        · cases hc
      · cases hc
    · cases hc
  · cases hc

theorem minF_run {k : IntKind} : ∀ {l : List AV} {r : List Value} {a : Int} {v : AV}, aMinF k a l = some v → VRL m l r → ∃ n, v = .i k n ∧ (r.foldlM Builtin.min2 (.int k a)).run P w = .ok (.int k n) w
  | [], r, a, v, e, hv => by cases hv; simp only [aMinF, Option.some.injEq] at e; subst e; exact ⟨a, rfl, by simp⟩
  | x :: l, r, a, v, e, hv => by
    cases hv with | cons _ c _ r hx hl =>
    unfold aMinF at e
    split at e
    · rename_i heq; cases heq
    · rename_i k' b l' heq
      injection heq with h1 h2; subst h1; subst h2
      cases hx
      obtain ⟨n, h1, h2⟩ := minF_run e hl
      exact ⟨n, h1, by simp only [List.foldlM_cons, Builtin.min2, Sem.run_bind, Sem.run_pure, Result.andThen_ok]; exact h2⟩
    · cases e
theorem maxF_run {k : IntKind} : ∀ {l : List AV} {r : List Value} {a : Int} {v : AV}, aMaxF k a l = some v → VRL m l r → ∃ n, v = .i k n ∧ (r.foldlM Builtin.max2 (.int k a)).run P w = .ok (.int k n) w
  | [], r, a, v, e, hv => by cases hv; simp only [aMaxF, Option.some.injEq] at e; subst e; exact ⟨a, rfl, by simp⟩
  | x :: l, r, a, v, e, hv => by
    cases hv with | cons _ c _ r hx hl =>
    unfold aMaxF at e
    split at e
    · rename_i heq; cases heq
    · rename_i k' b l' heq
      injection heq with h1 h2; subst h1; subst h2
      cases hx
      obtain ⟨n, h1, h2⟩ := maxF_run e hl
      exact ⟨n, h1, by simp only [List.foldlM_cons, Builtin.max2, Sem.run_bind, Sem.run_pure, Result.andThen_ok]; exact h2⟩
    · cases e
theorem min_run {l : List AV} {r : List Value} {v : AV} (at_ : Array TypeId) (e : aMin l = some v) (hv : VRL m l r) : ∃ cv, (Builtin.min_ at_ ty r.toArray).run P w = .ok cv w ∧ VR m v cv := by
  unfold aMin at e
  split at e
  · rename_i k a l'
    cases hv with | cons _ c _ r hx hl =>
    cases hx
    obtain ⟨n, h1, h2⟩ := minF_run e hl
    subst h1
    exact ⟨_, by simpa [Builtin.min_] using h2, .i _ _⟩
  · cases e
theorem max_run {l : List AV} {r : List Value} {v : AV} (at_ : Array TypeId) (e : aMax l = some v) (hv : VRL m l r) : ∃ cv, (Builtin.max_ at_ ty r.toArray).run P w = .ok cv w ∧ VR m v cv := by
  unfold aMax at e
  split at e
  · rename_i k a l'
    cases hv with | cons _ c _ r hx hl =>
    cases hx
    obtain ⟨n, h1, h2⟩ := maxF_run e hl
    subst h1
    exact ⟨_, by simpa [Builtin.max_] using h2, .i _ _⟩
  · cases e
theorem len_run {k : Nat} {x : AV} {cx : Value} {t : TypeId} {d : TypeDesc} (e : aLen h k x = some v) (hcr : CR m h w) (hx : VR m x cx) (hu : P.underlying t = some d)
    (hd : (k = 0 ∧ d = .string) ∨ (k = 1 ∧ ∃ e, d = .slice e) ∨ (k = 2 ∧ ∃ a b, d = .map a b)) (at_ : Array TypeId) (hat : at_[0]? = some t) (args : Array Value) (ha : args[0]? = some cx) :
    ∃ cv, (Builtin.len_ at_ ty args).run P w = .ok cv w ∧ VR m v cv := by
  unfold aLen at e
  split at e
  · rcases hd with ⟨_, rfl⟩ | ⟨h0, _⟩ | ⟨h0, _⟩
    · cases hx with | s _ tb etb =>
      injection e with e; subst e; subst etb
      refine ⟨.int .i64 tb.size, by simp [Builtin.len_, hat, ha, run_und hu, goInt], ?_⟩
      have : tb.data.toList.length = tb.size := by simp
      rw [this]; exact .i _ _
    · cases h0
    · cases h0
  · rcases hd with ⟨h0, _⟩ | ⟨_, e', rfl⟩ | ⟨h0, _⟩
    · cases h0
    · cases hx; injection e with e; subst e
      exact ⟨.int .i64 0, by simp [Builtin.len_, hat, ha, run_und hu, goInt], .i _ _⟩
    · cases h0
  · rcases hd with ⟨h0, _⟩ | ⟨_, e', rfl⟩ | ⟨h0, _⟩
    · cases h0
    · cases hx with | sl _ _ _ _ q off hq hn ho =>
      injection e with e; subst e
      refine ⟨_, ?_, .i _ _⟩
      simp [Builtin.len_, hat, ha, run_und hu, goInt]
    · cases h0
  · rcases hd with ⟨h0, _⟩ | ⟨h0, _⟩ | ⟨_, a', b', rfl⟩
    · cases h0
    · cases h0
    · cases hx; injection e with e; subst e
      exact ⟨.int .i64 0, by simp [Builtin.len_, hat, ha, run_und hu, goInt], .i _ _⟩
  · rcases hd with ⟨h0, _⟩ | ⟨h0, _⟩ | ⟨_, a', b', rfl⟩
    · cases h0
    · cases h0
    · cases hx with | m b q hq =>
      split at e
      · rename_i es cl hg
        injection e with e; subst e
        obtain ⟨_, _, o, hg', hor⟩ := hcr _ q hq
        rw [hg] at hg'; injection hg' with hg'; subst hg'
        cases hor with | map _ _ entries hw he =>
        have hget : (getObj q.blk).run P w = .ok (.map entries cl) w := by simp [getObj, Sem.run, hw]
        refine ⟨.int .i64 entries.size, by simp [Builtin.len_, hat, ha, run_und hu, hget, goInt], ?_⟩
        have := he.length
        simp at this
        rw [this]; exact .i _ _
      · cases e
  · cases e

/-- THE WHOLE LIST. -/
theorem still_run {o : Oper} (hc : cOp P vt ds o.op = some op) (ha : actsA op = false) (he : aop op rs vs h = some (v, h')) (hcr : CR m h w) (hop : Ops P m vt ds rs vs ρ o.op.operands.toList) :
    StillRun P m h w ρ o v h' := by
  obtain ⟨dst, g, ty, pos, aft, gd⟩ := o
  simp only at hc hop
  cases g with
  | move x =>
    simp only [cOp] at hc
    split at hc
    · rename_i a hx; injection hc with hc; subst hc
      simp only [aop, Option.some.injEq, Prod.mk.injEq] at he
      obtain ⟨rfl, rfl⟩ := he
      exact still_pure (cv := ρ x) (by simp [execOp]) (hop x (by simp [Op.operands]) a hx) rfl
    · cases hc
  | assign x =>
    simp only [cOp] at hc
    split at hc
    · rename_i a hx; injection hc with hc; subst hc
      simp only [aop, Option.some.injEq, Prod.mk.injEq] at he
      obtain ⟨rfl, rfl⟩ := he
      exact still_pure (cv := ρ x) (by simp [execOp]) (hop x (by simp [Op.operands]) a hx) rfl
    · cases hc
  | pick c a b =>
    simp only [cOp] at hc
    split at hc
    · rename_i ac aa ab h1 h2 h3
      injection hc with hc; subst hc
      have v1 := hop c (by simp [Op.operands]) ac h1
      have v2 := hop a (by simp [Op.operands]) aa h2
      have v3 := hop b (by simp [Op.operands]) ab h3
      simp only [aop] at he
      split at he
      · rename_i hb
        simp only [Option.some.injEq, Prod.mk.injEq] at he
        obtain ⟨rfl, rfl⟩ := he
        rw [hb] at v1; generalize hcx : ρ c = cx at v1; cases v1
        exact still_pure (cv := ρ a) (by simp [execOp, hcx, asBool]) v2 rfl
      · rename_i hb
        simp only [Option.some.injEq, Prod.mk.injEq] at he
        obtain ⟨rfl, rfl⟩ := he
        rw [hb] at v1; generalize hcx : ρ c = cx at v1; cases v1
        exact still_pure (cv := ρ b) (by simp [execOp, hcx, asBool]) v3 rfl
      · cases he
    · cases hc
  | alloc t =>
    simp only [cOp] at hc
    split at hc
    · rename_i z hz; injection hc with hc; subst hc
      obtain ⟨zv, hzr, _, hzl⟩ := zeroOf_run (m := m) (w := w) hz
      simp only [aop, AO.ev] at he
      have hne : z ≠ .und := by
        unfold zeroOf at hz
        split at hz
        · split at hz
          · exact ofValue_ne_und hz
          · cases hz
        · cases hz
      rw [cells_of_ne hne] at he
      simp only [Option.some.injEq, Prod.mk.injEq] at he
      obtain ⟨rfl, rfl⟩ := he
      exact ⟨.pointer (some ⟨w.heap.size, 0, none⟩), _, _, by simp only [execOp]; exact run_v (by simp only [Instr.alloc, Sem.run_bind, hzr, Result.andThen_ok, newVar, run_newRow', Sem.run_pure]), still_row (cap := 0) (e := t) hcr hzl ⟨by simp, by simp⟩ (vr_newP 0)⟩
    · cases hc
  | box t x =>
    simp only [cOp] at hc
    split at hc
    · rename_i a hx; injection hc with hc; subst hc
      have vx := hop x (by simp [Op.operands]) a hx
      simp only [aop] at he
      split at he
      · rename_i l hl
        simp only [Option.some.injEq, Prod.mk.injEq] at he
        obtain ⟨rfl, rfl⟩ := he
        exact ⟨.pointer (some ⟨w.heap.size, 0, none⟩), _, _, by simp only [execOp]; exact run_v (by simp only [Instr.box, newVar, Sem.run_bind, run_newRow', Result.andThen_ok, Sem.run_pure]), still_row (cap := 0) (e := t) hcr (vx.cells hl) ⟨by simp, by simp⟩ (vr_newP 0)⟩
      · cases he
    · cases hc
  | build t ps => exact still_build hc he (fun x hx => hop x (by simpa [Op.operands] using hx))
  | buildSlice t n ps => exact still_buildSlice hc he hcr (fun x hx => hop x (by simpa [Op.operands] using hx))
  | load t a =>
    simp only [cOp] at hc
    split at hc
    · rename_i aa n h1 h2; injection hc with hc; subst hc
      have vx := hop a (by simp [Op.operands]) aa h1
      obtain ⟨e1, rfl⟩ := ret1_some he
      obtain ⟨cv, hr, hv⟩ := load_run (P := P) e1 h2 hcr vx
      exact still_pure (by simp only [execOp]; exact run_v hr) hv rfl
    · cases hc
  | nilCheck x =>
    simp only [cOp] at hc
    split at hc
    · rename_i a hx; injection hc with hc; subst hc
      have vx := hop x (by simp [Op.operands]) a hx
      simp only [aop] at he
      split at he
      · rename_i b o hb
        simp only [Option.some.injEq, Prod.mk.injEq] at he
        obtain ⟨rfl, rfl⟩ := he
        rw [hb] at vx; generalize hcx : ρ x = cx at vx
        have vx' := vx
        cases vx with | p _ _ q hq => exact still_pure (by simp [execOp, hcx]) vx' rfl
      · rename_i b o c hb
        simp only [Option.some.injEq, Prod.mk.injEq] at he
        obtain ⟨rfl, rfl⟩ := he
        rw [hb] at vx; generalize hcx : ρ x = cx at vx
        have vx' := vx
        cases vx with | f _ _ _ F C hf hcap => exact still_pure (by simp [execOp, hcx]) vx' rfl
      · cases he
    · cases hc
  | binOp bop t x y ty2 => exact still_binOp hc he (fun z hz => hop z (by simpa [Op.operands] using hz))
  | unOp uop t x =>
    simp only [cOp] at hc
    split at hc
    · rename_i a hx; injection hc with hc; subst hc
      have vx := hop x (by simp [Op.operands]) a hx
      obtain ⟨e1, rfl⟩ := ret1_some he
      obtain ⟨cv, hr, hv⟩ := aUn_run (P := P) (w := w) e1 vx
      exact still_pure (by simp only [execOp]; exact run_v hr) hv rfl
    · cases hc
  | convert s t x => exact still_convert hc he hcr (fun z hz => hop z (by simpa [Op.operands] using hz))
  | makeInterface t x =>
    simp only [cOp] at hc
    split at hc
    · cases hc
    · rename_i a d hni h1 h2
      injection hc with hc; subst hc
      have vx := hop x (by simp [Op.operands]) a h1
      simp only [aop, Option.some.injEq, Prod.mk.injEq] at he
      obtain ⟨rfl, rfl⟩ := he
      refine still_pure (cv := .iface t (ρ x)) ?_ (.ifc _ _ _ vx) rfl
      simp only [execOp]
      refine run_v ?_
      simp only [Instr.makeInterface, Sem.run_bind, run_und h2, Result.andThen_ok]
      cases d <;> first | rfl | exact (hni _ h1 _ rfl).elim | skip
      all_goals first | rfl | (rename_i ms; exact (hni a _ h1 h2).elim) | (exfalso; simp_all)
    · cases hc
  | makeFunc fn fi ca =>
    cases fn with
    | func f =>
      simp only [cOp] at hc
      split at hc
      · rename_i a b h1 h2; injection hc with hc; subst hc
        simp only [aop, Option.some.injEq, Prod.mk.injEq] at he
        obtain ⟨rfl, rfl⟩ := he
        have v1 := ops_list (rs := rs) (vs := vs) (m := m) (ρ := ρ) h1 (fun x hx => hop x (by simp [Op.operands] at hx ⊢; exact .inl hx))
        have v2 := ops_list (rs := rs) (vs := vs) (m := m) (ρ := ρ) h2 (fun x hx => hop x (by simp [Op.operands] at hx ⊢; exact .inr hx))
        exact still_pure (cv := .func (.func f) (fi.map ρ) (ca.map ρ)) (by simp [execOp, Instr.makeFunc]) (.f _ _ _ _ _ (by simpa using v1) (by simpa using v2)) rfl
      · cases hc
    | method n => simp [cOp] at hc
    | methodOf t n => simp [cOp] at hc
    | via a b c d => simp [cOp] at hc
    | yield l => simp [cOp] at hc
  | makeMap t r =>
    cases r with
    | some x => simp [cOp] at hc
    | none =>
      simp only [cOp, Option.some.injEq] at hc; subst hc
      simp only [aop, Option.some.injEq, Prod.mk.injEq] at he
      obtain ⟨rfl, rfl⟩ := he
      refine ⟨.map (some w.heap.size), pushW w (.map #[] 0), m.upd h.n ⟨w.heap.size, 0, 0, true⟩, by simp [execOp, Instr.makeMap, newObj, Sem.run, pushW], ?_⟩
      exact .made _ 0 rfl (pushW_new _ _) (pushW_size _ _) rfl (.map _ _ #[] (pushW_get _ _) .nil rfl) trivial rfl (.m _ _ (Mp.upd_same _ _ _))
  | makeSlice t n c => exact still_makeSlice hc he hcr (fun z hz => hop z (by simpa [Op.operands] using hz))
  | slice t x lo hi mx => exact still_slice hc he (fun z hz => hop z (by simp [Op.operands] at hz ⊢; rcases hz with h | h | h | h <;> simp [h]))
  | fieldAddr t x f =>
    simp only [cOp] at hc
    split at hc
    · rename_i a fs h1 hu
      split at hc
      · rename_i fd hfd
        split at hc
        · rename_i n hn; injection hc with hc; subst hc
          have vx := hop x (by simp [Op.operands]) a h1
          simp only [aop] at he
          split at he
          · rename_i b o hb
            simp only [Option.some.injEq, Prod.mk.injEq] at he
            obtain ⟨rfl, rfl⟩ := he
            rw [hb] at vx; generalize hcx : ρ x = cx at vx
            cases vx with | p _ _ q hq =>
            refine still_pure (cv := .pointer (some ⟨q.blk, q.base + (o + fd.offset), none⟩)) ?_ (.p _ _ _ hq) rfl
            simp only [execOp, hcx]
            refine run_v ?_
            simp only [Instr.fieldAt, Sem.run_bind, run_und hu, Result.andThen_ok, hfd, Instr.sureAddr, Sem.run_pure, fieldPlace, run_sizeOf' hn, Nat.add_one_ne_zero, if_false, Addr.add_lit, Nat.add_assoc]
          · cases he
        · cases hc
      · cases hc
    · cases hc
  | field t x f =>
    simp only [cOp] at hc
    split at hc
    · rename_i a fs h1 hu
      split at hc
      · rename_i fd hfd
        split at hc
        · rename_i n hn; injection hc with hc; subst hc
          have vx := hop x (by simp [Op.operands]) a h1
          obtain ⟨e1, rfl⟩ := ret1_some he
          cases hax : a.ev rs vs <;> rw [hax] at e1 <;> first | (simp [aFld] at e1; done) | skip
          rename_i l
          rw [hax] at vx; generalize hcx : ρ x = cx at vx
          cases vx with | agg _ cs hcs =>
          obtain ⟨cv, hr, hv⟩ := aFld_part (P := P) (w := w) hn e1 hcs
          exact still_pure (by simp only [execOp, hcx]; exact run_v (by simp only [Instr.field, Sem.run_bind, run_und hu, Result.andThen_ok, hfd, asAgg, Sem.run_pure, hr])) hv rfl
        · cases hc
      · cases hc
    · cases hc
  | indexAddr t x i =>
    simp only [cOp] at hc
    split at hc
    · rename_i a ai n e h1 h2 hu
      split at hc
      · rename_i z hz; injection hc with hc; subst hc
        have vx := hop x (by simp [Op.operands]) a h1
        have vi := hop i (by simp [Op.operands]) ai h2
        simp only [aop] at he
        split at he
        · rename_i b o j hb hj
          simp only [Option.some.injEq, Prod.mk.injEq] at he
          obtain ⟨rfl, rfl⟩ := he
          obtain ⟨kk, hci, hlt⟩ := aIndex_run hj vi
          rw [hb] at vx; generalize hcx : ρ x = cx at vx
          cases vx with | p _ _ q hq =>
          refine still_pure (cv := .pointer (some ⟨q.blk, q.base + (o + j * z), none⟩)) ?_ (.p _ _ _ hq) rfl
          simp only [execOp, hcx, hci]
          refine run_v ?_
          have hcond : (0 : Int) ≤ (j : Int) ∧ (j : Int) < (n : Int) := ⟨by omega, by omega⟩
          simp only [Instr.indexAt, asIntOf, Sem.run_bind, Sem.run_pure, Result.andThen_ok, run_und hu, Instr.sureAddr]
          rw [if_pos hcond]
          simp only [Sem.run_bind, run_sizeOf' hz, Result.andThen_ok, Sem.run_pure, Int.toNat_natCast, Addr.add_lit, Nat.add_assoc]
        · cases he
      · cases hc
    · rename_i a ai e h1 h2 hu
      split at hc
      · rename_i z hz; injection hc with hc; subst hc
        have vx := hop x (by simp [Op.operands]) a h1
        have vi := hop i (by simp [Op.operands]) ai h2
        simp only [aop] at he
        split at he
        · rename_i b o n c hb
          split at he
          · rename_i j hj
            simp only [Option.some.injEq, Prod.mk.injEq] at he
            obtain ⟨rfl, rfl⟩ := he
            obtain ⟨kk, hci, hlt⟩ := aIndex_run hj vi
            rw [hb] at vx; generalize hcx : ρ x = cx at vx
            cases vx with | sl _ _ _ _ q off hq hn ho =>
            have hoff : off = ⟨q.blk, q.base + o, none⟩ := by
              rcases ho with ho | ho
              · exact ho
              · omega
            subst hoff
            refine still_pure (cv := .pointer (some ⟨q.blk, q.base + (o + j * z), none⟩)) ?_ (.p _ _ _ hq) rfl
            simp only [execOp, hcx, hci]
            refine run_v ?_
            have hcond : (0 : Int) ≤ (j : Int) ∧ (j : Int) < (n : Int) := ⟨by omega, by omega⟩
            simp only [Instr.indexAt, asIntOf, Sem.run_bind, Sem.run_pure, Result.andThen_ok, run_und hu]
            rw [if_pos hcond]
            simp only [Sem.run_bind, run_sizeOf' hz, Result.andThen_ok, Sem.run_pure, Int.toNat_natCast, Addr.add_lit, Nat.add_assoc]
          · cases he
        · cases he
      · cases hc
    · cases hc
  | index t x i =>
    simp only [cOp] at hc
    have karr : ∀ {a ai : AO} {n e : Nat} {z : Nat} {ag : Bool} {nn : Option Nat}, cOperand P vt ds x = some a → cOperand P vt ds i = some ai → P.underlying t = some (.array n e) → szOf P e = some z → aggOf P e = some nn →
        nn = (match ag with | true => some z | false => none) → aop (.idxA n z ag a ai) rs vs h = some (v, h') → StillRun P m h w ρ ⟨dst, .index t x i, ty, pos, aft, gd⟩ v h' := by
      intro a ai n e z ag nn h1 h2 hu hz hagg hnn he
      have vx := hop x (by simp [Op.operands]) a h1
      have vi := hop i (by simp [Op.operands]) ai h2
      simp only [aop] at he
      split at he
      · rename_i j hj
        obtain ⟨e1, rfl⟩ := ret1_some he
        obtain ⟨kk, hci, hlt⟩ := aIndex_run hj vi
        cases hax : a.ev rs vs <;> rw [hax] at e1 <;> first | (simp [aFld] at e1; done) | skip
        rename_i l
        rw [hax] at vx; generalize hcx : ρ x = cx at vx
        cases vx with | agg _ cs hcs =>
        have e1 : aFld (j * z) nn (.agg l) = some v := by rw [hnn]; cases ag <;> exact e1
        obtain ⟨cv, hr, hv⟩ := aFld_part (P := P) (w := w) hagg e1 hcs
        refine still_pure ?_ hv rfl
        simp only [execOp, hcx, hci]
        refine run_v ?_
        have hcond : (0 : Int) ≤ (j : Int) ∧ (j : Int) < (n : Int) := ⟨by omega, by omega⟩
        simp only [Instr.index, asIntOf, Sem.run_bind, Sem.run_pure, Result.andThen_ok, run_und hu]
        rw [if_pos hcond]
        simp only [Sem.run_bind, run_sizeOf' hz, Result.andThen_ok, Int.toNat_natCast, hr]
      · cases he
    split at hc
    · rename_i a ai n e h1 h2 hu
      split at hc
      · rename_i z hagg hz; injection hc with hc; subst hc
        exact karr h1 h2 hu hz hagg rfl he
      · rename_i n' z hagg hz; injection hc with hc; subst hc
        have := (run_isAgg (w := w) hagg).2 n' rfl
        rw [hz] at this; injection this with this; subst this
        exact karr h1 h2 hu hz hagg rfl he
      · cases hc
    · rename_i a ai h1 h2 hu
      injection hc with hc; subst hc
      have vx := hop x (by simp [Op.operands]) a h1
      have vi := hop i (by simp [Op.operands]) ai h2
      simp only [aop] at he
      split at he
      · rename_i tt kk j ha hj
        split at he
        · rename_i y hy
          simp only [Option.some.injEq, Prod.mk.injEq] at he
          obtain ⟨rfl, rfl⟩ := he
          rw [ha] at vx; generalize hcx : ρ x = cx at vx
          rw [hj] at vi; generalize hci : ρ i = ci at vi
          cases vx with | s _ tb etb =>
          cases vi
          subst etb
          have hget : tb[j]? = some y := nth8_get hy
          refine still_pure (cv := .int .u8 y.toNat) ?_ (.i _ _) rfl
          simp only [execOp, hcx, hci]
          refine run_v ?_
          simp only [Instr.index, asIntOf, Sem.run_bind, Sem.run_pure, Result.andThen_ok, run_und hu]
          have h0 : (0 : Int) ≤ Int.ofNat j := by simp
          simp only [h0, if_true, show (Int.ofNat j).toNat = j from rfl, hget, Sem.run_pure]
        · cases he
      · cases he
    · cases hc
  | lookup t mm k ok =>
    simp only [cOp] at hc
    split at hc
    · rename_i a ak key e h1 h2 hu
      split at hc
      · rename_i kk z hk hz; injection hc with hc; subst hc
        have v1 := hop mm (by simp [Op.operands]) a h1
        have v2 := hop k (by simp [Op.operands]) ak h2
        obtain ⟨e1, rfl⟩ := ret1_some he
        obtain ⟨cv, hr, hv⟩ := aLook_run (P := P) e1 hu hk hz hcr v1 v2
        exact still_pure (by simp only [execOp]; exact run_v hr) hv rfl
      · cases hc
    · cases hc
  | extract t i =>
    simp only [cOp] at hc
    split at hc
    · rename_i a h1; injection hc with hc; subst hc
      have vx := hop t (by simp [Op.operands]) a h1
      simp only [aop] at he
      split at he
      · rename_i l hl
        obtain ⟨e1, rfl⟩ := ret1_some he
        rw [hl] at vx; generalize hcx : ρ t = cx at vx
        cases vx with | tup _ cs hcs =>
        obtain ⟨cv, hcv, hv⟩ := hcs.get e1
        exact still_pure (by simp only [execOp, hcx]; exact run_v (by simp [Instr.extract, show cs[i]? = some cv by simpa using hcv])) hv rfl
      · cases he
    · cases hc
  | call c =>
    simp only [cOp] at hc
    unfold cCall at hc
    split at hc
    · cases hc
    · rename_i as has
      split at hc
      · split at hc
        · injection hc with hc; subst hc; cases ha
        · cases hc
      · cases hc
      · rename_i b hcal
        have hargs : VRL m (evs rs vs as) (c.args.map ρ).toList := by
          have := ops_list (rs := rs) (vs := vs) (m := m) (ρ := ρ) has (fun x hx => hop x (by simp [Op.operands, Call.operands, hcal] at hx ⊢; exact hx))
          simpa using this
        have hex : ∀ {cv : Value}, (builtin b c.argTypes ty (c.args.map fun | .const _ => true | _ => false) (c.args.map ρ)).run P w = .ok (.value cv) w →
            (execOp ρ ⟨dst, .call c, ty, pos, aft, gd⟩).run P w = .ok (.value cv) w := by
          intro cv hr
          simp only [execOp, resolve, hcal, Sem.run_bind, Sem.run_pure, Result.andThen_ok, invoke]
          exact hr
        have hv1 : ∀ {s : Sem Value} {cv : Value}, s.run P w = .ok cv w → (do pure (Next.value (← s)) : Sem Next).run P w = .ok (.value cv) w := fun h => run_v h
        split at hc
        · -- len
          rename_i t ts x xs hts
          have hat : c.argTypes[0]? = some t := by rw [← Array.getElem?_toList, hts]; rfl
          have hx0 : ∃ cx, (c.args.map ρ)[0]? = some cx ∧ VR m (x.ev rs vs) cx := by
            obtain ⟨cx, h1, h2⟩ := hargs.get (i := 0) (x := x.ev rs vs) rfl
            exact ⟨cx, by simpa using h1, h2⟩
          obtain ⟨cx, hcx, vx⟩ := hx0
          split at hc
          · rename_i hu; injection hc with hc; subst hc
            obtain ⟨e1, rfl⟩ := ret1_some he
            obtain ⟨cv, hr, hv⟩ := len_run (ty := ty) e1 hcr vx hu (.inl ⟨rfl, rfl⟩) c.argTypes hat _ hcx
            exact still_pure (hex (by simp only [builtin]; exact hv1 hr)) hv rfl
          · rename_i e hu; injection hc with hc; subst hc
            obtain ⟨e1, rfl⟩ := ret1_some he
            obtain ⟨cv, hr, hv⟩ := len_run (ty := ty) e1 hcr vx hu (.inr (.inl ⟨rfl, e, rfl⟩)) c.argTypes hat _ hcx
            exact still_pure (hex (by simp only [builtin]; exact hv1 hr)) hv rfl
          · rename_i a' b' hu; injection hc with hc; subst hc
            obtain ⟨e1, rfl⟩ := ret1_some he
            obtain ⟨cv, hr, hv⟩ := len_run (ty := ty) e1 hcr vx hu (.inr (.inr ⟨rfl, a', b', rfl⟩)) c.argTypes hat _ hcx
            exact still_pure (hex (by simp only [builtin]; exact hv1 hr)) hv rfl
          · rename_i n e hu; injection hc with hc; subst hc
            simp only [aop, AO.ev, Option.some.injEq, Prod.mk.injEq] at he
            obtain ⟨rfl, rfl⟩ := he
            exact still_pure (cv := .int .i64 n) (hex (by simp only [builtin]; exact hv1 (by simp [Builtin.len_, hat, hcx, run_und hu, goInt]))) (.i _ _) rfl
          · cases hc
        · -- cap
          rename_i t ts x xs hts
          have hat : c.argTypes[0]? = some t := by rw [← Array.getElem?_toList, hts]; rfl
          obtain ⟨cx, hcx, vx⟩ := hargs.get (i := 0) (x := x.ev rs vs) rfl
          have hcx : (c.args.map ρ)[0]? = some cx := by simpa using hcx
          split at hc
          · rename_i e hu; injection hc with hc; subst hc
            obtain ⟨e1, rfl⟩ := ret1_some he
            unfold aCapOf at e1
            split at e1
            · rename_i hn; rw [hn] at vx; cases vx
              injection e1 with e1; subst e1
              exact still_pure (cv := .int .i64 0) (hex (by simp only [builtin]; exact hv1 (by simp [Builtin.cap_, hat, hcx, run_und hu, goInt]))) (.i _ _) rfl
            · rename_i b' o' n' c' hn; rw [hn] at vx
              cases vx with | sl _ _ _ _ q off hq hn' ho =>
              injection e1 with e1; subst e1
              exact still_pure (cv := .int .i64 c') (hex (by simp only [builtin]; exact hv1 (by simp [Builtin.cap_, hat, hcx, run_und hu, goInt, capOf]))) (.i _ _) rfl
            · cases e1
          · cases hc
        · split at hc
          · split at hc
            · split at hc
              · split at hc
                · injection hc with hc; subst hc; cases ha
                · cases hc
              · cases hc
            · split at hc
              · split at hc
                · injection hc with hc; subst hc; cases ha
                · cases hc
              · cases hc
            · cases hc
          · cases hc
        · split at hc
          · split at hc
            · injection hc with hc; subst hc; cases ha
            · cases hc
          · cases hc
        · injection hc with hc; subst hc
          obtain ⟨e1, rfl⟩ := ret1_some he
          obtain ⟨cv, hr, hv⟩ := min_run (P := P) (w := w) (ty := ty) c.argTypes e1 hargs
          rw [Array.toArray_toList] at hr
          exact still_pure (hex (by simp only [builtin]; exact hv1 hr)) hv rfl
        · injection hc with hc; subst hc
          obtain ⟨e1, rfl⟩ := ret1_some he
          obtain ⟨cv, hr, hv⟩ := max_run (P := P) (w := w) (ty := ty) c.argTypes e1 hargs
          rw [Array.toArray_toList] at hr
          exact still_pure (hex (by simp only [builtin]; exact hv1 hr)) hv rfl
        · split at hc
          · split at hc
            · injection hc with hc; subst hc; cases ha
            · cases hc
          · cases hc
        · cases hc
  | store t a x =>
    simp only [cOp] at hc
    split at hc
    · injection hc with hc; subst hc; cases ha
    · cases hc
  | mapUpdate t a b c =>
    simp only [cOp] at hc
    split at hc
    · split at hc
      · injection hc with hc; subst hc; cases ha
      · cases hc
    · cases hc
  | insert t a b c =>
    simp only [cOp] at hc
    split at hc
    · split at hc
      · injection hc with hc; subst hc; cases ha
      · cases hc
    · cases hc
  | mapEntry t a b =>
    simp only [cOp] at hc
    split at hc
    · split at hc
      · injection hc with hc; subst hc; cases ha
      · cases hc
    · cases hc
  | entryStore t a b c =>
    simp only [cOp] at hc
    split at hc
    · injection hc with hc; subst hc; cases ha
    · cases hc
  | ready g => simp [cOp] at hc
  | waits g => simp [cOp] at hc
  | sliceToArrayPointer a b => simp [cOp] at hc
  | makeChan a b => simp [cOp] at hc
  | range a b => simp [cOp] at hc
  | next a b => simp [cOp] at hc
  | entry a => simp [cOp] at hc
  | typeAssert a b c d => simp [cOp] at hc
  | go c => simp [cOp] at hc
  | defer c => simp [cOp] at hc
  | panic x => simp [cOp] at hc
  | send a b => simp [cOp] at hc
  | recv a b c => simp [cOp] at hc
  | select a b => simp [cOp] at hc
where
  nth8_get {tb : ByteArray} {j : Nat} {y : UInt8} (h : nth8 tb.data.toList j = some y) : tb[j]? = some y := by
    have : ∀ (l : List UInt8) (j : Nat), nth8 l j = l[j]? := by
      intro l
      induction l with
      | nil => intro j; simp [nth8]
      | cons x l ih => intro j; cases j with
        | zero => rfl
        | succ j => simpa [nth8] using ih j
    rw [this] at h
    have hlt : j < tb.size := by
      rcases Nat.lt_or_ge j tb.size with h' | h'
      · exact h'
      · rw [List.getElem?_eq_none (by simpa using h')] at h; cases h
    rw [getElem?_pos tb j hlt]
    have h2 : tb.data[j]? = some y := by simpa using h
    have h3 : tb.data[j]'hlt = y := by rw [Array.getElem?_eq_getElem hlt] at h2; injection h2
    rw [← h3]; rfl
end
end Go.Av
