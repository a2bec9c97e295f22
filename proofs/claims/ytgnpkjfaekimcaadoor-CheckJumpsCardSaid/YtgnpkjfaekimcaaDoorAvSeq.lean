/- Regions that run in order. -/
import Derived.Test.YtgnpkjfaekimcaaDoorAvFrame
set_option linter.unusedVariables false
set_option linter.unusedSimpArgs false
set_option linter.unusedSectionVars false
namespace Go.Av

/-- What a run leaves. -/
structure Ext (m : Mp) (h : AHeap) (w : World) (m' : Mp) (h' : AHeap) (w' : World) : Prop where
  grow : Grow m m' h.n h'.n w
  chg : Chg m w w'
  n : h.n ≤ h'.n
  lim : h'.lim = h.lim
  out : ∀ b, b < h.n → m b = none → h'.get b = h.get b
section
variable {P : Program} {m m' m'' : Mp} {h h' h'' : AHeap} {w w' w'' : World} {v : AV} {cv : Value} {rs vs : List AV} {vt : List Nat} {nt : Nat} {ds : List (Option Nat)} {a : Act} {op : AOp}

theorem Ext.refl (m : Mp) (h : AHeap) (w : World) : Ext m h w m h w := ⟨Grow.refl _ _ _, Chg.refl _ _, Nat.le_refl _, rfl, fun _ _ _ => rfl⟩
theorem Ext.trans (x : Ext m h w m' h' w') (y : Ext m' h' w' m'' h'' w'') : Ext m h w m'' h'' w'' := by
  refine ⟨x.grow.trans y.grow x.chg.size x.n y.n, x.chg.trans x.grow y.chg, Nat.le_trans x.n y.n, y.lim.trans x.lim, fun b hb hm => ?_⟩
  have hm' : m' b = none := by
    cases e : m' b with
    | none => rfl
    | some q => have := (x.grow.new b q e hm).1; omega
  rw [y.out b (by have := x.n; omega) hm', x.out b hb hm]
theorem Acted.ext (k : Acted P m h w v h' cv w' m') : Ext m h w m' h' w' := ⟨k.grow, k.chg, k.n, k.lim, k.out⟩

variable {call : Nat → List AV → AHeap → Option (AV × AHeap)} {K : Act → World → Prop} {Q : Exit → Act → World → Prop} {ops : Array Oper}

/-- A guard's answer. -/
theorem guard_run {o : Oper} {b : Bool} {j : Nat} {wt : Bool} {t i : Nat} (hg : o.guard = some (j, wt)) (hj : (ops[j]?).bind (·.dst) = some t) (ht : t < a.tmps.size)
    (hv : VR m (nth rs i) (a.tmps.getD t undef)) (hw : wanted rs (some (i, wt)) = some b) : Region.wanted o (yielded ops a.tmps) = b := by
  have ht' : a.tmps[t]? = some (a.tmps.getD t undef) := by simp [Array.getD_eq_getD_getElem?, ht]
  simp only [Region.wanted, hg, yielded, hj, Option.bind_some, ht']
  simp only [wanted] at hw
  split at hw
  · rename_i x hx
    rw [hx] at hv; generalize a.tmps.getD t undef = c at hv
    cases hv
    have hw := Option.some.inj hw
    subst hw
    first | rfl | simp
  · rename_i hx
    rw [hx] at hv; generalize a.tmps.getD t undef = c at hv
    cases hv
    have hw := Option.some.inj hw
    subst hw
    rfl
  · cases hw

theorem dstIn_rev {t : Nat} {l : List Oper} {o : Oper} {os : List Oper} (hn : nodupDst ((l ++ o :: os).map (·.dst)) = true) (ho : o.dst = some t) : dstIn t (l.reverse.map (·.dst)) = false := by
  cases e : dstIn t (l.reverse.map (·.dst)) with
  | false => rfl
  | true =>
    exfalso
    have key : ∀ (r : List (Option Nat)), dstIn t r = true → ∃ i : Nat, r[i]? = some (some t) := by
      intro r
      induction r with
      | nil => intro h; simp [dstIn] at h
      | cons x r ih =>
        intro h
        cases x with
        | none => obtain ⟨i, hi⟩ := ih (by simpa [dstIn] using h); exact ⟨i + 1, by simpa using hi⟩
        | some y =>
          simp only [dstIn, Bool.or_eq_true] at h
          rcases h with h | h
          · exact ⟨0, by simp [beq_iff.1 h]⟩
          · obtain ⟨i, hi⟩ := ih h; exact ⟨i + 1, by simpa using hi⟩
    obtain ⟨i, hi⟩ := key _ e
    have hmem : some t ∈ l.map (·.dst) := by
      have := List.mem_of_getElem? hi
      simpa using this
    obtain ⟨k, hk⟩ := List.getElem?_of_mem hmem
    have hkl : k < l.length := by have := (List.getElem?_eq_some_iff.1 hk).1; simpa using this
    have h1 : ((l ++ o :: os).map (·.dst))[k]? = some (some t) := by
      rw [List.map_append, List.getElem?_append_left (by simpa using hkl)]; exact hk
    have h2 : ((l ++ o :: os).map (·.dst))[l.length]? = some (some t) := by simp [ho]
    have := nodupDst_inj hn _ _ _ h1 h2
    omega

theorem wanted_shape {g : Option (Nat × Bool)} {b : Bool} (h : wanted rs g = some b) : (g = none ∧ b = true) ∨ ∃ i wt, g = some (i, wt) := by
  cases g with
  | none => simp [wanted] at h; exact .inl ⟨rfl, h⟩
  | some g => exact .inr ⟨g.1, g.2, rfl⟩

theorem seq_run (hcall : CallOk P call) (hn : nodupN vt = true) (hdn : nodupDst (ops.toList.map (·.dst)) = true) (hdb : dstsBelow nt (ops.toList.map (·.dst)) = true) {s' : St} :
    ∀ (os pre : List Oper), ops.toList = pre ++ os → ∀ (m : Mp) (rs vs : List AV) (h : AHeap) (a : Act) (w : World),
      runOps call (cOpers P vt os pre.length (pre.reverse.map (·.dst))) rs vs h = some s' →
      FR m vt nt vs a → RS m (pre.reverse.map (·.dst)) rs a → HR P m h w →
      (∀ m' a' w', FR m' vt nt s'.vs a' → HR P m' s'.h w' → Ext m h w m' s'.h w' → Q .normal a' w') →
      wpOps P ops Q (List.range' pre.length os.length) a w
  | [], pre, _, m, rs, vs, h, a, w, hr, hf, _, hh, hQ => by
    simp only [cOpers, runOps, Option.some.injEq] at hr; subst hr
    simp only [List.length_nil, List.range'_zero, wpOps]
    exact hQ m a w hf hh (Ext.refl _ _ _)
  | o :: os, pre, hops, m, rs, vs, h, a, w, hr, hf, hrs, hh, hQ => by
    have hget : ops[pre.length]? = some o := by
      rw [← Array.getElem?_toList, hops]; simp
    have hlen : (pre ++ [o]).length = pre.length + 1 := by simp
    have hrev : ((pre ++ [o]).reverse.map (·.dst)) = o.dst :: pre.reverse.map (·.dst) := by simp
    have hdlt : ∀ t, o.dst = some t → t < nt := fun t ht => dstsBelow_get hdb pre.length t (by rw [hops]; simp [ht])
    have hdin : ∀ t, o.dst = some t → dstIn t (pre.reverse.map (·.dst)) = false := fun t ht => dstIn_rev (by rw [← hops]; exact hdn) ht
    -- the next ones
    have hnext : ∀ (v : AV) (h' : AHeap) (cv : Value) (w' : World) (m' : Mp), runOps call (cOpers P vt os (pre.length + 1) (o.dst :: pre.reverse.map (·.dst))) (v :: rs) (setVar vs (varOf vt o.dst) v) h' = some s' →
        VR m' v cv → HR P m' h' w' → Ext m h w m' h' w' → wpOps P ops Q (List.range' (pre.length + 1) os.length) (a.put o.dst cv) w' := by
      intro v h' cv w' m' hr' hv hh' hx
      have := seq_run hcall hn hdn hdb (s' := s') os (pre ++ [o]) (by rw [hops]; simp) m' (v :: rs) (setVar vs (varOf vt o.dst) v) h' (a.put o.dst cv) w'
        (by rw [hlen, hrev]; exact hr') ((hf.mono hx.grow.le).put hn hv _ hdlt)
        (by rw [hrev]; exact (hrs.mono hx.grow.le).put hv _ (fun t ht => Nat.lt_of_lt_of_le (hdlt t ht) hf.size) hdin) hh'
        (fun m'' a' w'' f' h'' x' => hQ m'' a' w'' f' h'' (hx.trans x'))
      rw [hlen] at this; exact this
    simp only [cOpers] at hr
    rw [List.length_cons, List.range'_succ]
    simp only [wpOps, hget]
    -- the operation's own form
    simp only [cOper] at hr
    have hstep : ∀ op, op = (cOp P vt (pre.reverse.map (·.dst)) o.op).getD .bad → Region.wanted o (yielded ops a.tmps) = true → ∀ v h', stepOp call op rs vs h = some (v, h') →
        runOps call (cOpers P vt os (pre.length + 1) (o.dst :: pre.reverse.map (·.dst))) (v :: rs) (setVar vs (varOf vt o.dst) v) h' = some s' →
        (if Region.wanted o (yielded ops a.tmps) then o.wp P a w (wpOps P ops Q (List.range' (pre.length + 1) os.length)) Q ∨ (o.asks P a w ∧ LetsOut Q) else wpOps P ops Q (List.range' (pre.length + 1) os.length) (a.put o.dst undef) w) := by
      intro op hop hw v h' he hr'
      rw [hw, if_pos rfl]
      refine .inl ?_
      cases hc : cOp P vt (pre.reverse.map (·.dst)) o.op with
      | none => rw [hc] at hop; subst hop; simp [stepOp, aop] at he
      | some op' =>
        rw [hc] at hop; simp only [Option.getD_some] at hop; subst hop
        exact step_run hcall hc he hh (ops_frame hh.glob hf hrs _) fun cv w' m' ha => hnext v h' cv w' m' hr' ha.vr ha.hr ha.ext
    cases hgd : o.guard with
    | none =>
      rw [hgd] at hr
      simp only [runOps, wanted, stepBar] at hr
      have hw : Region.wanted o (yielded ops a.tmps) = true := by simp [Region.wanted, hgd]
      split at hr
      · rename_i v h' he
        exact hstep _ rfl hw v h' he hr
      · cases hr
    | some g =>
      obtain ⟨j, wt⟩ := g
      rw [hgd] at hr
      simp only at hr
      split at hr
      · rename_i t hj hd
        have hj := blt_iff.1 hj
        simp only [runOps] at hr
        have hdj : (pre.reverse.map (·.dst))[pre.length - 1 - j]? = some (some t) := by
          simp only [List.getD_eq_getElem?_getD] at hd
          cases e : (pre.reverse.map (·.dst))[pre.length - 1 - j]? with
          | none => rw [e] at hd; cases hd
          | some y => rw [e] at hd; simp at hd; rw [hd]
        have hjt : (ops[j]?).bind (·.dst) = some t := by
          rw [← Array.getElem?_toList, hops, List.getElem?_append_left hj]
          rw [List.getElem?_map, List.getElem?_reverse (by omega)] at hdj
          have : pre.length - 1 - (pre.length - 1 - j) = j := by omega
          rw [this] at hdj
          cases e : pre[j]? with
          | none => rw [e] at hdj; cases hdj
          | some y => rw [e] at hdj; simpa using hdj
        have htn : t < a.tmps.size := by
          refine Nat.lt_of_lt_of_le ?_ hf.size
          refine dstsBelow_get hdb j t ?_
          rw [hops, List.map_append, List.getElem?_append_left (by simpa using hj)]
          rw [List.getElem?_map, List.getElem?_reverse (by omega)] at hdj
          have : pre.length - 1 - (pre.length - 1 - j) = j := by omega
          rw [this] at hdj
          rw [List.getElem?_map]; exact hdj
        have hvr := hrs _ t hdj
        cases hwd : wanted rs (some (pre.length - 1 - j, wt)) with
        | none => rw [hwd] at hr; cases hr
        | some b =>
          have hw := guard_run (ops := ops) (o := o) hgd hjt htn hvr hwd
          rw [hwd] at hr
          cases b with
          | true =>
            simp only [stepBar] at hr
            split at hr
            · rename_i v h' he
              exact hstep _ rfl hw v h' he hr
            · cases hr
          | false =>
            simp only at hr
            rw [hw]
            exact hnext (.tup []) h undef w m hr undef_VR hh (Ext.refl _ _ _)
      · simp only [runOps, wanted, stepBar, stepOp, aop] at hr
        cases hr
end
end Go.Av
