/- Lists of the second machine against those of the first; operands. -/
import Derived.Test.YtgnpkjfaekimcaaDoorAvPS
set_option linter.unusedVariables false
set_option linter.unusedSimpArgs false
set_option linter.unusedSectionVars false
namespace Go.Av
variable {X X' Y : Cx} {σ σ' : PH} {v : PV} {a : AV} {l : List PV} {r : List AV} {h h' : AHeap}

theorem pnth_eq (l : List PV) (i : Nat) : pnth l i = (l[i]?).getD .und := by
  induction l generalizing i with
  | nil => simp [pnth]
  | cons x l ih => cases i with
    | zero => rfl
    | succ i => simpa [pnth] using ih i
theorem psetn_eq (l : List PV) (i : Nat) (v : PV) : psetn l i v = l.set i v := by
  induction l generalizing i with
  | nil => simp [psetn]
  | cons x l ih => cases i with
    | zero => rfl
    | succ i => simp [psetn, ih]
theorem VRelL.nth : ∀ {l : List PV} {r : List AV}, VRelL X l r → ∀ i, VRel X (pnth l i) (nth r i)
  | _, _, .nil, i => .und _
  | _, _, .cons x y l r hx hl, i => by
    cases i with
    | zero => exact hx
    | succ i => exact hl.nth i
theorem VRelL.setn : ∀ {l : List PV} {r : List AV}, VRelL X l r → ∀ i, VRel X v a → VRelL X (psetn l i v) (setn r i a)
  | _, _, .nil, i, _ => by simp only [psetn, Go.Av.setn]; exact .nil
  | _, _, .cons x y l r hx hl, i, hv => by
    cases i with
    | zero => exact .cons _ _ _ _ hv hl
    | succ i => exact .cons _ _ _ _ hx (hl.setn i hv)
mutual
theorem ofAV_rel : ∀ x, VRel X (ofAV x) x
  | .und => .und _
  | .b x => .b x
  | .i k n => .i k n
  | .s x => .s x
  | .nilp => .nilp
  | .p _ _ => .und _
  | .nils => .ls0 _ _ _ trivial
  | .sl _ _ _ _ => .und _
  | .nilm => .nilm
  | .m _ => .und _
  | .nilf => .nilf
  | .f fn fi ca => by
    unfold ofAV
    split <;> try (rename_i e; cases e)
    all_goals first
      | (rename_i e; injection e with e1 e2 e3; subst e1; subst e2; subst e3; exact .f _ [] [] [] [] .nil .nil)
      | exact .und _
      | (rename_i e; cases e)
      | skip
    all_goals exact .f _ [] [] [] [] .nil .nil
  | .nili => .nili
  | .ifc _ _ => .und _
  | .agg l => .agg _ _ (ofAVs_rel l)
  | .tup l => .tup _ _ (ofAVs_rel l)
theorem ofAVs_rel : ∀ l, VRelL X (ofAV.ofAVs l) l
  | [] => .nil
  | x :: l => .cons _ _ _ _ (ofAV_rel x) (ofAVs_rel l)
end
theorem AO.rel {rs vs : List PV} {ars avs : List AV} (hr : VRelL X rs ars) (hv : VRelL X vs avs) : ∀ x : AO, VRel X (x.pev rs vs) (x.ev ars avs)
  | .v i => hv.nth i
  | .r i => hr.nth i
  | .c x => ofAV_rel x
theorem evs_rel {rs vs : List PV} {ars avs : List AV} (hr : VRelL X rs ars) (hv : VRelL X vs avs) : ∀ l : List AO, VRelL X (pevs rs vs l) (evs ars avs l)
  | [] => .nil
  | x :: l => .cons _ _ _ _ (AO.rel hr hv x) (evs_rel hr hv l)

theorem VRelL.append_inv : ∀ {l1 l2 : List PV} {r : List AV}, VRelL X (l1 ++ l2) r → ∃ r1 r2, r = r1 ++ r2 ∧ VRelL X l1 r1 ∧ VRelL X l2 r2
  | [], l2, r, h => ⟨[], r, rfl, .nil, h⟩
  | x :: l1, l2, _, .cons _ y _ r hx hl => by
    obtain ⟨r1, r2, e, h1, h2⟩ := VRelL.append_inv hl
    exact ⟨y :: r1, r2, by rw [e]; rfl, .cons _ _ _ _ hx h1, h2⟩
theorem psub_rel {o n : Nat} {q : List PV} (e : psub l o n = some q) (hl : VRelL X l r) : ∃ aq, sub r o n = some aq ∧ VRelL X q aq ∧ aq.length = n := by
  unfold psub at e
  split at e
  · rename_i hle
    injection e with e; subst e
    have := hl.length
    refine ⟨(r.drop o).take n, sub_eq.2 ⟨by simp; omega, rfl⟩, (hl.drop o).take n, by simp; omega⟩
  · cases e
theorem sub_len {cc aq : List AV} {o n : Nat} (e : sub cc o n = some aq) : aq.length = n := by
  obtain ⟨h1, h2⟩ := sub_eq.1 e; subst h2; simp at h1 ⊢; omega
theorem sub_sub {cc acs aq : List AV} {oA o n m : Nat} (h1 : sub cc oA m = some acs) (h2 : sub acs o n = some aq) : sub cc (oA + o) n = some aq := by
  obtain ⟨a1, a2⟩ := sub_eq.1 h1
  obtain ⟨b1, b2⟩ := sub_eq.1 h2
  subst a2; subst b2
  refine sub_eq.2 ⟨by simp at a1 b1 ⊢; omega, ?_⟩
  rw [List.drop_take, List.drop_drop, List.take_take]
  simp at b1
  congr 1
  omega
theorem splice_ok : ∀ {c vs : List AV} {o : Nat}, o + vs.length ≤ c.length → splice c o vs = some (c.take o ++ vs ++ c.drop (o + vs.length))
  | c, vs, 0, h => by simp only [splice]; rw [overlay_eq.2 ⟨by omega, rfl⟩]; simp
  | [], vs, o + 1, h => by simp at h
  | x :: c, vs, o + 1, h => by
    simp only [splice]
    rw [splice_ok (c := c) (vs := vs) (o := o) (by simp at h; omega)]
    simp [show o + 1 + vs.length = (o + vs.length) + 1 by omega]
theorem psplice_rel {o : Nat} {c c' vs : List PV} {ac avs : List AV} (e : psplice c o vs = some c') (hc : VRelL X c ac) (hv : VRelL X vs avs) :
    o + avs.length ≤ ac.length ∧ VRelL X c' (ac.take o ++ avs ++ ac.drop (o + avs.length)) := by
  unfold psplice at e
  split at e
  · rename_i hle
    injection e with e; subst e
    have h1 := hc.length
    have h2 := hv.length
    refine ⟨by omega, ?_⟩
    rw [← h2]
    exact ((hc.take o).append hv).append (hc.drop _)
  · cases e
/-- What is written into a part of a block. -/
theorem splice_part {cc acs avs : List AV} {off o : Nat} (h1 : Part cc off acs) (h2 : o + avs.length ≤ acs.length) :
    ∃ cc', splice cc (off + o) avs = some cc' ∧ Part cc' off (acs.take o ++ avs ++ acs.drop (o + avs.length)) ∧ cc'.length = cc.length := by
  obtain ⟨h0, h1⟩ := h1
  obtain ⟨a1, a2⟩ := sub_eq.1 h1
  simp at a1
  have hle : off + o + avs.length ≤ cc.length := by omega
  have hlen : (acs.take o ++ avs ++ acs.drop (o + avs.length)).length = acs.length := by simp; omega
  have hl2 : (cc.take (off + o) ++ avs ++ cc.drop (off + o + avs.length)).length = cc.length := by
    simp only [List.length_append, List.length_take, List.length_drop]; omega
  refine ⟨_, splice_ok hle, ⟨by rw [hl2]; exact h0, ?_⟩, hl2⟩
  rw [hlen]
  clear hlen
  refine sub_eq.2 ⟨by rw [List.length_drop, hl2]; exact a1, ?_⟩
  have e1 : (cc.take (off + o) ++ avs ++ cc.drop (off + o + avs.length)).drop off = (cc.drop off).take o ++ (avs ++ cc.drop (off + o + avs.length)) := by
    rw [List.append_assoc, List.drop_append_of_le_length (by rw [List.length_take]; omega), List.drop_take]
    congr 2; omega
  have e2 : acs.take o = (cc.drop off).take o := by
    rw [a2, List.take_take]; congr 1; omega
  have e3 : acs.drop (o + avs.length) = (cc.drop (off + o + avs.length)).take (acs.length - o - avs.length) := by
    conv => lhs; rw [a2]
    rw [List.drop_take, List.drop_drop]
    congr 1
    · omega
    · congr 1; omega
  have l1 : ((cc.drop off).take o).length = o := by rw [List.length_take, List.length_drop]; omega
  rw [e1, e2, e3, List.take_append, List.take_append, List.append_assoc, l1]
  rw [List.take_of_length_le (l := (cc.drop off).take o) (by omega), List.take_of_length_le (l := avs) (by omega)]
theorem pget_rel {o : Nat} (e : pget l o = some v) (hl : VRelL X l r) : ∃ a, get? r o = some a ∧ VRel X v a := by
  obtain ⟨a, h1, h2⟩ := hl.get o v e
  exact ⟨a, by rw [get?_eq]; exact h1, h2⟩
theorem sub_get {cc acs : List AV} {oA o m : Nat} {a : AV} (h1 : sub cc oA m = some acs) (h2 : get? acs o = some a) : get? cc (oA + o) = some a := by
  obtain ⟨a1, a2⟩ := sub_eq.1 h1
  rw [get?_eq] at h2 ⊢
  subst a2
  have hlt := (List.getElem?_eq_some_iff.1 h2).1
  rw [List.getElem?_take_of_lt (by simp at hlt; omega), List.getElem?_drop] at h2
  exact h2

theorem isClo_ok {bo : Bool} (h : VRel X v a) (hc : isClo bo v = true) : a.okCell = true := by
  cases h with
  | ls0 _ _ _ hz => exact zeroA_ok hz
  | lo0 => simp [isClo] at hc
  | plsx _ _ _ _ _ _ ha => exact ha
  | lx _ _ _ _ _ _ ha => exact ha
  | und => simp [isClo] at hc
  | agg => simp [isClo] at hc
  | tup => simp [isClo] at hc
  | _ => rfl
theorem cloL_ok {bo : Bool} : ∀ {l : List PV} {r : List AV}, VRelL X l r → cloL bo l = true → okCells r = true
  | _, _, .nil, _ => rfl
  | _, _, .cons _ _ _ _ hx hl, hc => by
    simp only [cloL, Bool.and_eq_true] at hc
    simp [okCells, isClo_ok hx hc.1, cloL_ok hl hc.2]
theorem pok_ok (h : VRel X v a) (hc : v.okCell = true) : a.okCell = true := by
  cases h with
  | ls0 _ _ _ hz => exact zeroA_ok hz
  | lo0 _ _ _ _ _ hz => exact zeroA_ok hz
  | plsx _ _ _ _ _ _ ha => exact ha
  | lx _ _ _ _ _ _ ha => exact ha
  | und => simp [PV.okCell] at hc
  | agg => simp [PV.okCell] at hc
  | tup => simp [PV.okCell] at hc
  | _ => rfl
theorem pokCells_ok : ∀ {l : List PV} {r : List AV}, VRelL X l r → pokCells l = true → okCells r = true
  | _, _, .nil, _ => rfl
  | _, _, .cons _ _ _ _ hx hl, hc => by
    simp only [pokCells] at hc
    split at hc
    · rename_i h1
      simp [okCells, pok_ok hx h1, pokCells_ok hl hc]
    · cases hc
theorem cloL_append {bo : Bool} (l1 l2 : List PV) : cloL bo (l1 ++ l2) = (cloL bo l1 && cloL bo l2) := by
  induction l1 with
  | nil => simp [cloL]
  | cons x l ih => simp [cloL, ih, Bool.and_assoc]
theorem cloL_mem {bo : Bool} : cloL bo l = true ↔ ∀ x ∈ l, isClo bo x = true := by
  induction l with
  | nil => simp [cloL]
  | cons x l ih => simp [cloL, ih]
theorem cloL_sub {bo : Bool} {o n : Nat} {q : List PV} (e : psub l o n = some q) (h : cloL bo l = true) : cloL bo q = true := by
  unfold psub at e
  split at e
  · injection e with e; subst e
    rw [cloL_mem] at h ⊢
    intro x hx
    exact h x (List.mem_of_mem_drop (List.mem_of_mem_take hx))
  · cases e
end Go.Av
