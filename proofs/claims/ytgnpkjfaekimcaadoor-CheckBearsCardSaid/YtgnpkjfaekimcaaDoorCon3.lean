/- Contracts of the functions that the law reaches. -/
import Derived.Test.YtgnpkjfaekimcaaDoorCon2
import Derived.Test.YtgnpkjfaekimcaaDoorAvJD
import Derived.Test.YtgnpkjfaekimcaaDoorCon1
set_option linter.unusedVariables false
set_option linter.unusedSimpArgs false
set_option linter.unusedSectionVars false
section
/- Contracts (seat c6): solenoidref10.Bytes of what pushes; pushed. -/
namespace Go.Av
def byteN (n : Int) (j : Nat) : Int := awrap .u8 ((awrap .u64 n).fdiv (pow2 (8 * j)))
/-- What pushes, as bytes. -/
def pushB (a n : Int) : List Int := [1, awrap .u8 a] ++ (List.range 8).map (byteN n)
theorem app1 (ob : List PObj) (rs : List Root) (v n : Nat) (l : List Int) (x : Int) (hn : l.length = n) (hb : n < 1000000) :
    pappendNew ⟨ob, 0, .live v n 1 :: rs, 0⟩ 1 1 (.ls (.own 0 v) n (l.flatMap encU)) 1 [.i .u8 x] = some (.ls (.own 0 (v + 1)) (n + 1) ((l ++ [x]).flatMap encU), ⟨ob, 0, .live (v + 1) (n + 1) 1 :: rs, 0⟩) := by
  rw [pan_own (σ := ⟨ob, 0, .live v n 1 :: rs, 0⟩) (x := n) (e := 1) rfl (.inr rfl) (by omega) (by simp [hn]) rfl (by omega) (by omega) (by omega)]
  simp [encU]
def stB16 (l : List Int) (v n : Nat) (o : KOp) (g : List PObj) (rs : List Root) (v3 v6 : PV) (j : Nat) (t : PV) : PSt :=
  ⟨[.ls (.own 0 (v + j)) (n + j) ((l ++ (List.range j).map (byteN o.n)).flatMap encU), .agg o.enc, .p g.length 0, v3, .i .i64 9, .i .i64 (j : Nat), v6, t], ⟨g ++ [.cells o.enc 0], 0, .live (v + j) (n + j) 1 :: rs, 0⟩⟩
theorem bytes_loop (l : List Int) (v n : Nat) (hn : l.length = n) (hb : n < 100000) (o : KOp) (g : List PObj) (rs : List Root) (v3 v6 t : PV) :
    ∃ t', piterL (pdenL (PC pfs) lp16_1) (stB16 l v n o g rs v3 v6 0 t) = some (.exit 0, stB16 l v n o g rs v3 v6 8 t') := by
  refine @for_loop (pdenL (PC pfs) lp16_1) PV 0 (stB16 l v n o g rs v3 v6) (stB16 l v n o g rs v3 v6 8) 8 ?_ ?_ t
  · intro j hj t
    refine ⟨.b true, ?_⟩
    have c1 : (j : Int) < 8 := by omega
    have ha := app1 (g ++ [.cells o.enc 0]) rs (v + j) (n + j) (l ++ (List.range j).map (byteN o.n)) (byteN o.n j) (by simp [hn]) (by omega)
    have e1 : (l ++ (List.range j).map (byteN o.n)) ++ [byteN o.n j] = l ++ (List.range (j + 1)).map (byteN o.n) := by rw [List.range_succ]; simp
    rw [e1] at ha
    have w1 : awrap .u64 (j : Int) = (j : Int) := by rw [awrap_eq]; simp [IntKind.wrap, IntKind.signed, IntKind.bits]; omega
    have w2 : awrap .u64 (8 * (j : Int)) = ((8 * j : Nat) : Int) := by rw [awrap_eq]; simp [IntKind.wrap, IntKind.signed, IntKind.bits]; omega
    have h2 : ¬ ((8 : Int) * (j : Int) < 0) := by omega
    have h3 : Nat.min (8 * j) 64 = 8 * j := by show min (8 * j) 64 = 8 * j; omega
    have h4 : (8 * (j : Int)).toNat = 8 * j := by omega
    have e4 : pget o.enc 4 = some (.i .i64 o.n) := rfl
    simp only [byteN] at ha
    simp only [stB16]
    generalize hA : (List.map (byteN o.n) (List.range j)) = A at *
    generalize hB : (List.map (byteN o.n) (List.range (j + 1))) = B at *
    have e2 : v + j + 1 = v + (j + 1) := by omega
    have e3 : n + j + 1 = n + (j + 1) := by omega
    rw [e2, e3] at ha
    simp [-prunOps, -List.flatMap_append, lp16_1, c1, w1, w2, h2, h3, h4, e4, kBits, ha, awrap_nat1 (n := j) (by omega)]
  · intro t
    refine ⟨.b false, ?_⟩
    simp [-prunOps, stB16, lp16_1]
theorem bytes_ok (l : List Int) (v n : Nat) (hn : l.length = n) (hb : n < 10000) (o : KOp) (hs : o.sign = 1) (g : List PObj) (rs : List Root) :
    PC pfs 16 [.ls (.own 0 v) n (l.flatMap encU), .agg o.enc] ⟨g, 0, .live v n 1 :: rs, 0⟩ = some (.ls (.own 0 (v + 10)) (n + 10) ((l ++ pushB o.a o.n).flatMap encU), ⟨g ++ [.cells o.enc 0], 0, .live (v + 10) (n + 10) 1 :: rs, 0⟩) := by
  rw [PC_eq (F := pf16) rfl]
  have hbe := rbears_ok 1 (by omega) (by omega)
  have hb9 : bearsK 1 = 9 := rfl
  rw [hb9] at hbe
  have w1 : awrap .u8 1 = 1 := by rw [awrap_eq]; rfl
  have ha1 := app1 (g ++ [.cells o.enc 0]) rs v n l 1 hn (by omega)
  have ha2 := app1 (g ++ [.cells o.enc 0]) rs (v + 1) (n + 1) (l ++ [1]) (awrap .u8 o.a) (by simp [hn]) (by omega)
  obtain ⟨t', hlp⟩ := bytes_loop ((l ++ [1]) ++ [awrap .u8 o.a]) (v + 2) (n + 2) (by simp [hn]) (by omega) o g rs nil (.b true) .und
  have e2 : pget o.enc 2 = some (.i .i64 1) := by rw [← hs]; rfl
  have e3 : pget o.enc 3 = some (.i .i64 o.a) := rfl
  have hok : pokCells o.enc = true := rfl
  have ep : l ++ pushB o.a o.n = (l ++ [1]) ++ [awrap .u8 o.a] ++ (List.range 8).map (byteN o.n) := by simp [pushB]
  rw [ep]
  simp only [stB16, nil] at hlp
  generalize l ++ [1] = l1 at *
  generalize l1 ++ [awrap .u8 o.a] = l2 at *
  simp [-List.flatMap_append] at ha1 ha2 hlp
  generalize hB : (List.map (byteN o.n) (List.range 8)) = B at *
  simp [-prunOps, -List.flatMap_append, pf16, e2, e3, hok, hbe, w1, ha1, ha2, hlp]
theorem bytes_nil (o : KOp) (hs : o.sign = 1) (g : List PObj) :
    PC pfs 16 [nil, .agg o.enc] ⟨g, 0, [], 0⟩ = some (.ls (.own 0 9) 10 ((pushB o.a o.n).flatMap encU), ⟨g ++ [.cells o.enc 0], 0, [.live 9 10 1], 0⟩) := by
  rw [PC_eq (F := pf16) rfl]
  have hbe := rbears_ok 1 (by omega) (by omega)
  have hb9 : bearsK 1 = 9 := rfl
  rw [hb9] at hbe
  have w1 : awrap .u8 1 = 1 := by rw [awrap_eq]; rfl
  have ha0 := pan_view (σ := ⟨g ++ [.cells o.enc 0], 0, [], 0⟩) (ez := 1) (bytes := 1) (n := 1) (sn := 0) (b := false) (cs := []) (new := [.i .u8 1]) (by simp) (by omega) (by omega) (.inl rfl)
  have ha2 := app1 (g ++ [.cells o.enc 0]) [] 0 1 [1] (awrap .u8 o.a) (by simp) (by omega)
  obtain ⟨t', hlp⟩ := bytes_loop ([1] ++ [awrap .u8 o.a]) 1 2 (by simp) (by omega) o g [] nil (.b true) .und
  have e2 : pget o.enc 2 = some (.i .i64 1) := by rw [← hs]; rfl
  have e3 : pget o.enc 3 = some (.i .i64 o.a) := rfl
  have hok : pokCells o.enc = true := rfl
  have ep : pushB o.a o.n = [1] ++ [awrap .u8 o.a] ++ (List.range 8).map (byteN o.n) := by simp [pushB]
  rw [ep]
  simp only [stB16, nil] at hlp
  generalize hB : (List.map (byteN o.n) (List.range 8)) = B at *
  generalize hl2 : [1] ++ [awrap .u8 o.a] = l2 at *
  simp [-List.flatMap_append] at ha0 ha2 hlp
  simp only [List.flatMap_cons, List.flatMap_nil, encU, List.append_nil, List.cons_append, List.nil_append] at ha2
  simp [-prunOps, -List.flatMap_append, pf16, e2, e3, hok, hbe, w1, ha0, ha2, hlp]
end Go.Av
end
section
/- A number's bytes, written and read; pushed. -/
namespace Go.Av
def I64 (n : Int) : Prop := -9223372036854775808 ≤ n ∧ n < 9223372036854775808
theorem u64_nat (n : Int) : ∃ U : Nat, awrap .u64 n = (U : Int) ∧ U < 18446744073709551616 ∧ (U : Int) = n % 18446744073709551616 := by
  refine ⟨(n % 18446744073709551616).toNat, ?_, by omega, by omega⟩
  rw [awrap_eq]; simp [IntKind.wrap, IntKind.signed, IntKind.bits]; omega
theorem u64_id (U : Nat) (h : U < 18446744073709551616) : awrap .u64 (U : Int) = (U : Int) := by
  rw [awrap_eq]; simp [IntKind.wrap, IntKind.signed, IntKind.bits]; omega
theorem pow2_8 (j : Nat) : pow2 (8 * j) = ((256 ^ j : Nat) : Int) := by
  show ((2 ^ (8 * j) : Nat) : Int) = _
  rw [Nat.pow_mul]
theorem byteN_nat {n : Int} {U : Nat} (h : awrap .u64 n = (U : Int)) (j : Nat) : byteN n j = ((U / 256 ^ j % 256 : Nat) : Int) := by
  unfold byteN
  rw [h, pow2_8]
  have e : ((U : Int)).fdiv ((256 ^ j : Nat) : Int) = ((U / 256 ^ j : Nat) : Int) := by
    rw [Int.fdiv_eq_ediv_of_nonneg _ (Int.natCast_nonneg _)]; rfl
  rw [e, awrap_eq]
  simp [IntKind.wrap, IntKind.signed, IntKind.bits]
theorem toU_nat (U : Nat) (h : U < 18446744073709551616) : toU .u64 (U : Int) = U := by
  show U % 18446744073709551616 = U
  exact Nat.mod_eq_of_lt h
theorem ofU_nat (U : Nat) (h : U < 18446744073709551616) : ofU .u64 U = (U : Int) := by
  unfold ofU
  have : Nat.blt U (kTop .u64) = true := by simp [kTop]; exact h
  rw [this]; rfl
theorem numStep_nat (A B k : Nat) (hA : A < 256 ^ k) (hB : B < 256) (hk : k < 8) : numStep (A : Int) (B : Int) k = ((A + 256 ^ k * B : Nat) : Int) := by
  unfold numStep
  have h1 : 256 ^ k * B + 256 ^ k ≤ 256 ^ k * 256 := by rw [← Nat.mul_succ]; exact Nat.mul_le_mul_left _ hB
  have h2 : 256 ^ k * 256 ≤ 18446744073709551616 := by
    have : 256 ^ (k + 1) ≤ 256 ^ 8 := Nat.pow_le_pow_right (by omega) (by omega)
    rw [Nat.pow_succ] at this
    exact this
  have hp : 0 < 256 ^ k := Nat.pow_pos (by omega)
  rw [u64_id B (by omega), pow2_8]
  have e : (B : Int) * ((256 ^ k : Nat) : Int) = ((256 ^ k * B : Nat) : Int) := by rw [Nat.mul_comm, Int.natCast_mul]
  rw [e, u64_id _ (by omega), toU_nat _ (by omega), toU_nat _ (by omega)]
  have hor : Nat.lor A (256 ^ k * B) = A + 256 ^ k * B := by
    have h3 : (256 : Nat) ^ k = 2 ^ (8 * k) := by rw [Nat.pow_mul]
    rw [h3] at hA ⊢
    have := Nat.two_pow_add_eq_or_of_lt hA B
    show A ||| (2 ^ (8 * k) * B) = _
    rw [Nat.or_comm, ← this, Nat.add_comm]
  rw [hor, ofU_nat _ (by omega)]
theorem numF_bytes (b : List Int) (i : Nat) (n : Int) (U : Nat) (hU : awrap .u64 n = (U : Int)) (hb : ∀ j, j < 8 → bAt b (i + j) = byteN n j) : ∀ j, j ≤ 8 → numF b i j = ((U % 256 ^ j : Nat) : Int)
  | 0, _ => by simp [numF, Nat.mod_one]
  | j + 1, h => by
    have ih := numF_bytes b i n U hU hb j (by omega)
    rw [numF, ih, hb j (by omega), byteN_nat hU, numStep_nat _ _ _ (Nat.mod_lt _ (Nat.pow_pos (by omega))) (Nat.mod_lt _ (by omega)) (by omega)]
    congr 1
    rw [Nat.pow_succ, Nat.mod_mul]
theorem numK_bytes (b : List Int) (i : Nat) (n : Int) (hn : I64 n) (hb : ∀ j, j < 8 → bAt b (i + j) = byteN n j) : numK b i = n := by
  obtain ⟨U, h1, h2, h3⟩ := u64_nat n
  unfold numK
  rw [numF_bytes b i n U h1 hb 8 (by omega)]
  have e : U % 256 ^ 8 = U := Nat.mod_eq_of_lt h2
  rw [e, awrap_eq, h3]
  obtain ⟨a, b⟩ := hn
  simp [IntKind.wrap, IntKind.signed, IntKind.bits]
  split <;> omega
theorem pushB_len (a n : Int) : (pushB a n).length = 10 := by simp [pushB]
theorem pushB_bytes (a n : Int) : Bytes (pushB a n) := by
  have hw : ∀ x : Int, 0 ≤ awrap .u8 x ∧ awrap .u8 x < 256 := by
    intro x; rw [awrap_eq]; simp [IntKind.wrap, IntKind.signed, IntKind.bits]; omega
  intro x hx
  simp only [pushB, List.mem_append, List.mem_cons, List.mem_map, List.not_mem_nil, or_false] at hx
  rcases hx with (rfl | rfl) | ⟨j, _, rfl⟩
  · omega
  · exact hw _
  · exact hw _
theorem bytes_app {a b : List Int} (ha : Bytes a) (hb : Bytes b) : Bytes (a ++ b) := by
  intro x hx
  rcases List.mem_append.1 hx with h | h
  · exact ha x h
  · exact hb x h
def pushO (a n : Int) : KOp := ⟨0, 0, 1, a, n⟩
theorem pushed_ok (l : List Int) (v n : Nat) (hn : l.length = n) (hb : n < 10000) (a k : Int) (g : List PObj) (rs : List Root) :
    PC pfs 11 [.ls (.own 0 v) n (l.flatMap encU), .i .i64 a, .i .i64 k] ⟨g, 0, .live v n 1 :: rs, 0⟩
      = some (.ls (.own 0 (v + 10)) (n + 10) ((l ++ pushB a (wrapK a k)).flatMap encU), ⟨g ++ [.cells (pushO a (wrapK a k)).enc 0], 0, .live (v + 10) (n + 10) 1 :: rs, 0⟩) := by
  rw [PC_eq (F := pf11) rfl]
  have hw := rwrap_ok a k
  have hB := bytes_ok l v n hn hb (pushO a (wrapK a k)) rfl g rs
  simp only [pushO, KOp.enc] at hB ⊢
  generalize l ++ pushB a (wrapK a k) = q at *
  simp [-prunOps, pf11, hw, hB]
theorem pushed_nil (a k : Int) (g : List PObj) :
    PC pfs 11 [nil, .i .i64 a, .i .i64 k] ⟨g, 0, [], 0⟩ = some (.ls (.own 0 9) 10 ((pushB a (wrapK a k)).flatMap encU), ⟨g ++ [.cells (pushO a (wrapK a k)).enc 0], 0, [.live 9 10 1], 0⟩) := by
  rw [PC_eq (F := pf11) rfl]
  have hw := rwrap_ok a k
  have hB := bytes_nil (pushO a (wrapK a k)) rfl g
  simp only [pushO, KOp.enc] at hB ⊢
  generalize pushB a (wrapK a k) = q at *
  simp only [nil] at hB ⊢
  simp [-prunOps, pf11, hw, hB]
def E01 : KEnv := ⟨[], (0 : Nat), (1 : Nat)⟩
/-- An append to a copy: the copy is root r. -/
theorem appR (ob : List PObj) (rt : List Root) (r v n : Nat) (l m : List Int) (hr : getR rt r = .live v n 1) (hn : l.length = n) (hm : 0 < m.length) (hb : n + m.length < 1000000) :
    pappendNew ⟨ob, 0, rt, 0⟩ 1 1 (.ls (.own r v) n (l.flatMap encU)) m.length (m.flatMap encU) = some (.ls (.own r (v + 1)) (n + m.length) ((l ++ m).flatMap encU), ⟨ob, 0, setR rt r (.live (v + 1) (n + m.length) 1), 0⟩) := by
  rw [pan_own (σ := ⟨ob, 0, rt, 0⟩) (x := n) (e := 1) hr (.inr rfl) (by omega) (by simp [hn]) rfl hm (by omega) (by omega)]
  simp [PH.setRoot]
theorem copyR (ob : List PObj) (rt : List Root) (n : Nat) (l : List Int) (hn : l.length = n) (hb : n < 1000000) (hp : 0 < n) :
    pappendNew ⟨ob, 0, rt, 0⟩ 1 1 (.ls (.v false true) 0 []) n (l.flatMap encU) = some (.ls (.fresh n 1) n (l.flatMap encU), ⟨ob, 0, rt, 0⟩) := by
  have := pan_view (σ := ⟨ob, 0, rt, 0⟩) (ez := 1) (bytes := 1) (n := n) (sn := 0) (b := false) (cs := []) (new := l.flatMap encU) (by simp) (by omega) (by omega) (.inl rfl)
  simpa using this
end Go.Av
end
section
/- An argument that is bytes. -/
namespace Go.Av
open Go.ChangeShapes Go.WideShapes Go.ChangeAt Go.RowKit
theorem flatU (l : List Int) : l.flatMap encU = l.map (PV.i .u8) := by
  induction l with
  | nil => rfl
  | cons a l ih => simp [encU, ih]
theorem rel_u8 (X : Cx) : ∀ l : List Int, VRelL X (l.map (PV.i .u8)) (l.map (AV.i .u8))
  | [] => .nil
  | a :: l => .cons _ _ _ _ (.i _ _) (rel_u8 X l)
theorem ok_u8 : ∀ l : List Int, okCells (l.map (AV.i .u8)) = true
  | [] => rfl
  | a :: l => by simp [okCells, AV.okCell, ok_u8 l]
theorem clo_u8 : ∀ l : List Int, cloL false (l.map (PV.i .u8)) = true
  | [] => rfl
  | a :: l => by simp [cloL, isClo, clo_u8 l]
theorem mpD_new (os : List (AObj × BI)) (x : AObj × BI) : mpD (os ++ [x]) os.length = some x.2 := by simp [mpD]
theorem argD_bytes {H : Type} {enc : TypeId × Value → H} {P : Program} {w : World} {base b0 : Nat} {spare : Nat → Bool} {held : Bool} {r : Reach} {t e : TypeId} {v : Value} {d : DataW H} {ps : List MemPlace}
    (ht : P.underlying t = some (.slice e)) (he : P.underlying e = some (.int .u8)) (hc : P.cellsOf e = 1) (hval : Value.okWide P w r b0 t v) (hd : DataW.Trod enc P w base spare held t v d ps) :
    ∃ ns : List Int, Bytes ns ∧ ArgD w v (.ls (.v false false) ns.length (ns.flatMap encU)) := by
  obtain ⟨fuel, hf⟩ := hd
  rcases open_ints ht he hc hf with ⟨hcs, _⟩ | ⟨a, len, cap, zs, hcs, _, hl, _, hzl, _, hcell, hwf⟩
  · have hv : v = .slice none 0 0 := by
      cases v <;> simp [Value.cells] at hcs
      · rename_i x y z; obtain ⟨rfl, rfl, rfl⟩ := hcs; rfl
      · rename_i x; simp [Value.okWide, ht, Cell.okWide, Cell.ok] at hval
    subst hv
    exact ⟨[], fun x hx => (by cases hx), rfl, fun os => ⟨[], .nils, fun x hx => (by cases hx), .nils, .ls0 _ _ _ trivial⟩⟩
  · have hv : v = .slice (some a) len cap := by
      cases v <;> simp [Value.cells] at hcs
      · rename_i x y z; obtain ⟨rfl, rfl, rfl⟩ := hcs; rfl
      · rename_i x; simp [Value.okWide, ht, Cell.okWide, Cell.ok] at hval
    subst hv
    have hhas : w.has P r b0 a e cap := by
      simp [Value.okWide, ht, Cell.okWide, Cell.ok] at hval
      exact hval.2.2
    obtain ⟨_, hspot, row, cells, hsh, _⟩ := hhas
    obtain ⟨arr, T, fz, hw⟩ : ∃ arr T fz, w.heap[a.block]? = some (.cells arr T fz) := by
      unfold World.shape? at hsh
      split at hsh
      · rename_i c el fz e; exact ⟨c, el, fz, e⟩
      · cases hsh
    have hlen : len ≤ zs.length := by rw [hzl]; split <;> omega
    let ns := zs.take len
    have hns : ns.length = len := by simp [ns]; omega
    have hbs : Bytes ns := by
      intro x hx
      have := hwf x (List.mem_of_mem_take hx)
      simp [Lit.wf, IntKind.min, IntKind.max, IntKind.signed, IntKind.bits] at this
      omega
    have hro : ∀ m, DOk m w (.cells (ns.map (AV.i .u8)) .ro [] 0, ⟨a.block, a.off, 0, false⟩) := by
      intro m
      refine ⟨rfl, (Array.getElem?_eq_some_iff.1 hw).1, .inr ⟨_, arr, T, fz, rfl, hw, fun i x hx => ?_⟩⟩
      have hi : i < ns.length := by
        rcases Nat.lt_or_ge i ns.length with h | h
        · exact h
        · rw [List.getElem?_eq_none (by simpa using h)] at hx; cases hx
      obtain ⟨arr', T', fz', hw', hv'⟩ := cell_at (hcell i (by omega))
      rw [hw] at hw'; injection hw' with hw'; injection hw' with h1 h2 h3; subst h1
      refine ⟨_, hv', ?_⟩
      have : x = .i .u8 (zs.getD i 0) := by
        have h2 : (ns.map (AV.i .u8))[i]? = some (.i .u8 (zs.getD i 0)) := by
          simp [ns, List.getElem?_take, show i < len by omega, show i < zs.length by omega, List.getD]
        rw [h2] at hx; injection hx with hx; exact hx.symm
      rw [this]; exact .i _ _
    have hsl : (Value.slice (some a) len cap) = .slice (some ⟨a.block, a.off + 0, none⟩) len cap := by
      have : a = ⟨a.block, a.off, none⟩ := by cases a; simp at hspot; subst hspot; rfl
      exact congrArg (fun x => Value.slice (some x) len cap) this
    refine ⟨ns, hbs, rfl, fun os => ⟨[(.cells (ns.map (AV.i .u8)) .ro [] 0, ⟨a.block, a.off, 0, false⟩)], .sl os.length 0 len (.k cap), fun x hx => ?_, ?_, ?_⟩⟩
    · have : x = (.cells (ns.map (AV.i .u8)) .ro [] 0, ⟨a.block, a.off, 0, false⟩) := by simpa using hx
      subst this; exact hro _
    · rw [hsl]
      exact VR.sl os.length 0 len (.k cap) ⟨a.block, a.off, 0, false⟩ _ (mpD_new _ _) (by simpa [capOf] using hl) (.inl rfl)
    · rw [flatU, hns]
      refine .lsv _ _ _ _ _ _ _ ?_ (fun h => by cases h) (fun k hk => by cases hk; exact hl)
      refine .v _ _ _ (ns.map (AV.i .u8)) os.length 0 (rel_u8 _ _) ⟨by simp [cxD, heapD], ok_u8 _, ns.map (AV.i .u8), .ro, [], 0, heapD_get _ _ (.cells (ns.map (AV.i .u8)) .ro [] 0, ⟨a.block, a.off, 0, false⟩) (by simp), ?_⟩ rfl (fun _ => trivial) (clo_u8 _)
      rw [sub_eq]; simp
end Go.Av
end
section
/- The law CheckBears on the second machine. -/
namespace Go.Av
def symE (name : List UInt8) (kind elem n : Int) (retain : Bool) (init : List Int) : List PV := [.s name, .i .i64 kind, .i .i64 elem, .i .i64 n, .ls (.v false false) 0 [], .b retain, .ls (.v false false) init.length (init.flatMap encI)]
def syms7 : List PV := symE [110] 5 0 0 true [0] ++ (symE [98] 1 0 0 false [1] ++ (symE [119] 3 0 0 false [5] ++ (symE [105] 4 0 0 true [-3] ++ (symE [97] 7 5 3 false [0, 0, 0] ++ (symE [116] 9 0 0 false [0, 50, 0, 0, 0, 0] ++ symE [99] 10 0 0 false [0, 0, 3, 0, 0, 0])))))
def cells19 : List PCell := [⟨[110], 5, true, 0, 0, 0⟩, ⟨[98], 1, false, 1, 0, 0⟩, ⟨[119], 3, false, 5, 0, 0⟩, ⟨[105], 4, true, -3, 0, 0⟩, ⟨[97, 91, 48, 93], 5, false, 0, 3, 0⟩, ⟨[97, 91, 49, 93], 5, false, 0, 0, 0⟩, ⟨[97, 91, 50, 93], 5, false, 0, 0, 0⟩,
  ⟨[116, 46, 73, 78], 1, false, 0, 0, 9⟩, ⟨[116, 46, 80, 84], 6, false, 50, 0, 0⟩, ⟨[116, 46, 81], 1, false, 0, 0, 0⟩, ⟨[116, 46, 69, 84], 6, false, 0, 0, 0⟩, ⟨[116, 46, 84, 48], 6, false, 0, 0, 0⟩, ⟨[116, 46, 82, 85, 78], 1, false, 0, 0, 0⟩,
  ⟨[99, 46, 67, 85], 1, false, 0, 0, 10⟩, ⟨[99, 46, 82], 1, false, 0, 0, 0⟩, ⟨[99, 46, 80, 86], 5, false, 3, 0, 0⟩, ⟨[99, 46, 81], 1, false, 0, 0, 0⟩, ⟨[99, 46, 67, 86], 5, false, 0, 0, 0⟩, ⟨[99, 46, 79, 76, 68], 1, false, 0, 0, 0⟩]
theorem syms_ok : iso (PC pfs) 15 [.b false] = some (.ls (.v false false) 7 syms7) := by
  have h : iso (prun pfs 60 60) 15 [.b false] = some (.ls (.v false false) 7 syms7) := by kernel_rfl
  exact iso_mono PC_of h
theorem cells19_ok : iso (PC pfs) 19 [.ls (.v false false) 7 syms7] = some (.ls (.v false false) 19 (cells19.flatMap PCell.enc)) := by
  have h : iso (prun pfs 60 60) 19 [.ls (.v false false) 7 syms7] = some (.ls (.v false false) 19 (cells19.flatMap PCell.enc)) := by kernel_rfl
  exact iso_mono PC_of h
def envB : KEnv := ⟨cells19, (3 : Nat), (2 : Nat)⟩
def codeB (w : Nat) (a : Int) : List Int :=
  match w with
  | 0 => [2, a, 0]
  | 1 => [3, a, 0]
  | 2 => [24, 0, 5, a, 0]
  | 3 => [24, 0, 24, 1, 6, a, 0]
  | 4 => [27, a, 0]
  | 5 => [24, a, 0]
  | 6 => [24, 0, 25, a, 0]
  | 7 => [20, a, 0]
  | _ => [24, 0, 23, a, 0]
def fineB (w : Nat) (a : Int) : Bool :=
  match w with
  | 0 => decide (a < 3)
  | 1 => decide (a < 19)
  | 2 => decide (a = 4)
  | 3 => decide (a = 4)
  | 4 => decide (a = 7) || decide (a = 13)
  | 5 => decide (a < 4)
  | 6 => decide (a < 4)
  | 7 => decide (a < 2)
  | _ => decide (1 ≤ a) && decide (a ≤ 6)
def wantB (w : Nat) : Int :=
  match w with
  | 0 => 2
  | 5 => 1
  | 6 => 1
  | 7 => 20
  | 8 => 3
  | _ => 12
def bearB (w : Nat) (a : Int) : Bool := match funcK envB (codeB w a) with
  | some r => if fineB w a = true then decide (r.2 = 0) else decide (r.2 = wantB w)
  | none => false
theorem be_0 : ((List.range 256).all fun a => bearB 0 a) = true := by kernel_rfl
theorem be_1 : ((List.range 256).all fun a => bearB 1 a) = true := by kernel_rfl
theorem be_2 : ((List.range 256).all fun a => bearB 2 a) = true := by kernel_rfl
theorem be_3 : ((List.range 256).all fun a => bearB 3 a) = true := by kernel_rfl
theorem be_4 : ((List.range 256).all fun a => bearB 4 a) = true := by kernel_rfl
theorem be_5 : ((List.range 256).all fun a => bearB 5 a) = true := by kernel_rfl
theorem be_6 : ((List.range 256).all fun a => bearB 6 a) = true := by kernel_rfl
theorem be_7 : ((List.range 256).all fun a => bearB 7 a) = true := by kernel_rfl
theorem be_8 : ((List.range 256).all fun a => bearB 8 a) = true := by kernel_rfl
theorem bear_all (w : Nat) (hw : w < 9) (a : Int) (h0 : 0 ≤ a) (h1 : a < 256) : ∃ r, funcK envB (codeB w a) = some r ∧ ((fineB w a = true ∧ r.2 = 0) ∨ (fineB w a = false ∧ r.2 = wantB w)) := by
  have h : bearB w a = true := by
    obtain ⟨x, rfl⟩ := Int.eq_ofNat_of_zero_le h0
    have hx : x ∈ List.range 256 := by simp; omega
    have hc : w = 0 ∨ w = 1 ∨ w = 2 ∨ w = 3 ∨ w = 4 ∨ w = 5 ∨ w = 6 ∨ w = 7 ∨ w = 8 := by omega
    rcases hc with rfl | rfl | rfl | rfl | rfl | rfl | rfl | rfl | rfl
    · exact List.all_eq_true.1 be_0 x hx
    · exact List.all_eq_true.1 be_1 x hx
    · exact List.all_eq_true.1 be_2 x hx
    · exact List.all_eq_true.1 be_3 x hx
    · exact List.all_eq_true.1 be_4 x hx
    · exact List.all_eq_true.1 be_5 x hx
    · exact List.all_eq_true.1 be_6 x hx
    · exact List.all_eq_true.1 be_7 x hx
    · exact List.all_eq_true.1 be_8 x hx
  unfold bearB at h
  cases hf : funcK envB (codeB w a) with
  | none => rw [hf] at h; cases h
  | some r =>
    rw [hf] at h
    simp only at h
    refine ⟨r, rfl, ?_⟩
    cases hb : fineB w a with
    | true => rw [hb] at h; simp at h; exact .inl ⟨rfl, h⟩
    | false => rw [hb] at h; simp at h; exact .inr ⟨rfl, h⟩
theorem bear_func (w : Nat) (hw : w < 9) (a : Int) (h0 : 0 ≤ a) (h1 : a < 256) : ∃ r : Int × Int, ((fineB w a = true ∧ r.2 = 0) ∨ (fineB w a = false ∧ r.2 = wantB w)) ∧
    iso (PC pfs) 12 [.agg [.ls (.v false false) 7 syms7, .ls (.v false false) 3 [.i .i64 1, .i .i64 2, .i .i64 3], .ls (.v false false) 2 [.ls (.v false false) (codeB w a).length ((codeB w a).flatMap encU), .ls (.v false false) 1 [.i .u8 0]]], .i .i64 0] = some (.tup [.i .i64 r.1, .i .i64 r.2]) := by
  obtain ⟨r, h2, h3⟩ := bear_all w hw a h0 h1
  refine ⟨r, h3, ?_⟩
  have hb : Bytes (codeB w a) := by
    have hc : w = 0 ∨ w = 1 ∨ w = 2 ∨ w = 3 ∨ w = 4 ∨ w = 5 ∨ w = 6 ∨ w = 7 ∨ w = 8 := by omega
    rcases hc with rfl | rfl | rfl | rfl | rfl | rfl | rfl | rfl | rfl <;> (intro x hx; simp [codeB] at hx; omega)
  have hl : (codeB w a).length ≤ 10 := by
    have hc : w = 0 ∨ w = 1 ∨ w = 2 ∨ w = 3 ∨ w = 4 ∨ w = 5 ∨ w = 6 ∨ w = 7 ∨ w = 8 := by omega
    rcases hc with rfl | rfl | rfl | rfl | rfl | rfl | rfl | rfl | rfl <;> simp [codeB]
  exact func_ok ⟨false, 7, syms7, false, 3, [.i .i64 1, .i .i64 2, .i .i64 3], false, 2, [.ls (.v false false) (codeB w a).length ((codeB w a).flatMap encU), .ls (.v false false) 1 [.i .u8 0]], false, cells19⟩ rfl cells19_ok 0 false (codeB w a) hb (by omega) (by show 0 < 2; omega) rfl r h2
end Go.Av
end
section
/- The law CheckBears on the second machine. -/
namespace Go.Av
theorem app0 (ob : List PObj) (n : Nat) (cs : List PV) (hn : cs.length = n) (hb : n < 1000) :
    pappendNew ⟨ob, 0, [.live 0 0 1, .live 0 n 1], 0⟩ 1 1 (.ls (.own 1 0) n cs) 1 [.i .u8 0] = some (.ls (.own 1 1) (n + 1) (cs ++ [.i .u8 0]), ⟨ob, 0, [.live 0 0 1, .live 1 (n + 1) 1], 0⟩) := by
  rw [pan_own (σ := ⟨ob, 0, [.live 0 0 1, .live 0 n 1], 0⟩) (x := n) (e := 1) rfl (.inr rfl) (by omega) (by simp [hn]) rfl (by omega) (by omega) (by omega)]
  rfl
theorem bears_law (w a : Int) : iso (PC pfs) 6 [.i .i64 w, .i .i64 a] = some (.b true) := by
  have hkn := known_ok
  have hw1 := within_ok a 256 (by omega) (by omega)
  have hw2 := within_ok w 9 (by omega) (by omega)
  have ha0 : 0 ≤ a % 256 := by omega
  have ha1 : a % 256 < 256 := by omega
  have hb0 : 0 ≤ w % 9 := by omega
  have hb1 : w % 9 < 9 := by omega
  generalize a % 256 = x at *
  generalize w % 9 = k at *
  obtain ⟨n, rfl⟩ := Int.eq_ofNat_of_zero_le hb0
  have hn : n < 9 := by omega
  obtain ⟨r, hr, hF⟩ := bear_func n hn x ha0 ha1
  have hS := syms_ok
  have w8 : awrap .u8 x = x := by rw [awrap_eq]; simp [IntKind.wrap, IntKind.signed, IntKind.bits]; omega
  obtain ⟨p, q⟩ := r
  unfold iso
  rw [PC_eq (F := pf6) rfl]
  generalize syms7 = S at *
  have hc : n = 0 ∨ n = 1 ∨ n = 2 ∨ n = 3 ∨ n = 4 ∨ n = 5 ∨ n = 6 ∨ n = 7 ∨ n = 8 := by omega
  rcases hc with rfl | rfl | rfl | rfl | rfl | rfl | rfl | rfl | rfl
  · have hap := fun ob => app0 ob 2 [.i .u8 2, .i .u8 x] rfl (by omega)
    simp [codeB, encU] at hF
    simp [fineB, wantB] at hr
    simp at hap hw2
    by_cases c1 : x < 3
    · have hq : q = 0 := by omega
      subst hq
      clear hr
      simp [-prunOps, pf6, hkn, hw1, hw2, hS, w8, hap, hF, eq_true c1]
    · have hq : q = 2 := by omega
      subst hq
      clear hr
      simp [-prunOps, pf6, hkn, hw1, hw2, hS, w8, hap, hF, c1]
  · have hap := fun ob => app0 ob 2 [.i .u8 3, .i .u8 x] rfl (by omega)
    simp [codeB, encU] at hF
    simp [fineB, wantB] at hr
    simp at hap hw2
    by_cases c1 : x < 19
    · have hq : q = 0 := by omega
      subst hq
      clear hr
      simp [-prunOps, pf6, hkn, hw1, hw2, hS, w8, hap, hF, eq_true c1]
    · have hq : q = 12 := by omega
      subst hq
      clear hr
      simp [-prunOps, pf6, hkn, hw1, hw2, hS, w8, hap, hF, c1]
  · have hap := fun ob => app0 ob 4 [.i .u8 24, .i .u8 0, .i .u8 5, .i .u8 x] rfl (by omega)
    simp [codeB, encU] at hF
    simp [fineB, wantB] at hr
    simp at hap hw2
    by_cases c1 : x = 4
    · have hq : q = 0 := by omega
      subst hq
      clear hr
      simp [-prunOps, pf6, hkn, hw1, hw2, hS, w8, hap, hF, eq_true c1]
    · have hq : q = 12 := by omega
      subst hq
      clear hr
      simp [-prunOps, pf6, hkn, hw1, hw2, hS, w8, hap, hF, c1]
  · have hap := fun ob => app0 ob 6 [.i .u8 24, .i .u8 0, .i .u8 24, .i .u8 1, .i .u8 6, .i .u8 x] rfl (by omega)
    simp [codeB, encU] at hF
    simp [fineB, wantB] at hr
    simp at hap hw2
    by_cases c1 : x = 4
    · have hq : q = 0 := by omega
      subst hq
      clear hr
      simp [-prunOps, pf6, hkn, hw1, hw2, hS, w8, hap, hF, eq_true c1]
    · have hq : q = 12 := by omega
      subst hq
      clear hr
      simp [-prunOps, pf6, hkn, hw1, hw2, hS, w8, hap, hF, c1]
  · have hap := fun ob => app0 ob 2 [.i .u8 27, .i .u8 x] rfl (by omega)
    simp [codeB, encU] at hF
    simp [fineB, wantB] at hr
    simp at hap hw2
    by_cases c1 : x = 7
    · have hq : q = 0 := by omega
      subst hq
      clear hr
      simp [-prunOps, pf6, hkn, hw1, hw2, hS, w8, hap, hF, eq_true c1]
    · by_cases c2 : x = 13
      · have hq : q = 0 := by omega
        subst hq
        clear hr
        simp [-prunOps, pf6, hkn, hw1, hw2, hS, w8, hap, hF, c1, eq_true c2]
      · have hq : q = 12 := by omega
        subst hq
        clear hr
        simp [-prunOps, pf6, hkn, hw1, hw2, hS, w8, hap, hF, c1, c2]
  · have hap := fun ob => app0 ob 2 [.i .u8 24, .i .u8 x] rfl (by omega)
    simp [codeB, encU] at hF
    simp [fineB, wantB] at hr
    simp at hap hw2
    by_cases c1 : x < 4
    · have hq : q = 0 := by omega
      subst hq
      clear hr
      simp [-prunOps, pf6, hkn, hw1, hw2, hS, w8, hap, hF, eq_true c1]
    · have hq : q = 1 := by omega
      subst hq
      clear hr
      simp [-prunOps, pf6, hkn, hw1, hw2, hS, w8, hap, hF, c1]
  · have hap := fun ob => app0 ob 4 [.i .u8 24, .i .u8 0, .i .u8 25, .i .u8 x] rfl (by omega)
    simp [codeB, encU] at hF
    simp [fineB, wantB] at hr
    simp at hap hw2
    by_cases c1 : x < 4
    · have hq : q = 0 := by omega
      subst hq
      clear hr
      simp [-prunOps, pf6, hkn, hw1, hw2, hS, w8, hap, hF, eq_true c1]
    · have hq : q = 1 := by omega
      subst hq
      clear hr
      simp [-prunOps, pf6, hkn, hw1, hw2, hS, w8, hap, hF, c1]
  · have hap := fun ob => app0 ob 2 [.i .u8 20, .i .u8 x] rfl (by omega)
    simp [codeB, encU] at hF
    simp [fineB, wantB] at hr
    simp at hap hw2
    by_cases c1 : x < 2
    · have hq : q = 0 := by omega
      subst hq
      clear hr
      simp [-prunOps, pf6, hkn, hw1, hw2, hS, w8, hap, hF, eq_true c1]
    · have hq : q = 20 := by omega
      subst hq
      clear hr
      simp [-prunOps, pf6, hkn, hw1, hw2, hS, w8, hap, hF, c1]
  · have hap := fun ob => app0 ob 4 [.i .u8 24, .i .u8 0, .i .u8 23, .i .u8 x] rfl (by omega)
    simp [codeB, encU] at hF
    simp [fineB, wantB] at hr
    simp at hap hw2
    by_cases c1 : 1 ≤ x
    · by_cases c2 : x ≤ 6
      · have hq : q = 0 := by omega
        subst hq
        clear hr
        simp [-prunOps, pf6, hkn, hw1, hw2, hS, w8, hap, hF, c1, c2]
      · have hq : q = 3 := by omega
        subst hq
        clear hr
        simp [-prunOps, pf6, hkn, hw1, hw2, hS, w8, hap, hF, c1, c2]
    · have hq : q = 3 := by omega
      subst hq
      clear hr
      simp [-prunOps, pf6, hkn, hw1, hw2, hS, w8, hap, hF, c1]
end Go.Av
end
