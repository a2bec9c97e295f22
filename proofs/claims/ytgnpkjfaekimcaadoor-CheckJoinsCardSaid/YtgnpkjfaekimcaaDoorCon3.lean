/- Contracts of the functions that the law reaches. -/
import Derived.Test.YtgnpkjfaekimcaaDoorCon2
import Derived.Test.YtgnpkjfaekimcaaDoorAvJD
import Derived.Test.YtgnpkjfaekimcaaDoorCon1
set_option linter.unusedVariables false
set_option linter.unusedSimpArgs false
set_option linter.unusedSectionVars false
section
/- Contracts (seat c6): solenoidref10.Bytes of what pushes; pushed. -/
namespace Go.Av
def byteN (n : Int) (j : Nat) : Int := awrap .u8 ((awrap .u64 n).fdiv (pow2 (8 * j)))
/-- What pushes, as bytes. -/
def pushB (a n : Int) : List Int := [1, awrap .u8 a] ++ (List.range 8).map (byteN n)
theorem app1 (ob : List PObj) (rs : List Root) (v n : Nat) (l : List Int) (x : Int) (hn : l.length = n) (hb : n < 1000000) :
    pappendNew ⟨ob, 0, .live v n 1 :: rs, 0⟩ 1 1 (.ls (.own 0 v) n (l.flatMap encU)) 1 [.i .u8 x] = some (.ls (.own 0 (v + 1)) (n + 1) ((l ++ [x]).flatMap encU), ⟨ob, 0, .live (v + 1) (n + 1) 1 :: rs, 0⟩) := by
  rw [pan_own (σ := ⟨ob, 0, .live v n 1 :: rs, 0⟩) (x := n) (e := 1) rfl (.inr rfl) (by omega) (by simp [hn]) rfl (by omega) (by omega) (by omega)]
  simp [encU]
def stB16 (l : List Int) (v n : Nat) (o : KOp) (g : List PObj) (rs : List Root) (v3 v6 : PV) (j : Nat) (t : PV) : PSt :=
  ⟨[.ls (.own 0 (v + j)) (n + j) ((l ++ (List.range j).map (byteN o.n)).flatMap encU), .agg o.enc, .p g.length 0, v3, .i .i64 9, .i .i64 (j : Nat), v6, t], ⟨g ++ [.cells o.enc 0], 0, .live (v + j) (n + j) 1 :: rs, 0⟩⟩
theorem bytes_loop (l : List Int) (v n : Nat) (hn : l.length = n) (hb : n < 100000) (o : KOp) (g : List PObj) (rs : List Root) (v3 v6 t : PV) :
    ∃ t', piterL (pdenL (PC pfs) lp16_1) (stB16 l v n o g rs v3 v6 0 t) = some (.exit 0, stB16 l v n o g rs v3 v6 8 t') := by
  refine @for_loop (pdenL (PC pfs) lp16_1) PV 0 (stB16 l v n o g rs v3 v6) (stB16 l v n o g rs v3 v6 8) 8 ?_ ?_ t
  · intro j hj t
    refine ⟨.b true, ?_⟩
    have c1 : (j : Int) < 8 := by omega
    have ha := app1 (g ++ [.cells o.enc 0]) rs (v + j) (n + j) (l ++ (List.range j).map (byteN o.n)) (byteN o.n j) (by simp [hn]) (by omega)
    have e1 : (l ++ (List.range j).map (byteN o.n)) ++ [byteN o.n j] = l ++ (List.range (j + 1)).map (byteN o.n) := by rw [List.range_succ]; simp
    rw [e1] at ha
    have w1 : awrap .u64 (j : Int) = (j : Int) := by rw [awrap_eq]; simp [IntKind.wrap, IntKind.signed, IntKind.bits]; omega
    have w2 : awrap .u64 (8 * (j : Int)) = ((8 * j : Nat) : Int) := by rw [awrap_eq]; simp [IntKind.wrap, IntKind.signed, IntKind.bits]; omega
    have h2 : ¬ ((8 : Int) * (j : Int) < 0) := by omega
    have h3 : Nat.min (8 * j) 64 = 8 * j := by show min (8 * j) 64 = 8 * j; omega
    have h4 : (8 * (j : Int)).toNat = 8 * j := by omega
    have e4 : pget o.enc 4 = some (.i .i64 o.n) := rfl
    simp only [byteN] at ha
    simp only [stB16]
    generalize hA : (List.map (byteN o.n) (List.range j)) = A at *
    generalize hB : (List.map (byteN o.n) (List.range (j + 1))) = B at *
    have e2 : v + j + 1 = v + (j + 1) := by omega
    have e3 : n + j + 1 = n + (j + 1) := by omega
    rw [e2, e3] at ha
    simp [-prunOps, -List.flatMap_append, lp16_1, c1, w1, w2, h2, h3, h4, e4, kBits, ha, awrap_nat1 (n := j) (by omega)]
  · intro t
    refine ⟨.b false, ?_⟩
    simp [-prunOps, stB16, lp16_1]
theorem bytes_ok (l : List Int) (v n : Nat) (hn : l.length = n) (hb : n < 10000) (o : KOp) (hs : o.sign = 1) (g : List PObj) (rs : List Root) :
    PC pfs 16 [.ls (.own 0 v) n (l.flatMap encU), .agg o.enc] ⟨g, 0, .live v n 1 :: rs, 0⟩ = some (.ls (.own 0 (v + 10)) (n + 10) ((l ++ pushB o.a o.n).flatMap encU), ⟨g ++ [.cells o.enc 0], 0, .live (v + 10) (n + 10) 1 :: rs, 0⟩) := by
  rw [PC_eq (F := pf16) rfl]
  have hbe := rbears_ok 1 (by omega) (by omega)
  have hb9 : bearsK 1 = 9 := rfl
  rw [hb9] at hbe
  have w1 : awrap .u8 1 = 1 := by rw [awrap_eq]; rfl
  have ha1 := app1 (g ++ [.cells o.enc 0]) rs v n l 1 hn (by omega)
  have ha2 := app1 (g ++ [.cells o.enc 0]) rs (v + 1) (n + 1) (l ++ [1]) (awrap .u8 o.a) (by simp [hn]) (by omega)
  obtain ⟨t', hlp⟩ := bytes_loop ((l ++ [1]) ++ [awrap .u8 o.a]) (v + 2) (n + 2) (by simp [hn]) (by omega) o g rs nil (.b true) .und
  have e2 : pget o.enc 2 = some (.i .i64 1) := by rw [← hs]; rfl
  have e3 : pget o.enc 3 = some (.i .i64 o.a) := rfl
  have hok : pokCells o.enc = true := rfl
  have ep : l ++ pushB o.a o.n = (l ++ [1]) ++ [awrap .u8 o.a] ++ (List.range 8).map (byteN o.n) := by simp [pushB]
  rw [ep]
  simp only [stB16, nil] at hlp
  generalize l ++ [1] = l1 at *
  generalize l1 ++ [awrap .u8 o.a] = l2 at *
  simp [-List.flatMap_append] at ha1 ha2 hlp
  generalize hB : (List.map (byteN o.n) (List.range 8)) = B at *
  simp [-prunOps, -List.flatMap_append, pf16, e2, e3, hok, hbe, w1, ha1, ha2, hlp]
theorem bytes_nil (o : KOp) (hs : o.sign = 1) (g : List PObj) :
    PC pfs 16 [nil, .agg o.enc] ⟨g, 0, [], 0⟩ = some (.ls (.own 0 9) 10 ((pushB o.a o.n).flatMap encU), ⟨g ++ [.cells o.enc 0], 0, [.live 9 10 1], 0⟩) := by
  rw [PC_eq (F := pf16) rfl]
  have hbe := rbears_ok 1 (by omega) (by omega)
  have hb9 : bearsK 1 = 9 := rfl
  rw [hb9] at hbe
  have w1 : awrap .u8 1 = 1 := by rw [awrap_eq]; rfl
  have ha0 := pan_view (σ := ⟨g ++ [.cells o.enc 0], 0, [], 0⟩) (ez := 1) (bytes := 1) (n := 1) (sn := 0) (b := false) (cs := []) (new := [.i .u8 1]) (by simp) (by omega) (by omega) (.inl rfl)
  have ha2 := app1 (g ++ [.cells o.enc 0]) [] 0 1 [1] (awrap .u8 o.a) (by simp) (by omega)
  obtain ⟨t', hlp⟩ := bytes_loop ([1] ++ [awrap .u8 o.a]) 1 2 (by simp) (by omega) o g [] nil (.b true) .und
  have e2 : pget o.enc 2 = some (.i .i64 1) := by rw [← hs]; rfl
  have e3 : pget o.enc 3 = some (.i .i64 o.a) := rfl
  have hok : pokCells o.enc = true := rfl
  have ep : pushB o.a o.n = [1] ++ [awrap .u8 o.a] ++ (List.range 8).map (byteN o.n) := by simp [pushB]
  rw [ep]
  simp only [stB16, nil] at hlp
  generalize hB : (List.map (byteN o.n) (List.range 8)) = B at *
  generalize hl2 : [1] ++ [awrap .u8 o.a] = l2 at *
  simp [-List.flatMap_append] at ha0 ha2 hlp
  simp only [List.flatMap_cons, List.flatMap_nil, encU, List.append_nil, List.cons_append, List.nil_append] at ha2
  simp [-prunOps, -List.flatMap_append, pf16, e2, e3, hok, hbe, w1, ha0, ha2, hlp]
end Go.Av
end
section
/- A number's bytes, written and read; pushed. -/
namespace Go.Av
def I64 (n : Int) : Prop := -9223372036854775808 ≤ n ∧ n < 9223372036854775808
theorem u64_nat (n : Int) : ∃ U : Nat, awrap .u64 n = (U : Int) ∧ U < 18446744073709551616 ∧ (U : Int) = n % 18446744073709551616 := by
  refine ⟨(n % 18446744073709551616).toNat, ?_, by omega, by omega⟩
  rw [awrap_eq]; simp [IntKind.wrap, IntKind.signed, IntKind.bits]; omega
theorem u64_id (U : Nat) (h : U < 18446744073709551616) : awrap .u64 (U : Int) = (U : Int) := by
  rw [awrap_eq]; simp [IntKind.wrap, IntKind.signed, IntKind.bits]; omega
theorem pow2_8 (j : Nat) : pow2 (8 * j) = ((256 ^ j : Nat) : Int) := by
  show ((2 ^ (8 * j) : Nat) : Int) = _
  rw [Nat.pow_mul]
theorem byteN_nat {n : Int} {U : Nat} (h : awrap .u64 n = (U : Int)) (j : Nat) : byteN n j = ((U / 256 ^ j % 256 : Nat) : Int) := by
  unfold byteN
  rw [h, pow2_8]
  have e : ((U : Int)).fdiv ((256 ^ j : Nat) : Int) = ((U / 256 ^ j : Nat) : Int) := by
    rw [Int.fdiv_eq_ediv_of_nonneg _ (Int.natCast_nonneg _)]; rfl
  rw [e, awrap_eq]
  simp [IntKind.wrap, IntKind.signed, IntKind.bits]
theorem toU_nat (U : Nat) (h : U < 18446744073709551616) : toU .u64 (U : Int) = U := by
  show U % 18446744073709551616 = U
  exact Nat.mod_eq_of_lt h
theorem ofU_nat (U : Nat) (h : U < 18446744073709551616) : ofU .u64 U = (U : Int) := by
  unfold ofU
  have : Nat.blt U (kTop .u64) = true := by simp [kTop]; exact h
  rw [this]; rfl
theorem numStep_nat (A B k : Nat) (hA : A < 256 ^ k) (hB : B < 256) (hk : k < 8) : numStep (A : Int) (B : Int) k = ((A + 256 ^ k * B : Nat) : Int) := by
  unfold numStep
  have h1 : 256 ^ k * B + 256 ^ k ≤ 256 ^ k * 256 := by rw [← Nat.mul_succ]; exact Nat.mul_le_mul_left _ hB
  have h2 : 256 ^ k * 256 ≤ 18446744073709551616 := by
    have : 256 ^ (k + 1) ≤ 256 ^ 8 := Nat.pow_le_pow_right (by omega) (by omega)
    rw [Nat.pow_succ] at this
    exact this
  have hp : 0 < 256 ^ k := Nat.pow_pos (by omega)
  rw [u64_id B (by omega), pow2_8]
  have e : (B : Int) * ((256 ^ k : Nat) : Int) = ((256 ^ k * B : Nat) : Int) := by rw [Nat.mul_comm, Int.natCast_mul]
  rw [e, u64_id _ (by omega), toU_nat _ (by omega), toU_nat _ (by omega)]
  have hor : Nat.lor A (256 ^ k * B) = A + 256 ^ k * B := by
    have h3 : (256 : Nat) ^ k = 2 ^ (8 * k) := by rw [Nat.pow_mul]
    rw [h3] at hA ⊢
    have := Nat.two_pow_add_eq_or_of_lt hA B
    show A ||| (2 ^ (8 * k) * B) = _
    rw [Nat.or_comm, ← this, Nat.add_comm]
  rw [hor, ofU_nat _ (by omega)]
theorem numF_bytes (b : List Int) (i : Nat) (n : Int) (U : Nat) (hU : awrap .u64 n = (U : Int)) (hb : ∀ j, j < 8 → bAt b (i + j) = byteN n j) : ∀ j, j ≤ 8 → numF b i j = ((U % 256 ^ j : Nat) : Int)
  | 0, _ => by simp [numF, Nat.mod_one]
  | j + 1, h => by
    have ih := numF_bytes b i n U hU hb j (by omega)
    rw [numF, ih, hb j (by omega), byteN_nat hU, numStep_nat _ _ _ (Nat.mod_lt _ (Nat.pow_pos (by omega))) (Nat.mod_lt _ (by omega)) (by omega)]
    congr 1
    rw [Nat.pow_succ, Nat.mod_mul]
theorem numK_bytes (b : List Int) (i : Nat) (n : Int) (hn : I64 n) (hb : ∀ j, j < 8 → bAt b (i + j) = byteN n j) : numK b i = n := by
  obtain ⟨U, h1, h2, h3⟩ := u64_nat n
  unfold numK
  rw [numF_bytes b i n U h1 hb 8 (by omega)]
  have e : U % 256 ^ 8 = U := Nat.mod_eq_of_lt h2
  rw [e, awrap_eq, h3]
  obtain ⟨a, b⟩ := hn
  simp [IntKind.wrap, IntKind.signed, IntKind.bits]
  split <;> omega
theorem pushB_len (a n : Int) : (pushB a n).length = 10 := by simp [pushB]
theorem pushB_bytes (a n : Int) : Bytes (pushB a n) := by
  have hw : ∀ x : Int, 0 ≤ awrap .u8 x ∧ awrap .u8 x < 256 := by
    intro x; rw [awrap_eq]; simp [IntKind.wrap, IntKind.signed, IntKind.bits]; omega
  intro x hx
  simp only [pushB, List.mem_append, List.mem_cons, List.mem_map, List.not_mem_nil, or_false] at hx
  rcases hx with (rfl | rfl) | ⟨j, _, rfl⟩
  · omega
  · exact hw _
  · exact hw _
theorem bytes_app {a b : List Int} (ha : Bytes a) (hb : Bytes b) : Bytes (a ++ b) := by
  intro x hx
  rcases List.mem_append.1 hx with h | h
  · exact ha x h
  · exact hb x h
def pushO (a n : Int) : KOp := ⟨0, 0, 1, a, n⟩
theorem pushed_ok (l : List Int) (v n : Nat) (hn : l.length = n) (hb : n < 10000) (a k : Int) (g : List PObj) (rs : List Root) :
    PC pfs 11 [.ls (.own 0 v) n (l.flatMap encU), .i .i64 a, .i .i64 k] ⟨g, 0, .live v n 1 :: rs, 0⟩
      = some (.ls (.own 0 (v + 10)) (n + 10) ((l ++ pushB a (wrapK a k)).flatMap encU), ⟨g ++ [.cells (pushO a (wrapK a k)).enc 0], 0, .live (v + 10) (n + 10) 1 :: rs, 0⟩) := by
  rw [PC_eq (F := pf11) rfl]
  have hw := rwrap_ok a k
  have hB := bytes_ok l v n hn hb (pushO a (wrapK a k)) rfl g rs
  simp only [pushO, KOp.enc] at hB ⊢
  generalize l ++ pushB a (wrapK a k) = q at *
  simp [-prunOps, pf11, hw, hB]
theorem pushed_nil (a k : Int) (g : List PObj) :
    PC pfs 11 [nil, .i .i64 a, .i .i64 k] ⟨g, 0, [], 0⟩ = some (.ls (.own 0 9) 10 ((pushB a (wrapK a k)).flatMap encU), ⟨g ++ [.cells (pushO a (wrapK a k)).enc 0], 0, [.live 9 10 1], 0⟩) := by
  rw [PC_eq (F := pf11) rfl]
  have hw := rwrap_ok a k
  have hB := bytes_nil (pushO a (wrapK a k)) rfl g
  simp only [pushO, KOp.enc] at hB ⊢
  generalize pushB a (wrapK a k) = q at *
  simp only [nil] at hB ⊢
  simp [-prunOps, pf11, hw, hB]
def E01 : KEnv := ⟨[], (0 : Nat), (1 : Nat)⟩
/-- An append to a copy: the copy is root r. -/
theorem appR (ob : List PObj) (rt : List Root) (r v n : Nat) (l m : List Int) (hr : getR rt r = .live v n 1) (hn : l.length = n) (hm : 0 < m.length) (hb : n + m.length < 1000000) :
    pappendNew ⟨ob, 0, rt, 0⟩ 1 1 (.ls (.own r v) n (l.flatMap encU)) m.length (m.flatMap encU) = some (.ls (.own r (v + 1)) (n + m.length) ((l ++ m).flatMap encU), ⟨ob, 0, setR rt r (.live (v + 1) (n + m.length) 1), 0⟩) := by
  rw [pan_own (σ := ⟨ob, 0, rt, 0⟩) (x := n) (e := 1) hr (.inr rfl) (by omega) (by simp [hn]) rfl hm (by omega) (by omega)]
  simp [PH.setRoot]
theorem copyR (ob : List PObj) (rt : List Root) (n : Nat) (l : List Int) (hn : l.length = n) (hb : n < 1000000) (hp : 0 < n) :
    pappendNew ⟨ob, 0, rt, 0⟩ 1 1 (.ls (.v false true) 0 []) n (l.flatMap encU) = some (.ls (.fresh n 1) n (l.flatMap encU), ⟨ob, 0, rt, 0⟩) := by
  have := pan_view (σ := ⟨ob, 0, rt, 0⟩) (ez := 1) (bytes := 1) (n := n) (sn := 0) (b := false) (cs := []) (new := l.flatMap encU) (by simp) (by omega) (by omega) (.inl rfl)
  simpa using this
end Go.Av
end
section
/- An argument that is bytes. -/
namespace Go.Av
open Go.ChangeShapes Go.WideShapes Go.ChangeAt Go.RowKit
theorem flatU (l : List Int) : l.flatMap encU = l.map (PV.i .u8) := by
  induction l with
  | nil => rfl
  | cons a l ih => simp [encU, ih]
theorem rel_u8 (X : Cx) : ∀ l : List Int, VRelL X (l.map (PV.i .u8)) (l.map (AV.i .u8))
  | [] => .nil
  | a :: l => .cons _ _ _ _ (.i _ _) (rel_u8 X l)
theorem ok_u8 : ∀ l : List Int, okCells (l.map (AV.i .u8)) = true
  | [] => rfl
  | a :: l => by simp [okCells, AV.okCell, ok_u8 l]
theorem clo_u8 : ∀ l : List Int, cloL false (l.map (PV.i .u8)) = true
  | [] => rfl
  | a :: l => by simp [cloL, isClo, clo_u8 l]
theorem mpD_new (os : List (AObj × BI)) (x : AObj × BI) : mpD (os ++ [x]) os.length = some x.2 := by simp [mpD]
theorem argD_bytes {H : Type} {enc : TypeId × Value → H} {P : Program} {w : World} {base b0 : Nat} {spare : Nat → Bool} {held : Bool} {r : Reach} {t e : TypeId} {v : Value} {d : DataW H} {ps : List MemPlace}
    (ht : P.underlying t = some (.slice e)) (he : P.underlying e = some (.int .u8)) (hc : P.cellsOf e = 1) (hval : Value.okWide P w r b0 t v) (hd : DataW.Trod enc P w base spare held t v d ps) :
    ∃ ns : List Int, Bytes ns ∧ ArgD w v (.ls (.v false false) ns.length (ns.flatMap encU)) := by
  obtain ⟨fuel, hf⟩ := hd
  rcases open_ints ht he hc hf with ⟨hcs, _⟩ | ⟨a, len, cap, zs, hcs, _, hl, _, hzl, _, hcell, hwf⟩
  · have hv : v = .slice none 0 0 := by
      cases v <;> simp [Value.cells] at hcs
      · rename_i x y z; obtain ⟨rfl, rfl, rfl⟩ := hcs; rfl
      · rename_i x; simp [Value.okWide, ht, Cell.okWide, Cell.ok] at hval
    subst hv
    exact ⟨[], fun x hx => (by cases hx), rfl, fun os => ⟨[], .nils, fun x hx => (by cases hx), .nils, .ls0 _ _ _ trivial⟩⟩
  · have hv : v = .slice (some a) len cap := by
      cases v <;> simp [Value.cells] at hcs
      · rename_i x y z; obtain ⟨rfl, rfl, rfl⟩ := hcs; rfl
      · rename_i x; simp [Value.okWide, ht, Cell.okWide, Cell.ok] at hval
    subst hv
    have hhas : w.has P r b0 a e cap := by
      simp [Value.okWide, ht, Cell.okWide, Cell.ok] at hval
      exact hval.2.2
    obtain ⟨_, hspot, row, cells, hsh, _⟩ := hhas
    obtain ⟨arr, T, fz, hw⟩ : ∃ arr T fz, w.heap[a.block]? = some (.cells arr T fz) := by
      unfold World.shape? at hsh
      split at hsh
      · rename_i c el fz e; exact ⟨c, el, fz, e⟩
      · cases hsh
    have hlen : len ≤ zs.length := by rw [hzl]; split <;> omega
    let ns := zs.take len
    have hns : ns.length = len := by simp [ns]; omega
    have hbs : Bytes ns := by
      intro x hx
      have := hwf x (List.mem_of_mem_take hx)
      simp [Lit.wf, IntKind.min, IntKind.max, IntKind.signed, IntKind.bits] at this
      omega
    have hro : ∀ m, DOk m w (.cells (ns.map (AV.i .u8)) .ro [] 0, ⟨a.block, a.off, 0, false⟩) := by
      intro m
      refine ⟨rfl, (Array.getElem?_eq_some_iff.1 hw).1, .inr ⟨_, arr, T, fz, rfl, hw, fun i x hx => ?_⟩⟩
      have hi : i < ns.length := by
        rcases Nat.lt_or_ge i ns.length with h | h
        · exact h
        · rw [List.getElem?_eq_none (by simpa using h)] at hx; cases hx
      obtain ⟨arr', T', fz', hw', hv'⟩ := cell_at (hcell i (by omega))
      rw [hw] at hw'; injection hw' with hw'; injection hw' with h1 h2 h3; subst h1
      refine ⟨_, hv', ?_⟩
      have : x = .i .u8 (zs.getD i 0) := by
        have h2 : (ns.map (AV.i .u8))[i]? = some (.i .u8 (zs.getD i 0)) := by
          simp [ns, List.getElem?_take, show i < len by omega, show i < zs.length by omega, List.getD]
        rw [h2] at hx; injection hx with hx; exact hx.symm
      rw [this]; exact .i _ _
    have hsl : (Value.slice (some a) len cap) = .slice (some ⟨a.block, a.off + 0, none⟩) len cap := by
      have : a = ⟨a.block, a.off, none⟩ := by cases a; simp at hspot; subst hspot; rfl
      exact congrArg (fun x => Value.slice (some x) len cap) this
    refine ⟨ns, hbs, rfl, fun os => ⟨[(.cells (ns.map (AV.i .u8)) .ro [] 0, ⟨a.block, a.off, 0, false⟩)], .sl os.length 0 len (.k cap), fun x hx => ?_, ?_, ?_⟩⟩
    · have : x = (.cells (ns.map (AV.i .u8)) .ro [] 0, ⟨a.block, a.off, 0, false⟩) := by simpa using hx
      subst this; exact hro _
    · rw [hsl]
      exact VR.sl os.length 0 len (.k cap) ⟨a.block, a.off, 0, false⟩ _ (mpD_new _ _) (by simpa [capOf] using hl) (.inl rfl)
    · rw [flatU, hns]
      refine .lsv _ _ _ _ _ _ _ ?_ (fun h => by cases h) (fun k hk => by cases hk; exact hl)
      refine .v _ _ _ (ns.map (AV.i .u8)) os.length 0 (rel_u8 _ _) ⟨by simp [cxD, heapD], ok_u8 _, ns.map (AV.i .u8), .ro, [], 0, heapD_get _ _ (.cells (ns.map (AV.i .u8)) .ro [] 0, ⟨a.block, a.off, 0, false⟩) (by simp), ?_⟩ rfl (fun _ => trivial) (clo_u8 _)
      rw [sub_eq]; simp
end Go.Av
end
section
/- The law CheckJoins on the second machine. -/
namespace Go.Av
def joinC0 : List Int := pushB 1 (wrapK 1 1)
def joinC1 : List Int := joinC0 ++ [19, 24]
def joinC2 (a : Int) : List Int := joinC1 ++ pushB a (wrapK a 1)
def joinC3 (a : Int) : List Int := joinC2 a ++ [18, 34]
def joinC4 (a b : Int) : List Int := joinC3 a ++ pushB b (wrapK b 1)
def joinC5 (a b : Int) : List Int := joinC4 a b ++ [22, 0]
def joinB (a b : Int) : Bool := match funcK E01 (joinC5 a b) with
  | some r => if a = b then decide (r.2 = 0) && decide (r.1 = 1) else decide (r.2 = 19)
  | none => false
theorem join_all : ((List.range 6).all fun a => (List.range 6).all fun b => joinB (1 + a) (1 + b)) = true := by kernel_rfl
def deadB (d : Int) : Bool := match funcK E01 [0, d] with
  | some r => decide (d = 18) || decide (d = 19) || decide (decide (r.2 = 0) = decide ((allS numR [0, d]).2 = 0))
  | none => false
theorem dead_all : ((List.range 30).all fun d => deadB d) = true := by kernel_rfl
theorem joins_ok (a b d : Int) : iso (PC pfs) 4 [.i .i64 a, .i .i64 b, .i .i64 d] = some (.b true) := by
  have hkn := known_ok
  have hw1 := within_ok a 6 (by omega) (by omega)
  have hw2 := within_ok b 6 (by omega) (by omega)
  have hw3 := within_ok d 30 (by omega) (by omega)
  have ha0 : 0 ≤ a % 6 := by omega
  have ha1 : a % 6 < 6 := by omega
  have hb0 : 0 ≤ b % 6 := by omega
  have hb1 : b % 6 < 6 := by omega
  have hd0 : 0 ≤ d % 30 := by omega
  have hd1 : d % 30 < 30 := by omega
  generalize a % 6 = a' at *
  generalize b % 6 = b' at *
  generalize d % 30 = d' at *
  have hj : joinB (1 + a') (1 + b') = true := by
    obtain ⟨x, rfl⟩ := Int.eq_ofNat_of_zero_le ha0
    obtain ⟨y, rfl⟩ := Int.eq_ofNat_of_zero_le hb0
    exact List.all_eq_true.1 (List.all_eq_true.1 join_all x (by simp; omega)) y (by simp; omega)
  have hd : deadB d' = true := by
    obtain ⟨x, rfl⟩ := Int.eq_ofNat_of_zero_le hd0
    exact List.all_eq_true.1 dead_all x (by simp; omega)
  obtain ⟨ka, hka⟩ : ∃ ka, 1 + a' = ka := ⟨_, rfl⟩
  obtain ⟨kb, hkb⟩ : ∃ kb, 1 + b' = kb := ⟨_, rfl⟩
  have hk1 : awrap .i64 (1 + a') = ka := by rw [← hka]; exact awrap_id (by omega) (by omega)
  have hk2 : awrap .i64 (1 + b') = kb := by rw [← hkb]; exact awrap_id (by omega) (by omega)
  have w8 : awrap .u8 d' = d' := by rw [awrap_eq]; simp [IntKind.wrap, IntKind.signed, IntKind.bits]; omega
  rw [hka, hkb] at hj
  unfold joinB at hj
  unfold deadB at hd
  have hp0 := pushed_nil 1 1 []
  have hp1 := fun g => appR g [.live 9 10 1] 0 9 10 joinC0 [19, 24] rfl rfl (by simp) (by simp)
  have hp2 := fun g => pushed_ok joinC1 10 12 rfl (by omega) ka 1 g []
  have l2 : (joinC2 ka).length = 22 := by simp [joinC2, joinC1, joinC0, pushB_len]
  have hp3 := fun g => appR g [.live 20 22 1] 0 20 22 (joinC2 ka) [18, 34] rfl l2 (by simp) (by simp)
  have l3 : (joinC3 ka).length = 24 := by simp [joinC3, l2]
  have hp4 := fun g => pushed_ok (joinC3 ka) 21 24 l3 (by omega) kb 1 g []
  have l4 : (joinC4 ka kb).length = 34 := by simp [joinC4, l3, pushB_len]
  have hp5 := fun g => appR g [.live 31 34 1] 0 31 34 (joinC4 ka kb) [22, 0] rfl l4 (by simp) (by simp)
  have l5 : (joinC5 ka kb).length = 36 := by simp [joinC5, l4]
  have e0 : pushB 1 (wrapK 1 1) = joinC0 := rfl
  have e1 : joinC0 ++ [19, 24] = joinC1 := rfl
  have e2 : joinC1 ++ pushB ka (wrapK ka 1) = joinC2 ka := rfl
  have e3 : joinC2 ka ++ [18, 34] = joinC3 ka := rfl
  have e4 : joinC3 ka ++ pushB kb (wrapK kb 1) = joinC4 ka kb := rfl
  have e5 : joinC4 ka kb ++ [22, 0] = joinC5 ka kb := rfl
  simp only [e0] at hp0
  simp only [e1] at hp1
  simp only [e2] at hp2
  simp only [e3] at hp3
  simp only [e4] at hp4
  simp only [e5] at hp5
  clear e0 e1 e2 e3 e4 e5
  have hby : Bytes (joinC5 ka kb) := by
    have b2 : Bytes [19, 24] := by intro x hx; simp at hx; omega
    have b3 : Bytes [18, 34] := by intro x hx; simp at hx; omega
    have b4 : Bytes [22, 0] := by intro x hx; simp at hx; omega
    exact bytes_app (bytes_app (bytes_app (bytes_app (bytes_app (pushB_bytes _ _) b2) (pushB_bytes _ _)) b3) (pushB_bytes _ _)) b4
  have hbd : Bytes [0, d'] := by intro x hx; simp at hx; omega
  have hF := fun (l : List Int) (hl : Bytes l) (hll : l.length ≤ 200) r hr => func0_ok 0 [] 1 [.ls (.v false false) l.length (l.flatMap encU)] 0 false l hl (by omega) (by omega) rfl r hr
  have hF1 := hF (joinC5 ka kb) hby (by omega)
  rw [l5] at hF1
  have hF2 := hF [0, d'] hbd (by simp)
  change ∀ r, funcK E01 _ = some r → _ at hF1 hF2
  have hA := rall_ok false [0, d'] hbd (by simp)
  have hC := fun ob rt => pan_view (σ := ⟨ob, 0, rt, 0⟩) (ez := 1) (bytes := 1) (n := 1) (sn := 1) (b := false) (cs := [.i .u8 0]) (new := [.i .u8 d']) (by simp) (by omega) (by omega) (.inl rfl)
  unfold iso
  rw [PC_eq (F := pf4) rfl]
  generalize joinC1 = c1 at *
  generalize joinC0 = c0 at *
  generalize joinC2 ka = c2 at *
  generalize joinC3 ka = c3 at *
  generalize joinC4 ka kb = c4 at *
  generalize joinC5 ka kb = c5 at *
  cases h1 : funcK E01 c5 with
  | none => rw [h1] at hj; cases hj
  | some r1 =>
    cases h2 : funcK E01 [0, d'] with
    | none => rw [h2] at hd; cases hd
    | some r2 =>
      have hF1 := hF1 r1 h1
      have hF2 := hF2 r2 h2
      rw [h1] at hj
      rw [h2] at hd
      obtain ⟨p1, q1⟩ := r1
      obtain ⟨p2, q2⟩ := r2
      simp only at hj hd
      simp [encU] at hF1 hF2 hp1 hp3 hp5
      simp only [nil, pushO, KOp.enc] at hp0 hp2 hp4
      generalize allS numR [0, d'] = as at *
      obtain ⟨l, f⟩ := as
      simp only at hA hd
      simp at hp0 hp2 hp4 hC
      have key : ∀ (h18 : d' = 18 ∨ d' = 19 ∨ (d' ≠ 18 ∧ d' ≠ 19 ∧ decide (q2 = 0) = decide (f = 0))), True := fun _ => trivial
      clear key hF
      have h18 : d' = 18 ∨ d' = 19 ∨ (d' ≠ 18 ∧ d' ≠ 19 ∧ (q2 = 0 ↔ f = 0)) := by
        simp at hd
        by_cases e1 : d' = 18
        · exact .inl e1
        · by_cases e2 : d' = 19
          · exact .inr (.inl e2)
          · refine .inr (.inr ⟨e1, e2, ?_⟩)
            rcases hd with (h | h) | h
            · exact absurd h e1
            · exact absurd h e2
            · by_cases x : q2 = 0 <;> by_cases y : f = 0 <;> simp_all
      have hres : (ka = kb ∧ q1 = 0 ∧ p1 = 1) ∨ (ka ≠ kb ∧ q1 = 19) := by
        by_cases e : ka = kb
        · rw [if_pos e] at hj; simp at hj; exact .inl ⟨e, hj.1, hj.2⟩
        · rw [if_neg e] at hj; simp at hj; exact .inr ⟨e, hj⟩
      clear hd hj h1 h2 hby hbd l2 l3 l4 l5
      have hA' : (f = 0 ∧ ∃ n cs, iso (PC pfs) 13 [.ls (.v false false) 2 [.i .u8 0, .i .u8 d']] = some (.tup [.ls (.fresh n 5) n cs, .i .i64 0])) ∨ (f ≠ 0 ∧ iso (PC pfs) 13 [.ls (.v false false) 2 [.i .u8 0, .i .u8 d']] = some (.tup [.ls (.v false false) 0 [], .i .i64 f])) := by
        rcases hA with ⟨e, h⟩ | ⟨e, _, h⟩
        · exact .inl ⟨e, _, _, h⟩
        · exact .inr ⟨e, h⟩
      clear hA
      rcases h18 with e18 | e19 | ⟨e18, e19, hq⟩
      · subst e18
        rcases hA' with ⟨hf, n, cs, hA⟩ | ⟨hf, hA⟩
        · simp [-prunOps, pf4, hkn, hw1, hw2, hw3, hk1, hk2, hp0, hp1, hp2, hp3, hp4, hp5, hF1, hF2, hC, hA, w8]
        · simp [-prunOps, pf4, hkn, hw1, hw2, hw3, hk1, hk2, hp0, hp1, hp2, hp3, hp4, hp5, hF1, hF2, hC, hA, w8]
      · subst e19
        rcases hA' with ⟨hf, n, cs, hA⟩ | ⟨hf, hA⟩
        · simp [-prunOps, pf4, hkn, hw1, hw2, hw3, hk1, hk2, hp0, hp1, hp2, hp3, hp4, hp5, hF1, hF2, hC, hA, w8]
        · simp [-prunOps, pf4, hkn, hw1, hw2, hw3, hk1, hk2, hp0, hp1, hp2, hp3, hp4, hp5, hF1, hF2, hC, hA, w8]
      · rcases hA' with ⟨hf, n, cs, hA⟩ | ⟨hf, hA⟩
        · have hq2 := hq.2 hf
          subst hq2
          rcases hres with ⟨e, rfl, rfl⟩ | ⟨e, rfl⟩
          · subst e
            simp [-prunOps, pf4, hkn, hw1, hw2, hw3, hk1, hk2, hp0, hp1, hp2, hp3, hp4, hp5, hF1, hF2, hC, hA, w8, e18, e19]
          · simp [-prunOps, pf4, hkn, hw1, hw2, hw3, hk1, hk2, hp0, hp1, hp2, hp3, hp4, hp5, hF1, hF2, hC, hA, w8, e18, e19, e]
        · have hq2 : ¬ q2 = 0 := fun e => hf (hq.1 e)
          rcases hres with ⟨e, rfl, rfl⟩ | ⟨e, rfl⟩
          · subst e
            simp [-prunOps, pf4, hkn, hw1, hw2, hw3, hk1, hk2, hp0, hp1, hp2, hp3, hp4, hp5, hF1, hF2, hC, hA, w8, e18, e19, hq2, hf]
          · simp [-prunOps, pf4, hkn, hw1, hw2, hw3, hk1, hk2, hp0, hp1, hp2, hp3, hp4, hp5, hF1, hF2, hC, hA, w8, e18, e19, e, hq2, hf]
end Go.Av
end
