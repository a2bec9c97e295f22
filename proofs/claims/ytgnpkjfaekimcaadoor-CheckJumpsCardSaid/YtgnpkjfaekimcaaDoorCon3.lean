/- Contracts of the functions that the law reaches. -/
import Derived.Test.YtgnpkjfaekimcaaDoorCon2
import Derived.Test.YtgnpkjfaekimcaaDoorAvJD
import Derived.Test.YtgnpkjfaekimcaaDoorCon1
set_option linter.unusedVariables false
set_option linter.unusedSimpArgs false
set_option linter.unusedSectionVars false
section
/- Contracts (seat c6): solenoidref10.Bytes of what pushes; pushed. -/
namespace Go.Av
def byteN (n : Int) (j : Nat) : Int := awrap .u8 ((awrap .u64 n).fdiv (pow2 (8 * j)))
/-- What pushes, as bytes. -/
def pushB (a n : Int) : List Int := [1, awrap .u8 a] ++ (List.range 8).map (byteN n)
theorem app1 (ob : List PObj) (rs : List Root) (v n : Nat) (l : List Int) (x : Int) (hn : l.length = n) (hb : n < 1000000) :
    pappendNew ⟨ob, 0, .live v n 1 :: rs, 0⟩ 1 1 (.ls (.own 0 v) n (l.flatMap encU)) 1 [.i .u8 x] = some (.ls (.own 0 (v + 1)) (n + 1) ((l ++ [x]).flatMap encU), ⟨ob, 0, .live (v + 1) (n + 1) 1 :: rs, 0⟩) := by
  rw [pan_own (σ := ⟨ob, 0, .live v n 1 :: rs, 0⟩) (x := n) (e := 1) rfl (.inr rfl) (by omega) (by simp [hn]) rfl (by omega) (by omega) (by omega)]
  simp [encU]
def stB16 (l : List Int) (v n : Nat) (o : KOp) (g : List PObj) (rs : List Root) (v3 v6 : PV) (j : Nat) (t : PV) : PSt :=
  ⟨[.ls (.own 0 (v + j)) (n + j) ((l ++ (List.range j).map (byteN o.n)).flatMap encU), .agg o.enc, .p g.length 0, v3, .i .i64 9, .i .i64 (j : Nat), v6, t], ⟨g ++ [.cells o.enc 0], 0, .live (v + j) (n + j) 1 :: rs, 0⟩⟩
theorem bytes_loop (l : List Int) (v n : Nat) (hn : l.length = n) (hb : n < 100000) (o : KOp) (g : List PObj) (rs : List Root) (v3 v6 t : PV) :
    ∃ t', piterL (pdenL (PC pfs) lp16_1) (stB16 l v n o g rs v3 v6 0 t) = some (.exit 0, stB16 l v n o g rs v3 v6 8 t') := by
  refine @for_loop (pdenL (PC pfs) lp16_1) PV 0 (stB16 l v n o g rs v3 v6) (stB16 l v n o g rs v3 v6 8) 8 ?_ ?_ t
  · intro j hj t
    refine ⟨.b true, ?_⟩
    have c1 : (j : Int) < 8 := by omega
    have ha := app1 (g ++ [.cells o.enc 0]) rs (v + j) (n + j) (l ++ (List.range j).map (byteN o.n)) (byteN o.n j) (by simp [hn]) (by omega)
    have e1 : (l ++ (List.range j).map (byteN o.n)) ++ [byteN o.n j] = l ++ (List.range (j + 1)).map (byteN o.n) := by rw [List.range_succ]; simp
    rw [e1] at ha
    have w1 : awrap .u64 (j : Int) = (j : Int) := by rw [awrap_eq]; simp [IntKind.wrap, IntKind.signed, IntKind.bits]; omega
    have w2 : awrap .u64 (8 * (j : Int)) = ((8 * j : Nat) : Int) := by rw [awrap_eq]; simp [IntKind.wrap, IntKind.signed, IntKind.bits]; omega
    have h2 : ¬ ((8 : Int) * (j : Int) < 0) := by omega
    have h3 : Nat.min (8 * j) 64 = 8 * j := by show min (8 * j) 64 = 8 * j; omega
    have h4 : (8 * (j : Int)).toNat = 8 * j := by omega
    have e4 : pget o.enc 4 = some (.i .i64 o.n) := rfl
    simp only [byteN] at ha
    simp only [stB16]
    generalize hA : (List.map (byteN o.n) (List.range j)) = A at *
    generalize hB : (List.map (byteN o.n) (List.range (j + 1))) = B at *
    have e2 : v + j + 1 = v + (j + 1) := by omega
    have e3 : n + j + 1 = n + (j + 1) := by omega
    rw [e2, e3] at ha
    simp [-prunOps, -List.flatMap_append, lp16_1, c1, w1, w2, h2, h3, h4, e4, kBits, ha, awrap_nat1 (n := j) (by omega)]
  · intro t
    refine ⟨.b false, ?_⟩
    simp [-prunOps, stB16, lp16_1]
theorem bytes_ok (l : List Int) (v n : Nat) (hn : l.length = n) (hb : n < 10000) (o : KOp) (hs : o.sign = 1) (g : List PObj) (rs : List Root) :
    PC pfs 16 [.ls (.own 0 v) n (l.flatMap encU), .agg o.enc] ⟨g, 0, .live v n 1 :: rs, 0⟩ = some (.ls (.own 0 (v + 10)) (n + 10) ((l ++ pushB o.a o.n).flatMap encU), ⟨g ++ [.cells o.enc 0], 0, .live (v + 10) (n + 10) 1 :: rs, 0⟩) := by
  rw [PC_eq (F := pf16) rfl]
  have hbe := rbears_ok 1 (by omega) (by omega)
  have hb9 : bearsK 1 = 9 := rfl
  rw [hb9] at hbe
  have w1 : awrap .u8 1 = 1 := by rw [awrap_eq]; rfl
  have ha1 := app1 (g ++ [.cells o.enc 0]) rs v n l 1 hn (by omega)
  have ha2 := app1 (g ++ [.cells o.enc 0]) rs (v + 1) (n + 1) (l ++ [1]) (awrap .u8 o.a) (by simp [hn]) (by omega)
  obtain ⟨t', hlp⟩ := bytes_loop ((l ++ [1]) ++ [awrap .u8 o.a]) (v + 2) (n + 2) (by simp [hn]) (by omega) o g rs nil (.b true) .und
  have e2 : pget o.enc 2 = some (.i .i64 1) := by rw [← hs]; rfl
  have e3 : pget o.enc 3 = some (.i .i64 o.a) := rfl
  have hok : pokCells o.enc = true := rfl
  have ep : l ++ pushB o.a o.n = (l ++ [1]) ++ [awrap .u8 o.a] ++ (List.range 8).map (byteN o.n) := by simp [pushB]
  rw [ep]
  simp only [stB16, nil] at hlp
  generalize l ++ [1] = l1 at *
  generalize l1 ++ [awrap .u8 o.a] = l2 at *
  simp [-List.flatMap_append] at ha1 ha2 hlp
  generalize hB : (List.map (byteN o.n) (List.range 8)) = B at *
  simp [-prunOps, -List.flatMap_append, pf16, e2, e3, hok, hbe, w1, ha1, ha2, hlp]
theorem bytes_nil (o : KOp) (hs : o.sign = 1) (g : List PObj) :
    PC pfs 16 [nil, .agg o.enc] ⟨g, 0, [], 0⟩ = some (.ls (.own 0 9) 10 ((pushB o.a o.n).flatMap encU), ⟨g ++ [.cells o.enc 0], 0, [.live 9 10 1], 0⟩) := by
  rw [PC_eq (F := pf16) rfl]
  have hbe := rbears_ok 1 (by omega) (by omega)
  have hb9 : bearsK 1 = 9 := rfl
  rw [hb9] at hbe
  have w1 : awrap .u8 1 = 1 := by rw [awrap_eq]; rfl
  have ha0 := pan_view (σ := ⟨g ++ [.cells o.enc 0], 0, [], 0⟩) (ez := 1) (bytes := 1) (n := 1) (sn := 0) (b := false) (cs := []) (new := [.i .u8 1]) (by simp) (by omega) (by omega) (.inl rfl)
  have ha2 := app1 (g ++ [.cells o.enc 0]) [] 0 1 [1] (awrap .u8 o.a) (by simp) (by omega)
  obtain ⟨t', hlp⟩ := bytes_loop ([1] ++ [awrap .u8 o.a]) 1 2 (by simp) (by omega) o g [] nil (.b true) .und
  have e2 : pget o.enc 2 = some (.i .i64 1) := by rw [← hs]; rfl
  have e3 : pget o.enc 3 = some (.i .i64 o.a) := rfl
  have hok : pokCells o.enc = true := rfl
  have ep : pushB o.a o.n = [1] ++ [awrap .u8 o.a] ++ (List.range 8).map (byteN o.n) := by simp [pushB]
  rw [ep]
  simp only [stB16, nil] at hlp
  generalize hB : (List.map (byteN o.n) (List.range 8)) = B at *
  generalize hl2 : [1] ++ [awrap .u8 o.a] = l2 at *
  simp [-List.flatMap_append] at ha0 ha2 hlp
  simp only [List.flatMap_cons, List.flatMap_nil, encU, List.append_nil, List.cons_append, List.nil_append] at ha2
  simp [-prunOps, -List.flatMap_append, pf16, e2, e3, hok, hbe, w1, ha0, ha2, hlp]
end Go.Av
end
section
/- A number's bytes, written and read; pushed. -/
namespace Go.Av
def I64 (n : Int) : Prop := -9223372036854775808 ≤ n ∧ n < 9223372036854775808
theorem u64_nat (n : Int) : ∃ U : Nat, awrap .u64 n = (U : Int) ∧ U < 18446744073709551616 ∧ (U : Int) = n % 18446744073709551616 := by
  refine ⟨(n % 18446744073709551616).toNat, ?_, by omega, by omega⟩
  rw [awrap_eq]; simp [IntKind.wrap, IntKind.signed, IntKind.bits]; omega
theorem u64_id (U : Nat) (h : U < 18446744073709551616) : awrap .u64 (U : Int) = (U : Int) := by
  rw [awrap_eq]; simp [IntKind.wrap, IntKind.signed, IntKind.bits]; omega
theorem pow2_8 (j : Nat) : pow2 (8 * j) = ((256 ^ j : Nat) : Int) := by
  show ((2 ^ (8 * j) : Nat) : Int) = _
  rw [Nat.pow_mul]
theorem byteN_nat {n : Int} {U : Nat} (h : awrap .u64 n = (U : Int)) (j : Nat) : byteN n j = ((U / 256 ^ j % 256 : Nat) : Int) := by
  unfold byteN
  rw [h, pow2_8]
  have e : ((U : Int)).fdiv ((256 ^ j : Nat) : Int) = ((U / 256 ^ j : Nat) : Int) := by
    rw [Int.fdiv_eq_ediv_of_nonneg _ (Int.natCast_nonneg _)]; rfl
  rw [e, awrap_eq]
  simp [IntKind.wrap, IntKind.signed, IntKind.bits]
theorem toU_nat (U : Nat) (h : U < 18446744073709551616) : toU .u64 (U : Int) = U := by
  show U % 18446744073709551616 = U
  exact Nat.mod_eq_of_lt h
theorem ofU_nat (U : Nat) (h : U < 18446744073709551616) : ofU .u64 U = (U : Int) := by
  unfold ofU
  have : Nat.blt U (kTop .u64) = true := by simp [kTop]; exact h
  rw [this]; rfl
theorem numStep_nat (A B k : Nat) (hA : A < 256 ^ k) (hB : B < 256) (hk : k < 8) : numStep (A : Int) (B : Int) k = ((A + 256 ^ k * B : Nat) : Int) := by
  unfold numStep
  have h1 : 256 ^ k * B + 256 ^ k ≤ 256 ^ k * 256 := by rw [← Nat.mul_succ]; exact Nat.mul_le_mul_left _ hB
  have h2 : 256 ^ k * 256 ≤ 18446744073709551616 := by
    have : 256 ^ (k + 1) ≤ 256 ^ 8 := Nat.pow_le_pow_right (by omega) (by omega)
    rw [Nat.pow_succ] at this
    exact this
  have hp : 0 < 256 ^ k := Nat.pow_pos (by omega)
  rw [u64_id B (by omega), pow2_8]
  have e : (B : Int) * ((256 ^ k : Nat) : Int) = ((256 ^ k * B : Nat) : Int) := by rw [Nat.mul_comm, Int.natCast_mul]
  rw [e, u64_id _ (by omega), toU_nat _ (by omega), toU_nat _ (by omega)]
  have hor : Nat.lor A (256 ^ k * B) = A + 256 ^ k * B := by
    have h3 : (256 : Nat) ^ k = 2 ^ (8 * k) := by rw [Nat.pow_mul]
    rw [h3] at hA ⊢
    have := Nat.two_pow_add_eq_or_of_lt hA B
    show A ||| (2 ^ (8 * k) * B) = _
    rw [Nat.or_comm, ← this, Nat.add_comm]
  rw [hor, ofU_nat _ (by omega)]
theorem numF_bytes (b : List Int) (i : Nat) (n : Int) (U : Nat) (hU : awrap .u64 n = (U : Int)) (hb : ∀ j, j < 8 → bAt b (i + j) = byteN n j) : ∀ j, j ≤ 8 → numF b i j = ((U % 256 ^ j : Nat) : Int)
  | 0, _ => by simp [numF, Nat.mod_one]
  | j + 1, h => by
    have ih := numF_bytes b i n U hU hb j (by omega)
    rw [numF, ih, hb j (by omega), byteN_nat hU, numStep_nat _ _ _ (Nat.mod_lt _ (Nat.pow_pos (by omega))) (Nat.mod_lt _ (by omega)) (by omega)]
    congr 1
    rw [Nat.pow_succ, Nat.mod_mul]
theorem numK_bytes (b : List Int) (i : Nat) (n : Int) (hn : I64 n) (hb : ∀ j, j < 8 → bAt b (i + j) = byteN n j) : numK b i = n := by
  obtain ⟨U, h1, h2, h3⟩ := u64_nat n
  unfold numK
  rw [numF_bytes b i n U h1 hb 8 (by omega)]
  have e : U % 256 ^ 8 = U := Nat.mod_eq_of_lt h2
  rw [e, awrap_eq, h3]
  obtain ⟨a, b⟩ := hn
  simp [IntKind.wrap, IntKind.signed, IntKind.bits]
  split <;> omega
theorem pushB_len (a n : Int) : (pushB a n).length = 10 := by simp [pushB]
theorem pushB_bytes (a n : Int) : Bytes (pushB a n) := by
  have hw : ∀ x : Int, 0 ≤ awrap .u8 x ∧ awrap .u8 x < 256 := by
    intro x; rw [awrap_eq]; simp [IntKind.wrap, IntKind.signed, IntKind.bits]; omega
  intro x hx
  simp only [pushB, List.mem_append, List.mem_cons, List.mem_map, List.not_mem_nil, or_false] at hx
  rcases hx with (rfl | rfl) | ⟨j, _, rfl⟩
  · omega
  · exact hw _
  · exact hw _
theorem bytes_app {a b : List Int} (ha : Bytes a) (hb : Bytes b) : Bytes (a ++ b) := by
  intro x hx
  rcases List.mem_append.1 hx with h | h
  · exact ha x h
  · exact hb x h
def pushO (a n : Int) : KOp := ⟨0, 0, 1, a, n⟩
theorem pushed_ok (l : List Int) (v n : Nat) (hn : l.length = n) (hb : n < 10000) (a k : Int) (g : List PObj) (rs : List Root) :
    PC pfs 11 [.ls (.own 0 v) n (l.flatMap encU), .i .i64 a, .i .i64 k] ⟨g, 0, .live v n 1 :: rs, 0⟩
      = some (.ls (.own 0 (v + 10)) (n + 10) ((l ++ pushB a (wrapK a k)).flatMap encU), ⟨g ++ [.cells (pushO a (wrapK a k)).enc 0], 0, .live (v + 10) (n + 10) 1 :: rs, 0⟩) := by
  rw [PC_eq (F := pf11) rfl]
  have hw := rwrap_ok a k
  have hB := bytes_ok l v n hn hb (pushO a (wrapK a k)) rfl g rs
  simp only [pushO, KOp.enc] at hB ⊢
  generalize l ++ pushB a (wrapK a k) = q at *
  simp [-prunOps, pf11, hw, hB]
theorem pushed_nil (a k : Int) (g : List PObj) :
    PC pfs 11 [nil, .i .i64 a, .i .i64 k] ⟨g, 0, [], 0⟩ = some (.ls (.own 0 9) 10 ((pushB a (wrapK a k)).flatMap encU), ⟨g ++ [.cells (pushO a (wrapK a k)).enc 0], 0, [.live 9 10 1], 0⟩) := by
  rw [PC_eq (F := pf11) rfl]
  have hw := rwrap_ok a k
  have hB := bytes_nil (pushO a (wrapK a k)) rfl g
  simp only [pushO, KOp.enc] at hB ⊢
  generalize pushB a (wrapK a k) = q at *
  simp only [nil] at hB ⊢
  simp [-prunOps, pf11, hw, hB]
def E01 : KEnv := ⟨[], (0 : Nat), (1 : Nat)⟩
/-- An append to a copy: the copy is root r. -/
theorem appR (ob : List PObj) (rt : List Root) (r v n : Nat) (l m : List Int) (hr : getR rt r = .live v n 1) (hn : l.length = n) (hm : 0 < m.length) (hb : n + m.length < 1000000) :
    pappendNew ⟨ob, 0, rt, 0⟩ 1 1 (.ls (.own r v) n (l.flatMap encU)) m.length (m.flatMap encU) = some (.ls (.own r (v + 1)) (n + m.length) ((l ++ m).flatMap encU), ⟨ob, 0, setR rt r (.live (v + 1) (n + m.length) 1), 0⟩) := by
  rw [pan_own (σ := ⟨ob, 0, rt, 0⟩) (x := n) (e := 1) hr (.inr rfl) (by omega) (by simp [hn]) rfl hm (by omega) (by omega)]
  simp [PH.setRoot]
theorem copyR (ob : List PObj) (rt : List Root) (n : Nat) (l : List Int) (hn : l.length = n) (hb : n < 1000000) (hp : 0 < n) :
    pappendNew ⟨ob, 0, rt, 0⟩ 1 1 (.ls (.v false true) 0 []) n (l.flatMap encU) = some (.ls (.fresh n 1) n (l.flatMap encU), ⟨ob, 0, rt, 0⟩) := by
  have := pan_view (σ := ⟨ob, 0, rt, 0⟩) (ez := 1) (bytes := 1) (n := n) (sn := 0) (b := false) (cs := []) (new := l.flatMap encU) (by simp) (by omega) (by omega) (.inl rfl)
  simpa using this
end Go.Av
end
section
/- An argument that is bytes. -/
namespace Go.Av
open Go.ChangeShapes Go.WideShapes Go.ChangeAt Go.RowKit
theorem flatU (l : List Int) : l.flatMap encU = l.map (PV.i .u8) := by
  induction l with
  | nil => rfl
  | cons a l ih => simp [encU, ih]
theorem rel_u8 (X : Cx) : ∀ l : List Int, VRelL X (l.map (PV.i .u8)) (l.map (AV.i .u8))
  | [] => .nil
  | a :: l => .cons _ _ _ _ (.i _ _) (rel_u8 X l)
theorem ok_u8 : ∀ l : List Int, okCells (l.map (AV.i .u8)) = true
  | [] => rfl
  | a :: l => by simp [okCells, AV.okCell, ok_u8 l]
theorem clo_u8 : ∀ l : List Int, cloL false (l.map (PV.i .u8)) = true
  | [] => rfl
  | a :: l => by simp [cloL, isClo, clo_u8 l]
theorem mpD_new (os : List (AObj × BI)) (x : AObj × BI) : mpD (os ++ [x]) os.length = some x.2 := by simp [mpD]
theorem argD_bytes {H : Type} {enc : TypeId × Value → H} {P : Program} {w : World} {base b0 : Nat} {spare : Nat → Bool} {held : Bool} {r : Reach} {t e : TypeId} {v : Value} {d : DataW H} {ps : List MemPlace}
    (ht : P.underlying t = some (.slice e)) (he : P.underlying e = some (.int .u8)) (hc : P.cellsOf e = 1) (hval : Value.okWide P w r b0 t v) (hd : DataW.Trod enc P w base spare held t v d ps) :
    ∃ ns : List Int, Bytes ns ∧ ArgD w v (.ls (.v false false) ns.length (ns.flatMap encU)) := by
  obtain ⟨fuel, hf⟩ := hd
  rcases open_ints ht he hc hf with ⟨hcs, _⟩ | ⟨a, len, cap, zs, hcs, _, hl, _, hzl, _, hcell, hwf⟩
  · have hv : v = .slice none 0 0 := by
      cases v <;> simp [Value.cells] at hcs
      · rename_i x y z; obtain ⟨rfl, rfl, rfl⟩ := hcs; rfl
      · rename_i x; simp [Value.okWide, ht, Cell.okWide, Cell.ok] at hval
    subst hv
    exact ⟨[], fun x hx => (by cases hx), rfl, fun os => ⟨[], .nils, fun x hx => (by cases hx), .nils, .ls0 _ _ _ trivial⟩⟩
  · have hv : v = .slice (some a) len cap := by
      cases v <;> simp [Value.cells] at hcs
      · rename_i x y z; obtain ⟨rfl, rfl, rfl⟩ := hcs; rfl
      · rename_i x; simp [Value.okWide, ht, Cell.okWide, Cell.ok] at hval
    subst hv
    have hhas : w.has P r b0 a e cap := by
      simp [Value.okWide, ht, Cell.okWide, Cell.ok] at hval
      exact hval.2.2
    obtain ⟨_, hspot, row, cells, hsh, _⟩ := hhas
    obtain ⟨arr, T, fz, hw⟩ : ∃ arr T fz, w.heap[a.block]? = some (.cells arr T fz) := by
      unfold World.shape? at hsh
      split at hsh
      · rename_i c el fz e; exact ⟨c, el, fz, e⟩
      · cases hsh
    have hlen : len ≤ zs.length := by rw [hzl]; split <;> omega
    let ns := zs.take len
    have hns : ns.length = len := by simp [ns]; omega
    have hbs : Bytes ns := by
      intro x hx
      have := hwf x (List.mem_of_mem_take hx)
      simp [Lit.wf, IntKind.min, IntKind.max, IntKind.signed, IntKind.bits] at this
      omega
    have hro : ∀ m, DOk m w (.cells (ns.map (AV.i .u8)) .ro [] 0, ⟨a.block, a.off, 0, false⟩) := by
      intro m
      refine ⟨rfl, (Array.getElem?_eq_some_iff.1 hw).1, .inr ⟨_, arr, T, fz, rfl, hw, fun i x hx => ?_⟩⟩
      have hi : i < ns.length := by
        rcases Nat.lt_or_ge i ns.length with h | h
        · exact h
        · rw [List.getElem?_eq_none (by simpa using h)] at hx; cases hx
      obtain ⟨arr', T', fz', hw', hv'⟩ := cell_at (hcell i (by omega))
      rw [hw] at hw'; injection hw' with hw'; injection hw' with h1 h2 h3; subst h1
      refine ⟨_, hv', ?_⟩
      have : x = .i .u8 (zs.getD i 0) := by
        have h2 : (ns.map (AV.i .u8))[i]? = some (.i .u8 (zs.getD i 0)) := by
          simp [ns, List.getElem?_take, show i < len by omega, show i < zs.length by omega, List.getD]
        rw [h2] at hx; injection hx with hx; exact hx.symm
      rw [this]; exact .i _ _
    have hsl : (Value.slice (some a) len cap) = .slice (some ⟨a.block, a.off + 0, none⟩) len cap := by
      have : a = ⟨a.block, a.off, none⟩ := by cases a; simp at hspot; subst hspot; rfl
      exact congrArg (fun x => Value.slice (some x) len cap) this
    refine ⟨ns, hbs, rfl, fun os => ⟨[(.cells (ns.map (AV.i .u8)) .ro [] 0, ⟨a.block, a.off, 0, false⟩)], .sl os.length 0 len (.k cap), fun x hx => ?_, ?_, ?_⟩⟩
    · have : x = (.cells (ns.map (AV.i .u8)) .ro [] 0, ⟨a.block, a.off, 0, false⟩) := by simpa using hx
      subst this; exact hro _
    · rw [hsl]
      exact VR.sl os.length 0 len (.k cap) ⟨a.block, a.off, 0, false⟩ _ (mpD_new _ _) (by simpa [capOf] using hl) (.inl rfl)
    · rw [flatU, hns]
      refine .lsv _ _ _ _ _ _ _ ?_ (fun h => by cases h) (fun k hk => by cases hk; exact hl)
      refine .v _ _ _ (ns.map (AV.i .u8)) os.length 0 (rel_u8 _ _) ⟨by simp [cxD, heapD], ok_u8 _, ns.map (AV.i .u8), .ro, [], 0, heapD_get _ _ (.cells (ns.map (AV.i .u8)) .ro [] 0, ⟨a.block, a.off, 0, false⟩) (by simp), ?_⟩ rfl (fun _ => trivial) (clo_u8 _)
      rw [sub_eq]; simp
end Go.Av
end
section
/- Contracts (seat c6): solenoidref12, of pushes, jumps and ends alone. -/
namespace Go.Av
/-- What such functions bear. -/
def JOp (o : KOp) : Prop := 0 ≤ o.a ∧ (o.sign = 0 ∨ o.sign = 1 ∨ o.sign = 18 ∨ o.sign = 19)
def placeI (l : List KOp) (x : Int) : Int := match l.findIdx? (fun o => decide (o.pos = x)) with
  | some i => (i : Nat)
  | none => -1
def meetI (a b : List Int) : Int := if a.length ≠ b.length then 18 else if a ≠ b then 19 else 0
theorem O_pos (i : Nat) (l : List KOp) (h : i < l.length) : pget (l.flatMap KOp.enc) (i * 5) = some (.i .i64 l[i].pos) := by
  simpa [KOp.enc] using flat_get (enc := KOp.enc) (k := 5) (fun _ => rfl) l i l[i] (by simp [h]) 0 (by omega)
theorem O_sign (i : Nat) (l : List KOp) (h : i < l.length) : pget (l.flatMap KOp.enc) (i * 5 + 2) = some (.i .i64 l[i].sign) := by
  simpa [KOp.enc] using flat_get (enc := KOp.enc) (k := 5) (fun _ => rfl) l i l[i] (by simp [h]) 2 (by omega)
theorem O_a (i : Nat) (l : List KOp) (h : i < l.length) : pget (l.flatMap KOp.enc) (i * 5 + 3) = some (.i .i64 l[i].a) := by
  simpa [KOp.enc] using flat_get (enc := KOp.enc) (k := 5) (fun _ => rfl) l i l[i] (by simp [h]) 3 (by omega)
def stP23 (b : Bool) (l : List KOp) (x : Int) (v2 : PV) (i : Nat) (t : PV × PV) : PSt := ⟨[.ls (.v b false) l.length (l.flatMap KOp.enc), .i .i64 x, v2, .i .i64 (i : Nat), t.1, t.2], .empty⟩
theorem place23_ok (b : Bool) (l : List KOp) (x : Int) (hl : l.length ≤ 1000000) : iso (PC pfs) 23 [.ls (.v b false) l.length (l.flatMap KOp.enc), .i .i64 x] = some (.i .i64 (placeI l x)) := by
  unfold iso
  rw [PC_eq (F := pf23) rfl]
  have key := @for_find (pdenL (PC pfs) lp23_1) (PV × PV) 0 (stP23 b l x (.i .i64 0)) (stP23 b l x (.i .i64 0) l.length) (fun i => ∃ h : i < l.length, l[i].pos = x) (fun i t => stP23 b l x (.i .i64 (i : Nat)) i t) l.length ?_ ?_ ?_ (.und, .und)
  · rcases key with ⟨i, hi, ⟨_, hp⟩, hj, t', h⟩ | ⟨hj, t', h⟩
    · have hf : placeI l x = (i : Nat) := by
        unfold placeI
        rw [findIdx_some hi (by simpa using hp) (fun j hji => by simpa using fun e => hj j hji ⟨by omega, e⟩)]
      rw [hf]
      simp [stP23] at h
      simp [-prunOps, pf23, h]
    · have hf : placeI l x = -1 := by
        unfold placeI
        rw [findIdx_none (fun j h => by simpa using fun e => hj j h ⟨h, e⟩)]
      rw [hf]
      simp [stP23] at h
      simp [-prunOps, pf23, h]
  · rintro i hi ⟨_, hp⟩ t
    refine ⟨(.b true, .b true), ?_⟩
    simp [-prunOps, stP23, lp23_1, hi, O_pos i l hi, hp]
  · intro i hi hp t
    have h1 : l[i].pos ≠ x := fun e => hp ⟨hi, e⟩
    refine ⟨(.b true, .b false), ?_⟩
    simp [-prunOps, stP23, lp23_1, hi, O_pos i l hi, h1, awrap_nat1 (n := i) (by omega)]
  · intro t
    refine ⟨(.b false, t.2), ?_⟩
    simp [-prunOps, stP23, lp23_1]
def stM28 (l m : List Int) (v2 : PV) (v4 : PV) (i : Nat) (t : PV × PV) : PSt := ⟨[vI l, vI m, v2, .i .i64 (i : Nat), v4, t.1, t.2], .empty⟩
theorem meet28_ok (l m : List Int) (hl : l.length ≤ 1000000) : iso (PC pfs) 28 [vI l, vI m] = some (.i .i64 (meetI l m)) := by
  unfold iso
  rw [PC_eq (F := pf28) rfl]
  by_cases hlm : l.length = m.length
  · have key := @for_find (pdenL (PC pfs) lp28_1) (PV × PV) 0 (stM28 l m (.i .i64 0) (.b false)) (stM28 l m (.i .i64 0) (.b false) l.length) (fun i => l[i]? ≠ m[i]?) (fun i t => stM28 l m (.i .i64 19) (.b false) i t) l.length ?_ ?_ ?_ (.und, .und)
    · rcases key with ⟨i, hi, hp, hj, t', h⟩ | ⟨hj, t', h⟩
      · have hne : l ≠ m := fun e => hp (by rw [e])
        simp [stM28, vI] at h
        simp [-prunOps, pf28, vI, hlm, meetI, hne]
        simp [hlm] at h
        simp [h]
      · have he : l = m := List.ext_getElem? fun i => by
          by_cases hi : i < l.length
          · exact Decidable.byContradiction (hj i hi)
          · rw [List.getElem?_eq_none (by omega), List.getElem?_eq_none (by omega)]
        subst he
        simp [stM28, vI] at h
        simp [-prunOps, pf28, vI, meetI, h]
    · intro i hi hp t
      have hm : i < m.length := by omega
      have : l[i] ≠ m[i] := by simpa [hi, hm] using hp
      refine ⟨(.b true, .b true), ?_⟩
      simp [-prunOps, stM28, vI, lp28_1, hi, hm, I_at i l hi, I_at i m hm, this]
    · intro i hi hp t
      have hm : i < m.length := by omega
      have : l[i] = m[i] := by simpa [hi, hm] using hp
      refine ⟨(.b true, .b false), ?_⟩
      simp [-prunOps, stM28, vI, lp28_1, hi, hm, I_at i l hi, I_at i m hm, this, awrap_nat1 (n := i) (by omega)]
    · intro t
      refine ⟨(.b false, t.2), ?_⟩
      simp [-prunOps, stM28, vI, lp28_1]
  · have hc : ¬ ((l.length : Int) = m.length) := by omega
    simp [-prunOps, pf28, vI, hc, meetI, hlm]
def bearsR (o : KOp) : Int := if o.sign = 1 then (if valueK o.a = true then (if wrapK o.a o.n = o.n then 0 else 11) else 3) else 0
theorem bears25_ok (img : List PV) (hi : pokCells img = true) (cl : PV) (hcl : lend .empty cl = some cl) (o : KOp) (ho : JOp o) : iso (PC pfs) 25 [.agg img, cl, .agg o.enc] = some (.i .i64 (bearsR o)) := by
  obtain ⟨pos, next, s, a, n⟩ := o
  obtain ⟨ha, hs⟩ := ho
  have hv := rvalue_ok a
  have hw := rwrap_ok a n
  unfold iso
  rw [PC_eq (F := pf25) rfl]
  simp only [KOp.enc, bearsR] at *
  rcases hs with rfl | rfl | rfl | rfl
  · simp [-prunOps, pf25, hi]
  · cases hv' : valueK a with
    | false => simp [-prunOps, pf25, hi, hv, hv']
    | true =>
      by_cases he : wrapK a n = n <;> simp [-prunOps, pf25, hi, hv, hv', hw, he]
  · simp [-prunOps, pf25, hi]
  · simp [-prunOps, pf25, hi]
theorem takes42_ok (s : Int) (hs : s = 0 ∨ s = 1 ∨ s = 18 ∨ s = 19) : iso (PC pfs) 42 [.i .i64 s] = some (.i .i64 (if s = 19 then 1 else 0)) := by
  unfold iso
  rw [PC_eq (F := pf42) rfl]
  rcases hs with rfl | rfl | rfl | rfl <;> simp [-prunOps, pf42]
theorem puts43_ok (cl : PV) (o : KOp) (hs : o.sign = 1) : iso (PC pfs) 43 [cl, .agg o.enc] = some (.i .i64 o.a) := by
  obtain ⟨pos, next, s, a, n⟩ := o
  simp only at hs
  subst hs
  unfold iso
  rw [PC_eq (F := pf43) rfl]
  simp [-prunOps, pf43, KOp.enc]
theorem next27_ok (o : KOp) : iso (PC pfs) 27 [.agg o.enc] = some (vI (onK o)) := by
  obtain ⟨pos, next, s, a, n⟩ := o
  unfold iso
  rw [PC_eq (F := pf27) rfl]
  simp only [KOp.enc, onK, vI]
  by_cases h0 : s = 0
  · simp [-prunOps, pf27, h0, encI]
  · by_cases h18 : s = 18
    · simp [-prunOps, pf27, h18, encI]
    · by_cases h19 : s = 19
      · simp [-prunOps, pf27, h19, encI]
      · simp [-prunOps, pf27, h0, h18, h19, encI]
theorem cells24_ok (b : Bool) : iso (PC pfs) 24 [.ls (.v b false) 0 []] = some (.ls (.fresh 0 6) 0 []) := by
  have h : ∀ b, iso (prun pfs 60 60) 24 [.ls (.v b false) 0 []] = some (.ls (.fresh 0 6) 0 []) := by
    intro b; cases b
    · kernel_rfl
    · kernel_rfl
  exact iso_mono PC_of (h b)
end Go.Av
end
section
/- Contracts (seat c6): solenoidref12.does, of pushes, jumps and ends alone. -/
namespace Go.Av
def doesR (o : KOp) (s : List Int) : List Int × Int :=
  if o.sign = 19 then (if s.length < 1 then ([], 18) else if bAt s (s.length - 1) = 1 then (s.take (s.length - 1), 0) else ([], 19))
  else if o.sign = 1 then (if 8 < s.length + 1 then ([], 18) else (s ++ [o.a], 0))
  else (s, 0)
theorem appI (ob : List PObj) (n : Nat) (l : List Int) (x : Int) (hn : l.length = n) (hb : n < 1000000) :
    pappendNew ⟨ob, 0, [.live 0 n 1], 0⟩ 1 8 (.ls (.own 0 0) n (l.flatMap encI)) 1 [.i .i64 x] = some (.ls (.own 0 1) (n + 1) ((l ++ [x]).flatMap encI), ⟨ob, 0, [.live 1 (n + 1) 1], 0⟩) := by
  rw [pan_own (σ := ⟨ob, 0, [.live 0 n 1], 0⟩) (x := n) (e := 1) rfl (.inr rfl) (by omega) (by simp [hn]) rfl (by omega) (by omega) (by omega)]
  simp [encI, PH.setRoot, setR]
theorem appI2 (ob : List PObj) (l : List Int) (x : Int) (hb : l.length < 1000000) (t : Bool) :
    pAppend ⟨ob, 0, [.live 0 l.length 1], 0⟩ 1 8 (.ls (.own 0 0) l.length (l.flatMap encI)) (.ls (.v false t) 1 [.i .i64 x]) = some (.ls (.own 0 1) (l.length + 1) ((l ++ [x]).flatMap encI), ⟨ob, 0, [.live 1 (l.length + 1) 1], 0⟩) := by
  have h := appI ob l.length l x rfl hb
  unfold pAppend
  simp only [plenOf, PH.reads, pfirst]
  have h1 : psub [PV.i .i64 x] 0 (1 * 1) = some [.i .i64 x] := rfl
  have h2 : mapC (clo 8) ⟨ob, 0, [.live 0 l.length 1], 0⟩ [PV.i .i64 x] = some ([.i .i64 x], ⟨ob, 0, [.live 0 l.length 1], 0⟩) := rfl
  simp only [h1, h2, h]
@[simp] theorem d_own (md : Mode) (σ : PH) (r v n : Nat) (x : List PV) : adj md σ (.ls (.own r v) n x) = some (.ls (.own r v) n x, σ) := rfl
@[simp] theorem d_tt (σ : PH) (n : Nat) (x : List PV) (b : Bool) : adj .d σ (.ls (.v b true) n x) = some (.ls (.v b true) n x, σ) := by
  cases n <;> cases x <;> rfl
/-- A copy that may be appended to. -/
theorem copyI (ob : List PObj) (l : List Int) (hb : l.length < 1000000) : ∃ v σ, pAppend ⟨ob, 0, [], 0⟩ 1 8 (.ls (.v false true) 0 []) (.ls (.v false false) l.length (l.flatMap encI)) = some (v, σ) ∧
    adj (.own 1) σ v = some (.ls (.own 0 0) l.length (l.flatMap encI), ⟨ob, 0, [.live 0 l.length 1], 0⟩) := by
  by_cases h0 : l.length = 0
  · have : l = [] := List.eq_nil_of_length_eq_zero h0
    subst this
    exact ⟨.ls (.v false true) 0 [], ⟨ob, 0, [], 0⟩, by simp, by simp⟩
  · obtain ⟨m, hm⟩ := Nat.exists_eq_succ_of_ne_zero h0
    have hm : l.length = m + 1 := hm
    have h1 : psub (l.flatMap encI) 0 ((m + 1) * 1) = some (l.flatMap encI) := psub_all (by simp [hm])
    have h2 := pan_view (σ := ⟨ob, 0, [], 0⟩) (ez := 1) (bytes := 8) (n := m + 1) (sn := 0) (b := false) (cs := []) (new := l.flatMap encI) (by simp) (by omega) (by omega) (.inl rfl)
    have hc := clo_shutL (k := 7) (σ := ⟨ob, 0, [], 0⟩) (shutI l)
    rw [hm]
    refine ⟨.ls (.fresh (m + 1) 1) (m + 1) (l.flatMap encI), ⟨ob, 0, [], 0⟩, ?_, by simp⟩
    unfold pAppend
    simp only [plenOf, PH.reads, pfirst, h1, hc, h2]
    simp
theorem does26_ok (cl : PV) (hcl : lend .empty cl = some cl) (hcl2 : ∀ σ, adj .d σ cl = some (cl, σ)) (hcl3 : ∀ σ, lend σ cl = some cl) (o : KOp) (ho : JOp o) (s : List Int) (hs : s.length ≤ 8) :
    ((doesR o s).2 = 0 ∧ ∃ x, iso (PC pfs) 26 [cl, .agg o.enc, vI s] = some (.tup [.ls (.fresh x 1) (doesR o s).1.length ((doesR o s).1.flatMap encI), .i .i64 0])) ∨
    ((doesR o s).2 ≠ 0 ∧ (doesR o s).1 = [] ∧ iso (PC pfs) 26 [cl, .agg o.enc, vI s] = some (.tup [.ls (.v false false) 0 [], .i .i64 (doesR o s).2])) := by
  obtain ⟨pos, next, sg, a, n⟩ := o
  obtain ⟨ha, hsg⟩ := ho
  have ht := takes42_ok sg hsg
  unfold iso
  rw [PC_eq (F := pf26) rfl]
  have hw0 : awrap .i64 (s.length : Int) = (s.length : Int) := awrap_id (by omega) (by omega)
  have hs2 := fun σ => sl_to σ s s.length (Nat.le_refl _)
  rw [List.take_length] at hs2
  obtain ⟨cv, cσ, hco, hca⟩ := copyI [.cells [.i .i64 pos, .i .i64 next, .i .i64 sg, .i .i64 a, .i .i64 n] 0] s (by omega)
  have c8 : ¬ ((8 : Int) < (s.length : Int)) := by omega
  have c0 : ¬ ((s.length : Int) < 0) := by omega
  simp only [KOp.enc, doesR, vI] at *
  rcases hsg with rfl | rfl | rfl | rfl
  · refine .inl ⟨by simp, s.length, ?_⟩
    simp [-prunOps, -pSlSl, -pAppend, -adj, d_t0, d_t2, d_ti, pf26, ht, hw0, hs2, hco, hca, c8, c0, hcl2]
  · have hpu := puts43_ok cl ⟨pos, next, 1, a, n⟩ rfl
    simp only [KOp.enc] at hpu
    have hap := fun ob => appI2 ob s a (by omega) true
    have w1 : awrap .i64 ((s.length : Int) + 1) = (s.length : Int) + 1 := awrap_id (by omega) (by omega)
    have hla : ∀ σ, lend σ (.agg [.i .i64 pos, .i .i64 next, .i .i64 1, .i .i64 a, .i .i64 n]) = some (.agg [.i .i64 pos, .i .i64 next, .i .i64 1, .i .i64 a, .i .i64 n]) := fun _ => rfl
    have hli : ∀ σ k n, lend σ (.i k n) = some (.i k n) := fun _ _ _ => rfl
    have hl1 : (s ++ [a]).length = s.length + 1 := by simp
    by_cases h8 : 8 < s.length + 1
    · have c9 : (8 : Int) < (s.length : Int) + 1 := by omega
      refine .inr ⟨by simp [h8], by simp [h8], ?_⟩
      generalize s ++ [a] = q at *
      simp [-prunOps, -pSlSl, -pAppend, -adj, -lend, d_t0, d_t2, d_ti, pf26, ht, hw0, hs2, hco, hca, c9, h8, c0, hcl2, hcl3, hpu, hap, hla, hli]
    · have c9 : ¬ ((8 : Int) < (s.length : Int) + 1) := by omega
      refine .inl ⟨by simp [h8], s.length + 1, ?_⟩
      generalize s ++ [a] = q at *
      simp [-prunOps, -pSlSl, -pAppend, -adj, -lend, d_t0, d_t2, d_ti, pf26, ht, hw0, hs2, hco, hca, c9, h8, c0, hcl2, hcl3, hpu, hap, hla, hli, hl1]
  · refine .inl ⟨by simp, s.length, ?_⟩
    simp [-prunOps, -pSlSl, -pAppend, -adj, d_t0, d_t2, d_ti, pf26, ht, hw0, hs2, hco, hca, c8, c0, hcl2]
  · by_cases h1 : s.length < 1
    · have c1 : (s.length : Int) < 1 := by omega
      refine .inr ⟨by simp [h1], by simp [h1], ?_⟩
      simp [-prunOps, -pSlSl, -pAppend, -adj, d_t0, d_t2, d_ti, pf26, ht, h1, c1]
    · have c1 : ¬ ((s.length : Int) < 1) := by omega
      have w1 : awrap .i64 ((s.length : Int) - 1) = ((s.length - 1 : Nat) : Int) := by rw [awrap_id (by omega) (by omega)]; omega
      have hix : s.length - 1 < s.length := by omega
      have hI := I_at (s.length - 1) s hix
      have hb : bAt s (s.length - 1) = s[s.length - 1] := by simp [bAt, hix]
      have hs3 := fun σ => sl_to σ s (s.length - 1) (by omega)
      obtain ⟨cv2, cσ2, hco2, hca2⟩ := copyI [.cells [.i .i64 pos, .i .i64 next, .i .i64 19, .i .i64 a, .i .i64 n] 0] (s.take (s.length - 1)) (by simp; omega)
      have hl2 : (s.take (s.length - 1)).length = s.length - 1 := by simp
      have c8' : ¬ ((8 : Int) < ((s.length - 1 : Nat) : Int)) := by omega
      simp only [vI] at hs3
      rw [hl2] at hs3 hco2 hca2
      rw [← hb] at hI
      generalize bAt s (s.length - 1) = tp at *
      by_cases h2 : tp = 1
      · refine .inl ⟨by simp [h1, h2], s.length - 1, ?_⟩
        simp only [h1, h2, if_true, if_false, hl2]
        generalize s.take (s.length - 1) = q at *
        have hpi : pIndex (.i .i64 ((s.length - 1 : Nat) : Int)) s.length = some (s.length - 1) := by rw [pIndex_nat, if_pos hix]
        generalize s.length - 1 = m at *
        simp [-prunOps, -pSlSl, -pAppend, -adj, -pIndex, d_t0, d_t2, d_ti, pf26, ht, hw0, h1, c1, w1, hI, hpi, hs3, hco2, hca2, c8', h2]
      · refine .inr ⟨by simp [h1, h2], by simp [h1, h2], ?_⟩
        simp only [h1, h2, if_false]
        generalize s.take (s.length - 1) = q at *
        have hpi : pIndex (.i .i64 ((s.length - 1 : Nat) : Int)) s.length = some (s.length - 1) := by rw [pIndex_nat, if_pos hix]
        generalize s.length - 1 = m at *
        simp [-prunOps, -pSlSl, -pAppend, -adj, -pIndex, d_t0, d_t2, d_ti, pf26, ht, hw0, h1, c1, w1, hI, hpi, hs3, hco2, hca2, c8', h2]
end Go.Av
end
section
/- Contracts (seat c6): solenoidref12.Func, of pushes, jumps and ends alone. -/
namespace Go.Av
@[simp] theorem lend_i (σ : PH) (k : IntKind) (n : Int) : lend σ (.i k n) = some (.i k n) := rfl
@[simp] theorem lend_op (σ : PH) (o : KOp) : lend σ (.agg o.enc) = some (.agg o.enc) := rfl
@[simp] theorem d_sl (md : Mode) (σ : PH) (b o n : Nat) (c : Option Nat) : adj md σ (.sl b o n c) = some (.sl b o n c, σ) := rfl
structure RW where
  K : List Bool
  D : List Bool
  S : List (Bool × List Int)
  high : Int
def kAt (w : RW) (i : Nat) : Bool := (w.K[i]?).getD false
def dAt (w : RW) (i : Nat) : Bool := (w.D[i]?).getD false
def sAt (w : RW) (i : Nat) : Bool × List Int := (w.S[i]?).getD (true, [])
def meetsR (l : List KOp) (s : List Int) : List Int → RW → RW × Int
  | [], w => (w, 0)
  | x :: r, w => match l.findIdx? (fun o => decide (o.pos = x)) with
    | none => (w, 17)
    | some p => if kAt w p = false then meetsR l s r ⟨w.K.set p true, w.D, w.S.set p (false, s), w.high⟩
      else if meetI (sAt w p).2 s ≠ 0 then (w, meetI (sAt w p).2 s) else meetsR l s r w
def oAt (l : List KOp) (i : Nat) : KOp := (l[i]?).getD .nil
def stepR (l : List KOp) (w : RW) (i : Nat) : RW × Int :=
  if bearsR (oAt l i) ≠ 0 then (w, bearsR (oAt l i))
  else if (doesR (oAt l i) (sAt w i).2).2 ≠ 0 then (w, (doesR (oAt l i) (sAt w i).2).2)
  else meetsR l (doesR (oAt l i) (sAt w i).2).1 (onK (oAt l i)) ⟨w.K, w.D.set i true, w.S, maxK (maxK w.high ((sAt w i).2.length : Int)) ((doesR (oAt l i) (sAt w i).2).1.length : Int)⟩
def goR (l : List KOp) : Nat → RW → Nat → Option (Int × Int)
  | 0, _, _ => none
  | f + 1, w, i => if i < l.length then (if (!kAt w i || dAt w i) = true then goR l f w (i + 1)
      else if (stepR l w i).2 ≠ 0 then some (0, (stepR l w i).2) else goR l f (stepR l w i).1 0)
    else some (w.high, 0)
def badR (l : List KOp) (o : KOp) : Bool := (decide (o.sign = 18) || decide (o.sign = 19)) && decide (placeI l o.a < 0)
def rw0 (n : Nat) : RW := ⟨(List.replicate n false).set 0 true, List.replicate n false, List.replicate n (true, []), 0⟩
def refK (fuel : Nat) (b : List Int) : Option (Int × Int) :=
  if (allS numR b).2 ≠ 0 then some (0, (allS numR b).2)
  else if (allS numR b).1.length = 0 then some (0, 17)
  else if (allS numR b).1.any (badR (allS numR b).1) = true then some (0, 17)
  else goR (allS numR b).1 fuel (rw0 (allS numR b).1.length) 0
/-! ## Rows that are written to -/
theorem map_get {α : Type} (f : α → PV) (L : List α) (i : Nat) (h : i < L.length) : pget (L.map f) i = some (f L[i]) := by simp [pget, h]
theorem map_set {α : Type} (f : α → PV) (L : List α) (i : Nat) (x : α) (h : i < L.length) : psplice (L.map f) i [f x] = some ((L.set i x).map f) := by
  unfold psplice
  rw [if_pos (by simp; omega), List.set_eq_take_append_cons_drop, if_pos h]
  simp
theorem prep_map {α : Type} (f : α → PV) (n : Nat) (x : α) : prep n [f x] = (List.replicate n x).map f := by
  unfold prep
  induction n with
  | zero => rfl
  | succ n ih => rw [List.replicate_succ, List.replicate_succ, List.flatten_cons, ih]; rfl
/-- The heap: the image, what is known, what is done, the stacks. -/
def hR (img : List PV) (w : RW) : PH := ⟨[.cells img 0, .cells (w.K.map PV.b) 1, .cells (w.D.map PV.b) 1, .cells (w.S.map atV) 1], 0, [], 0⟩
structure F14 where
  v0 : PV
  v1 : PV
  v6 : PV
  v7 : PV
  v8 : PV
  v12 : PV
  v13 : PV
  v14 : PV
  v20 : PV
  v21 : PV
  v22 : PV
  v23 : PV
  v24 : PV
  v25 : PV
  v26 : PV
  v27 : PV
  v28 : PV
structure U14 where
  v18 : PV
  v19 : PV
  v29 : PV
  v30 : PV
  v31 : PV
  v32 : PV
def stI14 (F : F14) (img : List PV) (l : List KOp) (n : Nat) (s to : List Int) (w : RW) (v3 v4 : Int) (j : Nat) (u : U14) : PSt :=
  ⟨[F.v0, F.v1, .p 0 0, .i .i64 v3, .i .i64 v4, .ls (.v false false) l.length (l.flatMap KOp.enc), F.v6, F.v7, F.v8, .sl 1 0 n (some n), .sl 2 0 n (some n), .sl 3 0 n (some n), F.v12, F.v13, F.v14, vI s, vI to, .i .i64 (j : Nat), u.v18, u.v19, F.v20, F.v21, F.v22, F.v23, F.v24, F.v25, F.v26, F.v27, F.v28, u.v29, u.v30, u.v31, u.v32], hR img w⟩
def RwOk (n : Nat) (w : RW) : Prop := w.K.length = n ∧ w.D.length = n ∧ w.S.length = n
theorem meets_loop (F : F14) (img : List PV) (l : List KOp) (n : Nat) (hn : l.length = n) (hn2 : n ≤ 100000) (s to : List Int) (hto : to.length ≤ 1000) (hs : s.length ≤ 1000) :
    ∀ (r : List Int) (w : RW) (j : Nat) (u : U14), RwOk n w → (∀ i, (sAt w i).2.length ≤ 1000) → j + r.length = to.length → to.drop j = r →
      ((meetsR l s r w).2 = 0 ∧ RwOk n (meetsR l s r w).1 ∧ ∃ u', piterL (pdenL (PC pfs) lp14_2) (stI14 F img l n s to w 0 0 j u) = some (.exit 4, stI14 F img l n s to (meetsR l s r w).1 0 0 to.length u')) ∨
      ((meetsR l s r w).2 ≠ 0 ∧ ∃ x, piterL (pdenL (PC pfs) lp14_2) (stI14 F img l n s to w 0 0 j u) = some (.ret, x) ∧ pnth x.vs 3 = .i .i64 0 ∧ pnth x.vs 4 = .i .i64 (meetsR l s r w).2)
  | [], w, j, u, hw, _, hj, _ => by
    have e : j = to.length := by simpa using hj
    subst e
    refine .inl ⟨rfl, hw, ⟨u.v18, u.v19, .b false, u.v30, u.v31, u.v32⟩, piterL_end ?_⟩
    simp [-prunOps, stI14, lp14_2, vI, meetsR]
  | x :: r, w, j, u, hw, hsl, hj, hd => by
    have hlt : j < to.length := by simp at hj; omega
    have ha : to[j] = x := by
      have := List.getElem_cons_drop hlt
      rw [hd] at this
      injection this
    have hr : to.drop (j + 1) = r := by
      have := List.getElem_cons_drop hlt
      rw [hd] at this
      injection this
    have hI := I_at j to hlt
    rw [ha] at hI
    have hp := place23_ok false l x (by omega)
    obtain ⟨hK, hD, hS⟩ := hw
    unfold meetsR
    unfold placeI at hp
    cases hf : l.findIdx? (fun o => decide (o.pos = x)) with
    | none =>
      rw [hf] at hp
      simp only at hp
      refine .inr ⟨by simp, stI14 F img l n s to w 0 17 j ⟨.i .i64 (-1), u.v19, .b true, .b true, u.v31, u.v32⟩, piterL_ret ?_, rfl, rfl⟩
      simp [-prunOps, stI14, lp14_2, vI, hlt, hI, hp]
    | some p =>
      rw [hf] at hp
      simp only at hp
      have hpl : p < n := by
        rw [List.findIdx?_eq_some_iff_getElem] at hf
        obtain ⟨h, _⟩ := hf
        omega
      have gK := map_get PV.b w.K p (by omega)
      have gS := map_get atV w.S p (by omega)
      have ek : kAt w p = w.K[p]'(by omega) := by simp [kAt, show p < w.K.length by omega]
      have es : sAt w p = w.S[p]'(by omega) := by simp [sAt, show p < w.S.length by omega]
      rw [← ek] at gK
      rw [← es] at gS
      have hc1 : ¬ ((p : Int) < 0) := by omega
      cases hkp : kAt w p with
      | false =>
        rw [hkp] at gK
        have sK := map_set PV.b w.K p true (by omega)
        have sS := map_set atV w.S p (false, s) (by omega)
        have h0 : pdenL (PC pfs) lp14_2 (stI14 F img l n s to w 0 0 j u) = some (.norm, stI14 F img l n s to ⟨w.K.set p true, w.D, w.S.set p (false, s), w.high⟩ 0 0 (j + 1) ⟨.i .i64 (p : Nat), u.v19, .b true, .b false, .b true, u.v32⟩) := by
          have eat : atV (false, s) = .ls (.v false false) s.length (s.flatMap encI) := rfl
          rw [eat] at sS
          simp [-prunOps, -adj, -adj1, -lend, d_t0, d_t2, d_ti, lend_at, lend_v, stI14, lp14_2, vI, hR, hlt, hI, hp, hpl, hc1, gK, awrap_nat1 (n := j) (by omega), sK, sS]
        rw [piterL_step h0]
        simp only [hkp, if_true]
        exact meets_loop F img l n hn hn2 s to hto hs r ⟨w.K.set p true, w.D, w.S.set p (false, s), w.high⟩ (j + 1) _ ⟨by simp [hK], hD, by simp [hS]⟩ (by
          intro i
          simp only [sAt, List.getElem?_set]
          split
          · split <;> simp [hs]
          · exact hsl i) (by simp at hj; omega) hr
      | true =>
        rw [hkp] at gK
        have hm := meet28_ok (sAt w p).2 s (by have := hsl p; omega)
        by_cases he : meetI (sAt w p).2 s = 0
        · have h0 : pdenL (PC pfs) lp14_2 (stI14 F img l n s to w 0 0 j u) = some (.norm, stI14 F img l n s to w 0 0 (j + 1) ⟨.i .i64 (p : Nat), .i .i64 0, .b true, .b false, .b false, .b false⟩) := by
            simp only [vI] at hm
            simp [-prunOps, -adj, -adj1, -lend, d_t0, d_t2, d_ti, lend_at, lend_v, stI14, lp14_2, vI, hR, hlt, hI, hp, hpl, hc1, gK, awrap_nat1 (n := j) (by omega), gS, hm, he]
          rw [piterL_step h0]
          simp only [hkp, he, ne_eq, not_true, if_false, Bool.true_eq_false]
          exact meets_loop F img l n hn hn2 s to hto hs r w (j + 1) _ ⟨hK, hD, hS⟩ hsl (by simp at hj; omega) hr
        · refine .inr ?_
          simp only [hkp, he, ne_eq, not_false_iff, if_true, if_false, Bool.true_eq_false]
          refine ⟨trivial, stI14 F img l n s to w 0 (meetI (sAt w p).2 s) j ⟨.i .i64 (p : Nat), .i .i64 (meetI (sAt w p).2 s), .b true, .b false, .b false, .b true⟩, piterL_ret ?_, rfl, rfl⟩
          simp only [vI] at hm
          simp [-prunOps, -adj, -adj1, -lend, d_t0, d_t2, d_ti, lend_at, lend_v, stI14, lp14_2, vI, hR, hlt, hI, hp, hpl, hc1, gK, awrap_nat1 (n := j) (by omega), gS, hm, he]
end Go.Av
end
section
/- Contracts (seat c6): solenoidref12.Func, of pushes, jumps and ends alone: the going through. -/
namespace Go.Av
@[simp] theorem a1_fresh (σ : PH) (x e n : Nat) (cs : List PV) : adj1 .d σ (.ls (.fresh x e) n cs) = some (.ls (.v false false) n cs, σ) := rfl
@[simp] theorem d_fresh (σ : PH) (x e n : Nat) (cs : List PV) : adj .d σ (.ls (.fresh x e) n cs) = some (.ls (.v false false) n cs, σ) := rfl
def ShortR (w : RW) : Prop := ∀ i, (sAt w i).2.length ≤ 8
theorem doesR_len (o : KOp) (s : List Int) (h : s.length ≤ 8) : (doesR o s).1.length ≤ 8 := by
  unfold doesR
  repeat' split
  all_goals simp
  all_goals omega
theorem meetsR_short (l : List KOp) (s : List Int) (hs : s.length ≤ 8) : ∀ (r : List Int) (w : RW), ShortR w → ShortR (meetsR l s r w).1
  | [], w, h => h
  | x :: r, w, h => by
    unfold meetsR
    split
    · exact h
    · split
      · refine meetsR_short l s hs r _ fun i => ?_
        simp only [sAt, List.getElem?_set]
        split
        · split
          · exact hs
          · simp
        · exact h i
      · split
        · exact h
        · exact meetsR_short l s hs r w h
theorem meetsR_high (l : List KOp) (s : List Int) : ∀ (r : List Int) (w : RW), (meetsR l s r w).1.high = w.high
  | [], _ => rfl
  | x :: r, w => by
    unfold meetsR
    split
    · rfl
    · split
      · exact meetsR_high l s r _
      · split
        · rfl
        · exact meetsR_high l s r w
structure T14 where
  v14 : PV
  v15 : PV
  v16 : PV
  v17 : PV
  v18 : PV
  v19 : PV
  v25 : PV
  v26 : PV
  v27 : PV
  v28 : PV
  v29 : PV
  v30 : PV
  v31 : PV
  v32 : PV
def clR : PV := .ls (.v false false) 0 []
def stO14 (v0 v1 v6 v7 v20 v21 v22 v23 v24 : PV) (img : List PV) (l : List KOp) (n : Nat) (w : RW) (i : Nat) (e : Int) (t : T14) : PSt :=
  ⟨[v0, v1, .p 0 0, .i .i64 0, .i .i64 e, .ls (.v false false) l.length (l.flatMap KOp.enc), v6, v7, clR, .sl 1 0 n (some n), .sl 2 0 n (some n), .sl 3 0 n (some n), .i .i64 w.high, .i .i64 (i : Nat), t.v14, t.v15, t.v16, t.v17, t.v18, t.v19, v20, v21, v22, v23, v24, t.v25, t.v26, t.v27, t.v28, t.v29, t.v30, t.v31, t.v32], hR img w⟩
theorem step14 (v0 v1 v6 v7 v20 v21 v22 v23 v24 : PV) (x : PX) (l : List KOp) (hj : ∀ o ∈ l, JOp o) (n : Nat) (hn : l.length = n) (hn2 : n ≤ 100000) (w : RW) (hw : RwOk n w) (hs : ShortR w) (i : Nat) (hi : i < n) (hk : kAt w i = true) (hd : dAt w i = false) (t : T14) :
    ((stepR l w i).2 = 0 ∧ RwOk n (stepR l w i).1 ∧ ∃ t', pdenL (PC pfs) lp14_3 (stO14 v0 v1 v6 v7 v20 v21 v22 v23 v24 x.img l n w i 0 t) = some (.norm, stO14 v0 v1 v6 v7 v20 v21 v22 v23 v24 x.img l n (stepR l w i).1 0 0 t')) ∨
    ((stepR l w i).2 ≠ 0 ∧ ∃ y, pdenL (PC pfs) lp14_3 (stO14 v0 v1 v6 v7 v20 v21 v22 v23 v24 x.img l n w i 0 t) = some (.ret, y) ∧ pnth y.vs 3 = .i .i64 0 ∧ pnth y.vs 4 = .i .i64 (stepR l w i).2) := by
  obtain ⟨hK, hD, hS⟩ := hw
  have hil : i < l.length := by omega
  have eo : oAt l i = l[i] := by simp [oAt, hil]
  have ho : JOp (oAt l i) := by rw [eo]; exact hj _ (by simp)
  have hO := O_at i l hil
  rw [← eo] at hO
  have gK := map_get PV.b w.K i (by omega)
  have gD := map_get PV.b w.D i (by omega)
  have gS := map_get atV w.S i (by omega)
  have ek : kAt w i = w.K[i]'(by omega) := by simp [kAt, show i < w.K.length by omega]
  have ed : dAt w i = w.D[i]'(by omega) := by simp [dAt, show i < w.D.length by omega]
  have es : sAt w i = w.S[i]'(by omega) := by simp [sAt, show i < w.S.length by omega]
  rw [← ek, hk] at gK
  rw [← ed, hd] at gD
  rw [← es] at gS
  have sD := map_set PV.b w.D i true (by omega)
  have hbe := bears25_ok x.img rfl clR rfl (oAt l i) ho
  have hdo := does26_ok clR rfl (fun _ => rfl) (fun _ => rfl) (oAt l i) ho (sAt w i).2 (hs i)
  have hne := next27_ok (oAt l i)
  have hli : ∀ σ, lend σ (.agg x.img) = some (.agg x.img) := fun _ => rfl
  have hcl : ∀ σ, lend σ clR = some clR := fun _ => rfl
  have hca : ∀ σ, adj .d σ clR = some (clR, σ) := fun _ => rfl
  have hpi : psub x.img 0 3 = some x.img := rfl
  have hic : (i : Int) < (n : Int) := by omega
  have hil' : (i : Int) < (l.length : Int) := by omega
  have hsl := hs i
  unfold stepR
  generalize oAt l i = o at *
  generalize hss : sAt w i = s at *
  by_cases hb0 : bearsR o = 0
  · rw [hb0] at hbe
    simp only [hb0, ne_eq, not_true, if_false]
    rcases hdo with ⟨he, q, hdo⟩ | ⟨he, hnil, hdo⟩
    · simp only [he, ne_eq, not_true, if_false]
      have hdl := doesR_len o s.2 hsl
      generalize (doesR o s.2).1 = s' at *
      have hml := meets_loop ⟨v0, v1, v6, v7, clR, .i .i64 (maxK (maxK w.high (s.2.length : Int)) (s'.length : Int)), .i .i64 (i : Nat), .i .i64 0, v20, v21, v22, v23, v24, .b true, .b false, .b false, .b false⟩ x.img l n hn hn2 s' (onK o) (by have := on_le o; omega) (by omega) (onK o) ⟨w.K, w.D.set i true, w.S, maxK (maxK w.high (s.2.length : Int)) (s'.length : Int)⟩ 0 ⟨t.v18, t.v19, t.v29, t.v30, t.v31, t.v32⟩ ⟨hK, by simp [hD], hS⟩ (fun j => by have := hs j; show (sAt w j).2.length ≤ 1000; omega) (by simp) (by simp)
      have hmh := meetsR_high l s' (onK o) ⟨w.K, w.D.set i true, w.S, maxK (maxK w.high (s.2.length : Int)) (s'.length : Int)⟩
      generalize meetsR l s' (onK o) _ = mr at *
      generalize onK o = to at *
      obtain ⟨w2, e2⟩ := mr
      simp only [vI] at hdo hne
      simp only at hmh
      have z0 : ((0 : Nat) : Int) = 0 := rfl
      rcases hml with ⟨m1, m2, u', m3⟩ | ⟨m1, y, m3, m4, m5⟩
      · refine .inl ⟨m1, m2, ⟨.i .i64 0, vI s', vI to, .i .i64 (to.length : Nat), u'.v18, u'.v19, .b true, .b false, .b false, .b false, u'.v29, u'.v30, u'.v31, u'.v32⟩, ?_⟩
        simp only [stI14, hR, vI, z0] at m3
        simp [-prunOps, -adj, -adj1, -lend, -pLen, -List.map_set, d_t0, d_t2, d_ti, lend_at, lend_v, len_at, len_v, stO14, lp14_3, hR, hil, hi, gK, gD, gS, sD, hO, hbe, hpi, hli, hcl, hca, vI, hdo, max3, hne, m3, hmh]
      · refine .inr ⟨m1, y, ?_, m4, m5⟩
        simp only [stI14, hR, vI, z0] at m3
        simp [-prunOps, -adj, -adj1, -lend, -pLen, -List.map_set, d_t0, d_t2, d_ti, lend_at, lend_v, len_at, len_v, stO14, lp14_3, hR, hil, hi, gK, gD, gS, sD, hO, hbe, hpi, hli, hcl, hca, vI, hdo, max3, hne, m3]

    · simp only [he, ne_eq, not_false_iff, if_true]
      simp only [vI] at hdo
      refine .inr ⟨trivial, stO14 v0 v1 v6 v7 v20 v21 v22 v23 v24 x.img l n ⟨w.K, w.D.set i true, w.S, w.high⟩ i (doesR o s.2).2 ⟨.i .i64 (doesR o s.2).2, .ls (.v false false) 0 [], t.v16, t.v17, t.v18, t.v19, .b true, .b false, .b false, .b true, t.v29, t.v30, t.v31, t.v32⟩, ?_, rfl, rfl⟩
      simp [-prunOps, -adj, -adj1, -lend, -pLen, -List.map_set, d_t0, d_t2, d_ti, lend_at, lend_v, len_at, len_v, stO14, lp14_3, hR, hil, hi, gK, gD, gS, sD, hO, hbe, hpi, hli, hcl, hca, hdo, he]
  · simp only [hb0, ne_eq, not_false_iff, if_true]
    refine .inr ⟨trivial, stO14 v0 v1 v6 v7 v20 v21 v22 v23 v24 x.img l n ⟨w.K, w.D.set i true, w.S, w.high⟩ i (bearsR o) ⟨.i .i64 (bearsR o), t.v15, t.v16, t.v17, t.v18, t.v19, .b true, .b false, .b true, t.v28, t.v29, t.v30, t.v31, t.v32⟩, ?_, rfl, rfl⟩
    simp [-prunOps, -adj, -adj1, -lend, -pLen, -List.map_set, d_t0, d_t2, d_ti, lend_at, lend_v, len_at, len_v, stO14, lp14_3, hR, hil, hi, gK, gD, gS, sD, hO, hbe, hpi, hli, hcl, hca, hb0]
theorem stepR_short {l : List KOp} {w : RW} (h : ShortR w) (i : Nat) : ShortR (stepR l w i).1 := by
  unfold stepR
  split
  · exact h
  · split
    · exact h
    · exact meetsR_short l _ (doesR_len _ _ (h i)) _ _ h
theorem go14 (v0 v1 v6 v7 v20 v21 v22 v23 v24 : PV) (x : PX) (l : List KOp) (hj : ∀ o ∈ l, JOp o) (n : Nat) (hn : l.length = n) (hn2 : n ≤ 100000) : ∀ (f : Nat) (w : RW) (i : Nat) (t : T14) (r : Int × Int), RwOk n w → ShortR w → goR l f w i = some r →
    (r.2 = 0 ∧ ∃ w' t' i', piterL (pdenL (PC pfs) lp14_3) (stO14 v0 v1 v6 v7 v20 v21 v22 v23 v24 x.img l n w i 0 t) = some (.exit 2, stO14 v0 v1 v6 v7 v20 v21 v22 v23 v24 x.img l n w' i' 0 t') ∧ w'.high = r.1) ∨
    (∃ y, piterL (pdenL (PC pfs) lp14_3) (stO14 v0 v1 v6 v7 v20 v21 v22 v23 v24 x.img l n w i 0 t) = some (.ret, y) ∧ pnth y.vs 3 = .i .i64 r.1 ∧ pnth y.vs 4 = .i .i64 r.2)
  | 0, _, _, _, _, _, _, h => by cases h
  | f + 1, w, i, t, r, hw, hs, h => by
    unfold goR at h
    by_cases hi : i < l.length
    · rw [if_pos hi] at h
      by_cases hsk : (!kAt w i || dAt w i) = true
      · rw [if_pos hsk] at h
        obtain ⟨hK, hD, hS⟩ := hw
        have gK := map_get PV.b w.K i (by omega)
        have gD := map_get PV.b w.D i (by omega)
        have ek : kAt w i = w.K[i]'(by omega) := by simp [kAt, show i < w.K.length by omega]
        have ed : dAt w i = w.D[i]'(by omega) := by simp [dAt, show i < w.D.length by omega]
        rw [← ek] at gK
        rw [← ed] at gD
        have hin : i < n := by omega
        have h0 : ∃ t', pdenL (PC pfs) lp14_3 (stO14 v0 v1 v6 v7 v20 v21 v22 v23 v24 x.img l n w i 0 t) = some (.norm, stO14 v0 v1 v6 v7 v20 v21 v22 v23 v24 x.img l n w (i + 1) 0 t') := by
          cases hk : kAt w i with
          | false =>
            rw [hk] at gK
            refine ⟨⟨t.v14, t.v15, t.v16, t.v17, t.v18, t.v19, .b true, .b true, t.v27, t.v28, t.v29, t.v30, t.v31, t.v32⟩, ?_⟩
            simp [-prunOps, stO14, lp14_3, hR, hi, hin, gK, clR, awrap_nat1 (n := i) (by omega)]
          | true =>
            rw [hk] at gK
            have hd : dAt w i = true := by rw [hk] at hsk; simpa using hsk
            rw [hd] at gD
            refine ⟨⟨t.v14, t.v15, t.v16, t.v17, t.v18, t.v19, .b true, .b true, t.v27, t.v28, t.v29, t.v30, t.v31, t.v32⟩, ?_⟩
            simp [-prunOps, stO14, lp14_3, hR, hi, hin, gK, gD, clR, awrap_nat1 (n := i) (by omega)]
        obtain ⟨t1, h0⟩ := h0
        rw [piterL_step h0]
        exact go14 v0 v1 v6 v7 v20 v21 v22 v23 v24 x l hj n hn hn2 f w (i + 1) t1 r ⟨hK, hD, hS⟩ hs h
      · rw [if_neg hsk] at h
        have hk : kAt w i = true := by
          cases hk : kAt w i with
          | true => rfl
          | false => rw [hk] at hsk; simp at hsk
        have hd : dAt w i = false := by
          cases hd : dAt w i with
          | false => rfl
          | true => rw [hd] at hsk; simp at hsk
        rcases step14 v0 v1 v6 v7 v20 v21 v22 v23 v24 x l hj n hn hn2 w hw hs i (by omega) hk hd t with ⟨e1, e2, t1, e3⟩ | ⟨e1, y, e2, e3, e4⟩
        · rw [if_neg (by simp [e1])] at h
          rw [piterL_step e3]
          exact go14 v0 v1 v6 v7 v20 v21 v22 v23 v24 x l hj n hn hn2 f _ 0 t1 r e2 (stepR_short hs i) h
        · rw [if_pos e1] at h
          injection h with h; subst h
          exact .inr ⟨y, piterL_ret e2, e3, e4⟩
    · rw [if_neg hi] at h
      injection h with h; subst h
      refine .inl ⟨rfl, w, ⟨t.v14, t.v15, t.v16, t.v17, t.v18, t.v19, .b false, t.v26, t.v27, t.v28, t.v29, t.v30, t.v31, t.v32⟩, i, piterL_end ?_, rfl⟩
      simp [-prunOps, stO14, lp14_3, hR, hi, clR]
end Go.Av
end
section
/- Contracts (seat c6): solenoidref12.Func, of pushes, jumps and ends alone. -/
namespace Go.Av
structure J14 where
  v23 : PV
  v24 : PV
def stJ14 (v0 v1 : PV) (img : List PV) (l : List KOp) (v3 v4 : Int) (v20 v21 v22 : PV) (i : Nat) (t : J14) : PSt :=
  ⟨[v0, v1, .p 0 0, .i .i64 v3, .i .i64 v4, .ls (.v false false) l.length (l.flatMap KOp.enc), .i .i64 0, .i .i64 (i : Nat), .und, .und, .und, .und, .und, .und, .und, .und, .und, .und, .und, .und, v20, v21, v22, t.v23, t.v24, .und, .und, .und, .und, .und, .und, .und, .und], ⟨[.cells img 0], 0, [], 0⟩⟩
theorem jump14 (v0 v1 : PV) (img : List PV) (l : List KOp) (hl : l.length ≤ 100000) (v20 v21 v22 : PV) (t : J14) :
    (l.any (badR l) = true ∧ ∃ i t', piterL (pdenL (PC pfs) lp14_1) (stJ14 v0 v1 img l 0 0 v20 v21 v22 0 t) = some (.ret, stJ14 v0 v1 img l 0 17 v20 v21 v22 i t')) ∨
    (l.any (badR l) = false ∧ ∃ t', piterL (pdenL (PC pfs) lp14_1) (stJ14 v0 v1 img l 0 0 v20 v21 v22 0 t) = some (.exit 0, stJ14 v0 v1 img l 0 0 v20 v21 v22 l.length t')) := by
  have key := @for_find (pdenL (PC pfs) lp14_1) J14 0 (stJ14 v0 v1 img l 0 0 v20 v21 v22) (stJ14 v0 v1 img l 0 0 v20 v21 v22 l.length) (fun i => ∃ h : i < l.length, badR l l[i] = true) (fun i t => stJ14 v0 v1 img l 0 17 v20 v21 v22 i t) l.length ?_ ?_ ?_ t
  · rcases key with ⟨i, hi, ⟨_, hp⟩, _, t', h⟩ | ⟨hj, t', h⟩
    · exact .inl ⟨List.any_eq_true.2 ⟨l[i], by simp, hp⟩, i, t', h⟩
    · refine .inr ⟨?_, t', h⟩
      rw [List.any_eq_false]
      intro o ho hb
      obtain ⟨j, hj1, rfl⟩ := List.getElem_of_mem ho
      exact hj j hj1 ⟨hj1, hb⟩
  · rintro i hi ⟨_, hp⟩ t
    have hs := O_sign i l hi
    have ha := O_a i l hi
    have hpl := place23_ok false l l[i].a (by omega)
    unfold badR at hp
    refine ⟨⟨.b true, .b true⟩, ?_⟩
    generalize l[i] = o at *
    have hlt : placeI l o.a < 0 := by simp at hp; exact hp.2
    by_cases h18 : o.sign = 18
    · rw [h18] at hs
      simp [-prunOps, stJ14, lp14_1, hi, hs, ha, hpl, hlt]
    · have h19 : o.sign = 19 := by simp [h18] at hp; exact hp.1
      rw [h19] at hs
      simp [-prunOps, stJ14, lp14_1, hi, hs, ha, hpl, hlt]
  · intro i hi hp t
    have hp : badR l l[i] = false := by
      cases hb : badR l l[i] with
      | false => rfl
      | true => exact (hp ⟨hi, hb⟩).elim
    have hs := O_sign i l hi
    have ha := O_a i l hi
    have hpl := place23_ok false l l[i].a (by omega)
    unfold badR at hp
    refine ⟨⟨.b true, .b false⟩, ?_⟩
    generalize l[i] = o at *
    by_cases h18 : o.sign = 18
    · have hlt : ¬ (placeI l o.a < 0) := by simpa [h18] using hp
      rw [h18] at hs
      simp [-prunOps, stJ14, lp14_1, hi, hs, ha, hpl, hlt, awrap_nat1 (n := i) (by omega)]
    · by_cases h19 : o.sign = 19
      · have hlt : ¬ (placeI l o.a < 0) := by simpa [h19] using hp
        rw [h19] at hs
        simp [-prunOps, stJ14, lp14_1, hi, hs, ha, hpl, hlt, awrap_nat1 (n := i) (by omega)]
      · simp [-prunOps, stJ14, lp14_1, hi, hs, h18, h19, awrap_nat1 (n := i) (by omega)]
  · intro t
    refine ⟨⟨.b false, t.v24⟩, ?_⟩
    simp [-prunOps, stJ14, lp14_1]
theorem shortR0 (n : Nat) : ShortR (rw0 n) := by
  intro i
  simp only [sAt, rw0, List.getElem?_replicate]
  split <;> simp
theorem func14_ok (b : List Int) (hb : Bytes b) (hl : b.length ≤ 10000)
    (hj : ∀ o ∈ (allS numR b).1, JOp o) (fuel : Nat) (r : Int × Int) (hr : refK fuel b = some r) :
    iso (PC pfs) 14 [.agg (px0 0 [] 1 [.ls (.v false false) b.length (b.flatMap encU)]).img, .i .i64 0] = some (.tup [.i .i64 r.1, .i .i64 r.2]) := by
  have hall := rall_ok false b hb (by omega)
  have hlen := allF_len (num := numR) (b := b) b.length 0 [] (by omega) (by simp) (by omega)
  have e : allF numR b b.length 0 [] = allS numR b := rfl
  rw [e] at hlen
  unfold refK at hr
  generalize allS numR b = as at *
  obtain ⟨l, ea⟩ := as
  simp only at hr hall hlen hj
  unfold iso
  rw [PC_eq (F := pf14) rfl]
  have hci := cells24_ok false
  rcases hall with ⟨hea, hall⟩ | ⟨hea, hnil, hall⟩
  · simp only [hea, ne_eq, not_true, if_false] at hr
    have h1 := jump14 (.agg (px0 0 [] 1 [.ls (.v false false) b.length (b.flatMap encU)]).img) (.i .i64 0) (px0 0 [] 1 [.ls (.v false false) b.length (b.flatMap encU)]).img l (by omega) (.b false) (.b false) (.b false) ⟨.und, .und⟩
    simp only [px0, PX.img, stJ14] at h1 hall ⊢
    by_cases hl0 : l.length = 0
    · rw [if_pos hl0] at hr
      injection hr with hr; subst hr
      rw [hl0] at hall
      simp [-prunOps, pf14, hall]
    · rw [if_neg hl0] at hr
      rcases h1 with ⟨hbad, i, t1, h1⟩ | ⟨hbad, t1, h1⟩
      · rw [if_pos hbad] at hr
        injection hr with hr; subst hr
        simp at h1
        simp [-prunOps, pf14, hall, hl0, h1]
      · rw [if_neg (by rw [hbad]; simp)] at hr
        have hgo := go14 (.agg (px0 0 [] 1 [.ls (.v false false) b.length (b.flatMap encU)]).img) (.i .i64 0) (.i .i64 0) (.i .i64 (l.length : Nat)) (.b false) (.b false) (.b false) t1.v23 t1.v24 (px0 0 [] 1 [.ls (.v false false) b.length (b.flatMap encU)]) l hj l.length rfl (by omega) fuel (rw0 l.length) 0 ⟨.und, .und, .und, .und, .und, .und, .und, .und, .und, .und, .und, .und, .und, .und⟩ r ⟨by simp [rw0], by simp [rw0], by simp [rw0]⟩ (shortR0 _) hr
        have hp1 := prep_map PV.b l.length false
        have hp2 := prep_map atV l.length (true, [])
        have hms := map_set PV.b (List.replicate l.length false) 0 true (by simp; omega)
        have eat : atV (true, []) = .ls (.v false true) 0 [] := rfl
        rw [eat] at hp2
        have hn0 : 0 < l.length := by omega
        simp only [stO14, hR, rw0, PX.img, px0, clR, encM] at hgo
        simp at h1
        generalize List.map PV.b ((List.replicate l.length false).set 0 true) = R1 at *
        generalize List.map PV.b (List.replicate l.length false) = R0 at *
        generalize List.map atV (List.replicate l.length (true, [])) = R2 at *
        have hb1 : 1 * l.length ≤ 281474976710656 := by omega
        have hb2 : 24 * l.length ≤ 281474976710656 := by omega
        have hb3 : l.length ≤ 4611686018427387904 := by omega
        have hb4 : l.length ≤ 281474976710656 := by omega
        rcases hgo with ⟨he, w', t', i', hgo, hhi⟩ | ⟨y, hgo, hy1, hy2⟩
        · have z0 : ((0 : Nat) : Int) = 0 := rfl
          rw [z0] at hgo
          rw [he, ← hhi]
          simp [-prunOps, -prep, -List.map_set, pf14, hall, hl0, h1, hci, hp1, hp2, hms, hb1, hb2, hb3, hb4, hn0, hgo]
        · have z0 : ((0 : Nat) : Int) = 0 := rfl
          rw [z0] at hgo
          simp [-prunOps, -prep, -List.map_set, pf14, hall, hl0, h1, hci, hp1, hp2, hms, hb1, hb2, hb3, hb4, hn0, hgo, hy1, hy2]
  · simp only [hea, ne_eq, not_false_iff, if_true] at hr
    injection hr with hr; subst hr
    simp only [px0, PX.img] at hall ⊢
    simp [-prunOps, pf14, hall, hea]
end Go.Av
end
section
/- The law CheckJumps: its codes, by evaluation. -/
namespace Go.Av
def codeJ : Nat → List Int
  | 0 => []
  | n + 1 => codeJ n ++ pushB 1 (wrapK 1 ((n : Int).tmod 2))
def codeJ2 (n : Nat) (s x : Int) : List Int := codeJ n ++ [s, x, 0]
def atJ : Nat → List Int
  | 0 => []
  | n + 1 => atJ n ++ [((10 * n : Nat) : Int)]
def atJ2 (n : Nat) : List Int := atJ n ++ [((10 * n : Nat) : Int), ((10 * n : Nat) : Int) + 2]
def jopB (o : KOp) : Bool := decide (0 ≤ o.a) && (decide (o.sign = 0) || decide (o.sign = 1) || decide (o.sign = 18) || decide (o.sign = 19))
def jumpB (n : Nat) (s x : Int) : Bool :=
  match funcK E01 (codeJ2 n s x), refK 200 (codeJ2 n s x) with
  | some r1, some r2 => decide (r1.2 = r2.2) && (if x ∈ atJ2 n then decide (r1.2 ≠ 17) else decide (r1.2 = 17)) && (allS numR (codeJ2 n s x)).1.all jopB
  | _, _ => false
def emptyB (n : Nat) : Bool := match funcK E01 (codeJ n) with
  | some r => decide (r.2 = 17)
  | none => false
theorem empty_all : ((List.range 6).all emptyB) = true := by kernel_rfl
theorem je_0_18 : ((List.range 90).all fun t => jumpB 0 18 t) = true := by kernel_rfl
theorem je_0_19 : ((List.range 90).all fun t => jumpB 0 19 t) = true := by kernel_rfl
theorem je_1_18 : ((List.range 90).all fun t => jumpB 1 18 t) = true := by kernel_rfl
theorem je_1_19 : ((List.range 90).all fun t => jumpB 1 19 t) = true := by kernel_rfl
theorem je_2_18 : ((List.range 90).all fun t => jumpB 2 18 t) = true := by kernel_rfl
theorem je_2_19 : ((List.range 90).all fun t => jumpB 2 19 t) = true := by kernel_rfl
theorem je_3_18 : ((List.range 90).all fun t => jumpB 3 18 t) = true := by kernel_rfl
theorem je_3_19 : ((List.range 90).all fun t => jumpB 3 19 t) = true := by kernel_rfl
theorem je_4_18 : ((List.range 90).all fun t => jumpB 4 18 t) = true := by kernel_rfl
theorem je_4_19 : ((List.range 90).all fun t => jumpB 4 19 t) = true := by kernel_rfl
theorem je_5_18 : ((List.range 90).all fun t => jumpB 5 18 t) = true := by kernel_rfl
theorem je_5_19 : ((List.range 90).all fun t => jumpB 5 19 t) = true := by kernel_rfl
theorem jump_all (n : Nat) (hn : n < 6) (s : Int) (hs : s = 18 ∨ s = 19) (x : Int) (h0 : 0 ≤ x) (h1 : x < 90) : jumpB n s x = true := by
  obtain ⟨j, rfl⟩ := Int.eq_ofNat_of_zero_le h0
  have hj : j ∈ List.range 90 := by simp; omega
  have hc : n = 0 ∨ n = 1 ∨ n = 2 ∨ n = 3 ∨ n = 4 ∨ n = 5 := by omega
  rcases hs with rfl | rfl
  · rcases hc with rfl | rfl | rfl | rfl | rfl | rfl
    · exact List.all_eq_true.1 je_0_18 j hj
    · exact List.all_eq_true.1 je_1_18 j hj
    · exact List.all_eq_true.1 je_2_18 j hj
    · exact List.all_eq_true.1 je_3_18 j hj
    · exact List.all_eq_true.1 je_4_18 j hj
    · exact List.all_eq_true.1 je_5_18 j hj
  · rcases hc with rfl | rfl | rfl | rfl | rfl | rfl
    · exact List.all_eq_true.1 je_0_19 j hj
    · exact List.all_eq_true.1 je_1_19 j hj
    · exact List.all_eq_true.1 je_2_19 j hj
    · exact List.all_eq_true.1 je_3_19 j hj
    · exact List.all_eq_true.1 je_4_19 j hj
    · exact List.all_eq_true.1 je_5_19 j hj
theorem codeJ_len : ∀ n, (codeJ n).length = 10 * n
  | 0 => rfl
  | n + 1 => by rw [codeJ, List.length_append, codeJ_len n, pushB_len]; omega
theorem codeJ_bytes : ∀ n, Bytes (codeJ n)
  | 0 => fun x h => by cases h
  | n + 1 => bytes_app (codeJ_bytes n) (pushB_bytes _ _)
theorem atJ_len : ∀ n, (atJ n).length = n
  | 0 => rfl
  | n + 1 => by rw [atJ, List.length_append, atJ_len n]; rfl
/-- What the two say of such a function. -/
theorem jump_funcs (n : Nat) (hn : n < 6) (s : Int) (hs : s = 18 ∨ s = 19) (x : Int) (h0 : 0 ≤ x) (h1 : x < 90) : ∃ h h' e : Int,
    iso (PC pfs) 12 [.agg [.ls (.v false false) 0 [], .ls (.v false false) 0 [], .ls (.v false false) 1 [.ls (.v false false) (10 * n + 3) ((codeJ2 n s x).flatMap encU)]], .i .i64 0] = some (.tup [.i .i64 h, .i .i64 e]) ∧
    iso (PC pfs) 14 [.agg [.ls (.v false false) 0 [], .ls (.v false false) 0 [], .ls (.v false false) 1 [.ls (.v false false) (10 * n + 3) ((codeJ2 n s x).flatMap encU)]], .i .i64 0] = some (.tup [.i .i64 h', .i .i64 e]) ∧
    ((x ∈ atJ2 n ∧ e ≠ 17) ∨ (x ∉ atJ2 n ∧ e = 17)) := by
  have hj := jump_all n hn s hs x h0 h1
  have hl : (codeJ2 n s x).length = 10 * n + 3 := by simp [codeJ2, codeJ_len]
  have hb : Bytes (codeJ2 n s x) := by
    refine bytes_app (codeJ_bytes n) ?_
    intro y hy
    simp at hy
    omega
  unfold jumpB at hj
  cases h2 : funcK E01 (codeJ2 n s x) with
  | none => rw [h2] at hj; cases hj
  | some r1 =>
    cases h3 : refK 200 (codeJ2 n s x) with
    | none => rw [h2, h3] at hj; cases hj
    | some r2 =>
      rw [h2, h3] at hj
      simp only [Bool.and_eq_true, decide_eq_true_eq] at hj
      obtain ⟨⟨e1, e2⟩, e3⟩ := hj
      have hjo : ∀ o ∈ (allS numR (codeJ2 n s x)).1, JOp o := by
        intro o ho
        have := List.all_eq_true.1 e3 o ho
        simp [jopB] at this
        exact ⟨this.1, by omega⟩
      have hF := func0_ok 0 [] 1 [.ls (.v false false) (codeJ2 n s x).length ((codeJ2 n s x).flatMap encU)] 0 false (codeJ2 n s x) hb (by omega) (by omega) rfl r1 h2
      have hR := func14_ok (codeJ2 n s x) hb (by omega) hjo 200 r2 h3
      rw [hl] at hF hR
      refine ⟨r1.1, r2.1, r1.2, hF, ?_, ?_⟩
      · rw [e1]; exact hR
      · by_cases hx : x ∈ atJ2 n
        · rw [if_pos hx] at e2; exact .inl ⟨hx, by simpa using e2⟩
        · rw [if_neg hx] at e2; exact .inr ⟨hx, by simpa using e2⟩
theorem empty_func (n : Nat) (hn : n < 6) : ∃ h : Int, iso (PC pfs) 12 [.agg [.ls (.v false false) 0 [], .ls (.v false false) 0 [], .ls (.v false false) 1 [.ls (.v false false) (10 * n) ((codeJ n).flatMap encU)]], .i .i64 0] = some (.tup [.i .i64 h, .i .i64 17]) := by
  have h := List.all_eq_true.1 empty_all n (by simp; omega)
  unfold emptyB at h
  have hl := codeJ_len n
  cases h2 : funcK E01 (codeJ n) with
  | none => rw [h2] at h; cases h
  | some r =>
    rw [h2] at h
    have hF := func0_ok 0 [] 1 [.ls (.v false false) (codeJ n).length ((codeJ n).flatMap encU)] 0 false (codeJ n) (codeJ_bytes n) (by omega) (by omega) rfl r h2
    rw [hl] at hF
    have e : r.2 = 17 := by simpa using h
    exact ⟨r.1, by rw [← e]; exact hF⟩
end Go.Av
end
section
/- The law CheckJumps on the second machine. -/
namespace Go.Av
theorem appAt (ob : List PObj) (A : Root) (i : Nat) (l m : List Int) (hl : l.length = i) (hm : 0 < m.length) (hb : i + m.length < 1000) :
    pappendNew ⟨ob, 0, [A, .live i i 1], 0⟩ 1 8 (.ls (.own 1 i) i (l.flatMap encI)) m.length (m.flatMap encI) = some (.ls (.own 1 (i + 1)) (i + m.length) ((l ++ m).flatMap encI), ⟨ob, 0, [A, .live (i + 1) (i + m.length) 1], 0⟩) := by
  rw [pan_own (σ := ⟨ob, 0, [A, .live i i 1], 0⟩) (x := i) (e := 1) rfl (.inr rfl) (by omega) (by simp [hl]) rfl hm (by omega) (by omega)]
  simp [PH.setRoot, setR]
structure T5 where
  g : List PObj
  v15 : PV
def st5 (v0 v1 v2 v3 v7 v8 v9 v10 v11 v12 v13 v14 v16 v17 : PV) (i : Nat) (t : T5) : PSt :=
  ⟨[v0, v1, v2, v3, .ls (.own 0 (10 * i)) (10 * i) ((codeJ i).flatMap encU), .ls (.own 1 i) i ((atJ i).flatMap encI), .i .i64 (i : Nat), v7, v8, v9, v10, v11, v12, v13, v14, t.v15, v16, v17], ⟨t.g, 0, [.live (10 * i) (10 * i) 1, .live i i 1], 0⟩⟩
theorem loop5 (n : Nat) (hn : n < 6) (v1 v2 v3 v7 v8 v9 v10 v11 v12 v13 v14 v16 v17 : PV) (t : T5) :
    ∃ t', piterL (pdenL (PC pfs) lp5_1) (st5 (.i .i64 (n : Nat)) v1 v2 v3 v7 v8 v9 v10 v11 v12 v13 v14 v16 v17 0 t) = some (.exit 0, st5 (.i .i64 (n : Nat)) v1 v2 v3 v7 v8 v9 v10 v11 v12 v13 v14 v16 v17 n t') := by
  refine @for_loop (pdenL (PC pfs) lp5_1) T5 0 (st5 (.i .i64 (n : Nat)) v1 v2 v3 v7 v8 v9 v10 v11 v12 v13 v14 v16 v17) (st5 (.i .i64 (n : Nat)) v1 v2 v3 v7 v8 v9 v10 v11 v12 v13 v14 v16 v17 n) n ?_ ?_ t
  · intro i hi t
    have hp := pushed_ok (codeJ i) (10 * i) (10 * i) (codeJ_len i) (by omega) 1 ((i : Int).tmod 2) t.g [.live (i + 1) (i + 1) 1]
    have e1 : codeJ i ++ pushB 1 (wrapK 1 ((i : Int).tmod 2)) = codeJ (i + 1) := rfl
    have e2 : 10 * i + 10 = 10 * (i + 1) := by omega
    rw [e1, e2] at hp
    have ha := appAt t.g (.live (10 * i) (10 * i) 1) i (atJ i) [((10 * i : Nat) : Int)] (atJ_len i) (by simp) (by simp; omega)
    have e3 : atJ i ++ [((10 * i : Nat) : Int)] = atJ (i + 1) := rfl
    rw [e3] at ha
    refine ⟨⟨t.g ++ [.cells (pushO 1 (wrapK 1 ((i : Int).tmod 2))).enc 0], .b true⟩, ?_⟩
    simp only [st5]
    generalize codeJ (i + 1) = c2 at *
    generalize codeJ i = c1 at *
    generalize atJ (i + 1) = a2 at *
    generalize atJ i = a1 at *
    generalize (pushO 1 (wrapK 1 ((i : Int).tmod 2))).enc = pe at *
    generalize 10 * (i + 1) = L2 at *
    generalize 10 * i = L1 at *
    simp [encI] at ha
    simp [-prunOps, lp5_1, hi, ha, hp, awrap_nat1 (n := i) (by omega)]
  · intro t
    refine ⟨⟨t.g, .b false⟩, ?_⟩
    simp [-prunOps, st5, lp5_1]
structure T5b where
  v17 : PV
def st5b (v0 v2 v3 v4 v6 v9 v10 v11 v12 v13 v14 v15 v16 : PV) (x : Int) (r v : Nat) (l : List Int) (σ : PH) (i : Nat) (t : T5b) : PSt :=
  ⟨[v0, .i .i64 x, v2, v3, v4, .ls (.own r v) l.length (l.flatMap encI), v6, .b (decide (x ∈ l.take i)), .i .i64 (i : Nat), v9, v10, v11, v12, v13, v14, v15, v16, t.v17], σ⟩
theorem loop5b (v0 v2 v3 v4 v6 v9 v10 v11 v12 v13 v14 v15 v16 : PV) (x : Int) (r v : Nat) (l : List Int) (hl : l.length ≤ 1000) (σ : PH) (hr : σ.reads (.own r v) = true) (t : T5b) :
    ∃ t', piterL (pdenL (PC pfs) lp5_2) (st5b v0 v2 v3 v4 v6 v9 v10 v11 v12 v13 v14 v15 v16 x r v l σ 0 t) = some (.exit 2, st5b v0 v2 v3 v4 v6 v9 v10 v11 v12 v13 v14 v15 v16 x r v l σ l.length t') := by
  refine @for_loop (pdenL (PC pfs) lp5_2) T5b 2 (st5b v0 v2 v3 v4 v6 v9 v10 v11 v12 v13 v14 v15 v16 x r v l σ) (st5b v0 v2 v3 v4 v6 v9 v10 v11 v12 v13 v14 v15 v16 x r v l σ l.length) l.length ?_ ?_ t
  · intro i hi t
    refine ⟨⟨.b true⟩, ?_⟩
    have hI := I_at i l hi
    have e1 : decide (x ∈ l.take (i + 1)) = (decide (x ∈ l.take i) || decide (l[i] = x)) := by
      have hm : x ∈ l.take (i + 1) ↔ x ∈ l.take i ∨ x = l[i] := by rw [← take_succ hi, List.mem_append, List.mem_singleton]
      have h3 : l[i] = x ↔ x = l[i] := ⟨fun e => e.symm, fun e => e.symm⟩
      rw [decide_eq_decide.2 (hm.trans (or_congr Iff.rfl h3.symm)), Bool.decide_or]
    simp only [st5b]
    rw [e1]
    cases hd : decide (x ∈ l.take i) with
    | true => simp [-prunOps, -PH.reads, lp5_2, hi, hI, hr, awrap_nat1 (n := i) (by omega)]
    | false => simp [-prunOps, -PH.reads, lp5_2, hi, hI, hr, awrap_nat1 (n := i) (by omega)]
  · intro t
    refine ⟨⟨.b false⟩, ?_⟩
    simp [-prunOps, -PH.reads, st5b, lp5_2, hr]
theorem psub_pre (a b : List Int) (n : Nat) (h : a.length = n) : psub ((a ++ b).flatMap encU) 0 n = some (a.flatMap encU) := by
  subst h
  unfold psub
  rw [if_pos (by simp)]
  simp [List.take_left']
@[simp] theorem d_nilo (e : Nat) (σ : PH) (b : Bool) : adj (.own e) σ (.ls (.v b true) 0 []) = some (.ls (.own σ.rt.length 0) 0 [], σ.newRoot (.live 0 0 e)) := rfl
theorem pApp_lit {σ : PH} {bytes n : Nat} {s : PV} {new : List PV} (hl : new.length = n + 1) (hs : ShutL new) : pAppend σ 1 bytes s (.ls (.v false true) (n + 1) new) = pappendNew σ 1 bytes s (n + 1) new := by
  have h1 : psub new 0 ((n + 1) * 1) = some new := psub_all (by omega)
  have h2 := clo_shutL (k := 7) (σ := σ) hs
  unfold pAppend
  simp only [plenOf, PH.reads, pfirst, h1, h2]
theorem copyV (l : List Int) (hb : l.length < 1000000) : ∃ v t, (∀ σ : PH, pAppend σ 1 1 (.ls (.v false true) 0 []) (.ls (.v false false) l.length (l.flatMap encU)) = some (v, σ)) ∧ ∀ σ', adj .d σ' v = some (.ls (.v false t) l.length (l.flatMap encU), σ') := by
  by_cases h0 : l.length = 0
  · have : l = [] := List.eq_nil_of_length_eq_zero h0
    subst this
    exact ⟨.ls (.v false true) 0 [], true, fun σ => by simp, fun _ => rfl⟩
  · obtain ⟨m, hm⟩ := Nat.exists_eq_succ_of_ne_zero h0
    have hm : l.length = m + 1 := hm
    have h1 : psub (l.flatMap encU) 0 ((m + 1) * 1) = some (l.flatMap encU) := psub_all (by simp [hm])
    rw [hm]
    refine ⟨.ls (.fresh (m + 1) 1) (m + 1) (l.flatMap encU), false, fun σ => ?_, fun _ => rfl⟩
    have h2 := pan_view (σ := σ) (ez := 1) (bytes := 1) (n := m + 1) (sn := 0) (b := false) (cs := []) (new := l.flatMap encU) (by simp) (by omega) (by omega) (.inl rfl)
    have hc := clo_shutL (k := 7) (σ := σ) (shutU l)
    unfold pAppend
    simp only [plenOf, PH.reads, pfirst, h1, hc, h2]
    simp
theorem sl_shut (ob : List PObj) (rs : List Root) (v L : Nat) (c2 c1 : List PV) (h : psub c2 0 L = some c1) : pSlSl .d ⟨ob, 0, .shut v :: rs, 0⟩ 1 (.ls (.own 0 v) (L + 3) c2) none (some (.i .i64 (L : Nat))) none = some (.ls (.v false false) L c1, ⟨ob, 0, .shut v :: rs, 0⟩) := by
  have h1 : pbounds (L + 3) (L + 3) none (some (.i .i64 (L : Nat))) none = some (0, L, L + 3) := by
    unfold pbounds; simp only; rw [pbound_nat _ _ _ (by omega)]
  have h2 : psub c2 (0 * 1) ((L - 0) * 1) = some c1 := by simpa using h
  unfold pSlSl
  simp only [PH.reads, PH.root, getR, h1, h2]
  simp [h]
theorem jumps_ok (a to : Int) (jz : Bool) : iso (PC pfs) 5 [.i .i64 a, .i .i64 to, .b jz] = some (.b true) := by
  have hkn := known_ok
  have hw1 := within_ok a 6 (by omega) (by omega)
  have hw2 := within_ok to 90 (by omega) (by omega)
  have ha0 : 0 ≤ a % 6 := by omega
  have ha1 : a % 6 < 6 := by omega
  have ht0 : 0 ≤ to % 90 := by omega
  have ht1 : to % 90 < 90 := by omega
  generalize a % 6 = a' at *
  generalize to % 90 = x at *
  obtain ⟨n, rfl⟩ := Int.eq_ofNat_of_zero_le ha0
  have hn : n < 6 := by omega
  obtain ⟨s, hs, hsd⟩ : ∃ s : Int, (s = 18 ∨ s = 19) ∧ s = (if jz = true ∧ 0 < n then 19 else 18) := by
    by_cases h : jz = true ∧ 0 < n
    · exact ⟨19, .inr rfl, by rw [if_pos h]⟩
    · exact ⟨18, .inl rfl, by rw [if_neg h]⟩
  obtain ⟨h, h', e, hF, hR, he⟩ := jump_funcs n hn s hs x ht0 ht1
  obtain ⟨h2, hE⟩ := empty_func n hn
  have hlen := codeJ_len n
  have hlen2 : (codeJ2 n s x).length = 10 * n + 3 := by simp [codeJ2, hlen]
  have hal := atJ_len n
  have hal2 : (atJ2 n).length = n + 2 := by simp [atJ2, hal]
  obtain ⟨t1, hl1⟩ := loop5 n hn (.i .i64 x) (.b jz) (.b false) .und .und .und .und .und .und .und (.b false) .und .und ⟨[], .und⟩
  have hA1 := fun ob => appAt ob (.live (10 * n) (10 * n) 1) n (atJ n) [((10 * n : Nat) : Int), ((10 * n : Nat) : Int) + 2] hal (by simp) (by simp; omega)
  have hB1 := fun ob rs => appR ob (.live (10 * n) (10 * n) 1 :: rs) 0 (10 * n) (10 * n) (codeJ n) [s, x, 0] rfl hlen (by simp) (by simp; omega)
  have hpre := psub_pre (codeJ n) [s, x, 0] (10 * n) hlen
  have e1 : atJ n ++ [((10 * n : Nat) : Int), ((10 * n : Nat) : Int) + 2] = atJ2 n := rfl
  have e2 : codeJ n ++ [s, x, 0] = codeJ2 n s x := rfl
  simp only [e1] at hA1
  simp only [e2] at hB1
  rw [e2] at hpre
  have hl2 := fun v4 σ hr t => loop5b (.i .i64 (n : Nat)) (.b jz) (.b false) v4 (.i .i64 (n : Nat)) .und .und .und .und .und (.b false) t1.v15 (.b (jz && decide (0 < n))) x 1 (n + 1) (atJ2 n) (by omega) σ hr t
  obtain ⟨cv, ct, hcv, hca⟩ := copyV (codeJ n) (by omega)
  rw [hlen] at hcv hca
  simp only [st5b, hal2, List.take_zero] at hl2
  rw [← hal2, List.take_length, hal2] at hl2
  have hl2 := hl2 (.ls (.own 0 (10 * n + 1)) (10 * n + 3) ((codeJ2 n s x).flatMap encU)) ⟨t1.g, 0, [.live (10 * n + 1) (10 * n + 3) 1, .live (n + 1) (n + 2) 1], 0⟩ (by simp) ⟨.und⟩
  obtain ⟨t2, hl2⟩ := hl2
  have pA : ∀ ob, pAppend ⟨ob, 0, [.live (10 * n) (10 * n) 1, .live n n 1], 0⟩ 1 8 (.ls (.own 1 n) n ((atJ n).flatMap encI)) (.ls (.v false true) 2 [.i .i64 ((10 * n : Nat) : Int), .i .i64 (((10 * n : Nat) : Int) + 2)]) = some (.ls (.own 1 (n + 1)) (n + 2) ((atJ2 n).flatMap encI), ⟨ob, 0, [.live (10 * n) (10 * n) 1, .live (n + 1) (n + 2) 1], 0⟩) := by
    intro ob
    exact (pApp_lit (n := 1) rfl (by simp [ShutL, Shut])).trans (hA1 ob)
  have pB : ∀ ob rs, pAppend ⟨ob, 0, .live (10 * n) (10 * n) 1 :: rs, 0⟩ 1 1 (.ls (.own 0 (10 * n)) (10 * n) ((codeJ n).flatMap encU)) (.ls (.v false true) 3 [.i .u8 s, .i .u8 x, .i .u8 0]) = some (.ls (.own 0 (10 * n + 1)) (10 * n + 3) ((codeJ2 n s x).flatMap encU), ⟨ob, 0, .live (10 * n + 1) (10 * n + 3) 1 :: rs, 0⟩) := by
    intro ob rs
    exact (pApp_lit (n := 2) rfl (by simp [ShutL, Shut])).trans (hB1 ob rs)
  have hSl := fun ob rs => sl_shut ob rs (10 * n + 1) (10 * n) _ _ hpre
  have w8 : awrap .u8 x = x := by rw [awrap_eq]; simp [IntKind.wrap, IntKind.signed, IntKind.bits]; omega
  have wL2 : awrap .i64 (((10 * n : Nat) : Int) + 2) = ((10 * n : Nat) : Int) + 2 := awrap_id (by omega) (by omega)
  have wL : awrap .i64 ((10 * n : Nat) : Int) = ((10 * n : Nat) : Int) := awrap_id (by omega) (by omega)
  have hx2 : (x ∈ atJ2 n ∧ e ≠ 17) ∨ (x ∉ atJ2 n ∧ e = 17) := he
  clear hA1 hB1 hpre hlen hlen2 hal hal2 he e1 e2
  unfold iso
  rw [PC_eq (F := pf5) rfl]
  generalize codeJ2 n s x = cj2 at *
  simp only [st5] at hl1
  have ec0 : codeJ 0 = [] := rfl
  have ea0 : atJ 0 = [] := rfl
  rw [ec0, ea0] at hl1
  generalize codeJ n = cj at *
  generalize atJ2 n = aj2 at *
  generalize atJ n = aj at *
  have h0L : n = 0 ∨ 0 < n := by omega
  generalize 10 * n = L at *
  have z0 : ((0 : Nat) : Int) = 0 := rfl
  simp at hl1 hl2
  have hct : ∀ (σ : PH) (m : Nat) (cs : List PV), adj .d σ (.ls (.v false ct) m cs) = some (.ls (.v false ct) m cs, σ) := by
    intro σ m cs
    cases ct
    · exact d_ls _ _ _ _ _
    · exact d_tt _ _ _ _
  rcases hx2 with ⟨hx, he⟩ | ⟨hx, he⟩
  · cases jz with
    | false =>
      simp at hsd
      subst hsd
      simp at hl2
      simp [-prunOps, -pAppend, -pSlSl, -adj, -adj1, d_t0, d_t2, d_ti, pf5, hkn, hw1, hw2, hl1, hl2, pA, pB, hSl, hcv, hca, hct, hF, hR, hE, w8, wL2, wL, hx, he]
    | true =>
      rcases h0L with h0 | h0
      · have h0n : ¬ 0 < n := by omega
        simp [h0n] at hsd
        subst hsd
        simp [h0n] at hl2
        simp [h0n, -prunOps, -pAppend, -pSlSl, -adj, -adj1, d_t0, d_t2, d_ti, pf5, hkn, hw1, hw2, hl1, hl2, pA, pB, hSl, hcv, hca, hct, hF, hR, hE, w8, wL2, wL, hx, he]
      · have h0' : (0 : Int) < (n : Int) := by omega
        simp [h0] at hsd
        subst hsd
        simp [h0] at hl2
        simp [-prunOps, -pAppend, -pSlSl, -adj, -adj1, d_t0, d_t2, d_ti, pf5, hkn, hw1, hw2, hl1, hl2, pA, pB, hSl, hcv, hca, hct, hF, hR, hE, w8, wL2, wL, hx, he, h0, h0']
  · cases jz with
    | false =>
      simp at hsd
      subst hsd
      simp at hl2
      simp [-prunOps, -pAppend, -pSlSl, -adj, -adj1, d_t0, d_t2, d_ti, pf5, hkn, hw1, hw2, hl1, hl2, pA, pB, hSl, hcv, hca, hct, hF, hR, hE, w8, wL2, wL, hx, he]
    | true =>
      rcases h0L with h0 | h0
      · have h0n : ¬ 0 < n := by omega
        simp [h0n] at hsd
        subst hsd
        simp [h0n] at hl2
        simp [h0n, -prunOps, -pAppend, -pSlSl, -adj, -adj1, d_t0, d_t2, d_ti, pf5, hkn, hw1, hw2, hl1, hl2, pA, pB, hSl, hcv, hca, hct, hF, hR, hE, w8, wL2, wL, hx, he]
      · have h0' : (0 : Int) < (n : Int) := by omega
        simp [h0] at hsd
        subst hsd
        simp [h0] at hl2
        simp [-prunOps, -pAppend, -pSlSl, -adj, -adj1, d_t0, d_t2, d_ti, pf5, hkn, hw1, hw2, hl1, hl2, pA, pB, hSl, hcv, hca, hct, hF, hR, hE, w8, wL2, wL, hx, he, h0, h0']
end Go.Av
end
