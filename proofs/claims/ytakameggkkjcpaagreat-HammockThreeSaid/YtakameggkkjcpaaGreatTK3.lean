/- Part 3 of the proof: Of a hammock of three blocks, either way round, the hammock, its cost and its merging are found, and behind a phi or a further way out none is: 'HammockThree' answers true at every input. No conditions. -/
import Derived.Test.YtakameggkkjcpaaGreatTK2
import Derived.Shelf.SlIterI.Sorted
import Derived.Shelf.SortM.Plain
import Derived.Shelf.SortM.SortNone
import Derived.Shelf.SlGeneric
import Derived.RangeFuncBox
import Derived.RangeFuncLeaves
import Derived.Shelf.Abstract
import Derived.OwnWalkIn
import Derived.TacticsInMore
import Derived.LoopNIn
import Derived.LoopIn
import Derived.Maps.AppendAt
import Derived.Maps.RangeRun
set_option linter.unusedVariables false
set_option linter.unusedSimpArgs false
namespace Go.Proofs.YtakameggkkjcpaaGreat
open Go Go.RowKit
inductive RchN (succ : List (List Int)) (root no : Int) : Int → Prop
  | root : root ≠ no → RchN succ root no root
  | step {p x : Int} : RchN succ root no p → x ∈ nth succ p → x ≠ no → RchN succ root no x
structure TreeP (succ : List (List Int)) (root : Int) (tl : List Int) : Prop where
  len : tl.length = succ.length
  top : nth tl root = -1
  none_ : ∀ x : Int, 0 ≤ x → x < succ.length → ¬ RchN succ root (-1) x → nth tl x = -2
  range : ∀ x : Int, RchN succ root (-1) x → 0 ≤ x ∧ x < succ.length
  up : ∀ x : Int, RchN succ root (-1) x → x ≠ root → RchN succ root (-1) (nth tl x) ∧ RchN succ root x (nth tl x) ∧ ∀ y, y ≠ x → (RchN succ root y x ↔ RchN succ root y (nth tl x))
theorem RchN.mem {succ : List (List Int)} {root no : Int} {ord : List Int} (hO : OrderP succ root ord) {x : Int} (h : RchN succ root no x) : x ∈ ord := by
  induction h with
  | root _ => obtain ⟨tl, e⟩ := hO.head; rw [e]; simp
  | step _ hx _ ih => exact hO.closed _ ih _ hx
theorem RchN.av {succ : List (List Int)} {root : Int} {ord : List Int} (hO : OrderP succ root ord) {b : Nat} (hb : b < ord.length) {x : Int} (h : RchN succ root (nth ord (b : Int)) x) : ∀ k : Nat, k < ord.length → x = nth ord (k : Int) → Av (prO succ ord) b k := by
  induction h with
  | root hne =>
    intro k hk e
    have : (k : Int) = 0 := hO.inj (by omega) (by omega) (by omega) (by omega) (by rw [← e, hO.root])
    have : k = 0 := by omega
    subst this
    refine .root fun e2 => hne ?_
    subst e2
    exact hO.root.symm
  | @step p x hp hx hne ih =>
    intro k hk e
    obtain ⟨j, hj, ej⟩ := OrderP.mem (hp.mem hO)
    refine .step (ih j hj ej) ⟨hk, hj, ?_⟩ fun e2 => hne (by rw [e, e2])
    rw [← e, ← ej]; exact hx
theorem Av.rch {succ : List (List Int)} {root : Int} {ord : List Int} (hO : OrderP succ root ord) {no : Int} {b k : Nat} (hno : ∀ j : Nat, j < ord.length → j ≠ b → nth ord (j : Int) ≠ no) (h : Av (prO succ ord) b k) : RchN succ root no (nth ord (k : Int)) := by
  have hl : 0 < ord.length := by obtain ⟨tl, e⟩ := hO.head; rw [e]; simp
  induction h with
  | root hne =>
    have := hno 0 hl (Ne.symm hne)
    show RchN succ root no (nth ord 0)
    have e : nth ord ((0 : Nat) : Int) = nth ord 0 := rfl
    rw [e, hO.root] at this
    rw [hO.root]
    exact .root this
  | step _ hp hne ih => exact .step ih hp.2.2 (hno _ hp.1 hne)
theorem all_rch {succ : List (List Int)} {root : Int} {ord : List Int} (hO : OrderP succ root ord) {no : Int} (hno : no ∉ ord) : ∀ k : Nat, k < ord.length → RchN succ root no (nth ord (k : Int)) := by
  intro k
  induction k using Nat.strongRecOn with
  | _ k ih =>
    intro hk
    have hn : nth ord (k : Int) ≠ no := fun e => hno (e ▸ nth_mem (by omega) (by omega))
    by_cases h0 : 0 < k
    · obtain ⟨p, hp, hpr⟩ := hO.behind h0 hk
      exact .step (ih p hp (by omega)) hpr.2.2 hn
    · have : k = 0 := by omega
      subst this
      have e : nth ord ((0 : Nat) : Int) = root := hO.root
      rw [e] at hn ⊢
      exact .root hn
theorem TInv.tree {succ : List (List Int)} {root : Int} {ord tl al : List Int} {T : Nat → Nat} {v : Nat} {D0 : Nat → Nat → Prop} (hO : OrderP succ root ord) (h : TInv succ ord tl al T v D0) (h0 : 0 ≤ root) (h1 : root < succ.length)
    (hst : ∀ z : Nat, 0 < z → z < ord.length → Stable succ ord T v z) : TreeP succ root (tl.set root.toNat (-1)) := by
  have hl : 0 < ord.length := by obtain ⟨tl, e⟩ := hO.head; rw [e]; simp
  have hv : v = ord.length := by
    have := h.le
    by_cases h2 : ord.length = 1
    · have := h.dom.pos; omega
    · have := (hst (ord.length - 1) (by omega) (by omega)).1; omega
  subst hv
  have hR := h.dom.right (fun z p hp _ => hp.1) (fun z z0 z1 => (hst z z0 z1).2)
  have hneg : (-1 : Int) ∉ ord := fun hm => by have := hO.range _ hm; omega
  have hset : ∀ x : Int, 0 ≤ x → x ≠ root → nth (tl.set root.toNat (-1)) x = nth tl x := fun x x0 hx => by
    rw [nth_set h0 (by rw [h.ta.ltr]; exact h1) x0, if_neg hx]
  refine ⟨by simp [h.ta.ltr], by rw [nth_set h0 (by rw [h.ta.ltr]; exact h1) h0, if_pos rfl], fun x x0 x1 hx => ?_, fun x hx => hO.range x (hx.mem hO), fun x hx hne => ?_⟩
  · have hm : x ∉ ord := fun hm => by
      obtain ⟨k, hk, e⟩ := OrderP.mem hm
      exact hx (e ▸ all_rch hO hneg k hk)
    have hne : x ≠ root := fun e => by
      obtain ⟨tl, e2⟩ := hO.head
      exact hm (by rw [e, e2]; simp)
    rw [hset x x0 hne]
    exact h.none_ x x0 x1 hm
  · obtain ⟨k, hk, e⟩ := OrderP.mem (hx.mem hO)
    have hxr := hO.range x (hx.mem hO)
    have hk0 : 0 < k := by
      apply Classical.byContradiction
      intro hn
      have : k = 0 := by omega
      subst this
      exact hne (e.trans hO.root)
    have hTk := h.dom.par.lt k hk0
    have hu : nth (tl.set root.toNat (-1)) x = nth ord (T k : Int) := by rw [hset x hxr.1 hne, e]; exact h.ta.tree k hk
    rw [hu]
    have hcmp : ∀ b : Nat, b < ord.length → ∀ j : Nat, j < ord.length → (RchN succ root (nth ord (b : Int)) (nth ord (j : Int)) ↔ ¬ Dt T j b) := fun b hb j hj => by
      have hRj := hR j hj b
      constructor
      · intro hr hd
        exact hRj.1 hd (hr.av hO hb j hj rfl)
      · intro hd
        have ha : Av (prO succ ord) b j := Classical.byContradiction fun hn => hd (hRj.2 hn)
        exact ha.rch hO fun i hi hne e => hne (by have := hO.inj (j := (i : Int)) (k := (b : Int)) (by omega) (by omega) (by omega) (by omega) e; omega)
    refine ⟨all_rch hO hneg (T k) (by omega), ?_, fun y hy => ?_⟩
    · rw [e, hcmp k hk (T k) (by omega)]
      intro hd
      have := hd.le h.dom.par
      omega
    · by_cases hm : y ∈ ord
      · obtain ⟨b, hb, eb⟩ := OrderP.mem hm
        rw [eb, e, hcmp b hb k hk, hcmp b hb (T k) (by omega), Dt.iff h.dom.par]
        have hbk : b ≠ k := fun e2 => hy (by rw [eb, e, e2])
        simp [hbk, hk0]
      · rw [e]
        exact ⟨fun _ => all_rch hO hm (T k) (by omega), fun _ => all_rch hO hm k hk⟩
end Go.Proofs.YtakameggkkjcpaaGreat
set_option maxRecDepth 4000
namespace Go.Proofs.YtakameggkkjcpaaGreat
open Go Go.RowKit
theorem meet_calls {H : Hp} {A A' : Option Addr} {c c' : Nat} {tr at_ ord : List Int} (ht : RdS H A tr) (ha : RdS H A' at_) {T : Nat → Nat} {i n : Nat} (hI : TA tr at_ ord T i n) (ja jb k : Nat) (hja : ja < i) (hjb : jb < i) (hk : ∀ y, Dt T k y ↔ Dt T ja y ∧ Dt T jb y) : CallG Tryz.prog 90 [.slice A tr.length c, .slice A' at_.length c', .int .i64 (nth ord (ja : Int)), .int .i64 (nth ord (jb : Int))] H [] (fun v _ L' => v = .int .i64 (nth ord (k : Int)) ∧ L' = []) := by
 have hl1 := hI.ltr; have hl2 := hI.lat; have hn := hI.n64
 refine CallG.of Tryz.func90 rfl rfl rfl fun w0 => ?_
 refine WpG.g tabOK 7 rfl ?_
 refine WpG.wk (WpG.ind2 (fun (a : Nat) (b : Nat) => ⟨a + b, [(0, .slice A tr.length c), (1, .slice A' at_.length c'), (2, .int .i64 (nth ord (a : Int))), (3, .int .i64 (nth ord (b : Int)))], H, [], a < i ∧ b < i ∧ ∀ y, Dt T k y ↔ Dt T a y ∧ Dt T b y⟩) ?_ ja jb ⟨hja, hjb, hk⟩) rfl
 intro a b inv ih1
 obtain ⟨i0, i1, i2⟩ := inv
 refine WpG.g tabOK 7 rfl ?_
 refine WpG.caseN (t := 11) rfl (fun q11 => ?_) (fun q11 => ?_)
 ·refine WpG.g tabOK 6 rfl ?_
  refine WpG.wk (WpG.ind1 (fun (p : Nat) => ⟨p, [(0, .slice A tr.length c), (1, .slice A' at_.length c'), (2, .int .i64 (nth ord (p : Int))), (3, .int .i64 (nth ord (b : Int)))], H, [], p < i ∧ p ≤ a ∧ ∀ y, Dt T k y ↔ Dt T p y ∧ Dt T b y⟩) ?_ a ⟨i0, Nat.le_refl _, i2⟩) rfl
  intro p inv ih2
  obtain ⟨j0, j1, j2⟩ := inv
  have hrp := hI.rng p j0; have hrb := hI.rng b i1
  refine WpG.g tabOK 2 rfl ?_
  refine WpG.draw 9 [] mixed (by kernel_rfl) ?_
  refine WpD.g (listed' := lst 9 51) tabOK [0, 1, 4, 5] (by kernel_rfl) rfl hlr hlr .slnil ?_
  refine WpD.indexR (i := 2) (fuel := 4) (listed' := lst 9 55) tabOK (by kernel_rfl) rfl rfl rfl rfl rfl rfl rfl rfl rfl hlr hlr .slnil ha (by omega) (by omega) ?_
  rintro x1 hx1 b1 o1 _ ⟨rfl, k1⟩ hc1
  obtain rfl : x1 = ((p : Nat) : Int) := by rw [hx1]; exact hI.place p j0
  refine WpD.y (i := 3) (fuel := 3) (listed' := lst 9 63) (by kernel_rfl) rfl rfl rfl rfl hlr hlr .slnil (RunY.loadH tabOK hc1 hlr rfl rfl rfl rfl) ?_
  refine WpD.indexR (i := 6) (fuel := 2) (listed' := lst 9 127) tabOK (by kernel_rfl) rfl rfl rfl rfl rfl rfl rfl rfl rfl hlr hlr .slnil ha (by omega) (by omega) ?_
  rintro x2 hx2 b2 o2 _ ⟨rfl, k2⟩ hc2
  obtain rfl : x2 = ((b : Nat) : Int) := by rw [hx2]; exact hI.place b i1
  refine WpD.y (i := 7) (fuel := 1) (listed' := lst 9 255) (by kernel_rfl) rfl rfl rfl rfl hlr hlr .slnil (RunY.loadH tabOK hc2 hlr rfl rfl rfl rfl) ?_
  refine WpD.g (listed' := lst 9 511) tabOK [8] (by kernel_rfl) rfl hlr hlr .slnil ?_
  refine WpD.done (by kernel_rfl) ?_
  refine WpG.caseD (t := 20) rfl (fun q20 => ?_) (fun q20 => ?_)
  ·refine WpG.g tabOK 6 rfl ?_
   refine WpG.indexR tabOK rfl rfl rfl rfl rfl rfl rfl rfl rfl ht (by omega) (by omega) ?_
   rintro x3 hx3 b3 o3 _ ⟨rfl, k3⟩ hc3
   obtain rfl : x3 = nth ord (T p : Int) := by rw [hx3]; exact hI.tree p j0
   refine WpG.y rfl rfl rfl rfl (RunY.loadH tabOK hc3 hlr rfl rfl rfl rfl) ?_
   refine WpG.g tabOK 4 rfl ?_
   refine WpG.wk (ih2 (T p) ?_ ?_) rfl
   ·dsimp only
    exact hI.par.lt p (by omega)
   clear ih1 ih2
   show (T p) < i ∧ (T p) ≤ a ∧ ∀ y, Dt T k y ↔ Dt T (T p) y ∧ Dt T b y
   have hlt := hI.par.lt p (by omega)
   exact ⟨hI.up j0, by omega, nca_left hI.par j2 (by omega)⟩
  refine WpG.g tabOK 4 rfl ?_
  refine WpG.wk (WpG.ind1 (fun (q : Nat) => ⟨q, [(0, .slice A tr.length c), (1, .slice A' at_.length c'), (2, .int .i64 (nth ord (p : Int))), (3, .int .i64 (nth ord (q : Int)))], H, [], q < i ∧ q ≤ b ∧ ∀ y, Dt T k y ↔ Dt T p y ∧ Dt T q y⟩) ?_ b ⟨i1, Nat.le_refl _, j2⟩) rfl
  intro q inv ih3
  obtain ⟨l0, l1, l2⟩ := inv
  have hrq := hI.rng q l0
  refine WpG.g tabOK 2 rfl ?_
  refine WpG.draw 9 [] mixed (by kernel_rfl) ?_
  refine WpD.g (listed' := lst 9 51) tabOK [0, 1, 4, 5] (by kernel_rfl) rfl hlr hlr .slnil ?_
  refine WpD.indexR (i := 2) (fuel := 4) (listed' := lst 9 55) tabOK (by kernel_rfl) rfl rfl rfl rfl rfl rfl rfl rfl rfl hlr hlr .slnil ha (by omega) (by omega) ?_
  rintro x4 hx4 b4 o4 _ ⟨rfl, k4⟩ hc4
  obtain rfl : x4 = ((q : Nat) : Int) := by rw [hx4]; exact hI.place q l0
  refine WpD.y (i := 3) (fuel := 3) (listed' := lst 9 63) (by kernel_rfl) rfl rfl rfl rfl hlr hlr .slnil (RunY.loadH tabOK hc4 hlr rfl rfl rfl rfl) ?_
  refine WpD.indexR (i := 6) (fuel := 2) (listed' := lst 9 127) tabOK (by kernel_rfl) rfl rfl rfl rfl rfl rfl rfl rfl rfl hlr hlr .slnil ha (by omega) (by omega) ?_
  rintro x5 hx5 b5 o5 _ ⟨rfl, k5⟩ hc5
  obtain rfl : x5 = ((p : Nat) : Int) := by rw [hx5]; exact hI.place p j0
  refine WpD.y (i := 7) (fuel := 1) (listed' := lst 9 255) (by kernel_rfl) rfl rfl rfl rfl hlr hlr .slnil (RunY.loadH tabOK hc5 hlr rfl rfl rfl rfl) ?_
  refine WpD.g (listed' := lst 9 511) tabOK [8] (by kernel_rfl) rfl hlr hlr .slnil ?_
  refine WpD.done (by kernel_rfl) ?_
  refine WpG.caseD (t := 33) rfl (fun q33 => ?_) (fun q33 => ?_)
  ·refine WpG.g tabOK 6 rfl ?_
   refine WpG.indexR tabOK rfl rfl rfl rfl rfl rfl rfl rfl rfl ht (by omega) (by omega) ?_
   rintro x6 hx6 b6 o6 _ ⟨rfl, k6⟩ hc6
   obtain rfl : x6 = nth ord (T q : Int) := by rw [hx6]; exact hI.tree q l0
   refine WpG.y rfl rfl rfl rfl (RunY.loadH tabOK hc6 hlr rfl rfl rfl rfl) ?_
   refine WpG.g tabOK 4 rfl ?_
   refine WpG.wk (ih3 (T q) ?_ ?_) rfl
   ·dsimp only
    exact hI.par.lt q (by omega)
   clear ih1 ih2 ih3
   show (T q) < i ∧ (T q) ≤ b ∧ ∀ y, Dt T k y ↔ Dt T p y ∧ Dt T (T q) y
   have hlt := hI.par.lt q (by omega)
   exact ⟨hI.up l0, by omega, nca_right hI.par l2 (by omega)⟩
  refine WpG.g tabOK 4 rfl ?_
  refine WpG.wk (ih1 p q ?_ ?_) rfl
  ·dsimp only
   have hne : a ≠ b := fun e => q11 (by rw [e])
   omega
  clear ih1 ih2 ih3
  exact ⟨j0, l0, l2⟩
 refine WpG.g tabOK 7 rfl ?_
 exact WpG.ret tabOK (L' := []) (.tmp rfl .nil) .slnil ⟨congrArg (Value.int .i64) (by clear ih1; obtain rfl := hI.inj i0 i1 q11; rw [nca_same hI.par i2]), rfl⟩
theorem repC_int (x : Int) : ∀ n, repC [.int .i64 x] n = (List.replicate n x).map iv
 | 0 => rfl
 | n + 1 => by
  have := repC_int x n
  unfold repC at *
  rw [List.replicate_succ, List.replicate_succ, List.flatten_cons, List.map_cons, this]; rfl
theorem Repeat_int_of {H : Hp} {A : Option Addr} {c : Nat} {x : Int} (hr : RdS H A [x]) (n : Nat) (hn : n ≤ 64) : CallG Tryz.prog 89 [.slice A 1 c, .int .i64 (n : Int)] H []
  fun v H' L' => H' = H ∧ ∃ b', v = .slice (some ⟨b', 0, none⟩) n n ∧ L' = [Chunk.own 3 1 (some ⟨b', 0, none⟩) n n ((List.replicate n x).map iv)] := by
 obtain ⟨b, o, rfl, vs, rx, hv⟩ := hr.at_ (i := 0) (by omega) (by simp)
 have rx' : Rdc.rd H vs x := rx
 have hv' : HCells H b o vs := by simpa using hv
 refine (Repeat_int (c := c) rx' hv' n (by omega)).mono fun v H' L' hH ⟨e, b', e1, e2⟩ => ⟨e, b', e1, ?_⟩
 rw [e2, rx'.1, repC_int]
theorem Tree_calls {H : Hp} {gr : GraphD} {cs_gr : List Value} (rd_gr : Rdc.rd H cs_gr gr) (root : Int) (hm : mayG gr = true) (h0 : 0 ≤ root) (h1 : root < gr.succ.length) : CallG Tryz.prog 52 [.agg cs_gr.toArray, .int .i64 root] H [] (fun v H' L' => ∃ b c tl', v = .slice (some ⟨b, 0, none⟩) tl'.length c ∧ TreeP gr.succ root tl' ∧ AllI tl' ∧ L' = [Chunk.own 3 1 (some ⟨b, 0, none⟩) c tl'.length (tl'.map iv)]) := by
 have rd_gr' := rd_gr; obtain ⟨A_gr_0, c_gr_0, A_gr_1, c_gr_1, rfl, u_gr_0, r_gr_0, u_gr_1, r_gr_1⟩ := rd_gr
 have hR := (may_rows hm).2
 have hn64 := hR.1
 have hpl := may_plen hm
 refine CallG.of Tryz.func52 rfl rfl rfl fun w0 => ?_
 refine WpG.g tabOK 2 rfl ?_
 refine WpG.box rfl rfl rfl rfl rfl (fun b1 => ?_)
 refine WpG.g tabOK 5 rfl ?_
 refine WpG.y rfl rfl rfl rfl (RunY.loadBox (ci := 0) tabOK rfl rfl rfl rfl) ?_
 refine WpG.g tabOK 1 rfl ?_
 refine WpG.call0 rfl rfl rfl rfl rfl rfl (Order_calls rd_gr' root hm h0 h1) ?_
 rintro _ H1 _ - ⟨eH, bo, co, ord, rfl, hO, rfl⟩
 rw [eH]; clear eH H1
 refine WpG.ownCap (ci := 0) rfl (fun uz2 => ?_)
 refine WpG.freezeOwn (ci := 0) rfl (fun H2 hH2 fz2 => ?_)
 have rz2 : RdS H2 (some ⟨bo, 0, none⟩) ord := RdS.of_own (H := H) (show RdL H (ord.map iv) ord from RdL_ints _ (ord_all hO hn64)) (rfl) (by have := ord_len hO; omega) hH2 fz2
 have hol := ord_len hO
 refine WpG.g tabOK 9 rfl ?_
 refine WpG.caseE (t := 21) rfl (fun q21 => ?_) (fun q21 => ?_)
 ·exfalso; obtain ⟨tl, e⟩ := hO.head; rw [e] at q21; simp at q21; omega
 refine WpG.g tabOK 5 rfl ?_
 refine WpG.y rfl rfl rfl rfl (RunY.loadBox (ci := 0) tabOK rfl rfl rfl rfl) ?_
 refine WpG.g tabOK 4 rfl ?_
 refine WpG.draw 7 [Chunk.box b1 [.slice A_gr_0 gr.succ.length c_gr_0, .slice A_gr_1 gr.pred.length c_gr_1] 46] mixed (by kernel_rfl) ?_
 refine WpD.go (listed' := lst 7 10) tabOK [1, 3] [(1, .int .i64 root), (2, .pointer (some ⟨b1, 0, none⟩)), (5, .slice (some ⟨bo, 0, none⟩) ord.length co), (6, .int .i64 (gr.succ.length : Int)), (26, .int .i64 (gr.succ.length : Int)), (28, .int .i64 (gr.succ.length : Int))] (by kernel_rfl) rfl ⟨rfl, rfl, rfl, rfl, rfl, rfl, trivial⟩ hH2 hlr (List.Sublist.refl _) ?_
 refine WpD.join (H := H2) (σ := Nat × Nat) (fuel' := 1) (lst 7 63) (fun z_ => [(1, .int .i64 root), (2, .pointer (some ⟨b1, 0, none⟩)), (5, .slice (some ⟨bo, 0, none⟩) ord.length co), (7, .slice (some ⟨z_.1, 0, none⟩) gr.succ.length gr.succ.length), (29, .slice (some ⟨z_.2, 0, none⟩) gr.succ.length gr.succ.length)]) (fun z_ => [Chunk.own 3 1 (some ⟨z_.1, 0, none⟩) gr.succ.length gr.succ.length ((List.replicate gr.succ.length (-2)).map iv), Chunk.own 3 1 (some ⟨z_.2, 0, none⟩) gr.succ.length gr.succ.length (List.replicate gr.succ.length (.int .i64 0)), Chunk.box b1 [.slice A_gr_0 gr.succ.length c_gr_0, .slice A_gr_1 gr.pred.length c_gr_1] 46]) (fun hK => ?_) ?_
 ·refine WpD.any2 (i := 0) (j := 4) (by kernel_rfl) hH2 (OpG.buildSlice (xs := [.int .i64 (-2)]) tabOK rfl rfl rfl rfl rfl rfl rfl rfl rfl rfl) (OpG.makeSlice (n := gr.succ.length) tabOK rfl rfl rfl rfl rfl rfl rfl rfl rfl (by omega)) ?_ ?_
  ·rintro F1 H1 L1 ⟨b3, eF, eH, eL⟩
   subst eF; subst eL; rw [eH]; clear eH H1
   refine ⟨Hp.le.refl _, (.cons _ (List.Sublist.refl _)), ?_⟩
   change WpD _ _ _ _ _ _ _ _ _ _ _ _ _ _ [Chunk.own 3 1 (some ⟨b3, 0, none⟩) 1 1 [.int .i64 (-2)], Chunk.box b1 [.slice A_gr_0 gr.succ.length c_gr_0, .slice A_gr_1 gr.pred.length c_gr_1] 46]
   refine WpD.freezeOwn (ci := 0) rfl (fun Hz hHz fz => ?_)
   have rz : RdS Hz (some ⟨b3, 0, none⟩) [(-2 : Int)] := RdS.of_own (H := H2) (show RdL H2 [.int .i64 (-2)] [(-2 : Int)] from RdL_ints [(-2)] ⟨⟨by decide, by decide⟩, trivial⟩) rfl (by simp) hHz fz
   refine WpD.any2 (i := 2) (j := 4) (by kernel_rfl) hH2 (OpG.call (Lc := []) rfl rfl rfl rfl rfl rfl (.refl _) (Repeat_int_of rz gr.succ.length hn64)) (OpG.makeSlice (n := gr.succ.length) tabOK rfl rfl rfl rfl rfl rfl rfl rfl rfl (by omega)) ?_ ?_
   ·rintro F1 H1 L1 ⟨_, _, eF, -, ⟨eH, bt, rfl, rfl⟩, eL⟩
    subst eF; subst eL; rw [eH]; clear eH H1
    refine ⟨hHz, (.cons _ (List.Sublist.refl _)), ?_⟩
    change WpD _ _ _ _ _ _ _ _ _ _ _ _ _ _ [Chunk.own 3 1 (some ⟨bt, 0, none⟩) gr.succ.length gr.succ.length ((List.replicate gr.succ.length (-2)).map iv), Chunk.box b1 [.slice A_gr_0 gr.succ.length c_gr_0, .slice A_gr_1 gr.pred.length c_gr_1] 46]
    refine WpD.go (listed' := lst 7 47) tabOK [5] [(1, .int .i64 root), (2, .pointer (some ⟨b1, 0, none⟩)), (5, .slice (some ⟨bo, 0, none⟩) ord.length co), (7, .slice (some ⟨bt, 0, none⟩) gr.succ.length gr.succ.length), (28, .int .i64 (gr.succ.length : Int))] (by kernel_rfl) rfl ⟨rfl, rfl, rfl, rfl, rfl, trivial⟩ hH2 hHz (.cons _ (List.Sublist.refl _)) ?_
    refine WpD.f (i := 4) (fuel := 1) (listed' := lst 7 63) (by kernel_rfl) hH2 (OpG.makeSlice (n := gr.succ.length) tabOK rfl rfl rfl rfl rfl rfl rfl rfl rfl (by omega)) ?_
    rintro F1 H1 L1 ⟨bm, eF, eH, eL⟩
    subst eF; subst eL; rw [eH]; clear eH H1
    refine ⟨hHz, (.cons _ (.cons _ (List.Sublist.refl _))), ?_⟩
    change WpD _ _ _ _ _ _ _ _ _ _ _ _ _ _ [Chunk.own 3 1 (some ⟨bm, 0, none⟩) gr.succ.length gr.succ.length (List.replicate gr.succ.length (.int .i64 0)), Chunk.own 3 1 (some ⟨bt, 0, none⟩) gr.succ.length gr.succ.length ((List.replicate gr.succ.length (-2)).map iv), Chunk.box b1 [.slice A_gr_0 gr.succ.length c_gr_0, .slice A_gr_1 gr.pred.length c_gr_1] 46]
    refine WpD.lessH hH2 hHz ?_
    refine WpD.permL (L' := [Chunk.own 3 1 (some ⟨bt, 0, none⟩) gr.succ.length gr.succ.length ((List.replicate gr.succ.length (-2)).map iv), Chunk.own 3 1 (some ⟨bm, 0, none⟩) gr.succ.length gr.succ.length (List.replicate gr.succ.length (.int .i64 0)), Chunk.box b1 [.slice A_gr_0 gr.succ.length c_gr_0, .slice A_gr_1 gr.pred.length c_gr_1] 46]) (.swap _ _ _) ?_
    exact WpD.weaken (G := [(1, .int .i64 root), (2, .pointer (some ⟨b1, 0, none⟩)), (5, .slice (some ⟨bo, 0, none⟩) ord.length co), (7, .slice (some ⟨bt, 0, none⟩) gr.succ.length gr.succ.length), (29, .slice (some ⟨bm, 0, none⟩) gr.succ.length gr.succ.length)]) ⟨rfl, rfl, rfl, rfl, rfl, trivial⟩ (hK (bt, bm))
   ·rintro F1 H1 L1 ⟨bm, eF, eH, eL⟩
    subst eF; subst eL; rw [eH]; clear eH H1
    refine ⟨hHz, (.cons _ (List.Sublist.refl _)), ?_⟩
    change WpD _ _ _ _ _ _ _ _ _ _ _ _ _ _ [Chunk.own 3 1 (some ⟨bm, 0, none⟩) gr.succ.length gr.succ.length (List.replicate gr.succ.length (.int .i64 0)), Chunk.box b1 [.slice A_gr_0 gr.succ.length c_gr_0, .slice A_gr_1 gr.pred.length c_gr_1] 46]
    refine WpD.f (i := 2) (fuel := 2) (listed' := lst 7 31) (by kernel_rfl) hH2 (OpG.call (Lc := []) rfl rfl rfl rfl rfl rfl (.refl _) (Repeat_int_of rz gr.succ.length hn64)) ?_
    rintro F1 H1 L1 ⟨_, _, eF, -, ⟨eH, bt, rfl, rfl⟩, eL⟩
    subst eF; subst eL; rw [eH]; clear eH H1
    refine ⟨hHz, (.cons _ (.cons _ (List.Sublist.refl _))), ?_⟩
    change WpD _ _ _ _ _ _ _ _ _ _ _ _ _ _ [Chunk.own 3 1 (some ⟨bt, 0, none⟩) gr.succ.length gr.succ.length ((List.replicate gr.succ.length (-2)).map iv), Chunk.own 3 1 (some ⟨bm, 0, none⟩) gr.succ.length gr.succ.length (List.replicate gr.succ.length (.int .i64 0)), Chunk.box b1 [.slice A_gr_0 gr.succ.length c_gr_0, .slice A_gr_1 gr.pred.length c_gr_1] 46]
    refine WpD.go (listed' := lst 7 63) tabOK [5] [(1, .int .i64 root), (2, .pointer (some ⟨b1, 0, none⟩)), (5, .slice (some ⟨bo, 0, none⟩) ord.length co), (7, .slice (some ⟨bt, 0, none⟩) gr.succ.length gr.succ.length), (29, .slice (some ⟨bm, 0, none⟩) gr.succ.length gr.succ.length)] (by kernel_rfl) rfl ⟨rfl, rfl, rfl, rfl, rfl, trivial⟩ hH2 hHz (.cons _ (.cons _ (List.Sublist.refl _))) ?_
    refine WpD.lessH hH2 hHz ?_
    exact WpD.weaken (G := [(1, .int .i64 root), (2, .pointer (some ⟨b1, 0, none⟩)), (5, .slice (some ⟨bo, 0, none⟩) ord.length co), (7, .slice (some ⟨bt, 0, none⟩) gr.succ.length gr.succ.length), (29, .slice (some ⟨bm, 0, none⟩) gr.succ.length gr.succ.length)]) ⟨rfl, rfl, rfl, rfl, rfl, trivial⟩ (hK (bt, bm))
  ·rintro F1 H1 L1 ⟨bm, eF, eH, eL⟩
   subst eF; subst eL; rw [eH]; clear eH H1
   refine ⟨Hp.le.refl _, (.cons _ (List.Sublist.refl _)), ?_⟩
   change WpD _ _ _ _ _ _ _ _ _ _ _ _ _ _ [Chunk.own 3 1 (some ⟨bm, 0, none⟩) gr.succ.length gr.succ.length (List.replicate gr.succ.length (.int .i64 0)), Chunk.box b1 [.slice A_gr_0 gr.succ.length c_gr_0, .slice A_gr_1 gr.pred.length c_gr_1] 46]
   refine WpD.f (i := 0) (fuel := 3) (listed' := lst 7 27) (by kernel_rfl) hH2 (OpG.buildSlice (xs := [.int .i64 (-2)]) tabOK rfl rfl rfl rfl rfl rfl rfl rfl rfl rfl) ?_
   rintro F1 H1 L1 ⟨b3, eF, eH, eL⟩
   subst eF; subst eL; rw [eH]; clear eH H1
   refine ⟨Hp.le.refl _, (.cons _ (.cons _ (List.Sublist.refl _))), ?_⟩
   change WpD _ _ _ _ _ _ _ _ _ _ _ _ _ _ [Chunk.own 3 1 (some ⟨b3, 0, none⟩) 1 1 [.int .i64 (-2)], Chunk.own 3 1 (some ⟨bm, 0, none⟩) gr.succ.length gr.succ.length (List.replicate gr.succ.length (.int .i64 0)), Chunk.box b1 [.slice A_gr_0 gr.succ.length c_gr_0, .slice A_gr_1 gr.pred.length c_gr_1] 46]
   refine WpD.freezeOwn (ci := 0) rfl (fun Hz hHz fz => ?_)
   have rz : RdS Hz (some ⟨b3, 0, none⟩) [(-2 : Int)] := RdS.of_own (H := H2) (show RdL H2 [.int .i64 (-2)] [(-2 : Int)] from RdL_ints [(-2)] ⟨⟨by decide, by decide⟩, trivial⟩) rfl (by simp) hHz fz
   refine WpD.f (i := 2) (fuel := 2) (listed' := lst 7 31) (by kernel_rfl) hH2 (OpG.call (Lc := []) rfl rfl rfl rfl rfl rfl (.refl _) (Repeat_int_of rz gr.succ.length hn64)) ?_
   rintro F1 H1 L1 ⟨_, _, eF, -, ⟨eH, bt, rfl, rfl⟩, eL⟩
   subst eF; subst eL; rw [eH]; clear eH H1
   refine ⟨hHz, (.cons _ (.cons _ (List.Sublist.refl _))), ?_⟩
   change WpD _ _ _ _ _ _ _ _ _ _ _ _ _ _ [Chunk.own 3 1 (some ⟨bt, 0, none⟩) gr.succ.length gr.succ.length ((List.replicate gr.succ.length (-2)).map iv), Chunk.own 3 1 (some ⟨bm, 0, none⟩) gr.succ.length gr.succ.length (List.replicate gr.succ.length (.int .i64 0)), Chunk.box b1 [.slice A_gr_0 gr.succ.length c_gr_0, .slice A_gr_1 gr.pred.length c_gr_1] 46]
   refine WpD.go (listed' := lst 7 63) tabOK [5] [(1, .int .i64 root), (2, .pointer (some ⟨b1, 0, none⟩)), (5, .slice (some ⟨bo, 0, none⟩) ord.length co), (7, .slice (some ⟨bt, 0, none⟩) gr.succ.length gr.succ.length), (29, .slice (some ⟨bm, 0, none⟩) gr.succ.length gr.succ.length)] (by kernel_rfl) rfl ⟨rfl, rfl, rfl, rfl, rfl, trivial⟩ hH2 hHz (.cons _ (.cons _ (List.Sublist.refl _))) ?_
   refine WpD.lessH hH2 hHz ?_
   exact WpD.weaken (G := [(1, .int .i64 root), (2, .pointer (some ⟨b1, 0, none⟩)), (5, .slice (some ⟨bo, 0, none⟩) ord.length co), (7, .slice (some ⟨bt, 0, none⟩) gr.succ.length gr.succ.length), (29, .slice (some ⟨bm, 0, none⟩) gr.succ.length gr.succ.length)]) ⟨rfl, rfl, rfl, rfl, rfl, trivial⟩ (hK (bt, bm))
 rintro ⟨bt, bm⟩
 change WpD _ _ _ _ _ _ _ _ _ _ _ _ [(1, .int .i64 root), (2, .pointer (some ⟨b1, 0, none⟩)), (5, .slice (some ⟨bo, 0, none⟩) ord.length co), (7, .slice (some ⟨bt, 0, none⟩) gr.succ.length gr.succ.length), (29, .slice (some ⟨bm, 0, none⟩) gr.succ.length gr.succ.length)] _ [Chunk.own 3 1 (some ⟨bt, 0, none⟩) gr.succ.length gr.succ.length ((List.replicate gr.succ.length (-2)).map iv), Chunk.own 3 1 (some ⟨bm, 0, none⟩) gr.succ.length gr.succ.length (List.replicate gr.succ.length (.int .i64 0)), Chunk.box b1 [.slice A_gr_0 gr.succ.length c_gr_0, .slice A_gr_1 gr.pred.length c_gr_1] 46]
 refine WpD.setL (L' := [Chunk.own 3 1 (some ⟨bt, 0, none⟩) gr.succ.length gr.succ.length ((List.replicate gr.succ.length (-2)).map iv), Chunk.own 3 1 (some ⟨bm, 0, none⟩) gr.succ.length gr.succ.length ((List.replicate gr.succ.length 0).map iv), Chunk.box b1 [.slice A_gr_0 gr.succ.length c_gr_0, .slice A_gr_1 gr.pred.length c_gr_1] 46]) (by rw [List.map_replicate (n := gr.succ.length) (a := (0 : Int))]; rfl) ?_
 refine WpD.g (listed' := lst 7 127) tabOK [6] (by kernel_rfl) rfl hH2 hlr (.cons _ (.cons _ (.cons_cons _ .slnil))) ?_
 refine WpD.done (by kernel_rfl) ?_
 refine WpG.g tabOK 9 rfl ?_
 refine WpG.wk (WpG.ind2 (fun (i : Int) (al : List Int) => ⟨(ord.length - i).toNat, [(1, .int .i64 root), (2, .pointer (some ⟨b1, 0, none⟩)), (5, .slice (some ⟨bo, 0, none⟩) ord.length co), (7, .slice (some ⟨bt, 0, none⟩) gr.succ.length gr.succ.length), (8, .slice (some ⟨bm, 0, none⟩) gr.succ.length gr.succ.length), (30, .slice (some ⟨bo, 0, none⟩) ord.length co), (31, .int .i64 (ord.length : Int)), (32, .int .i64 i)], H2, [Chunk.own 3 1 (some ⟨bt, 0, none⟩) gr.succ.length gr.succ.length ((List.replicate gr.succ.length (-2)).map iv), Chunk.own 3 1 (some ⟨bm, 0, none⟩) gr.succ.length gr.succ.length (al.map iv), Chunk.box b1 [.slice A_gr_0 gr.succ.length c_gr_0, .slice A_gr_1 gr.pred.length c_gr_1] 46], 0 ≤ i ∧ i ≤ ord.length ∧ AllI al ∧ al.length = gr.succ.length ∧ ∀ k : Nat, (k : Int) < i → nth al (nth ord (k : Int)) = k⟩) ?_ 0 (List.replicate gr.succ.length 0) (places_start ord gr.succ.length)) rfl
 intro i al inv ih1
 obtain ⟨i0, i1, hAl, i3, i4⟩ := inv
 refine WpG.g tabOK 5 rfl ?_
 refine WpG.caseD (t := 33) rfl (fun q33 => ?_) (fun q33 => ?_)
 ·refine WpG.g tabOK 7 rfl ?_
  refine WpG.indexR tabOK rfl rfl rfl rfl rfl rfl rfl rfl rfl rz2 (by omega) (by omega) ?_
  rintro x3 hx3 b3 o3 _ ⟨rfl, k3⟩ hc3
  have hr3 := hO.at_ i0 q33
  rw [← hx3] at hr3
  refine WpG.y rfl rfl rfl rfl (RunY.loadH tabOK hc3 hlr rfl rfl rfl rfl) ?_
  refine WpG.g tabOK 7 rfl ?_
  refine WpG.y rfl rfl rfl rfl (RunY.indexAddr tabOK rfl rfl rfl rfl rfl (by omega) (by omega)) ?_
  refine WpG.storeOwn (ci := 1) tabOK rfl rfl rfl rfl rfl rfl rfl rfl (putAt_one (own_lt (by omega) (by omega))) ?_
  refine WpG.setL (L' := [Chunk.own 3 1 (some ⟨bt, 0, none⟩) gr.succ.length gr.succ.length ((List.replicate gr.succ.length (-2)).map iv), Chunk.own 3 1 (some ⟨bm, 0, none⟩) gr.succ.length gr.succ.length ((al.set x3.toNat i).map iv), Chunk.box b1 [.slice A_gr_0 gr.succ.length c_gr_0, .slice A_gr_1 gr.pred.length c_gr_1] 46]) (by rw [← arr_set (f := iv) (xs := al) (j := x3) i]; rfl) ?_
  refine WpG.gw tabOK 4 41 rfl (wrk (x := i + 1) (by omega) (by omega)) ?_
  refine WpG.g tabOK 3 rfl ?_
  refine WpG.wk (ih1 (i + 1) (al.set x3.toNat i) ?_ ?_) rfl
  ·dsimp only
   omega
  clear ih1
  show 0 ≤ (i + 1) ∧ (i + 1) ≤ ord.length ∧ AllI (al.set x3.toNat i) ∧ (al.set x3.toNat i).length = gr.succ.length ∧ ∀ k : Nat, (k : Int) < (i + 1) → nth (al.set x3.toNat i) (nth ord (k : Int)) = k
  exact places_step hO hn64 i0 q33 hAl i3 i4 hx3
 have hat : ∀ k : Nat, k < ord.length → nth al (nth ord (k : Int)) = k := fun k hk => i4 k (by omega)
 refine WpG.g tabOK 7 rfl ?_
 refine WpG.y rfl rfl rfl rfl (RunY.indexAddr tabOK rfl rfl rfl rfl rfl (by omega) (by omega)) ?_
 refine WpG.storeOwn (ci := 0) tabOK rfl rfl rfl rfl rfl rfl rfl rfl (putAt_one (own_lt (by omega) (by simp; omega))) ?_
 refine WpG.setL (L' := [Chunk.own 3 1 (some ⟨bt, 0, none⟩) gr.succ.length gr.succ.length (((List.replicate gr.succ.length (-2)).set root.toNat root).map iv), Chunk.own 3 1 (some ⟨bm, 0, none⟩) gr.succ.length gr.succ.length (al.map iv), Chunk.box b1 [.slice A_gr_0 gr.succ.length c_gr_0, .slice A_gr_1 gr.pred.length c_gr_1] 46]) (by rw [← arr_set (f := iv) (xs := List.replicate gr.succ.length (-2)) (j := root) root]; rfl) ?_
 refine WpG.g tabOK 3 rfl ?_
 refine WpG.wk (WpG.ind4 (fun (tl : List Int) (T : Nat → Nat) (v : Nat) (D0 : Nat → Nat → Prop) => ⟨(ord.length - v) * 65 + msum T v, [(1, .int .i64 root), (2, .pointer (some ⟨b1, 0, none⟩)), (5, .slice (some ⟨bo, 0, none⟩) ord.length co), (7, .slice (some ⟨bt, 0, none⟩) gr.succ.length gr.succ.length), (8, .slice (some ⟨bm, 0, none⟩) gr.succ.length gr.succ.length)], H2, [Chunk.own 3 1 (some ⟨bt, 0, none⟩) gr.succ.length gr.succ.length (tl.map iv), Chunk.own 3 1 (some ⟨bm, 0, none⟩) gr.succ.length gr.succ.length (al.map iv), Chunk.box b1 [.slice A_gr_0 gr.succ.length c_gr_0, .slice A_gr_1 gr.pred.length c_gr_1] 46], TInv gr.succ ord tl al T v D0 ∧ AllI tl⟩) ?_ ((List.replicate gr.succ.length (-2)).set root.toNat root) (fun _ => 0) 1 (Dt fun _ => 0) ⟨TInv.start hO hn64 i3 (fun k hk => hat k (by omega)) h0 h1, AllI_set (AllI_rep ⟨by decide, by decide⟩) ⟨by omega, by omega⟩⟩) rfl
 intro tl T v D0 inv ihG0
 obtain ⟨hI, hTl⟩ := inv
 have hlt := hI.ta.ltr
 have hinj := fun (j k : Nat) hj hk e => hI.ta.inj (j := j) (k := k) hj hk e
 refine WpG.g tabOK 4 rfl ?_
 refine WpG.sliceR tabOK rfl rfl rfl rfl rfl rfl rfl rfl rfl rz2 (by omega) (by omega) uz2 (fun A4 r4 => ?_)
 replace r4 : RdS H2 A4 (ord.drop 1) := r4
 refine WpG.g tabOK 5 rfl ?_
 refine WpG.wk (WpG.ind1 (fun (j : Int) => ⟨(ord.length - j).toNat, [(1, .int .i64 root), (2, .pointer (some ⟨b1, 0, none⟩)), (5, .slice (some ⟨bo, 0, none⟩) ord.length co), (7, .slice (some ⟨bt, 0, none⟩) gr.succ.length gr.succ.length), (8, .slice (some ⟨bm, 0, none⟩) gr.succ.length gr.succ.length), (47, .slice A4 ((ord.drop 1).length) (co - 1)), (48, .int .i64 ((ord.drop 1).length : Int)), (49, .int .i64 j)], H2, [Chunk.own 3 1 (some ⟨bt, 0, none⟩) gr.succ.length gr.succ.length (tl.map iv), Chunk.own 3 1 (some ⟨bm, 0, none⟩) gr.succ.length gr.succ.length (al.map iv), Chunk.box b1 [.slice A_gr_0 gr.succ.length c_gr_0, .slice A_gr_1 gr.pred.length c_gr_1] 46], 0 ≤ j ∧ j + 1 ≤ ord.length ∧ ∀ z : Nat, 0 < z → (z : Int) ≤ j → Stable gr.succ ord T v z⟩) ?_ 0 ⟨by omega, by omega, fun z z0 z1 => by omega⟩) rfl
 intro j inv ih2
 obtain ⟨j0, j1, j2⟩ := inv
 obtain ⟨w, hw⟩ : ∃ w : Nat, (w : Int) = j + 1 := ⟨(j + 1).toNat, by omega⟩
 refine WpG.g tabOK 5 rfl ?_
 refine WpG.caseD (t := 50) rfl (fun q50 => ?_) (fun q50 => ?_)
 ·have q50' := q50
  rw [List.length_drop] at q50'
  have hwl : w < ord.length := by omega
  have hwr := hO.at_ (k := (w : Int)) (by omega) (by omega)
  have hwv : w ≤ v := by
   by_cases hj : 0 < j
   ·have := (j2 j.toNat (by omega) (by omega)).1; omega
   ·have := hI.dom.pos; omega
  refine WpG.g tabOK 6 rfl ?_
  refine WpG.indexR tabOK rfl rfl rfl rfl rfl rfl rfl rfl rfl r4 (by omega) (by omega) ?_
  rintro x5 hx5 b5 o5 _ ⟨rfl, k5⟩ hc5
  obtain rfl : x5 = nth ord (w : Int) := by rw [hx5]; exact nth_drop1 j0 hw
  refine WpG.y rfl rfl rfl rfl (RunY.loadH tabOK hc5 hlr rfl rfl rfl rfl) ?_
  refine WpG.g tabOK 10 rfl ?_
  refine WpG.y rfl rfl rfl rfl (RunY.loadBox (ci := 2) tabOK rfl rfl rfl rfl) ?_
  refine WpG.g tabOK 1 rfl ?_
  refine WpG.indexR tabOK rfl rfl rfl rfl rfl rfl rfl rfl rfl r_gr_1 (by omega) (by omega) ?_
  rintro x6 hx6 b6 o6 _ ⟨A6, c6, rfl, u6, r6⟩ hc6
  have hx6l := r6.1
  have hmem : ∀ p : Int, p ∈ x6 ↔ 0 ≤ p ∧ p < gr.succ.length ∧ nth ord (w : Int) ∈ nth gr.succ p := fun p => by rw [hx6]; exact mem_preds hm hwr.1 hwr.2 p
  refine WpG.y rfl rfl rfl rfl (RunY.loadH tabOK hc6 hH2 rfl rfl rfl rfl) ?_
  refine WpG.g tabOK 5 rfl ?_
  refine WpG.wk (WpG.ind2 (fun (q : Int) (best : Int) => ⟨(x6.length - q).toNat, [(1, .int .i64 root), (2, .pointer (some ⟨b1, 0, none⟩)), (5, .slice (some ⟨bo, 0, none⟩) ord.length co), (7, .slice (some ⟨bt, 0, none⟩) gr.succ.length gr.succ.length), (8, .slice (some ⟨bm, 0, none⟩) gr.succ.length gr.succ.length), (12, .int .i64 (nth ord (w : Int))), (13, .int .i64 best), (47, .slice A4 ((ord.drop 1).length) (co - 1)), (48, .int .i64 ((ord.drop 1).length : Int)), (49, .int .i64 j), (57, .slice A6 x6.length c6), (58, .int .i64 (x6.length : Int)), (59, .int .i64 q)], H2, [Chunk.own 3 1 (some ⟨bt, 0, none⟩) gr.succ.length gr.succ.length (tl.map iv), Chunk.own 3 1 (some ⟨bm, 0, none⟩) gr.succ.length gr.succ.length (al.map iv), Chunk.box b1 [.slice A_gr_0 gr.succ.length c_gr_0, .slice A_gr_1 gr.pred.length c_gr_1] 46], 0 ≤ q ∧ q ≤ x6.length ∧ BestOf ord tl T v (x6.take q.toNat) best⟩) ?_ 0 (-2) ⟨by omega, by omega, BestOf.start ord tl T v x6⟩) rfl
  intro q best inv ih3
  obtain ⟨l0, l1, l2⟩ := inv
  refine WpG.g tabOK 5 rfl ?_
  refine WpG.caseD (t := 60) rfl (fun q60 => ?_) (fun q60 => ?_)
  ·refine WpG.g tabOK 6 rfl ?_
   refine WpG.indexR tabOK rfl rfl rfl rfl rfl rfl rfl rfl rfl r6 (by omega) (by omega) ?_
   rintro x7 hx7 b7 o7 _ ⟨rfl, k7⟩ hc7
   have hx7m := (hmem x7).1 (hx7 ▸ nth_mem l0 q60)
   have htk := take_snoc_nth l0 q60
   rw [← hx7] at htk
   refine WpG.y rfl rfl rfl rfl (RunY.loadH tabOK hc7 hH2 rfl rfl rfl rfl) ?_
   refine WpG.g tabOK 7 rfl ?_
   refine WpG.y rfl rfl rfl rfl (RunY.indexAddr tabOK rfl rfl rfl rfl rfl (by omega) (by omega)) ?_
   refine WpG.y rfl rfl rfl rfl (RunY.loadOwn (ci := 0) (cs := [iv (nth tl x7)]) tabOK rfl rfl rfl rfl rfl (own_int (by omega) (by omega))) ?_
   refine WpG.g tabOK 3 rfl ?_
   refine WpG.caseE (t := 68) rfl (fun q68 => ?_) (fun q68 => ?_)
   ·refine WpG.gw tabOK 6 78 rfl (wrk (x := q + 1) (by omega) (by omega)) ?_
    refine WpG.g tabOK 3 rfl ?_
    refine WpG.wk (ih3 (q + 1) best ?_ ?_) rfl
    ·dsimp only
     omega
    clear ih1 ihG0 ih2 ih3
    exact ⟨by omega, by omega, by rw [htk]; exact l2.skip (hI.not_taken q68)⟩
   refine WpG.g tabOK 7 rfl ?_
   refine WpG.caseE (t := 74) rfl (fun q74 => ?_) (fun q74 => ?_)
   ·refine WpG.gw tabOK 9 78 rfl (wrk (x := q + 1) (by omega) (by omega)) ?_
    refine WpG.g tabOK 3 rfl ?_
    refine WpG.wk (ih3 (q + 1) x7 ?_ ?_) rfl
    ·dsimp only
     omega
    clear ih1 ihG0 ih2 ih3
    show 0 ≤ (q + 1) ∧ (q + 1) ≤ x6.length ∧ BestOf ord tl T v (x6.take (q + 1).toNat) x7
    obtain ⟨kp, hkp, hpe⟩ := hI.taken hx7m.1 hx7m.2.1 q68
    exact ⟨by omega, by omega, by rw [htk]; exact l2.put hinj hkp hpe q74 (fun j hj => (hI.ta.rng j hj).1)⟩
   refine WpG.g tabOK 6 rfl ?_
   obtain ⟨kp, hkp, hpe⟩ := hI.taken hx7m.1 hx7m.2.1 q68
   obtain ⟨cb, hcb, hbe, hbD⟩ := l2.resolve_left (fun h => q74 h.1)
   obtain ⟨cm, hcm⟩ := nca_ex hI.ta.par (cb + kp) cb kp rfl
   have hcmv : cm < v := by have := ((hcm cm).1 (Dt.refl T cm)).1.le hI.ta.par; omega
   refine WpG.callF (v := .int .i64 (nth ord (cm : Int))) rfl rfl rfl rfl rfl rfl ⟨_, Tryz.func90, rfl, rfl⟩ (fun H1 hz => ?_) ?_
   ·have zz := meet_calls (c := gr.succ.length) (c' := gr.succ.length) (RdS.of_own (H := H2) (RdL_ints _ hTl) hlt.symm (by omega) hz.1 (hz.own (ci := 0) rfl)) (RdS.of_own (H := H2) (RdL_ints _ hAl) i3.symm (by omega) hz.1 (hz.own (ci := 1) rfl)) hI.ta cb kp cm hcb hkp hcm
    rw [hlt, i3] at zz; rw [hbe, hpe]; exact zz
   refine WpG.gw tabOK 6 78 rfl (wrk (x := q + 1) (by omega) (by omega)) ?_
   refine WpG.g tabOK 3 rfl ?_
   refine WpG.wk (ih3 (q + 1) (nth ord (cm : Int)) ?_ ?_) rfl
   ·dsimp only
    omega
   clear ih1 ihG0 ih2 ih3
   exact ⟨by omega, by omega, by rw [htk]; exact BestOf.meet hinj hbD hkp hpe hcm hcmv⟩
  rw [List.take_of_length_le (by omega)] at l2
  obtain ⟨cc, hcc, hbe, hcD⟩ := l2.all hO hI (by omega) hwl hwv hmem
  have hcr := hI.ta.rng cc hcc
  refine WpG.g tabOK 6 rfl ?_
  refine WpG.y rfl rfl rfl rfl (RunY.indexAddr tabOK rfl rfl rfl rfl rfl (by omega) (by omega)) ?_
  refine WpG.y rfl rfl rfl rfl (RunY.loadOwn (ci := 0) (cs := [iv (nth tl (nth ord (w : Int)))]) tabOK rfl rfl rfl rfl rfl (own_int (by omega) (by omega))) ?_
  refine WpG.g tabOK 3 rfl ?_
  refine WpG.caseN (t := 84) rfl (fun q84 => ?_) (fun q84 => ?_)
  ·obtain ⟨T', v', D0', hI', hms⟩ := TInv.step hO hat hI (by omega) hwl hwv (fun z z0 z1 => j2 z z0 (by omega)) hcc hcD (hbe ▸ q84)
   refine WpG.g tabOK 6 rfl ?_
   refine WpG.y rfl rfl rfl rfl (RunY.indexAddr tabOK rfl rfl rfl rfl rfl (by omega) (by omega)) ?_
   refine WpG.storeOwn (ci := 0) tabOK rfl rfl rfl rfl rfl rfl rfl rfl (putAt_one (own_lt (by omega) (by omega))) ?_
   refine WpG.setL (L' := [Chunk.own 3 1 (some ⟨bt, 0, none⟩) gr.succ.length gr.succ.length ((tl.set (nth ord (w : Int)).toNat best).map iv), Chunk.own 3 1 (some ⟨bm, 0, none⟩) gr.succ.length gr.succ.length (al.map iv), Chunk.box b1 [.slice A_gr_0 gr.succ.length c_gr_0, .slice A_gr_1 gr.pred.length c_gr_1] 46]) (by rw [← arr_set (f := iv) (xs := tl) (j := nth ord (w : Int)) best]; rfl) ?_
   refine WpG.g tabOK 2 rfl ?_
   refine WpG.g tabOK 2 rfl ?_
   refine WpG.wk (ihG0 (tl.set (nth ord (w : Int)).toNat best) T' v' D0' ?_ ?_) rfl
   ·dsimp only
    exact hms
   clear ih1 ihG0 ih2 ih3
   show TInv gr.succ ord (tl.set (nth ord (w : Int)).toNat best) al T' v' D0' ∧ AllI (tl.set (nth ord (w : Int)).toNat best)
   rw [hbe]; exact ⟨hI', AllI_set hTl ⟨by omega, by omega⟩⟩
  refine WpG.gw tabOK 5 89 rfl (wrk (x := j + 1) (by omega) (by omega)) ?_
  refine WpG.g tabOK 3 rfl ?_
  refine WpG.wk (ih2 (j + 1) ?_ ?_) rfl
  ·dsimp only
   omega
  clear ih1 ihG0 ih2 ih3
  refine ⟨by omega, by omega, fun z z0 z1 => ?_⟩
  by_cases e : z = w
  ·subst e; exact TInv.same hO hI hwl hcc hcD (q84.trans hbe)
  ·exact j2 z z0 (by omega)
 have q50' := q50
 rw [List.length_drop] at q50'
 have hT := hI.tree hO h0 h1 (fun z z0 z1 => j2 z z0 (by omega))
 have htl : gr.succ.length = (tl.set root.toNat (-1)).length := by simp; omega
 refine WpG.g tabOK 6 rfl ?_
 refine WpG.y rfl rfl rfl rfl (RunY.indexAddr tabOK rfl rfl rfl rfl rfl (by omega) (by omega)) ?_
 refine WpG.storeOwn (ci := 0) tabOK rfl rfl rfl rfl rfl rfl rfl rfl (putAt_one (own_lt (by omega) (by omega))) ?_
 refine WpG.setL (L' := [Chunk.own 3 1 (some ⟨bt, 0, none⟩) gr.succ.length gr.succ.length ((tl.set root.toNat (-1)).map iv), Chunk.own 3 1 (some ⟨bm, 0, none⟩) gr.succ.length gr.succ.length (al.map iv), Chunk.box b1 [.slice A_gr_0 gr.succ.length c_gr_0, .slice A_gr_1 gr.pred.length c_gr_1] 46]) (by rw [← arr_set (f := iv) (xs := tl) (j := root) (-1)]; rfl) ?_
 refine WpG.g tabOK 6 rfl ?_
 exact WpG.ret tabOK (L' := [Chunk.own 3 1 (some ⟨bt, 0, none⟩) gr.succ.length gr.succ.length ((tl.set root.toNat (-1)).map iv)]) (.tmp rfl .nil) (.cons_cons _ (.cons _ (.cons _ .slnil))) ⟨bt, gr.succ.length, tl.set root.toNat (-1), by rw [← htl]; rfl, hT, AllI_set hTl ⟨by decide, by decide⟩, by rw [← htl]⟩
end Go.Proofs.YtakameggkkjcpaaGreat
namespace Go.Proofs.YtakameggkkjcpaaGreat
open Go Go.RowKit
def depthF (tree : List Int) : Nat → Int → Int → Int
  | 0, _, _ => -1
  | k + 1, n, a => if a < 0 ∨ a ≥ tree.length then -1 else if nth tree a = -1 then n else depthF tree k (n + 1) (nth tree a)
def depthD (tree : List Int) (a : Int) : Int := depthF tree tree.length 0 a
theorem depth_out {tree : List Int} {d i a : Int} (h : d = depthF tree (tree.length - i).toNat i a) (i1 : i < tree.length) (ha : a < 0 ∨ a ≥ tree.length) : d = -1 := by
  obtain ⟨k, hk⟩ : ∃ k, (tree.length - i).toNat = k + 1 := ⟨(tree.length - i).toNat - 1, by omega⟩
  rw [h, hk]; simp only [depthF]; rw [if_pos ha]
theorem depth_top {tree : List Int} {d i a : Int} (h : d = depthF tree (tree.length - i).toNat i a) (i1 : i < tree.length) (ha : ¬ (a < 0 ∨ a ≥ tree.length)) (ht : nth tree a = -1) : d = i := by
  obtain ⟨k, hk⟩ : ∃ k, (tree.length - i).toNat = k + 1 := ⟨(tree.length - i).toNat - 1, by omega⟩
  rw [h, hk]; simp only [depthF]; rw [if_neg ha, if_pos ht]
theorem depth_up {tree : List Int} {d i a : Int} (h : d = depthF tree (tree.length - i).toNat i a) (i1 : i < tree.length) (ha : ¬ (a < 0 ∨ a ≥ tree.length)) (ht : nth tree a ≠ -1) : d = depthF tree (tree.length - (i + 1)).toNat (i + 1) (nth tree a) := by
  obtain ⟨k, hk⟩ : ∃ k, (tree.length - i).toNat = k + 1 := ⟨(tree.length - i).toNat - 1, by omega⟩
  rw [h, hk, show (tree.length - (i + 1)).toNat = k from by omega]; simp only [depthF]; rw [if_neg ha, if_neg ht]
theorem depth_end {tree : List Int} {d i a : Int} (h : d = depthF tree (tree.length - i).toNat i a) (i1 : ¬ i < tree.length) : d = -1 := by
  rw [h, show (tree.length - i).toNat = 0 from by omega]; rfl
def rightF (tree : List Int) : List Int → Int → Int → Bool
  | [], _, tops => tops == 1
  | x :: l, a, tops => if x ≠ -2 ∧ depthD tree a < 0 then false else rightF tree l (a + 1) (if x = -1 then tops + 1 else tops)
def rightD (tree : List Int) : Bool := rightF tree tree 0 0
def inD (tree : List Int) (l : List Int) : Bool := rightD tree && l.all fun a => !decide (depthD tree a < 0)
theorem depth_range {tree : List Int} {a : Int} (h : 0 ≤ depthD tree a) : 0 ≤ a ∧ a < tree.length := by
  apply Classical.byContradiction
  intro hn
  unfold depthD at h
  cases hl : tree.length with
  | zero => rw [hl] at h; simp [depthF] at h
  | succ k => rw [hl] at h; simp only [depthF] at h; rw [if_pos (by omega)] at h; omega
theorem depthF_shift (tree : List Int) : ∀ (k : Nat) (n m a : Int), 0 ≤ n → 0 ≤ m → (depthF tree k n a = -1 ∧ depthF tree k m a = -1) ∨ (n ≤ depthF tree k n a ∧ depthF tree k m a = depthF tree k n a - n + m)
  | 0, _, _, _, _, _ => .inl ⟨rfl, rfl⟩
  | k + 1, n, m, a, hn, hm => by
    simp only [depthF]
    by_cases h1 : a < 0 ∨ a ≥ tree.length
    · rw [if_pos h1, if_pos h1]; exact .inl ⟨rfl, rfl⟩
    · rw [if_neg h1, if_neg h1]
      by_cases h2 : nth tree a = -1
      · rw [if_pos h2, if_pos h2]; exact .inr ⟨by omega, by omega⟩
      · rw [if_neg h2, if_neg h2]
        rcases depthF_shift tree k (n + 1) (m + 1) (nth tree a) (by omega) (by omega) with h | h
        · exact .inl h
        · exact .inr ⟨by omega, by omega⟩
theorem depthF_succ (tree : List Int) (k : Nat) (n a : Int) : depthF tree (k + 1) n a = if a < 0 ∨ a ≥ tree.length then -1 else if nth tree a = -1 then n else depthF tree k (n + 1) (nth tree a) := rfl
theorem depthF_more (tree : List Int) : ∀ (k : Nat) (n a : Int), 0 ≤ n → 0 ≤ depthF tree k n a → depthF tree (k + 1) n a = depthF tree k n a
  | 0, n, a, _, h => by simp [depthF] at h
  | k + 1, n, a, hn, h => by
    rw [depthF_succ tree (k + 1) n a, depthF_succ tree k n a]
    rw [depthF_succ tree k n a] at h
    by_cases h1 : a < 0 ∨ a ≥ tree.length
    · rw [if_pos h1, if_pos h1]
    · rw [if_neg h1] at h ⊢
      rw [if_neg h1]
      by_cases h2 : nth tree a = -1
      · rw [if_pos h2, if_pos h2]
      · rw [if_neg h2] at h ⊢
        rw [if_neg h2]
        exact depthF_more tree k (n + 1) (nth tree a) (by omega) h
theorem depth_less {tree : List Int} {a : Int} (h : 0 ≤ depthD tree a) (ht : nth tree a ≠ -1) : depthD tree (nth tree a) = depthD tree a - 1 ∧ 1 ≤ depthD tree a := by
  have hr := depth_range h
  unfold depthD at *
  obtain ⟨k, hk⟩ : ∃ k, tree.length = k + 1 := ⟨tree.length - 1, by omega⟩
  rw [hk] at h ⊢
  have e : depthF tree (k + 1) 0 a = depthF tree k (0 + 1) (nth tree a) := by
    rw [depthF_succ, if_neg (by omega), if_neg ht]
  rw [e] at h ⊢
  rcases depthF_shift tree k (0 + 1) 0 (nth tree a) (by omega) (by omega) with h1 | h1
  · omega
  · have := depthF_more tree k 0 (nth tree a) (by omega) (by omega)
    omega
theorem depth_zero {tree : List Int} {a : Int} (h : 0 ≤ a ∧ a < tree.length) (ht : nth tree a = -1) : depthD tree a = 0 := by
  unfold depthD
  obtain ⟨k, hk⟩ : ∃ k, tree.length = k + 1 := ⟨tree.length - 1, by omega⟩
  rw [hk, depthF_succ, if_neg (by omega), if_pos ht]
theorem rightF_count (tree : List Int) : ∀ (l : List Int) (a tops : Int), rightF tree l a tops = true → tops + l.count (-1) = 1
  | [], a, tops, h => by simpa [rightF] using h
  | x :: l, a, tops, h => by
    simp only [rightF] at h
    by_cases h1 : x ≠ -2 ∧ depthD tree a < 0
    · rw [if_pos h1] at h; cases h
    · rw [if_neg h1] at h
      have := rightF_count tree l (a + 1) _ h
      rw [List.count_cons]
      by_cases h2 : x = -1
      · rw [if_pos h2] at this; simp [h2]; omega
      · rw [if_neg h2] at this; simp [h2]; omega
theorem count_two {l : List Int} {i j : Int} (i0 : 0 ≤ i) (hij : i < j) (j1 : j < l.length) (hi : nth l i = -1) (hj : nth l j = -1) : 2 ≤ l.count (-1) := by
  have e : l = l.take (i + 1).toNat ++ l.drop (i + 1).toNat := (List.take_append_drop _ _).symm
  rw [e, List.count_append]
  have h1 : (-1 : Int) ∈ l.take (i + 1).toNat := by
    rw [take_snoc_nth i0 (by omega), hi]; simp
  have h2 : (-1 : Int) ∈ l.drop (i + 1).toNat := by
    have := nth_get (xs := l) (i := j) (by omega) j1
    rw [hj] at this
    refine List.mem_of_getElem? (i := (j - i - 1).toNat) ?_
    rw [List.getElem?_drop, show (i + 1).toNat + (j - i - 1).toNat = j.toNat from by omega]
    exact this
  have := List.count_pos_iff.2 h1
  have := List.count_pos_iff.2 h2
  omega
theorem right_one {tree : List Int} (h : rightD tree = true) {a b : Int} (a0 : 0 ≤ a) (a1 : a < tree.length) (b0 : 0 ≤ b) (b1 : b < tree.length) (ha : nth tree a = -1) (hb : nth tree b = -1) : a = b := by
  have hc := rightF_count tree tree 0 0 h
  apply Classical.byContradiction
  intro hn
  by_cases hlt : a < b
  · have := count_two a0 hlt b1 ha hb; omega
  · have := count_two b0 (by omega : b < a) a1 hb ha; omega
def meetF (tree : List Int) : Nat → Int → Int → Int
  | 0, a, _ => a
  | k + 1, a, b => if a = b then a else if depthD tree a ≥ depthD tree b then meetF tree k (nth tree a) b else meetF tree k a (nth tree b)
def meetD (tree : List Int) (a b : Int) : Int := if inD tree [a, b] then meetF tree (depthD tree a + depthD tree b).toNat a b else -2
theorem meet_up {tree : List Int} (hr : rightD tree = true) {a b : Int} (ha : 0 ≤ depthD tree a) (hb : 0 ≤ depthD tree b) (hne : a ≠ b) (hge : depthD tree b ≤ depthD tree a) : nth tree a ≠ -1 := by
  intro ht
  have hra := depth_range ha
  have hrb := depth_range hb
  have h0 := depth_zero hra ht
  by_cases h1 : nth tree b = -1
  · exact hne (right_one hr hra.1 hra.2 hrb.1 hrb.2 ht h1)
  · have := (depth_less hb h1).2; omega
theorem meet_left {tree : List Int} (hr : rightD tree = true) {a b : Int} (ha : 0 ≤ depthD tree a) (hb : 0 ≤ depthD tree b) (hne : a ≠ b) (hge : depthD tree a ≥ depthD tree b) :
    0 ≤ depthD tree (nth tree a) ∧ depthD tree (nth tree a) < depthD tree a ∧ meetF tree (depthD tree a + depthD tree b).toNat a b = meetF tree (depthD tree (nth tree a) + depthD tree b).toNat (nth tree a) b := by
  have h1 := depth_less ha (meet_up hr ha hb hne hge)
  refine ⟨by omega, by omega, ?_⟩
  rw [h1.1, show (depthD tree a + depthD tree b).toNat = (depthD tree a - 1 + depthD tree b).toNat + 1 from by omega, meetF, if_neg hne, if_pos hge]
theorem meet_right {tree : List Int} (hr : rightD tree = true) {a b : Int} (ha : 0 ≤ depthD tree a) (hb : 0 ≤ depthD tree b) (hne : a ≠ b) (hge : ¬ depthD tree a ≥ depthD tree b) :
    0 ≤ depthD tree (nth tree b) ∧ depthD tree (nth tree b) < depthD tree b ∧ meetF tree (depthD tree a + depthD tree b).toNat a b = meetF tree (depthD tree a + depthD tree (nth tree b)).toNat a (nth tree b) := by
  have h1 := depth_less hb (meet_up hr hb ha (Ne.symm hne) (by omega))
  refine ⟨by omega, by omega, ?_⟩
  rw [h1.1, show (depthD tree a + depthD tree b).toNat = (depthD tree a + (depthD tree b - 1)).toNat + 1 from by omega, meetF, if_neg hne, if_neg hge]
theorem meet_same (tree : List Int) (k : Nat) (a : Int) : meetF tree k a a = a := by
  cases k with
  | zero => rfl
  | succ k => rw [meetF, if_pos rfl]
theorem in_two {tree : List Int} {a b : Int} (h : inD tree [a, b] = true) : rightD tree = true ∧ 0 ≤ depthD tree a ∧ 0 ≤ depthD tree b := by
  simp [inD] at h
  exact ⟨h.1, h.2.1, h.2.2⟩
def overD (tree : List Int) (a b : Int) : Bool := inD tree [a, b] && meetD tree a b == a
end Go.Proofs.YtakameggkkjcpaaGreat
set_option maxRecDepth 4000
namespace Go.Proofs.YtakameggkkjcpaaGreat
open Go Go.RowKit
theorem depth_calls {H : Hp} {A : Option Addr} {c : Nat} {tree : List Int} (ht : RdS H A tree) (a0 : Int) : CallG Tryz.prog 109 [.slice A tree.length c, .int .i64 a0] H [] (fun v _ L' => v = .int .i64 (depthD tree a0) ∧ L' = []) := by
 have bl := ht.1
 refine CallG.of Tryz.func109 rfl rfl rfl fun w0 => ?_
 refine WpG.g tabOK 13 rfl ?_
 refine WpG.wk (WpG.ind2 (fun (i : Int) (a : Int) => ⟨(tree.length - i).toNat, [(0, .slice A tree.length c), (1, .int .i64 a), (7, .int .i64 (tree.length : Int)), (8, .int .i64 i)], H, [], 0 ≤ i ∧ i ≤ tree.length ∧ depthD tree a0 = depthF tree (tree.length - i).toNat i a⟩) ?_ 0 a0 ⟨by omega, by omega, by simp [depthD]⟩) rfl
 intro i a inv ih1
 obtain ⟨i0, i1, i2⟩ := inv
 refine WpG.g tabOK 5 rfl ?_
 refine WpG.caseD (t := 9) rfl (fun q9 => ?_) (fun q9 => ?_)
 ·refine WpG.g tabOK 15 rfl ?_
  refine WpG.caseD (t := 13) rfl (fun q13 => ?_) (fun q13 => ?_)
  ·refine WpG.g tabOK 11 rfl ?_
   exact WpG.ret tabOK (L' := []) (.tmp rfl .nil) .slnil ⟨congrArg (Value.int .i64) (by clear ih1; exact (depth_out i2 q9 (by omega)).symm), rfl⟩
  refine WpG.g tabOK 6 rfl ?_
  refine WpG.caseD (t := 18) rfl (fun q18 => ?_) (fun q18 => ?_)
  ·refine WpG.g tabOK 5 rfl ?_
   exact WpG.ret tabOK (L' := []) (.tmp rfl .nil) .slnil ⟨congrArg (Value.int .i64) (by clear ih1; exact (depth_out i2 q9 (by omega)).symm), rfl⟩
  refine WpG.g tabOK 7 rfl ?_
  refine WpG.indexR tabOK rfl rfl rfl rfl rfl rfl rfl rfl rfl ht (by omega) (by omega) ?_
  rintro x1 hx1 b1 o1 _ ⟨rfl, k1⟩ hc1
  refine WpG.y rfl rfl rfl rfl (RunY.loadH tabOK hc1 hlr rfl rfl rfl rfl) ?_
  refine WpG.g tabOK 2 rfl ?_
  refine WpG.caseE (t := 23) rfl (fun q23 => ?_) (fun q23 => ?_)
  ·refine WpG.g tabOK 6 rfl ?_
   exact WpG.ret tabOK (L' := []) (.tmp rfl .nil) .slnil ⟨congrArg (Value.int .i64) (by clear ih1; exact (depth_top i2 q9 (by omega) (hx1 ▸ q23)).symm), rfl⟩
  refine WpG.g tabOK 5 rfl ?_
  refine WpG.indexR tabOK rfl rfl rfl rfl rfl rfl rfl rfl rfl ht (by omega) (by omega) ?_
  rintro x2 hx2 b2 o2 _ ⟨rfl, k2⟩ hc2
  refine WpG.y rfl rfl rfl rfl (RunY.loadH tabOK hc2 hlr rfl rfl rfl rfl) ?_
  refine WpG.gw tabOK 5 29 rfl (wrk (x := i + 1) (by omega) (by omega)) ?_
  refine WpG.g tabOK 3 rfl ?_
  refine WpG.wk (ih1 (i + 1) x2 ?_ ?_) rfl
  ·dsimp only
   omega
  clear ih1
  exact ⟨by omega, by omega, by rw [hx2]; exact depth_up i2 q9 (by omega) (hx1 ▸ q23)⟩
 refine WpG.g tabOK 6 rfl ?_
 exact WpG.ret tabOK (L' := []) (.tmp rfl .nil) .slnil ⟨congrArg (Value.int .i64) (by clear ih1; exact (depth_end i2 q9).symm), rfl⟩
theorem right_calls {H : Hp} {A : Option Addr} {c : Nat} {tree : List Int} (ht : RdS H A tree) : CallG Tryz.prog 107 [.slice A tree.length c] H [] (fun v _ L' => v = .bool (rightD tree) ∧ L' = []) := by
 have bl := ht.1
 refine CallG.of Tryz.func107 rfl rfl rfl fun w0 => ?_
 refine WpG.g tabOK 17 rfl ?_
 refine WpG.wk (WpG.ind2 (fun (i : Int) (tops : Int) => ⟨(tree.length - i).toNat, [(0, .slice A tree.length c), (3, .int .i64 tops), (6, .slice A tree.length c), (7, .int .i64 (tree.length : Int)), (8, .int .i64 i)], H, [], 0 ≤ i ∧ i ≤ tree.length ∧ 0 ≤ tops ∧ tops ≤ i ∧ rightD tree = rightF tree (tree.drop i.toNat) i tops⟩) ?_ 0 0 ⟨by omega, by omega, by omega, by omega, rfl⟩) rfl
 intro i tops inv ih1
 obtain ⟨i0, i1, i2, i3, i4⟩ := inv
 refine WpG.g tabOK 5 rfl ?_
 refine WpG.caseD (t := 9) rfl (fun q9 => ?_) (fun q9 => ?_)
 ·refine WpG.g tabOK 7 rfl ?_
  refine WpG.indexR tabOK rfl rfl rfl rfl rfl rfl rfl rfl rfl ht (by omega) (by omega) ?_
  rintro x1 hx1 b1 o1 _ ⟨rfl, k1⟩ hc1
  refine WpG.y rfl rfl rfl rfl (RunY.loadH tabOK hc1 hlr rfl rfl rfl rfl) ?_
  refine WpG.g tabOK 9 rfl ?_
  refine WpG.caseE (t := 14) rfl (fun q14 => ?_) (fun q14 => ?_)
  ·refine WpG.gw tabOK 4 16 rfl (wrk (x := tops + 1) (by omega) (by omega)) ?_
   refine WpG.g tabOK 7 rfl ?_
   refine WpG.caseN (t := 19) rfl (fun q19 => ?_) (fun q19 => ?_)
   ·refine WpG.g tabOK 2 rfl ?_
    refine WpG.callS rfl rfl rfl rfl rfl rfl hlr (depth_calls ht i) ?_
    refine WpG.g tabOK 3 rfl ?_
    refine WpG.caseD (t := 24) rfl (fun q24 => ?_) (fun q24 => ?_)
    ·refine WpG.g tabOK 5 rfl ?_
     exact WpG.ret tabOK (L' := []) (.tmp rfl .nil) .slnil ⟨congrArg Value.bool (by clear ih1; first | (rw [i4, drop_nth i0 q9, ← hx1]; simp only [rightF]; rw [if_pos ⟨by assumption, by omega⟩]) | (rw [i4, drop_end i0 q9]; rfl)), rfl⟩
    refine WpG.gw tabOK 5 25 rfl (wrk (x := i + 1) (by omega) (by omega)) ?_
    refine WpG.g tabOK 3 rfl ?_
    refine WpG.wk (ih1 (i + 1) (tops + 1) ?_ ?_) rfl
    ·dsimp only
     omega
    clear ih1
    refine ⟨by omega, by omega, by omega, by omega, ?_⟩
    rw [i4, drop_nth i0 q9, toNat_succ i0, ← hx1]; simp only [rightF]; rw [if_neg (by first | (intro h; omega) | (intro h; exact h.1 (by assumption)))]; first | rw [if_pos (by assumption)] | rw [if_neg (by assumption)]
   refine WpG.gw tabOK 11 25 rfl (wrk (x := i + 1) (by omega) (by omega)) ?_
   refine WpG.g tabOK 3 rfl ?_
   refine WpG.wk (ih1 (i + 1) (tops + 1) ?_ ?_) rfl
   ·dsimp only
    omega
   clear ih1
   refine ⟨by omega, by omega, by omega, by omega, ?_⟩
   rw [i4, drop_nth i0 q9, toNat_succ i0, ← hx1]; simp only [rightF]; rw [if_neg (by first | (intro h; omega) | (intro h; exact h.1 (by assumption)))]; first | rw [if_pos (by assumption)] | rw [if_neg (by assumption)]
  refine WpG.g tabOK 7 rfl ?_
  refine WpG.caseN (t := 19) rfl (fun q19 => ?_) (fun q19 => ?_)
  ·refine WpG.g tabOK 2 rfl ?_
   refine WpG.callS rfl rfl rfl rfl rfl rfl hlr (depth_calls ht i) ?_
   refine WpG.g tabOK 3 rfl ?_
   refine WpG.caseD (t := 24) rfl (fun q24 => ?_) (fun q24 => ?_)
   ·refine WpG.g tabOK 5 rfl ?_
    exact WpG.ret tabOK (L' := []) (.tmp rfl .nil) .slnil ⟨congrArg Value.bool (by clear ih1; first | (rw [i4, drop_nth i0 q9, ← hx1]; simp only [rightF]; rw [if_pos ⟨by assumption, by omega⟩]) | (rw [i4, drop_end i0 q9]; rfl)), rfl⟩
   refine WpG.gw tabOK 5 25 rfl (wrk (x := i + 1) (by omega) (by omega)) ?_
   refine WpG.g tabOK 3 rfl ?_
   refine WpG.wk (ih1 (i + 1) tops ?_ ?_) rfl
   ·dsimp only
    omega
   clear ih1
   refine ⟨by omega, by omega, by omega, by omega, ?_⟩
   rw [i4, drop_nth i0 q9, toNat_succ i0, ← hx1]; simp only [rightF]; rw [if_neg (by first | (intro h; omega) | (intro h; exact h.1 (by assumption)))]; first | rw [if_pos (by assumption)] | rw [if_neg (by assumption)]
  refine WpG.gw tabOK 11 25 rfl (wrk (x := i + 1) (by omega) (by omega)) ?_
  refine WpG.g tabOK 3 rfl ?_
  refine WpG.wk (ih1 (i + 1) tops ?_ ?_) rfl
  ·dsimp only
   omega
  clear ih1
  refine ⟨by omega, by omega, by omega, by omega, ?_⟩
  rw [i4, drop_nth i0 q9, toNat_succ i0, ← hx1]; simp only [rightF]; rw [if_neg (by first | (intro h; omega) | (intro h; exact h.1 (by assumption)))]; first | rw [if_pos (by assumption)] | rw [if_neg (by assumption)]
 refine WpG.g tabOK 8 rfl ?_
 exact WpG.ret tabOK (L' := []) (.tmp rfl .nil) .slnil ⟨congrArg Value.bool (by clear ih1; first | (rw [i4, drop_nth i0 q9, ← hx1]; simp only [rightF]; rw [if_pos ⟨by assumption, by omega⟩]) | (rw [i4, drop_end i0 q9]; rfl)), rfl⟩
theorem in1d_calls {H : Hp} {A : Option Addr} {c b : Nat} {tree : List Int} (ht : RdS H A tree) (x : Int) (hb : HCells H b 0 [.slice A tree.length c]) : CallG Tryz.prog 108 [.int .i64 x, .pointer (some ⟨b, 0, none⟩)] H [] (fun v _ L' => v = .bool (decide (depthD tree x < 0)) ∧ L' = []) := by
 refine CallG.of Tryz.func108 rfl rfl rfl fun w0 => ?_
 refine WpG.g tabOK 6 rfl ?_
 refine WpG.y rfl rfl rfl rfl (RunY.loadH tabOK hb hlr rfl rfl rfl rfl) ?_
 refine WpG.g tabOK 1 rfl ?_
 refine WpG.callS rfl rfl rfl rfl rfl rfl hlr (depth_calls ht x) ?_
 refine WpG.g tabOK 3 rfl ?_
 exact WpG.ret tabOK (L' := []) (.tmp rfl .nil) .slnil ⟨congrArg Value.bool (by rfl), rfl⟩
theorem ind_calls {H : Hp} {A A' : Option Addr} {c c' : Nat} {tree l : List Int} (ht : RdS H A tree) (hl : RdS H A' l) : CallG Tryz.prog 93 [.slice A tree.length c, .slice A' l.length c'] H [] (fun v _ L' => v = .bool (inD tree l) ∧ L' = []) := by
 refine CallG.of Tryz.func93 rfl rfl rfl fun w0 => ?_
 refine WpG.g tabOK 2 rfl ?_
 refine WpG.box rfl rfl rfl rfl rfl (fun b1 => ?_)
 refine WpG.freezeBox (ci := 0) rfl (fun H2 hH2 hc2 => ?_)
 refine WpG.g tabOK 4 rfl ?_
 refine WpG.y rfl rfl rfl rfl (RunY.loadH tabOK hc2 hlr rfl rfl rfl rfl) ?_
 refine WpG.callS rfl rfl rfl rfl rfl rfl hlr (right_calls (ht.mono hH2)) ?_
 refine WpG.g tabOK 1 rfl ?_
 refine WpG.caseB (t := 7) rfl (fun q7 => ?_) (fun q7 => ?_)
 ·refine WpG.g tabOK 2 rfl ?_
  refine WpG.callS rfl rfl rfl rfl rfl rfl hlr (ContainsFunc_int (hl.mono hH2) (p := fun x => decide (depthD tree x < 0)) (fun x _ => in1d_calls (ht.mono hH2) x hc2)) ?_
  refine WpG.g tabOK 4 rfl ?_
  exact WpG.ret tabOK (L' := []) (.tmp rfl .nil) .slnil ⟨congrArg Value.bool (by simp [inD, List.all_eq_not_any_not, *]), rfl⟩
 refine WpG.g tabOK 7 rfl ?_
 exact WpG.ret tabOK (L' := []) (.tmp rfl .nil) .slnil ⟨congrArg Value.bool (by simp [inD, List.all_eq_not_any_not, *]), rfl⟩
theorem Meet_calls {H : Hp} {A : Option Addr} {c : Nat} {tree : List Int} (ht : RdS H A tree) {a0 b0 : Int} (ka : I64 a0) (kb : I64 b0) : CallG Tryz.prog 94 [.slice A tree.length c, .int .i64 a0, .int .i64 b0] H [] (fun v _ L' => v = .int .i64 (meetD tree a0 b0) ∧ L' = []) := by
 have bl := ht.1
 refine CallG.of Tryz.func94 rfl rfl rfl fun w0 => ?_
 refine WpG.g tabOK 10 rfl ?_
 refine WpG.buildSlice (xs := [.int .i64 a0, .int .i64 b0]) tabOK rfl rfl rfl rfl rfl rfl rfl rfl rfl rfl (fun b1 => ?_)
 refine WpG.ownCap (ci := 0) rfl (fun uz3 => ?_)
 refine WpG.freezeOwn (ci := 0) rfl (fun H3 hH3 fz3 => ?_)
 have rz3 : RdS H3 (some ⟨b1, 0, none⟩) [a0, b0] := RdS.of_own (H := H) (show RdL H [.int .i64 a0, .int .i64 b0] [a0, b0] from RdL_ints [a0, b0] ⟨ka, kb, trivial⟩) (rfl) (by simp) hH3 fz3
 refine WpG.callS rfl rfl rfl rfl rfl rfl hlr (have z := ind_calls (ht.mono hH3) rz3; z) ?_
 refine WpG.lessH hlr hH3 ?_
 refine WpG.g tabOK 2 rfl ?_
 refine WpG.caseBn (t := 12) rfl (fun q12 => ?_) (fun q12 => ?_)
 ·refine WpG.g tabOK 5 rfl ?_
  exact WpG.ret tabOK (L' := []) (.tmp rfl .nil) .slnil ⟨congrArg (Value.int .i64) (by unfold meetD; rw [if_neg (by simp [q12])]), rfl⟩
 refine WpG.g tabOK 5 rfl ?_
 refine WpG.wk (WpG.ind2 (fun (a : Int) (b : Int) => ⟨(depthD tree a + depthD tree b).toNat, [(0, .slice A tree.length c), (1, .int .i64 a), (2, .int .i64 b)], H, [], 0 ≤ depthD tree a ∧ 0 ≤ depthD tree b ∧ meetD tree a0 b0 = meetF tree (depthD tree a + depthD tree b).toNat a b⟩) ?_ a0 b0 ⟨(in_two (by simpa using q12)).2.1, (in_two (by simpa using q12)).2.2, by unfold meetD; rw [if_pos (by simpa using q12)]⟩) rfl
 intro a b inv ih1
 obtain ⟨i0, i1, i2⟩ := inv
 have hra := depth_range i0; have hrb := depth_range i1
 have hr := (in_two (tree := tree) (a := a0) (b := b0) (by simpa using q12)).1
 refine WpG.g tabOK 7 rfl ?_
 refine WpG.caseN (t := 15) rfl (fun q15 => ?_) (fun q15 => ?_)
 ·refine WpG.g tabOK 7 rfl ?_
  refine WpG.callS rfl rfl rfl rfl rfl rfl hlr (depth_calls ht a) ?_
  refine WpG.g tabOK 2 rfl ?_
  refine WpG.callS rfl rfl rfl rfl rfl rfl hlr (depth_calls ht b) ?_
  refine WpG.g tabOK 2 rfl ?_
  refine WpG.caseD (t := 22) rfl (fun q22 => ?_) (fun q22 => ?_)
  ·refine WpG.g tabOK 4 rfl ?_
   refine WpG.indexR tabOK rfl rfl rfl rfl rfl rfl rfl rfl rfl ht (by omega) (by omega) ?_
   rintro x4 hx4 b4 o4 _ ⟨rfl, k4⟩ hc4
   refine WpG.y rfl rfl rfl rfl (RunY.loadH tabOK hc4 hlr rfl rfl rfl rfl) ?_
   refine WpG.g tabOK 4 rfl ?_
   refine WpG.wk (ih1 x4 b ?_ ?_) rfl
   ·dsimp only
    have h := meet_left hr i0 i1 q15 q22; rw [hx4]; omega
   clear ih1
   show 0 ≤ depthD tree x4 ∧ 0 ≤ depthD tree b ∧ meetD tree a0 b0 = meetF tree (depthD tree x4 + depthD tree b).toNat x4 b
   have h := meet_left hr i0 i1 q15 q22; rw [hx4]
   exact ⟨h.1, i1, i2.trans h.2.2⟩
  refine WpG.g tabOK 4 rfl ?_
  refine WpG.indexR tabOK rfl rfl rfl rfl rfl rfl rfl rfl rfl ht (by omega) (by omega) ?_
  rintro x5 hx5 b5 o5 _ ⟨rfl, k5⟩ hc5
  refine WpG.y rfl rfl rfl rfl (RunY.loadH tabOK hc5 hlr rfl rfl rfl rfl) ?_
  refine WpG.g tabOK 4 rfl ?_
  refine WpG.wk (ih1 a x5 ?_ ?_) rfl
  ·dsimp only
   have h := meet_right hr i0 i1 q15 q22; rw [hx5]; omega
  clear ih1
  show 0 ≤ depthD tree a ∧ 0 ≤ depthD tree x5 ∧ meetD tree a0 b0 = meetF tree (depthD tree a + depthD tree x5).toNat a x5
  have h := meet_right hr i0 i1 q15 q22; rw [hx5]
  exact ⟨i0, h.1, i2.trans h.2.2⟩
 refine WpG.g tabOK 7 rfl ?_
 exact WpG.ret tabOK (L' := []) (.tmp rfl .nil) .slnil ⟨congrArg (Value.int .i64) (by clear ih1; rw [i2, q15, meet_same]), rfl⟩
theorem Over_calls {H : Hp} {A : Option Addr} {c : Nat} {tree : List Int} (ht : RdS H A tree) {a0 b0 : Int} (ka : I64 a0) (kb : I64 b0) : CallG Tryz.prog 57 [.slice A tree.length c, .int .i64 a0, .int .i64 b0] H [] (fun v _ L' => v = .bool (overD tree a0 b0) ∧ L' = []) := by
 refine CallG.of Tryz.func57 rfl rfl rfl fun w0 => ?_
 refine WpG.g tabOK 9 rfl ?_
 refine WpG.buildSlice (xs := [.int .i64 a0, .int .i64 b0]) tabOK rfl rfl rfl rfl rfl rfl rfl rfl rfl rfl (fun b1 => ?_)
 refine WpG.ownCap (ci := 0) rfl (fun uz3 => ?_)
 refine WpG.freezeOwn (ci := 0) rfl (fun H3 hH3 fz3 => ?_)
 have rz3 : RdS H3 (some ⟨b1, 0, none⟩) [a0, b0] := RdS.of_own (H := H) (show RdL H [.int .i64 a0, .int .i64 b0] [a0, b0] from RdL_ints [a0, b0] ⟨ka, kb, trivial⟩) (rfl) (by simp) hH3 fz3
 refine WpG.callS rfl rfl rfl rfl rfl rfl hlr (have z := ind_calls (ht.mono hH3) rz3; z) ?_
 refine WpG.lessH hlr hH3 ?_
 refine WpG.g tabOK 1 rfl ?_
 refine WpG.caseB (t := 12) rfl (fun q12 => ?_) (fun q12 => ?_)
 ·refine WpG.g tabOK 3 rfl ?_
  refine WpG.callS rfl rfl rfl rfl rfl rfl hlr (Meet_calls ht ka kb) ?_
  refine WpG.g tabOK 5 rfl ?_
  exact WpG.ret tabOK (L' := []) (.tmp rfl .nil) .slnil ⟨congrArg Value.bool (by simp [overD, *]), rfl⟩
 refine WpG.g tabOK 9 rfl ?_
 exact WpG.ret tabOK (L' := []) (.tmp rfl .nil) .slnil ⟨congrArg Value.bool (by simp [overD, *]), rfl⟩
end Go.Proofs.YtakameggkkjcpaaGreat
namespace Go.Proofs.YtakameggkkjcpaaGreat
open Go.Shelf
def laySort_ren : Go.Shelf.Ren := ⟨fun | 5 => 69 | 8 => 99 | 7 => 98 | 19 => 125 | 20 => 126 | 10 => 116 | 11 => 117 | 12 => 118 | 13 => 119 | 14 => 120 | 15 => 121 | 16 => 122 | 17 => 123 | 18 => 124 | 30 => 148 | 31 => 149 | 32 => 150 | 33 => 151 | 34 => 152 | 35 => 153 | 40 => 161 | n => n, fun | 23 => 22 | 25 => 3 | 3 => 3 | 32 => 126 | 22 => 22 | 0 => 0 | 44 => 148 | 46 => 51 | 4 => 4 | 36 => 142 | 35 => 141 | 41 => 145 | 5 => 5 | 9 => 9 | 53 => 167 | 57 => 171 | 63 => 177 | 64 => 109 | n => n, fun | n => n⟩
theorem laySort : Go.Proofs.SlLaysM.n5 Tryz.prog laySort_ren := {
  mixed := by kernel_rfl
  f5 := ⟨Tryz.f69.name, by decide, Tryz.func69.trans (congrArg some (by kernel_rfl))⟩
  f7 := ⟨Tryz.f98.name, by decide, Tryz.func98.trans (congrArg some (by kernel_rfl))⟩
  f8 := Tryz.func99.trans (congrArg some (by kernel_rfl))
  f10 := ⟨Tryz.f116.name, by decide, Tryz.func116.trans (congrArg some (by kernel_rfl))⟩
  f11 := ⟨Tryz.f117.name, by decide, Tryz.func117.trans (congrArg some (by kernel_rfl))⟩
  f12 := ⟨Tryz.f118.name, by decide, Tryz.func118.trans (congrArg some (by kernel_rfl))⟩
  f13 := ⟨Tryz.f119.name, by decide, Tryz.func119.trans (congrArg some (by kernel_rfl))⟩
  f14 := ⟨Tryz.f120.name, by decide, Tryz.func120.trans (congrArg some (by kernel_rfl))⟩
  f15 := ⟨Tryz.f121.name, by decide, Tryz.func121.trans (congrArg some (by kernel_rfl))⟩
  f16 := ⟨Tryz.f122.name, by decide, Tryz.func122.trans (congrArg some (by kernel_rfl))⟩
  f17 := ⟨Tryz.f123.name, by decide, Tryz.func123.trans (congrArg some (by kernel_rfl))⟩
  f18 := ⟨Tryz.f124.name, by decide, Tryz.func124.trans (congrArg some (by kernel_rfl))⟩
  f19 := Tryz.func125.trans (congrArg some (by kernel_rfl))
  f20 := Tryz.func126.trans (congrArg some (by kernel_rfl))
  f30 := ⟨Tryz.f148.name, by decide, Tryz.func148.trans (congrArg some (by kernel_rfl))⟩
  f31 := Tryz.func149.trans (congrArg some (by kernel_rfl))
  f32 := Tryz.func150.trans (congrArg some (by kernel_rfl))
  f33 := ⟨Tryz.f151.name, by decide, Tryz.func151.trans (congrArg some (by kernel_rfl))⟩
  f34 := ⟨Tryz.f152.name, by decide, Tryz.func152.trans (congrArg some (by kernel_rfl))⟩
  f35 := ⟨Tryz.f153.name, by decide, Tryz.func153.trans (congrArg some (by kernel_rfl))⟩
  f40 := ⟨Tryz.f161.name, by decide, Tryz.func161.trans (congrArg some (by kernel_rfl))⟩
  t0 := Tryz.underlying0
  a0 := Tryz.isAgg0
  z0 := Tryz.sizeOf0
  v0 := Tryz.zeroValue0
  t3 := Tryz.underlying3
  a3 := Tryz.isAgg3
  z3 := Tryz.sizeOf3
  v3 := Tryz.zeroValue3
  t4 := Tryz.underlying4
  a4 := Tryz.isAgg4
  z4 := Tryz.sizeOf4
  v4 := Tryz.zeroValue4
  t5 := Tryz.underlying5
  a5 := Tryz.isAgg5
  z5 := Tryz.sizeOf5
  v5 := Tryz.zeroValue5
  t9 := Tryz.underlying9
  a9 := Tryz.isAgg9
  z9 := Tryz.sizeOf9
  v9 := Tryz.zeroValue9
  t22 := Tryz.underlying22
  a22 := Tryz.isAgg22
  z22 := Tryz.sizeOf22
  v22 := Tryz.zeroValue22
  t23 := Tryz.underlying22
  a23 := Tryz.isAgg22
  z23 := Tryz.sizeOf22
  v23 := Tryz.zeroValue22
  t25 := Tryz.underlying3
  a25 := Tryz.isAgg3
  z25 := Tryz.sizeOf3
  v25 := Tryz.zeroValue3
  t32 := Tryz.underlying126
  a32 := Tryz.isAgg126
  z32 := Tryz.sizeOf126
  v32 := Tryz.zeroValue126
  t35 := Tryz.underlying141
  a35 := Tryz.isAgg141
  z35 := Tryz.sizeOf141
  v35 := Tryz.zeroValue141
  t36 := Tryz.underlying142
  a36 := Tryz.isAgg142
  z36 := Tryz.sizeOf142
  v36 := Tryz.zeroValue142
  t41 := Tryz.underlying145
  a41 := Tryz.isAgg145
  z41 := Tryz.sizeOf145
  v41 := Tryz.zeroValue145
  t44 := Tryz.underlying148
  a44 := Tryz.isAgg148
  z44 := Tryz.sizeOf148
  v44 := Tryz.zeroValue148
  t46 := Tryz.underlying51
  a46 := Tryz.isAgg51
  z46 := Tryz.sizeOf51
  v46 := Tryz.zeroValue51
  t53 := Tryz.underlying167
  a53 := Tryz.isAgg167
  z53 := Tryz.sizeOf167
  v53 := Tryz.zeroValue167
  t57 := Tryz.underlying171
  a57 := Tryz.isAgg171
  z57 := Tryz.sizeOf171
  v57 := Tryz.zeroValue171
  t63 := Tryz.underlying177
  a63 := Tryz.isAgg177
  z63 := Tryz.sizeOf177
  v63 := Tryz.zeroValue177
  t64 := Tryz.underlying109
  a64 := Tryz.isAgg109
  z64 := Tryz.sizeOf109
  v64 := Tryz.zeroValue109 }
end Go.Proofs.YtakameggkkjcpaaGreat
namespace Go.Proofs.YtakameggkkjcpaaGreat
open Go Go.RowKit Go.Shelf Go.Sort
abbrev ivv (x : Int) : Value := .int .i64 x
set_option maxRecDepth 100000 in
set_option maxHeartbeats 2000000 in
theorem values1_in (F : Fence) (n : Nat) (h7 : F.fn 70) (hro : F.round = none) (hn : 1 ≤ n) (l Bs n₀ b off len cap : Nat) (zs : List Int) (hreach : len * 8 ≤ 140737488351232) (hb : b < n₀) (J Jx : List Int → World → Prop)
    (hY : ∀ pre x W, J pre W → pre.length < len → YieldAt F (n - 1) Tryz.prog l #[.int .i64 x] W fun e W' =>
      (e = .returned (.bool true) ∧ J (pre ++ [x]) W' ∧ Below n₀ W W') ∨ (e = .returned (.bool false) ∧ Jx (pre ++ [x]) W'))
    (W : World) (hBs : W.cell? ⟨Bs, 0, none⟩ = some (.slice (some ⟨b, off, none⟩) len cap)) (hzl : zs.length = len) (hc : ∀ j, j < len → W.cell? ⟨b, off + j, none⟩ = some (.int .i64 (zs[j]?.getD 0))) (h0 : J [] W) :
    CallsIn F n Tryz.prog 70 #[.func (.yield l) #[] #[], .pointer (some ⟨Bs, 0, none⟩)] W fun e W' => (∃ v, e = .returned v) ∧
      ((∃ ys, ys = zs ∧ J ys W') ∨ (∃ pre, pre <+: zs ∧ Jx pre W')) := by
  have htk : ∀ k, k < zs.length → zs.take (k + 1) = zs.take k ++ [zs[k]?.getD 0] := fun k hk => by
    rw [List.take_add_one, List.getElem?_eq_getElem hk]; rfl
  refine callsIn_of_wp Tryz.func70 rfl h7 ?_ hro
  simp only [Tryz.ntmps70, List.size_toArray, List.length_cons, List.length_nil, Nat.reduceAdd, Nat.reduceSub, Array.replicate_succ, Array.replicate_zero, List.push_toArray, List.append_toArray, List.nil_append, List.cons_append]
  gi_wp2
  gi_loopw [7] (fun i wr => ∃ k : Nat, k ≤ len ∧ i = .int .i64 k ∧ J (zs.take k) wr ∧ Below n₀ W wr)
    (fun i _ => len - (intOf i).toNat)
  case atStart => exact ⟨0, Nat.zero_le _, rfl, h0, Below.refl _ _⟩
  case round =>
    obtain ⟨k, hk, rfl, hJs, hnx⟩ := hrel
    have hcx : k < len → wr.cell? ⟨b, off + k, none⟩ = some (.int .i64 (zs[k]?.getD 0)) := fun h => (hnx.cell (p := ⟨b, off + k, none⟩) hb).trans (hc k h)
    obtain ⟨z, hz⟩ : ∃ z, zs[k]?.getD 0 = z := ⟨_, rfl⟩
    by_cases hlt : k < len
    · obtain ⟨fn, tmps, assign, body, hy, hR⟩ := hY _ z wr hJs (by rw [List.length_take]; omega)
      have hcx' := hcx hlt
      have htk' := htk k (by omega)
      rw [hz] at hcx' htk'
      clear hz hcx htk hc
      gi_wp2
      refine hR.mono ?_
      rintro e W3 (⟨rfl, hJ3, hk3⟩ | ⟨rfl, hJx3⟩)
      · gi_wp2
        go_roundw
        case rel => exact ⟨k + 1, by omega, by simp, by rw [htk']; exact hJ3, hnx.trans hk3⟩
        case measure => simp [intOf]; omega
      · gi_wp2
        refine bodyPost_ret (results_none rfl _ _ _) rfl ?_
        exact ⟨⟨_, rfl⟩, .inr ⟨_, by rw [← htk']; exact List.take_prefix _ _, hJx3⟩⟩
    · obtain rfl : k = len := by omega
      gi_wp2
      go_end0
      exact ⟨⟨_, rfl⟩, .inl ⟨_, by rw [List.take_of_length_le (by omega)], hJs⟩⟩
set_option maxRecDepth 100000 in
set_option maxHeartbeats 1000000 in
theorem values1_nil_in (F : Fence) (n : Nat) (h7 : F.fn 70) (hro : F.round = none) (l Bs : Nat) (a : Option Addr) (cap : Nat) (J : List Int → World → Prop) (W : World) (hBs : W.cell? ⟨Bs, 0, none⟩ = some (.slice a 0 cap)) (h0 : J [] W) :
    CallsIn F n Tryz.prog 70 #[.func (.yield l) #[] #[], .pointer (some ⟨Bs, 0, none⟩)] W fun e W' => (∃ v, e = .returned v) ∧ J [] W' := by
  refine callsIn_of_wp Tryz.func70 rfl h7 ?_ hro
  simp only [Tryz.ntmps70, List.size_toArray, List.length_cons, List.length_nil, Nat.reduceAdd, Nat.reduceSub, Array.replicate_succ, Array.replicate_zero, List.push_toArray, List.append_toArray, List.nil_append, List.cons_append]
  gi_wp2
  gi_loopw [7] (fun i wr => i = .int .i64 0 ∧ J [] wr) (fun _ _ => 0)
  case atStart => exact ⟨rfl, h0⟩
  case round =>
    obtain ⟨rfl, hJs⟩ := hrel
    gi_wp2
    go_end0
    exact ⟨⟨_, rfl⟩, hJs⟩
theorem ints_cells {H : Hp} {w : World} {A : Option Addr} {xs : List Int} (hs : Sub H w) (hr : RdS H A xs) : xs = [] ∨ ∃ b o, A = some ⟨b, o, none⟩ ∧ (xs ≠ [] → b < w.heap.size) ∧ ∀ j, j < xs.length → w.cell? ⟨b, o + j, none⟩ = some (.int .i64 (xs[j]?.getD 0)) := by
  rcases hr.2 with h | ⟨b, o, rfl, h⟩
  · exact .inl h
  · refine .inr ⟨b, o, rfl, fun hne => ?_, fun j hj => ?_⟩
    · cases xs with
      | nil => exact absurd rfl hne
      | cons x l =>
        obtain ⟨cs, h1, h2⟩ := h 0 x rfl
        have h1' : cs = [.int .i64 x] := h1.1
        subst h1'
        have := h2 0 _ rfl
        unfold hcell at this
        cases hb : H (b) with
        | none => simp [hb] at this
        | some ob => exact lt_of_get (hs b ob hb)
    · obtain ⟨cs, h1, h2⟩ := h j (xs[j]) (List.getElem?_eq_getElem hj)
      have h1' : cs = [.int .i64 xs[j]] := h1.1
      subst h1'
      have := h2 0 _ rfl
      have hsz : Rdc.sz Int = 1 := rfl
      rw [hsz] at this
      rw [List.getElem?_eq_getElem hj]
      simpa using hs.cell this
set_option maxHeartbeats 1000000 in
theorem values_stops {H : Hp} {A : Option Addr} {c : Nat} {xs : List Int} (hr : RdS H A xs) (hl : xs.length ≤ 1000000) {Bs : Nat} {w : World} (hs : Sub H w) (hB : hcell H Bs 0 = some (.slice A xs.length c)) {w1 : World} (hw : Below w.heap.size w w1) (n : Nat) (hn : 1 ≤ n) :
    SeqStopsK Fence.wide n Tryz.prog 70 #[.pointer (some ⟨Bs, 0, none⟩)] (fun x : Int => #[Value.int .i64 x]) (Below w.heap.size) (fun ys => ys = xs) (fun pre => pre <+: xs) xs.length w1 := fun l J Jx W hW _ _ hY h0 => by
  have hBlt : Bs < w.heap.size := by
    unfold hcell at hB
    cases hb : H Bs with
    | none => simp [hb] at hB
    | some ob => exact lt_of_get (hs Bs ob hb)
  have hWW : Below w.heap.size w W := hw.trans (hW.mono hw.size)
  have hc' : W.cell? ⟨Bs, 0, none⟩ = some (.slice A xs.length c) := (hWW.cell (p := ⟨Bs, 0, none⟩) hBlt).trans (hs.cell hB)
  rcases ints_cells hs hr with rfl | ⟨b, o, rfl, hlt, hcs⟩
  · exact (values1_nil_in Fence.wide n trivial rfl l Bs _ c J W hc' h0).mono fun e W' ⟨he, hj⟩ => ⟨he, .inl ⟨_, rfl, hj⟩⟩
  · by_cases hx : xs = []
    · subst hx
      exact (values1_nil_in Fence.wide n trivial rfl l Bs _ c J W hc' h0).mono fun e W' ⟨he, hj⟩ => ⟨he, .inl ⟨_, rfl, hj⟩⟩
    · refine values1_in Fence.wide n trivial rfl hn l Bs w.heap.size b o xs.length c xs (by omega) (hlt hx) J Jx hY W hc' rfl (fun j hj => (hWW.cell (p := ⟨b, o + j, none⟩) (hlt hx)).trans (hcs j hj)) h0
theorem int_info : (Tryz.prog.info? 3).map (fun i => (i.zero, i.size, i.bytes)) = some (some (.int .i64 0), 1, 8) := by kernel_rfl
set_option maxRecDepth 100000 in
set_option maxHeartbeats 2000000 in
theorem appendSeq_in {H : Hp} {A : Option Addr} {c : Nat} {xs : List Int} (hr : RdS H A xs) (hl : xs.length ≤ 1000000) {Bs : Nat} {w : World} (hs : Sub H w) (hB : hcell H Bs 0 = some (.slice A xs.length c)) (n : Nat) (hn : 3 ≤ n) :
    CallsIn Fence.wide n Tryz.prog 97 #[.slice none 0 0, .func (.func 70) #[] #[.pointer (some ⟨Bs, 0, none⟩)]] w fun e W' => ∃ v, e = .returned v ∧ W'.ownsRow w.heap.size 3 1 v xs.length (xs.map ivv) ∧ Below w.heap.size w W' := by
  have h1 : 1 ≤ n := by omega
  obtain ⟨i0, hi, hz0, hz1, hz2⟩ := info_parts int_info
  refine callsIn_of_wp_marks Tryz.func97 rfl trivial ?_ rfl
  simp only [Tryz.ntmps97, List.size_toArray, List.length_cons, List.length_nil, Nat.reduceAdd, Nat.reduceSub, Array.replicate_succ, Array.replicate_zero, List.push_toArray, List.append_toArray, List.nil_append, List.cons_append]
  gi_wp2
  have bO := Boxed.new w 22 (.slice none 0 0)
  have hB0 : Below w.heap.size w (w.alloc (.cells #[.slice none 0 0] 22)) := (Below.refl _ w).alloc (Nat.le_refl _) _
  refine wpIn_rangeFunc_ownG rfl h1 (gf := 70) (lb := #[.pointer (some ⟨Bs, 0, none⟩)]) rfl trivial (enters_of Tryz.func70 (by kernel_rfl) rfl)
    (values_stops hr hl hs hB hB0 (n - 1) (by omega)) belowK_t (belowK_b (by simp)) (Below.refl _ _) (fun _ => rfl)
    (fun pre W => (∃ v, Boxed W w.heap.size 22 v ∧ W.ownsRow w.heap.size 3 1 v pre.length (pre.map ivv) ∧ True) ∧ Below w.heap.size w W)
    (fun _ _ _ => False)
    (OwnFrom.and (Own.from (holdsRow_own w.heap.size w.heap.size 22 3 1 (fun pre : List Int => pre.length) (fun pre => pre.map ivv) (fun _ _ => True)) _) (ownFrom_below (Nat.le_refl _) (by simp)))
    (fun _ _ _ _ _ hs _ _ => hs)
    ⟨⟨_, bO, World.ownsRow_nil _ _ _ _, trivial⟩, hB0⟩
    (fun x => { tmps := #[.slice none 0 0, .func (.func 70) #[] #[.pointer (some ⟨Bs, 0, none⟩)], .pointer (some ⟨w.heap.size, 0, none⟩), undef, .slice none 0 0, .int .i64 x, .func (.func 70) #[] #[.pointer (some ⟨Bs, 0, none⟩)], .int .i64 x, undef, undef, undef, undef, undef], defers := [] }) ?assign ?body ?done ?stop
  case assign =>
    intro l x W K hK
    gi_wp2_with (rw [Oper.semAt_eq _ _ _ (fun c h => by cases h)]; go_simp; try go_bits)
    exact hK
  case body =>
    rintro l pre x W ⟨⟨v, hv, hrow, -⟩, hB⟩ hlt
    have hc := hv.cell
    have hlen : xs.length ≤ maxLen := Nat.le_trans hl (by decide)
    have hbytes : xs.length * 8 ≤ 140737488355328 := by omega
    gi_wp2_with (first | (gi_at_builtin; refine wpListIn_append_own _ rfl _ _ 22 rfl w.heap.size 3 i0 (.int .i64 0) 1 8 Tryz.underlying22 hi hz0 hz1 hz2 rfl (by decide) _ _ _ rfl (hrow.alloc _) ⟨W.heap.size, 0, none⟩ 1 1 [.int .i64 x] rfl rfl (cell_one_new _ _ _) (by simp [Value.oneCell']) (by omega) (by omega) (by have := hB.size; simp; omega) ?_; intro v' w1 hown' hgrow _; obtain ⟨g', cap', rfl⟩ := ownsRow_succ hown'; obtain ⟨hv1, hv2, hr2, hk2, hb2⟩ := hv.appended (by decide) hrow hB.size (Nat.le_refl _) hown' hgrow; have hc1 := hv1.cell; have hf1 := hv1.frozen) | (rw [Oper.semAt_eq _ _ _ (fun c h => by cases h)]; go_simp; try go_bits))
    exact ⟨hk2.from _, hb2, ⟨_, hv2, by simpa using hr2, trivial⟩, hB.trans hb2⟩
  case done =>
    rintro D ys W hD rfl ⟨⟨v, hv, hrow, -⟩, hB⟩ hK
    have hc := hv.cell
    gi_wp2
    refine ⟨by simp, .inl ⟨_, _, rfl, run_takeDeferred hK, ?_⟩⟩
    exact ⟨_, results_tmp rfl _ _ _, v, rfl, ownsRow_putObj hrow _ hK rfl, hB.trans (belowK_b (w := w) (Nat.le_refl _) W D _ _ (by simp at hD; omega) hK rfl rfl)⟩
  case stop =>
    rintro D c pre W _ _ h _
    exact h.elim
theorem SH.madeRow {w w' : World} {H : Hp} {E sz n : Nat} {v : Value} {xs : List Value} (hs : Sub H w) (hb : Below w.heap.size w w') (hr : w'.ownsRow w.heap.size E sz v n xs) : ∃ A c, v = .slice A n c ∧ SH w H [] w' H [Chunk.own E sz A c n xs] := by
  have hlt : ∀ b, H b ≠ none → b < w.heap.size := fun b h => by
    cases hH : H b with
    | none => exact absurd hH h
    | some o => exact lt_of_get (hs b o hH)
  have hsub : Sub H w' := fun b o h => by
    rw [hb.block b (hlt b (by rw [h]; simp))]; exact hs b o h
  have hchg : Chg [] w w' := ⟨hb.os, hb.tape, hb.output, hb.size, fun b h _ => hb.block b h⟩
  rcases hr.2 with ⟨rfl, hn⟩ | ⟨g, cap, cur, rfl, hg, _⟩
  · subst hn
    exact ⟨none, 0, rfl, hchg, hsub, Hp.le.refl _, fun b h => .inl h, fun c hc => by simp at hc; subst hc; exact ownsRow_base_a hr (Nat.zero_le _), by simp [blks, Chunk.own, Value.ownBlock], by simp [blks, Chunk.own, Value.ownBlock]⟩
  · refine ⟨some ⟨g, 0, none⟩, cap, rfl, hchg, hsub, Hp.le.refl _, fun b h => .inl h, fun c hc => by simp at hc; subst hc; exact ownsRow_base_a hr (Nat.zero_le _), fun b h => ?_, by simp [blks, Chunk.own, Value.ownBlock]⟩
    have hbg : b = g := by simpa [blks, Chunk.own, Value.ownBlock] using h
    subst hbg
    refine ⟨.inr hg, ?_⟩
    cases hH : H b with
    | none => rfl
    | some o => have := hlt b (by rw [hH]; simp); omega
theorem AppendSeq_calls {H : Hp} {A : Option Addr} {c : Nat} {xs : List Int} (hr : RdS H A xs) (hl : xs.length ≤ 1000000) {Bs : Nat} (hB : hcell H Bs 0 = some (.slice A xs.length c)) :
    CallG Tryz.prog 97 [.slice none 0 0, .func (.func 70) #[] #[.pointer (some ⟨Bs, 0, none⟩)]] H [] fun v H' L' => H' = H ∧ ∃ A' c', v = .slice A' xs.length c' ∧ L' = [Chunk.own 3 1 A' c' xs.length (xs.map iv)] :=
  ⟨⟨_, Tryz.func97, rfl, rfl⟩, fun w hw => (callsIn_wide.1 (appendSeq_in hr hl hw.sub hB 3 (by omega))).mono fun e w' ⟨v, he, hrow, hb⟩ =>
    let ⟨A', c', hv, hsh⟩ := SH.madeRow hw.sub hb hrow
    ⟨v, H, _, he, hsh, rfl, A', c', hv, rfl⟩⟩
def sortD (l : List Int) : List Int := l.mergeSort fun x y => decide (x ≤ y)
theorem sortD_len (l : List Int) : (sortD l).length = l.length := List.length_mergeSort _
theorem Sort_calls {H : Hp} {A : Option Addr} {c : Nat} (l : List Int) (hl : l.length ≤ 1000000) :
    CallG Tryz.prog 69 [.slice A l.length c] H [Chunk.own 3 1 A c l.length (l.map iv)] fun v H' L' => H' = H ∧ v = .tuple #[] ∧ L' = [Chunk.own 3 1 A c l.length ((sortD l).map iv)] := by
  refine ⟨⟨_, Tryz.func69, rfl, rfl⟩, fun w hw => ?_⟩
  have hown : w.ownsRow 0 3 1 (.slice A l.length c) l.length (l.map iv) := hw.holds _ (.head _)
  rcases hown.2 with ⟨e0, hn⟩ | ⟨g, cap, cur, e0, hbase, hgb, r1, r2, r3, r4⟩
  · have hl0 : l = [] := List.eq_nil_of_length_eq_zero hn
    subst hl0
    refine (AnyM.slices_Sort_int_none laySort A c w).mono ?_
    rintro e w' ⟨rfl, rfl⟩
    exact ⟨_, H, _, rfl, hw.sh, rfl, rfl, by simp [sortD]⟩
  · simp only [Value.slice.injEq, true_and] at e0
    obtain ⟨rfl, rfl⟩ := e0
    have hH : Holds encZ w g 0 l.toArray := holds_of_block_i hgb (by rw [Nat.mul_one] at r4; exact r4)
    refine (AnyM.slices_Sort_int laySort g 0 c l w hH (lt_of_get hgb) (by omega)).mono ?_
    rintro e w' ⟨rfl, n, os, rfl⟩
    have hg := grownBy_sorted_i (w := w) (g := g) (n := n) (os := os) (sortD l).toArray
    refine ⟨_, H, [Chunk.own 3 1 (some ⟨g, 0, none⟩) c l.length ((sortD l).map iv)], rfl, ?_, rfl, rfl, rfl⟩
    exact SH.write hw.sh (i := 0) (c := Chunk.own 3 1 (some ⟨g, 0, none⟩) c l.length (l.map iv)) rfl rfl
      ⟨hg.os, hg.tape, hg.output, hg.size, fun b hb hx => hg.block b hb fun e => hx (by cases e; simp [blks, Chunk.own, Value.ownBlock])⟩
      (ownsRow_sorted_i (sortD_len l) (Nat.zero_le _) hgb r1 r2 r3)
end Go.Proofs.YtakameggkkjcpaaGreat
namespace Go.Proofs.YtakameggkkjcpaaGreat
open Go Go.RowKit
section
variable {P : Program} {T : List TRow} {fn : Func} {w0 : World} {H0 : Hp} {X : List Nat} {k : List Item} {F : Fk} {H : Hp} {L : List Chunk} {R : Ending → World → Prop} {ops : Array Oper} {ty : TypeId} {pos : String} {af : Array Edge} {g : Option (Nat × Bool)}
theorem OpG.clear1 (hT : TabOK P T) {i : Nat} {t e ci : Nat} {x : Operand} {b off E cc c n : Nat} {xs xs' : List Value} {r q : TRow} {z : Value}
    (ho : ops[i]? = some ⟨none, .call ⟨.builtin .clear, #[x], #[t]⟩, ty, pos, af, g⟩) (hw : wantk ops F g = some true)
    (hx : evk F x = some (.slice (some ⟨b, off, none⟩) 1 cc)) (hr : trow T t = some r) (hk : r.kind = .slice e) (hq : trow T e = some q) (hz : q.zero.cells = #[z]) (h1 : z.oneCell' = true) (hsz : q.size = 1)
    (hL : L[ci]? = some (Chunk.own E 1 (some ⟨b, 0, none⟩) c n xs)) (hp : putAt xs off [z] = some xs') :
    OpG P fn w0 H0 X ops i F H L fun F' H' L' => F' = F ∧ H' = H ∧ L' = L.set ci (Chunk.own E 1 (some ⟨b, 0, none⟩) c n xs') := ⟨_, ho, hw, fun a w ha hs => by
  have hd := (hT.row hr).slice hk
  have hown : w.ownsRow 0 E 1 (.slice (some ⟨b, 0, none⟩) n c) n xs := hs.chunk hL
  obtain ⟨cur, hg, hle, hown'⟩ := ownsRow_put hown hp
  have hst := run_storeCells_at P b off E [z] 0 cur w hg (by simpa using hle) (by simpa using h1)
  simp only [Nat.add_zero] at hst
  have hzc : (Builtin.zeroCells #[z] 1).toList = [z] := by simp [Builtin.zeroCells, Array.range_succ]
  refine .value (v := .tuple #[]) (w' := w.setRow b (cur.toList.take off ++ [z] ++ cur.toList.drop (off + [z].length)).toArray) ?_
    ⟨_, _, _, ⟨rfl, rfl, rfl⟩, ha.putNone _, hs.set_ hL (SH.one (hs.pre1 hL) (Chg.setRow _ _ (mem_blks (.head _) rfl)) hown' (fun b' e => .inl e))⟩
  simp [execOp, ha.eval hx, resolve, invoke, builtin, Builtin.clear_, run_underlying hd, (hT.row hq).run_zero, hz, hzc, hst]⟩
theorem WpG.clear1 (hT : TabOK P T) {i : Nat} {rest : List Nat} {t e ci : Nat} {x : Operand} {b off E cc c n : Nat} {xs xs' : List Value} {r q : TRow} {z : Value}
    (ho : ops[i]? = some ⟨none, .call ⟨.builtin .clear, #[x], #[t]⟩, ty, pos, af, g⟩) (hw : wantk ops F g = some true)
    (hx : evk F x = some (.slice (some ⟨b, off, none⟩) 1 cc)) (hr : trow T t = some r) (hk : r.kind = .slice e) (hq : trow T e = some q) (hz : q.zero.cells = #[z]) (h1 : z.oneCell' = true) (hsz : q.size = 1)
    (hL : L[ci]? = some (Chunk.own E 1 (some ⟨b, 0, none⟩) c n xs)) (hp : putAt xs off [z] = some xs')
    (h : WpG P fn w0 H0 X (.inRegion ops rest :: k) F H (L.set ci (Chunk.own E 1 (some ⟨b, 0, none⟩) c n xs')) R) : WpG P fn w0 H0 X (.inRegion ops (i :: rest) :: k) F H L R :=
  WpG.step (OpG.clear1 hT ho hw hx hr hk hq hz h1 hsz hL hp) (by rintro _ _ _ ⟨rfl, rfl, rfl⟩; exact h)
end
def compact2 : List Int → List Int
  | [x, y] => if x = y then [x] else [x, y]
  | l => l
end Go.Proofs.YtakameggkkjcpaaGreat
set_option maxRecDepth 4000
namespace Go.Proofs.YtakameggkkjcpaaGreat
open Go Go.RowKit
theorem Values_calls {H : Hp} (A : Option Addr) (n c : Nat) : CallG Tryz.prog 40 [.slice A n c] H [] (fun v H' L' => ∃ b, v = .func (.func 70) #[] #[.pointer (some ⟨b, 0, none⟩)] ∧ hcell H' b 0 = some (.slice A n c) ∧ L' = []) := by
 refine CallG.of Tryz.func40 rfl rfl rfl fun w0 => ?_
 refine WpG.g tabOK 2 rfl ?_
 refine WpG.box rfl rfl rfl rfl rfl (fun b1 => ?_)
 refine WpG.freezeBox (ci := 0) rfl (fun H2 hH2 hc2 => ?_)
 refine WpG.g tabOK 7 rfl ?_
 exact WpG.ret tabOK (L' := []) (.tmp rfl .nil) .slnil ⟨_, rfl, hc2 0 _ rfl, rfl⟩
theorem Collect_calls {H : Hp} {A : Option Addr} {c Bs : Nat} {xs : List Int} (hr : RdS H A xs) (hl : xs.length ≤ 1000000) (hB : hcell H Bs 0 = some (.slice A xs.length c)) : CallG Tryz.prog 68 [.func (.func 70) #[] #[.pointer (some ⟨Bs, 0, none⟩)]] H [] (fun v H' L' => H' = H ∧ ∃ A' c', v = .slice A' xs.length c' ∧ L' = [Chunk.own 3 1 A' c' xs.length (xs.map iv)]) := by
 refine CallG.of Tryz.func68 rfl rfl rfl fun w0 => ?_
 refine WpG.g tabOK 7 rfl ?_
 refine WpG.call0 rfl rfl rfl rfl rfl rfl (AppendSeq_calls hr hl hB) ?_
 rintro _ H1 _ - ⟨eH, A1, c1, rfl, rfl⟩
 rw [eH]; clear eH H1
 refine WpG.g tabOK 2 rfl ?_
 exact WpG.ret tabOK (L' := [Chunk.own 3 1 A1 c1 xs.length (xs.map iv)]) (.tmp rfl .nil) (.cons_cons _ .slnil) ⟨rfl, A1, c1, rfl, rfl⟩
theorem Sorted_calls {H : Hp} {A : Option Addr} {c Bs : Nat} {xs : List Int} (hr : RdS H A xs) (hl : xs.length ≤ 1000000) (hB : hcell H Bs 0 = some (.slice A xs.length c)) : CallG Tryz.prog 39 [.func (.func 70) #[] #[.pointer (some ⟨Bs, 0, none⟩)]] H [] (fun v H' L' => H' = H ∧ ∃ A' c', v = .slice A' xs.length c' ∧ L' = [Chunk.own 3 1 A' c' xs.length ((sortD xs).map iv)]) := by
 refine CallG.of Tryz.func39 rfl rfl rfl fun w0 => ?_
 refine WpG.g tabOK 7 rfl ?_
 refine WpG.call0 rfl rfl rfl rfl rfl rfl (Collect_calls hr hl hB) ?_
 rintro _ H1 _ - ⟨eH, A1, c1, rfl, rfl⟩
 rw [eH]; clear eH H1
 refine WpG.g tabOK 5 rfl ?_
 refine WpG.call1 (ci := 0) rfl rfl rfl rfl rfl rfl rfl (Sort_calls xs (by omega)) ?_
 rintro _ H1 _ - ⟨eH, rfl, rfl⟩
 rw [eH]; clear eH H1
 refine WpG.g tabOK 6 rfl ?_
 exact WpG.ret tabOK (L' := [Chunk.own 3 1 A1 c1 xs.length ((sortD xs).map iv)]) (.tmp rfl .nil) (.cons_cons _ .slnil) ⟨rfl, A1, c1, rfl, rfl⟩
theorem Compact_short {H : Hp} {A : Option Addr} {n c : Nat} {l : List Int} (hn : n < 2) : CallG Tryz.prog 38 [.slice A n c] H [Chunk.own 3 1 A c n (l.map iv)] (fun v H' L' => H' = H ∧ v = .slice A n c ∧ L' = [Chunk.own 3 1 A c n (l.map iv)]) := by
 refine CallG.of Tryz.func38 rfl rfl rfl fun w0 => ?_
 refine WpG.g tabOK 11 rfl ?_
 refine WpG.caseD (t := 8) rfl (fun q8 => ?_) (fun q8 => ?_)
 ·refine WpG.g tabOK 6 rfl ?_
  exact WpG.ret tabOK (L' := [Chunk.own 3 1 A c n (l.map iv)]) (.tmp rfl .nil) (.cons_cons _ .slnil) ⟨rfl, rfl, rfl⟩
 exfalso; omega
theorem Compact_two {H : Hp} {b c : Nat} {x y : Int} : CallG Tryz.prog 38 [.slice (some ⟨b, 0, none⟩) 2 c] H [Chunk.own 3 1 (some ⟨b, 0, none⟩) c 2 ([x, y].map iv)] (fun v H' L' => H' = H ∧ v = .slice (some ⟨b, 0, none⟩) (compact2 [x, y]).length c ∧ L' = [Chunk.own 3 1 (some ⟨b, 0, none⟩) c (compact2 [x, y]).length ((compact2 [x, y]).map iv)]) := by
 refine CallG.of Tryz.func38 rfl rfl rfl fun w0 => ?_
 refine WpG.g tabOK 20 rfl ?_
 refine WpG.g tabOK 13 rfl ?_
 refine WpG.draw 10 [Chunk.own 3 1 (some ⟨b, 0, none⟩) c 2 ([x, y].map iv)] mixed (by kernel_rfl) ?_
 refine WpD.gw (listed' := lst 10 115) tabOK [0, 1, 4, 5, 6] 22 (v := .int .i64 0) (by kernel_rfl) rfl rfl hlr hlr (.refl _) ?_
 refine WpD.y (i := 2) (fuel := 4) (listed' := lst 10 119) (by kernel_rfl) rfl rfl rfl rfl hlr hlr (.refl _) (RunY.indexAddr tabOK rfl rfl rfl rfl rfl (by omega) (by omega)) ?_
 refine WpD.y (i := 3) (fuel := 3) (listed' := lst 10 127) (by kernel_rfl) rfl rfl rfl rfl hlr hlr (.refl _) (RunY.loadOwn (ci := 0) (cs := [iv (nth [x, y] 1)]) tabOK rfl rfl rfl rfl rfl (own_int (by omega) (by simp))) ?_
 refine WpD.y (i := 7) (fuel := 2) (listed' := lst 10 255) (by kernel_rfl) rfl rfl rfl rfl hlr hlr (.refl _) (RunY.indexAddr tabOK rfl rfl rfl rfl rfl (by omega) (by omega)) ?_
 refine WpD.y (i := 8) (fuel := 1) (listed' := lst 10 511) (by kernel_rfl) rfl rfl rfl rfl hlr hlr (.refl _) (RunY.loadOwn (ci := 0) (cs := [iv (nth [x, y] 0)]) tabOK rfl rfl rfl rfl rfl (own_int (by omega) (by simp))) ?_
 refine WpD.g (listed' := lst 10 1023) tabOK [9] (by kernel_rfl) rfl hlr hlr (.refl _) ?_
 refine WpD.done (by kernel_rfl) ?_
 refine WpG.caseE (t := 25) rfl (fun q25 => ?_) (fun q25 => ?_)
 ·refine WpG.g tabOK 5 rfl ?_
  refine WpG.ownCap (ci := 0) rfl (fun hcap => ?_)
  refine WpG.y rfl rfl rfl rfl (RunY.sliceFrom tabOK rfl rfl rfl rfl rfl (by decide) (by decide) (by omega)) ?_
  refine WpG.g tabOK 9 rfl ?_
  refine WpG.g tabOK 14 rfl ?_
  refine WpG.ownCap (ci := 0) rfl (fun hcap => ?_)
  refine WpG.y rfl rfl rfl rfl (RunY.sliceFrom tabOK rfl rfl rfl rfl rfl (by decide) (by decide) (by omega)) ?_
  refine WpG.clear1 (ci := 0) tabOK rfl rfl rfl rfl rfl rfl rfl rfl rfl rfl rfl ?_
  refine WpG.g tabOK 5 rfl ?_
  refine WpG.ownCap (ci := 0) rfl (fun hcap => ?_)
  refine WpG.y rfl rfl rfl rfl (RunY.sliceTo tabOK rfl rfl rfl rfl rfl (by omega) (by omega)) ?_
  refine WpG.truncOwn (ci := 0) (m := 1) rfl (by omega) ?_
  refine WpG.setL (L' := [Chunk.own 3 1 (some ⟨b, 0, none⟩) c 1 (([x, 0].take 1).map iv)]) (by rw [List.map_take, Nat.mul_one]; rfl) ?_
  refine WpG.g tabOK 2 rfl ?_
  exact WpG.ret tabOK (L' := [Chunk.own 3 1 (some ⟨b, 0, none⟩) c 1 (([x, 0].take 1).map iv)]) (.tmp rfl .nil) (.cons_cons _ .slnil) ⟨rfl, by simp only [compact2]; rw [if_pos (show x = y from q25.symm)]; rfl, by simp only [compact2]; rw [if_pos (show x = y from q25.symm)]; rfl⟩
 refine WpG.gw tabOK 6 15 (v := .int .i64 2) rfl rfl ?_
 refine WpG.g tabOK 3 rfl ?_
 refine WpG.g tabOK 15 rfl ?_
 exact WpG.ret tabOK (L' := [Chunk.own 3 1 (some ⟨b, 0, none⟩) c 2 ([x, y].map iv)]) (.tmp rfl .nil) (.cons_cons _ .slnil) ⟨rfl, by simp only [compact2]; rw [if_neg (fun e => q25 (show y = x from e.symm))]; rfl, by simp only [compact2]; rw [if_neg (fun e => q25 (show y = x from e.symm))]; rfl⟩
end Go.Proofs.YtakameggkkjcpaaGreat
namespace Go.Proofs.YtakameggkkjcpaaGreat
open Go Go.RowKit
def ofOK (n : Int) (b : BlockD) : Bool := goesD b.en.kind == (b.en.to.length : Int) && !(b.en.to.any fun k => decide (k < 1) || decide (k ≥ n))
def succOf (b : BlockD) : List Int := compact2 (sortD b.en.to)
def ofD (f : FuncD) : GraphD × Int := if (f.blocks.length : Int) > 64 then (⟨[], []⟩, 5) else if f.blocks.all (ofOK f.blocks.length) then makeD (f.blocks.map succOf) else (⟨[], []⟩, 5)
theorem compact2_len (l : List Int) : (compact2 l).length ≤ l.length := by
  unfold compact2
  split
  · split <;> simp
  · exact Nat.le_refl _
theorem compact2_sub {l : List Int} {x : Int} (h : x ∈ compact2 l) : x ∈ l := by
  unfold compact2 at h
  split at h
  · split at h
    · simp at h; simp [h]
    · exact h
  · exact h
theorem sortD_mem {l : List Int} {x : Int} : x ∈ sortD l ↔ x ∈ l := List.mem_mergeSort
theorem succOf_all {b : BlockD} (h : AllI b.en.to) : AllI (succOf b) := AllI_iff.2 fun x hx => AllI_iff.1 h x (sortD_mem.1 (compact2_sub hx))
theorem goesD_le (k : Int) : goesD k ≤ 2 := by unfold goesD; repeat' split; all_goals omega
theorem Compact_calls {H : Hp} {A : Option Addr} {c : Nat} {l : List Int} (hl : l.length ≤ 2) {n : Nat} (hn : n = l.length) : CallG Tryz.prog 38 [.slice A n c] H [Chunk.own 3 1 A c n (l.map iv)]
    fun v H' L' => H' = H ∧ v = .slice A (compact2 l).length c ∧ L' = [Chunk.own 3 1 A c (compact2 l).length ((compact2 l).map iv)] := by
  subst hn
  by_cases h2 : l.length < 2
  · have e : compact2 l = l := by
      unfold compact2; split
      · simp at h2
      · rfl
    rw [e]
    exact Compact_short h2
  · match l, hl, h2 with
    | [x, y], _, _ =>
      refine ⟨(Compact_two (H := H) (b := 0) (c := c) (x := x) (y := y)).1, fun w hw => ?_⟩
      have hown : w.ownsRow 0 3 1 (.slice A 2 c) 2 ([x, y].map iv) := hw.holds _ (.head _)
      rcases hown.2 with ⟨e0, hn⟩ | ⟨g, cap, cur, e0, _⟩
      · cases hn
      · simp only [Value.slice.injEq, true_and] at e0
        obtain ⟨rfl, rfl⟩ := e0
        exact Compact_two.2 w hw
    | [], _, h2 => simp at h2
    | [_], _, h2 => simp at h2
    | _ :: _ :: _ :: _, hl, _ => simp at hl
theorem of_no1 {f : FuncD} (h : (f.blocks.length : Int) > 64) : ofD f = (⟨[], []⟩, 5) := by unfold ofD; rw [if_pos h]
theorem of_no2 {f : FuncD} (h : ¬ (f.blocks.length : Int) > 64) (h2 : f.blocks.all (ofOK f.blocks.length) = false) : ofD f = (⟨[], []⟩, 5) := by unfold ofD; rw [if_neg h, h2]; rfl
theorem of_yes {f : FuncD} (h : ¬ (f.blocks.length : Int) > 64) (h2 : f.blocks.all (ofOK f.blocks.length) = true) : ofD f = makeD (f.blocks.map succOf) := by unfold ofD; rw [if_neg h, if_pos h2]
theorem Of_no {f : FuncD} {H : Hp} (h : ofD f = (⟨[], []⟩, 5)) : ∃ A c A' c', Value.tuple #[.agg #[.slice none 0 0, .slice none 0 0], .int .i64 5] = .tuple #[.agg #[.slice A (ofD f).1.succ.length c, .slice A' (ofD f).1.pred.length c'], .int .i64 (ofD f).2] ∧
    (ofD f).1.succ.length ≤ c ∧ RdS H A (ofD f).1.succ ∧ (ofD f).1.pred.length ≤ c' ∧ RdS H A' (ofD f).1.pred ∧ ([] : List Chunk) = [] := by
  rw [h]
  exact ⟨none, 0, none, 0, rfl, Nat.le_refl _, RdS.nil _ _, Nat.le_refl _, RdS.nil _ _, rfl⟩
theorem ofOK_a {n : Int} {b : BlockD} (h : goesD b.en.kind ≠ (b.en.to.length : Int)) : ofOK n b = false := by
  unfold ofOK; rw [beq_false_of_ne h]; rfl
theorem ofOK_b {n : Int} {b : BlockD} (h : goesD b.en.kind = (b.en.to.length : Int)) (t : Bool) (h2 : (b.en.to.any fun k => decide (k < 1) || decide (k ≥ n)) = t) : ofOK n b = !t := by
  unfold ofOK; rw [h2, h]; simp
theorem of_bad {f : FuncD} {i : Int} {x : BlockD} (h0 : 0 ≤ i) (h1 : i < f.blocks.length) (hx : x = nth f.blocks i) (hp : ofOK f.blocks.length x = false) : f.blocks.all (ofOK f.blocks.length) = false := by
  rw [List.all_eq_false]
  exact ⟨x, hx ▸ nth_mem h0 h1, by simp [hp]⟩
theorem map_snoc {α β : Type} [Inhabited α] (g : α → β) {xs : List α} {i : Int} {x : α} (h0 : 0 ≤ i) (h1 : i < xs.length) (hx : x = nth xs i) : (xs.take (i + 1).toNat).map g = (xs.take i.toNat).map g ++ [g x] := by
  rw [take_snoc_nth h0 h1, List.map_append, ← hx]; rfl
end Go.Proofs.YtakameggkkjcpaaGreat
set_option maxRecDepth 4000
namespace Go.Proofs.YtakameggkkjcpaaGreat
open Go Go.RowKit
theorem Of1_calls {H : Hp} {b : Nat} {n : Int} (k : Int) (hb : HCells H b 0 [.int .i64 n]) : CallG Tryz.prog 37 [.int .i64 k, .pointer (some ⟨b, 0, none⟩)] H [] (fun v _ L' => v = .bool (decide (k < 1) || decide (k ≥ n)) ∧ L' = []) := by
 refine CallG.of Tryz.func37 rfl rfl rfl fun w0 => ?_
 refine WpG.g tabOK 9 rfl ?_
 refine WpG.caseD (t := 6) rfl (fun q6 => ?_) (fun q6 => ?_)
 ·refine WpG.g tabOK 6 rfl ?_
  exact WpG.ret tabOK (L' := []) (.tmp rfl .nil) .slnil ⟨congrArg Value.bool (by simp [*]), rfl⟩
 refine WpG.g tabOK 1 rfl ?_
 refine WpG.y rfl rfl rfl rfl (RunY.loadH tabOK hb hlr rfl rfl rfl rfl) ?_
 refine WpG.g tabOK 4 rfl ?_
 exact WpG.ret tabOK (L' := []) (.tmp rfl .nil) .slnil ⟨congrArg Value.bool (by simp [*]), rfl⟩
theorem Make_n {H : Hp} {A : Option Addr} {n c : Nat} {s : List (List Int)} (hs : RdS H A s) (hn : n = s.length) : CallG Tryz.prog 41 [.slice A n c] H [] (fun v H' L' => ∃ A c A' c', v = .tuple #[.agg #[.slice A (makeD s).1.succ.length c, .slice A' (makeD s).1.pred.length c'], .int .i64 (makeD s).2] ∧ (makeD s).1.succ.length ≤ c ∧ RdS H' A (makeD s).1.succ ∧ (makeD s).1.pred.length ≤ c' ∧ RdS H' A' (makeD s).1.pred ∧ L' = []) := by
 subst hn
 exact Make_calls hs
theorem Of_calls {H : Hp} {f : FuncD} {cs_f : List Value} (rd_f : Rdc.rd H cs_f f) : CallG Tryz.prog 19 [.agg cs_f.toArray] H [] (fun v H' L' => ∃ A c A' c', v = .tuple #[.agg #[.slice A (ofD f).1.succ.length c, .slice A' (ofD f).1.pred.length c'], .int .i64 (ofD f).2] ∧ (ofD f).1.succ.length ≤ c ∧ RdS H' A (ofD f).1.succ ∧ (ofD f).1.pred.length ≤ c' ∧ RdS H' A' (ofD f).1.pred ∧ L' = []) := by
 have rd_f' := rd_f; obtain ⟨A_f_0, c_f_0, A_f_2, c_f_2, rfl, u_f_0, r_f_0, u_f_2, r_f_2, k_f_0⟩ := rd_f
 have bs := r_f_2.1
 refine CallG.of Tryz.func19 rfl rfl rfl fun w0 => ?_
 refine WpG.g tabOK 2 rfl ?_
 refine WpG.box rfl rfl rfl rfl rfl (fun b1 => ?_)
 refine WpG.alloc tabOK rfl rfl rfl rfl rfl (fun b2 => ?_)
 refine WpG.g tabOK 5 rfl ?_
 refine WpG.y rfl rfl rfl rfl (RunY.loadBox (ci := 1) tabOK rfl rfl rfl rfl) ?_
 refine WpG.g tabOK 1 rfl ?_
 refine WpG.alloc tabOK rfl rfl rfl rfl rfl (fun b3 => ?_)
 refine WpG.storeBox (ci := 0) (cs' := [.int .i64 (f.blocks.length : Int)]) tabOK rfl rfl rfl rfl rfl rfl rfl rfl rfl ?_
 refine WpG.freezeBox (ci := 0) rfl (fun H4 hH4 hc4 => ?_)
 refine WpG.g tabOK 4 rfl ?_
 refine WpG.y rfl rfl rfl rfl (RunY.loadH tabOK hc4 hlr rfl rfl rfl rfl) ?_
 refine WpG.g tabOK 2 rfl ?_
 refine WpG.caseD (t := 12) rfl (fun q12 => ?_) (fun q12 => ?_)
 ·refine WpG.g tabOK 4 rfl ?_
  refine WpG.storeBox (ci := 0) (cs' := [.slice none 0 0, .slice none 0 0]) tabOK rfl rfl rfl rfl rfl rfl rfl rfl rfl ?_
  refine WpG.g tabOK 2 rfl ?_
  exact WpG.ret tabOK (L' := []) (.cell (ci := 0) rfl rfl rfl rfl (.tmp rfl .nil)) (.cons _ (.cons _ .slnil)) (Of_no (of_no1 q12))
 refine WpG.g tabOK 10 rfl ?_
 refine WpG.y rfl rfl rfl rfl (RunY.loadBox (ci := 1) tabOK rfl rfl rfl rfl) ?_
 refine WpG.g tabOK 5 rfl ?_
 refine WpG.ownNil 22 1 ?_
 refine WpG.wk (WpG.ind6 (fun (i : Int) (A5 : Option Addr) (n5 : Nat) (c5 : Nat) (cs : List Value) (G : Hp) => ⟨(f.blocks.length - i).toNat, [(2, .pointer (some ⟨b2, 0, none⟩)), (4, .pointer (some ⟨b3, 0, none⟩)), (5, .slice A5 n5 c5), (15, .slice A_f_2 f.blocks.length c_f_2), (16, .int .i64 (f.blocks.length : Int)), (17, .int .i64 i)], G, [Chunk.own 22 1 A5 c5 n5 cs, Chunk.box b2 [.slice none 0 0, .slice none 0 0] 46, Chunk.box b1 [.slice A_f_0 f.params.length c_f_0, .int .i64 f.ret, .slice A_f_2 f.blocks.length c_f_2] 25], 0 ≤ i ∧ i ≤ f.blocks.length ∧ n5 = i ∧ H4.le G ∧ RdL G cs ((f.blocks.take i.toNat).map succOf) ∧ (f.blocks.take i.toNat).all (ofOK f.blocks.length) = true⟩) ?_ 0 none 0 0 [] H4 ⟨by omega, by omega, by simp, Hp.le.refl _, rfl, rfl⟩) rfl
 intro i A5 n5 c5 cs G inv ih1
 obtain ⟨i0, i1, i2, i3, i4, i5⟩ := inv
 refine WpG.g tabOK 5 rfl ?_
 refine WpG.caseD (t := 18) rfl (fun q18 => ?_) (fun q18 => ?_)
 ·refine WpG.g tabOK 6 rfl ?_
  refine WpG.indexR tabOK rfl rfl rfl rfl rfl rfl rfl rfl rfl r_f_2 (by omega) (by omega) ?_
  rintro x5 hx5 b5 o5 cs5 rd5 hc5
  have rd5' := rd5; obtain ⟨A5_0, c5_0, A5_1, c5_1, A5_4, c5_4, rfl, u5_0, r5_0, u5_1, r5_1, u5_4, r5_4, k5_0, k5_1⟩ := rd5
  refine WpG.y rfl rfl rfl rfl (RunY.loadH tabOK hc5 (hH4.trans i3) rfl rfl rfl rfl) ?_
  refine WpG.alloc tabOK rfl rfl rfl rfl rfl (fun b6 => ?_)
  refine WpG.storeBox (ci := 0) (cs' := [.slice A5_0 x5.phis.length c5_0, .slice A5_1 x5.ops.length c5_1, .int .i64 x5.en.kind, .int .i64 x5.en.arg, .slice A5_4 x5.en.to.length c5_4]) tabOK rfl rfl rfl rfl rfl rfl rfl rfl rfl ?_
  refine WpG.g tabOK 3 rfl ?_
  refine WpG.draw 16 [Chunk.box b6 [.slice A5_0 x5.phis.length c5_0, .slice A5_1 x5.ops.length c5_1, .int .i64 x5.en.kind, .int .i64 x5.en.arg, .slice A5_4 x5.en.to.length c5_4] 43, Chunk.own 22 1 A5 c5 n5 cs, Chunk.box b2 [.slice none 0 0, .slice none 0 0] 46, Chunk.box b1 [.slice A_f_0 f.params.length c_f_0, .int .i64 f.ret, .slice A_f_2 f.blocks.length c_f_2] 25] mixed (by kernel_rfl) ?_
  refine WpD.g (listed' := lst 16 51) tabOK [0, 1, 4, 5] (by kernel_rfl) rfl (hH4.trans i3) hlr (.refl _) ?_
  refine WpD.y (i := 2) (fuel := 11) (listed' := lst 16 55) (by kernel_rfl) rfl rfl rfl rfl (hH4.trans i3) hlr (.refl _) (RunY.loadBox (ci := 0) tabOK rfl rfl rfl rfl) ?_
  refine WpD.y (i := 6) (fuel := 10) (listed' := lst 16 119) (by kernel_rfl) rfl rfl rfl rfl (hH4.trans i3) hlr (.refl _) (RunY.loadBox (ci := 0) tabOK rfl rfl rfl rfl) ?_
  refine WpD.g (listed' := lst 16 247) tabOK [7] (by kernel_rfl) rfl (hH4.trans i3) hlr (.refl _) ?_
  refine WpD.callS (i := 3) (fuel := 8) (listed' := lst 16 255) (by kernel_rfl) rfl rfl rfl rfl rfl rfl hlr (goes_calls x5.en.kind) (hH4.trans i3) hlr (.refl _) ?_
  refine WpD.g (listed' := lst 16 1023) tabOK [8, 9] (by kernel_rfl) rfl (hH4.trans i3) hlr (.refl _) ?_
  refine WpD.caseN (t := 30) rfl (fun q30 => ?_) (fun q30 => ?_)
  ·refine WpD.g (listed' := lst 16 65535) tabOK [10, 11, 12, 13, 14, 15] (by kernel_rfl) rfl (hH4.trans i3) hlr (.refl _) ?_
   refine WpD.done (by kernel_rfl) ?_
   refine WpG.g tabOK 4 rfl ?_
   refine WpG.storeBox (ci := 2) (cs' := [.slice none 0 0, .slice none 0 0]) tabOK rfl rfl rfl rfl rfl rfl rfl rfl rfl ?_
   refine WpG.g tabOK 2 rfl ?_
   exact WpG.ret tabOK (L' := []) (.cell (ci := 2) rfl rfl rfl rfl (.tmp rfl .nil)) (.cons _ (.cons _ (.cons _ (.cons _ .slnil)))) (Of_no (of_no2 q12 (of_bad i0 q18 hx5 (ofOK_a q30))))
  refine WpD.g (listed' := lst 16 12287) tabOK [10, 11, 13] (by kernel_rfl) rfl (hH4.trans i3) hlr (.refl _) ?_
  refine WpD.y (i := 12) (fuel := 2) (listed' := lst 16 16383) (by kernel_rfl) rfl rfl rfl rfl (hH4.trans i3) hlr (.refl _) (RunY.loadBox (ci := 0) tabOK rfl rfl rfl rfl) ?_
  refine WpD.callS (i := 14) (fuel := 1) (listed' := lst 16 32767) (by kernel_rfl) rfl rfl rfl rfl rfl rfl hlr (ContainsFunc_int (r5_4.mono (hH4.trans i3)) (p := fun k => decide (k < 1) || decide (k ≥ (f.blocks.length : Int))) (fun x _ => Of1_calls x (hc4.mono i3))) (hH4.trans i3) hlr (.refl _) ?_
  refine WpD.g (listed' := lst 16 65535) tabOK [15] (by kernel_rfl) rfl (hH4.trans i3) hlr (.refl _) ?_
  refine WpD.done (by kernel_rfl) ?_
  refine WpG.caseB (t := 36) rfl (fun q36 => ?_) (fun q36 => ?_)
  ·refine WpG.g tabOK 4 rfl ?_
   refine WpG.storeBox (ci := 2) (cs' := [.slice none 0 0, .slice none 0 0]) tabOK rfl rfl rfl rfl rfl rfl rfl rfl rfl ?_
   refine WpG.g tabOK 2 rfl ?_
   exact WpG.ret tabOK (L' := []) (.cell (ci := 2) rfl rfl rfl rfl (.tmp rfl .nil)) (.cons _ (.cons _ (.cons _ (.cons _ .slnil)))) (Of_no (of_no2 q12 (of_bad i0 q18 hx5 (ofOK_b q30 _ q36))))
  have hle := goesD_le x5.en.kind
  have hlt : x5.en.to.length ≤ 2 := by omega
  refine WpG.g tabOK 6 rfl ?_
  refine WpG.y rfl rfl rfl rfl (RunY.loadBox (ci := 0) tabOK rfl rfl rfl rfl) ?_
  refine WpG.call0 rfl rfl rfl rfl rfl rfl (Values_calls A5_4 x5.en.to.length c5_4) ?_
  rintro _ H7 _ hH7 ⟨bs7, rfl, hB7, rfl⟩
  refine WpG.call0 rfl rfl rfl rfl rfl rfl (Sorted_calls (r5_4.mono ((hH4.trans i3).trans hH7)) (by omega) hB7) ?_
  rintro _ H1 _ - ⟨eH, A8, c8, rfl, rfl⟩
  rw [eH]; clear eH H1
  refine WpG.call1 (ci := 0) rfl rfl rfl rfl rfl rfl rfl (Compact_calls (l := (sortD x5.en.to)) (by rw [sortD_len]; omega) (by rw [sortD_len])) ?_
  rintro _ H1 _ - ⟨eH, rfl, rfl⟩
  rw [eH]; clear eH H1
  refine WpG.ownCap (ci := 0) rfl (fun uz9 => ?_)
  refine WpG.freezeOwn (ci := 0) rfl (fun H9 hH9 fz9 => ?_)
  have rz9 : RdS H9 A8 (compact2 (sortD x5.en.to)) := RdS.of_own (H := H7) (show RdL H7 ((compact2 (sortD x5.en.to)).map iv) (compact2 (sortD x5.en.to)) from RdL_ints _ (succOf_all (AllI_of r5_4))) (rfl) (by have h1 := compact2_len (sortD x5.en.to); rw [sortD_len] at h1; omega) hH9 fz9
  refine WpG.buildSlice (xs := [.slice A8 ((compact2 (sortD x5.en.to)).length) c8]) tabOK rfl rfl rfl rfl rfl rfl rfl rfl rfl rfl (fun b10 => ?_)
  refine WpG.append (ci := 2) tabOK rfl rfl rfl rfl rfl rfl rfl rfl rfl rfl rfl rfl (Src.own (ci := 0) rfl) (by omega) (fun A12 c13 => ?_)
  refine WpG.dropL (L' := [Chunk.box b6 [.slice A5_0 x5.phis.length c5_0, .slice A5_1 x5.ops.length c5_1, .int .i64 x5.en.kind, .int .i64 x5.en.arg, .slice A5_4 x5.en.to.length c5_4] 43, Chunk.own 22 1 A12 c13 (n5 + 1) (cs ++ [.slice A8 ((compact2 (sortD x5.en.to)).length) c8]), Chunk.box b2 [.slice none 0 0, .slice none 0 0] 46, Chunk.box b1 [.slice A_f_0 f.params.length c_f_0, .int .i64 f.ret, .slice A_f_2 f.blocks.length c_f_2] 25]) (.cons _ (.cons_cons _ (.cons_cons _ (.cons_cons _ (.cons_cons _ .slnil))))) ?_
  refine WpG.gw tabOK 5 47 rfl (wrk (x := i + 1) (by omega) (by omega)) ?_
  refine WpG.g tabOK 3 rfl ?_
  refine WpG.dropL (L' := [Chunk.own 22 1 A12 c13 (n5 + 1) (cs ++ [.slice A8 ((compact2 (sortD x5.en.to)).length) c8]), Chunk.box b2 [.slice none 0 0, .slice none 0 0] 46, Chunk.box b1 [.slice A_f_0 f.params.length c_f_0, .int .i64 f.ret, .slice A_f_2 f.blocks.length c_f_2] 25]) (.cons _ (.cons_cons _ (.cons_cons _ (.cons_cons _ .slnil)))) ?_
  refine WpG.wk (ih1 (i + 1) A12 (n5 + 1) c13 (cs ++ [.slice A8 ((compact2 (sortD x5.en.to)).length) c8]) H9 ?_ ?_) rfl
  ·dsimp only
   omega
  clear ih1
  exact ⟨by omega, by omega, by omega, i3.trans (hH7.trans hH9), by rw [map_snoc succOf i0 q18 hx5]; exact (i4.mono (hH7.trans hH9)).snoc ⟨_, _, rfl, uz9, rz9⟩, by rw [take_snoc_nth i0 q18, List.all_append, i5, ← hx5]; simp [ofOK_b q30 _ q36]⟩
 obtain rfl : n5 = f.blocks.length := by omega
 refine WpG.g tabOK 5 rfl ?_
 refine WpG.ownCap (ci := 0) rfl (fun uz14 => ?_)
 refine WpG.freezeOwn (ci := 0) rfl (fun H14 hH14 fz14 => ?_)
 have rz14 : RdS H14 A5 (f.blocks.map succOf) := RdS.of_own (H := G) (show RdL G cs (f.blocks.map succOf) from by have h := i4; rw [List.take_of_length_le (by omega)] at h; exact h) ((by rw [List.length_map])) (by rw [List.length_map]; omega) hH14 fz14
 refine WpG.call0 rfl rfl rfl rfl rfl rfl (Make_n rz14 (by rw [List.length_map])) ?_
 rintro _ H15 _ hH15 ⟨A15, c15, B15, d15, rfl, ua15, ra15, ub15, rb15, rfl⟩
 refine WpG.g tabOK 2 rfl ?_
 refine WpG.storeBox (ci := 0) (cs' := [.slice A15 ((makeD (f.blocks.map succOf)).1.succ.length) c15, .slice B15 ((makeD (f.blocks.map succOf)).1.pred.length) d15]) tabOK rfl rfl rfl rfl rfl rfl rfl rfl rfl ?_
 refine WpG.g tabOK 2 rfl ?_
 exact WpG.ret tabOK (L' := []) (.cell (ci := 0) rfl rfl rfl rfl (.tmp rfl .nil)) (.cons _ (.cons _ .slnil)) (by rw [of_yes q12 (by have h := i5; rw [List.take_of_length_le (by omega)] at h; exact h)]; exact ⟨_, _, _, _, rfl, ua15, ra15, ub15, rb15, rfl⟩)
end Go.Proofs.YtakameggkkjcpaaGreat
namespace Go.Proofs.YtakameggkkjcpaaGreat
open Go Go.RowKit
def entsF : Nat → List (Int × Value) → List MapEntry
  | _, [] => []
  | j, (k, v) :: l => ⟨.int .i64 k, v, j⟩ :: entsF (j + 1) l
def mget {α : Type} : List (Int × α) → Int → Option α
  | [], _ => none
  | (a, x) :: l, k => if a = k then some x else mget l k
def mput {α : Type} : List (Int × α) → Int → α → List (Int × α)
  | [], k, v => [(k, v)]
  | (a, x) :: l, k, v => if a = k then (k, v) :: l else (a, x) :: mput l k v
def mix {α : Type} : List (Int × α) → Int → Option Nat
  | [], _ => none
  | (a, _) :: l, k => if a = k then some 0 else (mix l k).map (· + 1)
theorem mix_none {α : Type} : ∀ {l : List (Int × α)} {k : Int}, mix l k = none → mget l k = none ∧ ∀ v, mput l k v = l ++ [(k, v)]
  | [], k, _ => ⟨rfl, fun _ => rfl⟩
  | (a, x) :: l, k, h => by
    by_cases e : a = k
    · simp [mix, e] at h
    · simp only [mix, if_neg e, Option.map_eq_none_iff] at h
      obtain ⟨h1, h2⟩ := mix_none h
      exact ⟨by simp [mget, e, h1], fun v => by simp [mput, e, h2]⟩
theorem mix_some {α : Type} : ∀ {l : List (Int × α)} {k : Int} {i : Nat}, mix l k = some i → ∃ v, mget l k = some v ∧ i < l.length ∧ l[i]? = some (k, v)
  | [], k, i, h => by cases h
  | (a, x) :: l, k, i, h => by
    by_cases e : a = k
    · subst e
      simp [mix] at h; subst h
      exact ⟨x, by simp [mget], by simp, by simp⟩
    · simp only [mix, if_neg e, Option.map_eq_some_iff] at h
      obtain ⟨j, hj, rfl⟩ := h
      obtain ⟨v, h1, h2, h3⟩ := mix_some hj
      exact ⟨v, by simp [mget, e, h1], by simp; omega, by simpa using h3⟩
theorem findNow_ents (q : Int) : ∀ (l : List (Int × Value)) (j i : Nat), Instr.findNow (.int .i64) (.int .i64 q) (entsF j l) i = some (match mix l q with | none => none | some p => some (i + p, (mget l q).getD undef))
  | [], _, _ => rfl
  | (a, x) :: l, j, i => by
    simp only [entsF, Instr.findNow, Instr.sameNow, if_true]
    by_cases e : a = q
    · subst e
      simp [mix, mget]
    · have e2 : (q == a) = false := by simpa using fun h => e h.symm
      simp only [e2, findNow_ents q l (j + 1) (i + 1), mix, mget, if_neg e]
      cases mix l q with
      | none => rfl
      | some p => simp only [Option.map_some]; congr 3; omega
theorem modify_ents (q : Int) (v : Value) : ∀ (l : List (Int × Value)) (j p : Nat), mix l q = some p → (entsF j l).modify p (fun e => { e with key := .int .i64 q, val := v }) = entsF j (mput l q v)
  | [], _, _, h => by cases h
  | (a, x) :: l, j, p, h => by
    by_cases e : a = q
    · subst e
      simp [mix] at h; subst h
      simp [entsF, mput]
    · simp only [mix, if_neg e, Option.map_eq_some_iff] at h
      obtain ⟨p', hp, rfl⟩ := h
      simp [entsF, mput, e, modify_ents q v l (j + 1) p' hp]
theorem entsF_snoc (q : Int) (v : Value) : ∀ (l : List (Int × Value)) (j : Nat), entsF j (l ++ [(q, v)]) = entsF j l ++ [⟨.int .i64 q, v, j + l.length⟩]
  | [], j => rfl
  | (a, x) :: l, j => by
    simp only [List.cons_append, entsF, entsF_snoc q v l (j + 1), List.length_cons]
    congr 4; omega
theorem mput_len {α : Type} (q : Int) (v : α) : ∀ (l : List (Int × α)), mput l q v = l ++ [(q, v)] ∨ (mput l q v).length = l.length
  | [] => .inl rfl
  | (a, x) :: l => by
    by_cases e : a = q
    · right; simp [mput, e]
    · rcases mput_len q v l with h | h
      · left; simp [mput, e, h]
      · right; simp [mput, e, h]
theorem mput_len' {α : Type} {q : Int} {v : α} : ∀ {l : List (Int × α)} {p : Nat}, mix l q = some p → (mput l q v).length = l.length
  | [], _, h => by cases h
  | (a, x) :: l, p, h => by
    by_cases e : a = q
    · simp [mput, e]
    · simp only [mix, if_neg e, Option.map_eq_some_iff] at h
      obtain ⟨p', hp, rfl⟩ := h
      simp [mput, e, mput_len' hp]
def mobj (l : List (Int × Value)) : Obj := .map (entsF 0 l).toArray l.length
def Chunk.imap (b : Nat) (l : List (Int × Value)) : Chunk where
  blk := some b
  holds w := w.heap[b]? = some (mobj l)
  lt w h b' e := by cases e; exact lt_of_get h
  loc w w' h k := (k b rfl).trans h
section
variable {P : Program} {T : List TRow} {fn : Func} {w0 : World} {H0 : Hp} {X : List Nat} {k : List Item} {F : Fk} {H : Hp} {L : List Chunk} {R : Ending → World → Prop} {ops : Array Oper} {ty : TypeId} {pos : String} {af : Array Edge} {g : Option (Nat × Bool)} {dst : Option Nat}
theorem RowOK.int {t : Nat} {r : TRow} {q : IntKind} (h : RowOK P t r) (hk : r.kind = .int q) : P.underlying t = some (.int q) := by
  obtain ⟨d, hd, e⟩ := h.under
  rw [hk] at e
  cases d <;> simp only [TK.of, reduceCtorEq, TK.int.injEq] at e
  subst e; exact hd
theorem RowOK.map {t a e : Nat} {r : TRow} (h : RowOK P t r) (hk : r.kind = .map a e) : P.underlying t = some (.map a e) := by
  obtain ⟨d, hd, e'⟩ := h.under
  rw [hk] at e'
  cases d <;> simp only [TK.of, reduceCtorEq, TK.map.injEq] at e'
  obtain ⟨rfl, rfl⟩ := e'; exact hd
theorem run_findKey {kt : Nat} (hk : P.underlying kt = some (.int .i64)) (q : Int) (l : List (Int × Value)) (w : World) :
    (Instr.findKey kt (.int .i64 q) (entsF 0 l)).run P w = .ok (match mix l q with | none => none | some p => some (p, (mget l q).getD undef)) w := by
  unfold Instr.findKey
  simp only [Sem.run_bind, run_underlying hk, Result.andThen_ok, findNow_ents q l 0 0]
  cases mix l q <;> simp
theorem run_checkKey {kt : Nat} (hk : P.underlying kt = some (.int .i64)) (b : Bool) (q : Int) (w : World) : (Instr.checkKey b 10000 kt (.int .i64 q)).run P w = .ok () w := by
  show (Instr.checkKey b (9999 + 1) kt (.int .i64 q)).run P w = .ok () w
  unfold Instr.checkKey
  simp [run_underlying hk]
theorem run_lookup (hT : TabOK P T) {t kt et : Nat} {r rk re : TRow} (hr : trow T t = some r) (hm : r.kind = .map kt et) (hrk : trow T kt = some rk) (hk : rk.kind = .int .i64) (hre : trow T et = some re)
    {w : World} {b : Nat} {l : List (Int × Value)} (hb : w.heap[b]? = some (mobj l)) (q : Int) (ok : Bool) :
    (Instr.lookup t (.map (some b)) (.int .i64 q) ok).run P w = .ok (if ok then .tuple #[(mget l q).getD re.zero, .bool (mget l q).isSome] else (mget l q).getD re.zero) w := by
  have hg := run_getObj_map (P := P) (w := w) (r := b) (es := (entsF 0 l).toArray) (clock := l.length) hb
  have hkt := (hT.row hrk).int hk
  unfold Instr.lookup
  simp only [Sem.run_bind, run_underlying ((hT.row hr).map hm), Result.andThen_ok, hg, Sem.run_pure, run_checkKey hkt, run_findKey hkt]
  cases hx : mix l q with
  | none =>
    simp only [(mix_none hx).1, (hT.row hre).run_zero, Sem.run_bind, Result.andThen_ok, Sem.run_pure]
    cases ok <;> rfl
  | some p =>
    obtain ⟨v, h1, _, _⟩ := mix_some hx
    simp only [h1, Sem.run_pure, Result.andThen_ok, Option.getD_some, Option.isSome_some]
    cases ok <;> rfl
theorem RunY.lookup (hT : TabOK P T) {t kt et b ci : Nat} {x y : Operand} {r rk re : TRow} {l : List (Int × Value)} {q : Int} {ok : Bool} (hx : evk F x = some (.map (some b))) (hy : evk F y = some (.int .i64 q))
    (hr : trow T t = some r) (hm : r.kind = .map kt et) (hrk : trow T kt = some rk) (hk : rk.kind = .int .i64) (hre : trow T et = some re) (hL : L[ci]? = some (Chunk.imap b l)) :
    RunY P fn w0 H0 X F H L ⟨dst, .lookup t x y ok, ty, pos, af, g⟩ (if ok then .tuple #[(mget l q).getD re.zero, .bool (mget l q).isSome] else (mget l q).getD re.zero) := fun a w ha hs => by
  have hb : w.heap[b]? = some (mobj l) := hs.chunk hL
  have := run_lookup (P := P) hT hr hm hrk hk hre hb q ok
  simp [execOp, ha.eval hx, ha.eval hy, this]
theorem RunY.lookupH (hT : TabOK P T) {t kt et b : Nat} {x y : Operand} {r rk re : TRow} {l : List (Int × Value)} {q : Int} {ok : Bool} {H1 : Hp} (hb : H1 b = some (mobj l)) (hH : H1.le H) (hx : evk F x = some (.map (some b))) (hy : evk F y = some (.int .i64 q))
    (hr : trow T t = some r) (hm : r.kind = .map kt et) (hrk : trow T kt = some rk) (hk : rk.kind = .int .i64) (hre : trow T et = some re) :
    RunY P fn w0 H0 X F H L ⟨dst, .lookup t x y ok, ty, pos, af, g⟩ (if ok then .tuple #[(mget l q).getD re.zero, .bool (mget l q).isSome] else (mget l q).getD re.zero) := fun a w ha hs => by
  have hb' : w.heap[b]? = some (mobj l) := hs.sub b _ (hH b _ hb)
  have := run_lookup (P := P) hT hr hm hrk hk hre hb' q ok
  simp [execOp, ha.eval hx, ha.eval hy, this]
theorem Chg.putObj {w : World} {b : Nat} (o : Obj) (X : List Nat) (hb : b ∈ X) : Chg X w (w.putObj b o) :=
  ⟨rfl, rfl, rfl, by simp, fun k _ hk => World.putObj_heap_other (fun e => hk (e ▸ hb))⟩
theorem run_mapUpdate (hT : TabOK P T) {t kt et : Nat} {r rk : TRow} (hr : trow T t = some r) (hm : r.kind = .map kt et) (hrk : trow T kt = some rk) (hk : rk.kind = .int .i64)
    {w : World} {b : Nat} {l : List (Int × Value)} (hb : w.heap[b]? = some (mobj l)) (q : Int) (v : Value) :
    (Instr.mapUpdate t (.map (some b)) (.int .i64 q) v).run P w = .ok () (w.putObj b (mobj (mput l q v))) := by
  have hg := run_getObj_map (P := P) (w := w) (r := b) (es := (entsF 0 l).toArray) (clock := l.length) hb
  have hkt := (hT.row hrk).int hk
  have hset : ∀ o : Obj, (setObj b o).run P w = .ok () (w.putObj b o) := fun o => by simp [setObj, Sem.run, hb, mobj, World.putObj]
  unfold Instr.mapUpdate
  simp only [Sem.run_bind, run_underlying ((hT.row hr).map hm), Result.andThen_ok, hg, run_checkKey hkt, run_findKey hkt]
  cases hx : mix l q with
  | none =>
    simp only [hset]
    congr 2
    unfold mobj
    rw [(mix_none hx).2 v, entsF_snoc]
    simp
  | some p =>
    obtain ⟨v0, h1, h2, h3⟩ := mix_some hx
    have hkey : (((entsF 0 l).toArray[p]?).map (·.key)).getD (.int .i64 q) = .int .i64 q := by
      have : ∀ (l : List (Int × Value)) (j p : Nat), mix l q = some p → ((entsF j l)[p]?).map (·.key) = some (.int .i64 q) := by
        intro l
        induction l with
        | nil => intro j p h; cases h
        | cons c l ih =>
          obtain ⟨a, x⟩ := c
          intro j p h
          by_cases e : a = q
          · subst e; simp [mix] at h; subst h; simp [entsF]
          · simp only [mix, if_neg e, Option.map_eq_some_iff] at h
            obtain ⟨p', hp, rfl⟩ := h
            simpa [entsF] using ih (j + 1) p' hp
      have h4 := this l 0 p hx
      rw [List.getElem?_toArray, h4]; rfl
    have hst : (Instr.keyThatStays (.int .i64 q) (.int .i64 q)).run P w = .ok (.int .i64 q) w := by
      unfold Instr.keyThatStays
      rw [if_pos (by show Instr.sameBits (9999 + 1) _ _ = true; simp [Instr.sameBits])]
      simp
    simp only [hkey, Sem.run_bind, hst, Result.andThen_ok, hset]
    congr 2
    unfold mobj
    rw [mput_len' hx, ← modify_ents q v l 0 p hx]
    simp
end
end Go.Proofs.YtakameggkkjcpaaGreat
namespace Go.Proofs.YtakameggkkjcpaaGreat
open Go Go.RowKit
def Chunk.iter (r b n : Nat) (seen : List Nat) : Chunk where
  blk := some r
  holds w := w.heap[r]? = some (.mapIter (some b) n seen.toArray n)
  lt w h b' e := by cases e; exact lt_of_get h
  loc w w' h k := (k r rfl).trans h
section
variable {P : Program} {T : List TRow} {fn : Func} {w0 : World} {H0 : Hp} {X : List Nat} {k : List Item} {F : Fk} {H : Hp} {L : List Chunk} {R : Ending → World → Prop} {ops : Array Oper} {ty : TypeId} {pos : String} {af : Array Edge} {g : Option (Nat × Bool)} {dst : Option Nat}
theorem Frz.imap {H1 : Hp} {ci b : Nat} {l : List (Int × Value)} (h : Frz L H H1) (hL : L[ci]? = some (Chunk.imap b l)) : H1 b = some (mobj l) := by
  obtain ⟨_, w, _, hh, hb⟩ := h
  have hg : w.heap[b]? = some (mobj l) := hh _ (List.mem_of_getElem? hL)
  rw [hb b (mem_blks (List.mem_of_getElem? hL) rfl)]; exact hg
theorem OpG.mapUpdate (hT : TabOK P T) {i : Nat} {t kt et b ci : Nat} {x y z : Operand} {r rk : TRow} {l : List (Int × Value)} {q : Int} {v : Value} {o : Oper}
    (ho : ops[i]? = some o) (hop : o.op = .mapUpdate t x y z ∨ o.op = .insert t x y z) (hd : o.dst = none) (hw : wantk ops F o.guard = some true) (hx : evk F x = some (.map (some b))) (hy : evk F y = some (.int .i64 q)) (hz : evk F z = some v)
    (hr : trow T t = some r) (hm : r.kind = .map kt et) (hrk : trow T kt = some rk) (hk : rk.kind = .int .i64) (hL : L[ci]? = some (Chunk.imap b l)) :
    OpG P fn w0 H0 X ops i F H L fun F' H' L' => F' = F ∧ H' = H ∧ L' = L.set ci (Chunk.imap b (mput l q v)) := ⟨_, ho, hw, fun a w ha hs => by
  have hb : w.heap[b]? = some (mobj l) := hs.chunk hL
  have hrun := run_mapUpdate (P := P) hT hr hm hrk hk hb q v
  have hx' := ha.eval hx; have hy' := ha.eval hy; have hz' := ha.eval hz
  refine .skip (w' := w.putObj b (mobj (mput l q v))) ?_ ⟨_, _, _, ⟨rfl, rfl, rfl⟩, by rw [hd]; exact ha.putNone _, hs.set_ hL (SH.one (hs.pre1 hL) (Chg.putObj _ _ (by simp [blks, Chunk.imap])) (World.putObj_heap_same (lt_of_get hb)) (fun b' e => .inl e))⟩
  rcases hop with h | h
  · simp [execOp, h, hx', hy', hz', hrun]
  · simp [execOp, h, hx', hy', hz', hrun]⟩
theorem WpG.mapUpdate (hT : TabOK P T) {i : Nat} {rest : List Nat} {t kt et b ci : Nat} {x y z : Operand} {r rk : TRow} {l : List (Int × Value)} {q : Int} {v : Value} {o : Oper}
    (ho : ops[i]? = some o) (hop : o.op = .mapUpdate t x y z ∨ o.op = .insert t x y z) (hd : o.dst = none) (hw : wantk ops F o.guard = some true) (hx : evk F x = some (.map (some b))) (hy : evk F y = some (.int .i64 q)) (hz : evk F z = some v)
    (hr : trow T t = some r) (hm : r.kind = .map kt et) (hrk : trow T kt = some rk) (hk : rk.kind = .int .i64) (hL : L[ci]? = some (Chunk.imap b l))
    (h : WpG P fn w0 H0 X (.inRegion ops rest :: k) F H (L.set ci (Chunk.imap b (mput l q v))) R) : WpG P fn w0 H0 X (.inRegion ops (i :: rest) :: k) F H L R :=
  WpG.step (OpG.mapUpdate hT ho hop hd hw hx hy hz hr hm hrk hk hL) (by rintro _ _ _ ⟨rfl, rfl, rfl⟩; exact h)
theorem OpG.makeMap {i d t : Nat} (ho : ops[i]? = some ⟨some d, .makeMap t none, ty, pos, af, g⟩) (hw : wantk ops F g = some true) (hn : Nat.blt d fn.ntmps = true) :
    OpG P fn w0 H0 X ops i F H L fun F' H' L' => ∃ b, F' = (d, .map (some b)) :: F ∧ H' = H ∧ L' = Chunk.imap b [] :: L :=
  ⟨_, ho, hw, fun a w ha hs => .value (v := .map (some w.heap.size)) (w' := w.alloc (.map #[] 0)) (by simp [execOp, Instr.makeMap]) ⟨_, _, _, ⟨_, rfl, rfl, rfl⟩, ha.put (by simpa [Nat.blt_eq] using hn) _,
    hs.alloc _ rfl (by show (w.heap.push _)[w.heap.size]? = _; simp [mobj, entsF])⟩⟩
theorem WpG.makeMap {i d t : Nat} {rest : List Nat} (ho : ops[i]? = some ⟨some d, .makeMap t none, ty, pos, af, g⟩) (hw : wantk ops F g = some true) (hn : Nat.blt d fn.ntmps = true)
    (h : ∀ b, WpG P fn w0 H0 X (.inRegion ops rest :: k) ((d, .map (some b)) :: F) H (Chunk.imap b [] :: L) R) : WpG P fn w0 H0 X (.inRegion ops (i :: rest) :: k) F H L R :=
  WpG.step (OpG.makeMap ho hw hn) (by rintro _ _ _ ⟨b, rfl, rfl, rfl⟩; exact h b)
theorem SH.drew {w : World} (h : SH w0 H0 X w H L) : SH w0 H0 X w.drew H L :=
  ⟨⟨h.chg.os, h.chg.tape, h.chg.output, h.chg.size, h.chg.block⟩, h.sub, h.le, h.fresh, fun c hc => c.loc w _ (h.holds c hc) fun _ _ => rfl, h.own, h.nodup⟩
theorem OpG.range (hT : TabOK P T) {i d t kt et b ci : Nat} {x : Operand} {r : TRow} {l : List (Int × Value)} (ho : ops[i]? = some ⟨some d, .range t x, ty, pos, af, g⟩) (hw : wantk ops F g = some true) (hn : Nat.blt d fn.ntmps = true)
    (hx : evk F x = some (.map (some b))) (hr : trow T t = some r) (hm : r.kind = .map kt et) (hL : L[ci]? = some (Chunk.imap b l)) :
    OpG P fn w0 H0 X ops i F H L fun F' H' L' => ∃ s, F' = (d, .pointer (some ⟨s, 0, none⟩)) :: F ∧ H' = H ∧ L' = Chunk.iter s b l.length [] :: L := ⟨_, ho, hw, fun a w ha hs => by
  have hb : w.heap[b]? = some (mobj l) := hs.chunk hL
  have hg := run_getObj_map (P := P) (w := w) (r := b) (es := (entsF 0 l).toArray) (clock := l.length) hb
  exact .value (v := .pointer (some ⟨w.heap.size, 0, none⟩)) (w' := w.alloc (.mapIter (some b) l.length #[] l.length)) (by simp [execOp, ha.eval hx, Instr.range, run_underlying ((hT.row hr).map hm), hg])
    ⟨_, _, _, ⟨_, rfl, rfl, rfl⟩, ha.put (by simpa [Nat.blt_eq] using hn) _, hs.alloc _ rfl (by show (w.heap.push _)[w.heap.size]? = _; simp)⟩⟩
theorem WpG.range (hT : TabOK P T) {i d t kt et b ci : Nat} {rest : List Nat} {x : Operand} {r : TRow} {l : List (Int × Value)} (ho : ops[i]? = some ⟨some d, .range t x, ty, pos, af, g⟩) (hw : wantk ops F g = some true) (hn : Nat.blt d fn.ntmps = true)
    (hx : evk F x = some (.map (some b))) (hr : trow T t = some r) (hm : r.kind = .map kt et) (hL : L[ci]? = some (Chunk.imap b l))
    (h : ∀ s, WpG P fn w0 H0 X (.inRegion ops rest :: k) ((d, .pointer (some ⟨s, 0, none⟩)) :: F) H (Chunk.iter s b l.length [] :: L) R) : WpG P fn w0 H0 X (.inRegion ops (i :: rest) :: k) F H L R :=
  WpG.step (OpG.range hT ho hw hn hx hr hm hL) (by rintro _ _ _ ⟨b, rfl, rfl, rfl⟩; exact h b)
theorem mem_entsF : ∀ {l : List (Int × Value)} {j : Nat} {e : MapEntry}, e ∈ entsF j l → ∃ i kx vx, l[i]? = some (kx, vx) ∧ e = ⟨.int .i64 kx, vx, j + i⟩
  | [], _, _, h => by cases h
  | (a, x) :: l, j, e, h => by
    rcases List.mem_cons.1 h with rfl | h
    · exact ⟨0, a, x, rfl, rfl⟩
    · obtain ⟨i, kx, vx, h1, h2⟩ := mem_entsF h
      exact ⟨i + 1, kx, vx, by simpa using h1, by rw [h2]; congr 1; omega⟩
theorem entsF_mem : ∀ {l : List (Int × Value)} {j i : Nat} {kx : Int} {vx : Value}, l[i]? = some (kx, vx) → (⟨.int .i64 kx, vx, j + i⟩ : MapEntry) ∈ entsF j l
  | [], _, _, _, _, h => by simp at h
  | (a, x) :: l, j, 0, kx, vx, h => by simp at h; obtain ⟨rfl, rfl⟩ := h; exact .head _
  | (a, x) :: l, j, i + 1, kx, vx, h => by
    have := entsF_mem (l := l) (j := j + 1) (i := i) (by simpa using h)
    rw [show j + 1 + i = j + (i + 1) from by omega] at this
    exact .tail _ this
theorem OpG.next {i d b s ci cj : Nat} {x : Operand} {l : List (Int × Value)} {seen : List Nat} (ho : ops[i]? = some ⟨some d, .next x false, ty, pos, af, g⟩) (hw : wantk ops F g = some true) (hn : Nat.blt d fn.ntmps = true)
    (hx : evk F x = some (.pointer (some ⟨s, 0, none⟩))) (hL : L[ci]? = some (Chunk.iter s b l.length seen)) (hM : L[cj]? = some (Chunk.imap b l)) :
    OpG P fn w0 H0 X ops i F H L fun F' H' L' => H' = H ∧ ((F' = (d, .tuple #[.bool false]) :: F ∧ L' = L ∧ ∀ j, j < l.length → j ∈ seen) ∨
      (∃ j kx vx, l[j]? = some (kx, vx) ∧ j ∉ seen ∧ F' = (d, .tuple #[.bool true, .int .i64 kx, vx]) :: F ∧ L' = L.set ci (Chunk.iter s b l.length (seen ++ [j])))) := ⟨_, ho, hw, fun a w ha hs => by
  have hb : w.heap[b]? = some (mobj l) := hs.chunk hM
  have hr : w.heap[s]? = some (.mapIter (some b) l.length seen.toArray l.length) := hs.chunk hL
  have hold : ∀ y ∈ (entsF 0 l).toArray.toList, y.born < l.length := fun y hy => by
    obtain ⟨j, kx, vx, h1, rfl⟩ := mem_entsF hy
    have := (List.getElem?_eq_some_iff.1 h1).1
    simpa using this
  rcases run_next_at (P := P) w ty s b l.length l.length seen.toArray (entsF 0 l).toArray l.length hr hb hold (Nat.le_refl _) with ⟨h0, hrun⟩ | ⟨e, he, w1, hw1, hrun⟩
  · refine .value (v := .tuple #[.bool false]) (w' := w) (by simp [execOp, ha.eval hx, hrun]) ⟨_, _, _, ⟨rfl, .inl ⟨rfl, rfl, fun j hj => ?_⟩⟩, ha.put (by simpa [Nat.blt_eq] using hn) _, hs⟩
    apply Classical.byContradiction
    intro hns
    obtain ⟨⟨kx, vx⟩, hkv⟩ : ∃ p, l[j]? = some p := ⟨_, List.getElem?_eq_getElem hj⟩
    have hm := entsF_mem (j := 0) hkv
    have : (⟨.int .i64 kx, vx, 0 + j⟩ : MapEntry) ∈ leftOf (entsF 0 l).toArray seen.toArray := by
      unfold leftOf
      rw [Array.mem_filter]
      exact ⟨by simpa using hm, by simpa using hns⟩
    have h2 := Array.eq_empty_of_size_eq_zero h0
    rw [h2] at this
    simp at this
  · have he' : e ∈ leftOf (entsF 0 l).toArray seen.toArray := by simpa using he
    unfold leftOf at he'
    rw [Array.mem_filter] at he'
    obtain ⟨j, kx, vx, h1, rfl⟩ := mem_entsF (by simpa using he'.1)
    have hns : j ∉ seen := by simpa using he'.2
    have hs1 : SH w0 H0 X w1 H L := by rcases hw1 with rfl | rfl; exact hs; exact hs.drew
    have hr1 : w1.heap[s]? = some (.mapIter (some b) l.length seen.toArray l.length) := hs1.chunk hL
    have hput : ∀ o, Go.ChangeMaps.setBlock w1 s o = w1.putObj s o := fun o => rfl
    refine .value (v := .tuple #[.bool true, .int .i64 kx, vx]) (w' := Go.ChangeMaps.setBlock w1 s (.mapIter (some b) l.length (seen.toArray.push (0 + j)) l.length)) (by simp [execOp, ha.eval hx, hrun]) ⟨_, _, _, ⟨rfl, .inr ⟨j, kx, vx, h1, hns, rfl, rfl⟩⟩, ha.put (by simpa [Nat.blt_eq] using hn) _, ?_⟩
    rw [hput]
    refine hs1.set_ hL (SH.one (hs1.pre1 hL) (Chg.putObj _ _ (by simp [blks, Chunk.iter])) ?_ (fun b' e => .inl e))
    show (w1.putObj s _).heap[s]? = _
    rw [World.putObj_heap_same (lt_of_get hr1)]
    simp⟩
end
end Go.Proofs.YtakameggkkjcpaaGreat
namespace Go.Proofs.YtakameggkkjcpaaGreat
open Go Go.RowKit
structure DefD where
  blk : Int
  pos : Int
  bits : Int
  lanes : Int
  deriving Inhabited, DecidableEq
abbrev dv (d : DefD) : Value := .agg #[.int .i64 d.blk, .int .i64 d.pos, .int .i64 d.bits, .int .i64 d.lanes]
def encm {α : Type} (enc : α → Value) (ms : List (Int × α)) : List (Int × Value) := ms.map fun p => (p.1, enc p.2)
theorem encm_len {α : Type} (enc : α → Value) (ms : List (Int × α)) : (encm enc ms).length = ms.length := by simp [encm]
theorem encm_get {α : Type} (enc : α → Value) : ∀ (ms : List (Int × α)) (q : Int), mget (encm enc ms) q = (mget ms q).map enc
  | [], _ => rfl
  | (a, x) :: l, q => by
    by_cases e : a = q
    · simp [encm, mget, e]
    · have := encm_get enc l q
      simp only [encm] at this
      simp [encm, mget, e, this]
theorem encm_put {α : Type} (enc : α → Value) : ∀ (ms : List (Int × α)) (q : Int) (v : α), encm enc (mput ms q v) = mput (encm enc ms) q (enc v)
  | [], _, _ => rfl
  | (a, x) :: l, q, v => by
    by_cases e : a = q
    · simp [encm, mput, e]
    · have := encm_put enc l q v
      simp only [encm] at this
      simp [encm, mput, e, this]
theorem own_cell1 {xs : List Value} {off : Nat} {v : Value} (h : xs[off]? = some v) : ∀ (j : Nat) u, [v][j]? = some u → xs[off + j]? = some u := fun j u hu => by
  cases j with
  | zero => simp at hu; subst hu; exact h
  | succ j => simp at hu
section
variable {P : Program} {T : List TRow} {fn : Func} {w0 : World} {H0 : Hp} {X : List Nat} {k : List Item} {F : Fk} {H : Hp} {L : List Chunk} {R : Ending → World → Prop} {ops : Array Oper} {ty : TypeId} {pos : String} {af : Array Edge} {g : Option (Nat × Bool)} {dst : Option Nat}
theorem RunY.lookupT {α : Type} (enc : α → Value) (z : α) (hT : TabOK P T) {t kt et b ci : Nat} {x y : Operand} {r rk re : TRow} {ms : List (Int × α)} {q : Int} {ok : Bool} (hx : evk F x = some (.map (some b))) (hy : evk F y = some (.int .i64 q))
    (hr : trow T t = some r) (hm : r.kind = .map kt et) (hrk : trow T kt = some rk) (hk : rk.kind = .int .i64) (hre : trow T et = some re) (hz : re.zero = enc z) (hL : L[ci]? = some (Chunk.imap b (encm enc ms))) {X' : α} (hX : (mget ms q).getD z = X') :
    RunY P fn w0 H0 X F H L ⟨dst, .lookup t x y ok, ty, pos, af, g⟩ (if ok then .tuple #[enc X', .bool (mget ms q).isSome] else enc X') := by
  have := RunY.lookup (P := P) (fn := fn) (w0 := w0) (H0 := H0) (X := X) (F := F) (H := H) (L := L) (ty := ty) (pos := pos) (af := af) (g := g) (dst := dst) (ok := ok) hT hx hy hr hm hrk hk hre hL
  have e : (mget (encm enc ms) q).getD re.zero = enc X' := by rw [encm_get, hz, ← hX]; cases mget ms q <;> rfl
  have e2 : (mget (encm enc ms) q).isSome = (mget ms q).isSome := by rw [encm_get]; cases mget ms q <;> rfl
  rw [e, e2] at this
  exact this
theorem RunY.lookupHT {α : Type} (enc : α → Value) (z : α) (hT : TabOK P T) {t kt et b : Nat} {x y : Operand} {r rk re : TRow} {ms : List (Int × α)} {q : Int} {ok : Bool} {H1 : Hp} (hb : H1 b = some (mobj (encm enc ms))) (hH : H1.le H) (hx : evk F x = some (.map (some b))) (hy : evk F y = some (.int .i64 q))
    (hr : trow T t = some r) (hm : r.kind = .map kt et) (hrk : trow T kt = some rk) (hk : rk.kind = .int .i64) (hre : trow T et = some re) (hz : re.zero = enc z) {X' : α} (hX : (mget ms q).getD z = X') :
    RunY P fn w0 H0 X F H L ⟨dst, .lookup t x y ok, ty, pos, af, g⟩ (if ok then .tuple #[enc X', .bool (mget ms q).isSome] else enc X') := by
  have := RunY.lookupH (P := P) (fn := fn) (w0 := w0) (H0 := H0) (X := X) (F := F) (H := H) (L := L) (ty := ty) (pos := pos) (af := af) (g := g) (dst := dst) (ok := ok) hT hb hH hx hy hr hm hrk hk hre
  have e : (mget (encm enc ms) q).getD re.zero = enc X' := by rw [encm_get, hz, ← hX]; cases mget ms q <;> rfl
  have e2 : (mget (encm enc ms) q).isSome = (mget ms q).isSome := by rw [encm_get]; cases mget ms q <;> rfl
  rw [e, e2] at this
  exact this
theorem RowOK.array {t n e : Nat} {r : TRow} (h : RowOK P t r) (hk : r.kind = .array n e) : P.underlying t = some (.array n e) := by
  obtain ⟨d, hd, e'⟩ := h.under
  rw [hk] at e'
  cases d <;> simp only [TK.of, reduceCtorEq, TK.array.injEq] at e'
  obtain ⟨rfl, rfl⟩ := e'; exact hd
theorem run_equal_pair (hT : TabOK P T) {t e : Nat} {r q : TRow} (hr : trow T t = some r) (hk : r.kind = .array 2 e) (hq : trow T e = some q) (hqk : q.kind = .int .i64) (hqs : q.size = 1) (a b c d : Int) (w : World) :
    (Op.equal t (.agg #[.int .i64 a, .int .i64 b]) (.agg #[.int .i64 c, .int .i64 d])).run P w = .ok (decide (a = c) && decide (b = d)) w := by
  have hu := (hT.row hr).array hk
  have hi := (hT.row hq).int hqk
  have hsz := (hT.row hq).run_size
  have hp0 : ∀ (x y : Int) w, (part e #[.int .i64 x, .int .i64 y] 0).run P w = .ok (.int .i64 x) w := fun x y w => by
    have := (hT.row hq).part (cs := [.int .i64 x, .int .i64 y]) (off := 0) (v := .int .i64 x) (by simp [partOf, hqs, hqk, TK.agg, mkv]; rfl) w
    exact this
  have hp1 : ∀ (x y : Int) w, (part e #[.int .i64 x, .int .i64 y] 1).run P w = .ok (.int .i64 y) w := fun x y w => by
    have := (hT.row hq).part (cs := [.int .i64 x, .int .i64 y]) (off := 1) (v := .int .i64 y) (by simp [partOf, hqs, hqk, TK.agg, mkv]; rfl) w
    exact this
  show (Op.equalIn (9999 + 1) t _ _).run P w = _
  unfold Op.equalIn
  have heq : ∀ (x y : Int) w, (Op.equalIn 9999 e (.int .i64 x) (.int .i64 y)).run P w = .ok (x == y) w := fun x y w => by
    show (Op.equalIn (9998 + 1) e _ _).run P w = _
    unfold Op.equalIn
    simp [run_underlying hi]
  simp only [Sem.run_bind, run_underlying hu, Result.andThen_ok, hsz, hqs]
  simp [Std.Legacy.Range.forIn_eq_forIn_range', Std.Legacy.Range.size, List.range', hp0, hp1, heq]
  by_cases h1 : a = c <;> by_cases h2 : b = d <;> simp [h1, h2, hp0, hp1, heq]
theorem RunY.nePair (hT : TabOK P T) {t ty' e : Nat} {x y : Operand} {r q : TRow} {a b c d : Int} (hx : evk F x = some (.agg #[.int .i64 a, .int .i64 b])) (hy : evk F y = some (.agg #[.int .i64 c, .int .i64 d]))
    (hr : trow T t = some r) (hk : r.kind = .array 2 e) (hq : trow T e = some q) (hqk : q.kind = .int .i64) (hqs : q.size = 1) (hg : P.eqGuardType P.depth t = false) : RunY P fn w0 H0 X F H L ⟨dst, .binOp .neq t x y ty', ty, pos, af, g⟩ (.bool (!(decide (a = c) && decide (b = d)))) := fun a' w ha _ => by
  have h1 := run_eqGuard_agg (P := P) (w := w) .neq t x y #[.int .i64 a, .int .i64 b] #[.int .i64 c, .int .i64 d] hg
  have h2 := run_equal_pair (P := P) hT hr hk hq hqk hqs a b c d w
  simp [execOp, ha.eval hx, ha.eval hy, h1, binOp, h2]
end
def phiFit (pd : List Int) (p : PhiD) : Bool := !((p.frm.length : Int) == 0) && (eqL p.frm pd && (p.args.length : Int) == p.frm.length)
def endFit (e : EndD) : Bool := !((e.kind == 1 || e.kind == 3) && e.arg != 0)
def blkFit (g : GraphD) (tl : List Int) (i : Int) (b : BlockD) : Bool := overD tl i i && (b.phis.all (phiFit (nth g.pred i)) && endFit b.en)
def fitFrom (g : GraphD) (tl : List Int) : Int → List BlockD → Bool
  | _, [] => true
  | i, b :: l => blkFit g tl i b && fitFrom g tl (i + 1) l
def shapeW (f : FuncD) (tl : List Int) : Bool := fitFrom (ofD f).1 tl 0 f.blocks
theorem of_ok {f : FuncD} (h : (ofD f).2 = 0) : f.blocks.length ≤ 64 ∧ makeOK (f.blocks.map succOf) = true ∧ ofD f = (⟨f.blocks.map succOf, predsD (f.blocks.map succOf)⟩, 0) ∧ mayG (ofD f).1 = true ∧ 0 < (ofD f).1.succ.length ∧ (ofD f).1.pred.length = f.blocks.length ∧ (ofD f).1.succ.length = f.blocks.length ∧ f.blocks.all (ofOK f.blocks.length) = true := by
  unfold ofD at h
  by_cases h1 : (f.blocks.length : Int) > 64
  · rw [if_pos h1] at h; cases h
  · rw [if_neg h1] at h
    by_cases h2 : f.blocks.all (ofOK f.blocks.length) = true
    · rw [if_pos h2] at h
      have h3 : makeOK (f.blocks.map succOf) = true := by
        cases hm : makeOK (f.blocks.map succOf) with
        | true => rfl
        | false => rw [make_no hm] at h; cases h
      have e : ofD f = (⟨f.blocks.map succOf, predsD (f.blocks.map succOf)⟩, 0) := by rw [of_yes h1 h2, make_yes h3]
      have hl := makeOK_rows h3
      rw [List.length_map] at hl
      have hpl : (predsD (f.blocks.map succOf)).length = f.blocks.length := by unfold predsD; rw [List.length_map, List.length_range, List.length_map]
      refine ⟨hl.2.1, h3, e, ?_, ?_, ?_, ?_, h2⟩
      · rw [e]; unfold mayG; simp only; rw [make_yes h3]; simp [eqLL_eq]
      · rw [e]; simp only [List.length_map]; omega
      · rw [e]; exact hpl
      · rw [e]; simp
    · rw [if_neg h2] at h; cases h
theorem endFit_yes {e : EndD} (h : (e.kind ≠ 1 ∧ e.kind ≠ 3) ∨ e.arg = 0) : endFit e = true := by
  unfold endFit
  rcases h with ⟨h1, h2⟩ | h
  · rw [beq_false_of_ne h1, beq_false_of_ne h2]; rfl
  · rw [h]; simp
theorem endFit_no {e : EndD} (h : e.kind = 1 ∨ e.kind = 3) (h2 : e.arg ≠ 0) : endFit e = false := by
  unfold endFit
  rcases h with h | h <;> rw [h] <;> simp [h2]
theorem phiFit_no {pd : List Int} {p : PhiD} (h : (p.frm.length : Int) = 0 ∨ eqL p.frm pd = false ∨ (p.args.length : Int) ≠ p.frm.length) : phiFit pd p = false := by
  unfold phiFit
  rcases h with h | h | h
  · rw [h]; rfl
  · rw [h]; simp
  · rw [beq_false_of_ne h]; simp
theorem phiFit_yes {pd : List Int} {p : PhiD} (h : (p.frm.length : Int) ≠ 0) (h2 : eqL p.frm pd = true) (h3 : (p.args.length : Int) = p.frm.length) : phiFit pd p = true := by
  unfold phiFit
  rw [beq_false_of_ne h, h2, h3]; simp
theorem fit_step {g : GraphD} {tl : List Int} {bs : List BlockD} {i : Int} {x : BlockD} {r : Bool} (h : r = fitFrom g tl i (bs.drop i.toNat)) (h0 : 0 ≤ i) (h1 : i < bs.length) (hx : x = nth bs i) : r = (blkFit g tl i x && fitFrom g tl (i + 1) (bs.drop (i + 1).toNat)) := by
  rw [h, drop_nth h0 h1, ← hx, toNat_succ h0]; rfl
theorem fit_go {g : GraphD} {tl : List Int} {bs : List BlockD} {i : Int} {x : BlockD} {r : Bool} (h : r = fitFrom g tl i (bs.drop i.toNat)) (h0 : 0 ≤ i) (h1 : i < bs.length) (hx : x = nth bs i) (ho : overD tl i i = true) (hp : x.phis.all (phiFit (nth g.pred i)) = true) (he : endFit x.en = true) : r = fitFrom g tl (i + 1) (bs.drop (i + 1).toNat) := by
  rw [fit_step h h0 h1 hx]; unfold blkFit; rw [ho, hp, he]; rfl
theorem fit_no {g : GraphD} {tl : List Int} {bs : List BlockD} {i : Int} {x : BlockD} {r : Bool} (h : r = fitFrom g tl i (bs.drop i.toNat)) (h0 : 0 ≤ i) (h1 : i < bs.length) (hx : x = nth bs i) (hn : overD tl i i = false ∨ x.phis.all (phiFit (nth g.pred i)) = false ∨ endFit x.en = false) : r = false := by
  rw [fit_step h h0 h1 hx]; unfold blkFit
  rcases hn with hn | hn | hn <;> rw [hn] <;> simp
def ofOpD (lv : Int) (o : OpD) : Bool := if lv < 2 ∧ (o.lanes > 1 ∨ o.kind > 20) then false else if lv < 1 ∧ o.kind > 17 then false else mayO o
def typedB (lv : Int) (b : BlockD) : Bool := !(b.phis.any fun p => !mayW p.bits) && !(b.ops.any fun o => !ofOpD lv o)
def typedD (f : FuncD) (lv : Int) : Bool := mayW f.ret && (!(f.params.any fun x => !mayW x) && f.blocks.all (typedB lv))
theorem typed_no {f : FuncD} {lv : Int} (h : typedD f lv = false) : (6 : Int) = if typedD f lv = true then 0 else 6 := by rw [h]; rfl
theorem typed_yes {f : FuncD} {lv : Int} (h : typedD f lv = true) : (0 : Int) = if typedD f lv = true then 0 else 6 := by rw [h]; rfl
end Go.Proofs.YtakameggkkjcpaaGreat
set_option maxRecDepth 4000
namespace Go.Proofs.YtakameggkkjcpaaGreat
open Go Go.RowKit
theorem Shape_fn {H : Hp} {f : FuncD} {A_f_0 A_f_2 : Option Addr} {c_f_0 c_f_2 : Nat} (u_f_0 : f.params.length ≤ c_f_0) (r_f_0 : RdS H A_f_0 f.params) (u_f_2 : f.blocks.length ≤ c_f_2) (r_f_2 : RdS H A_f_2 f.blocks) (k_f_0 : I64 f.ret) {b : Nat} (lv : Int) : CallG Tryz.prog 111 [.pointer (some ⟨b, 0, none⟩)] H [Chunk.box b [.slice A_f_0 f.params.length c_f_0, .int .i64 f.ret, .slice A_f_2 f.blocks.length c_f_2, .int .i64 lv, .slice none 0 0, .slice none 0 0, .slice none 0 0, .map none] 137] (fun v H' L' => ((ofD f).2 ≠ 0 ∧ v = .int .i64 5) ∨ ((ofD f).2 = 0 ∧ ∃ tl, TreeP (ofD f).1.succ 0 tl ∧ AllI tl ∧ ((shapeW f tl = false ∧ v = .int .i64 5) ∨ (shapeW f tl = true ∧ v = .int .i64 0 ∧ ∃ A c A' c' A'' c'', RdS H' A'' tl ∧ tl.length ≤ c'' ∧
  L' = [Chunk.box b [.slice A_f_0 f.params.length c_f_0, .int .i64 f.ret, .slice A_f_2 f.blocks.length c_f_2, .int .i64 lv, .slice A (ofD f).1.succ.length c, .slice A' (ofD f).1.pred.length c', .slice A'' tl.length c'', .map none] 137])))) := by
 have rd_f' : Rdc.rd H [.slice A_f_0 f.params.length c_f_0, .int .i64 f.ret, .slice A_f_2 f.blocks.length c_f_2] f := ⟨_, _, _, _, rfl, u_f_0, r_f_0, u_f_2, r_f_2, k_f_0⟩
 have bs := r_f_2.1; have bsp := r_f_0.1
 refine CallG.of Tryz.func111 rfl rfl rfl fun w0 => ?_
 refine WpG.g tabOK 9 rfl ?_
 refine WpG.y rfl rfl rfl rfl (RunY.loadBox (ci := 0) tabOK rfl rfl rfl rfl) ?_
 refine WpG.call0 rfl rfl rfl rfl rfl rfl (Of_calls rd_f') ?_
 rintro _ H1 _ hH1 ⟨A1, c1, B1, d1, rfl, ua1, ra1, ub1, rb1, rfl⟩
 refine WpG.g tabOK 3 rfl ?_
 refine WpG.alloc tabOK rfl rfl rfl rfl rfl (fun b2 => ?_)
 refine WpG.storeBox (ci := 0) (cs' := [.slice A1 ((ofD f).1.succ.length) c1, .slice B1 ((ofD f).1.pred.length) d1]) tabOK rfl rfl rfl rfl rfl rfl rfl rfl rfl ?_
 refine WpG.g tabOK 8 rfl ?_
 refine WpG.caseN (t := 18) rfl (fun q18 => ?_) (fun q18 => ?_)
 ·refine WpG.g tabOK 5 rfl ?_
  exact WpG.ret tabOK (L' := [Chunk.box b [.slice A_f_0 f.params.length c_f_0, .int .i64 f.ret, .slice A_f_2 f.blocks.length c_f_2, .int .i64 lv, .slice none 0 0, .slice none 0 0, .slice none 0 0, .map none] 137]) (.tmp rfl .nil) (.cons _ (.cons_cons _ .slnil)) (.inl ⟨q18, rfl⟩)
 have hok := of_ok q18
 refine WpG.g tabOK 3 rfl ?_
 refine WpG.draw 11 [Chunk.box b2 [.slice A1 ((ofD f).1.succ.length) c1, .slice B1 ((ofD f).1.pred.length) d1] 46] mixed (by kernel_rfl) ?_
 refine WpD.g (listed' := lst 11 3) tabOK [0, 1] (by kernel_rfl) rfl hH1 hlr (.cons_cons _ (.cons _ .slnil)) ?_
 refine WpD.y (i := 2) (fuel := 8) (listed' := lst 11 7) (by kernel_rfl) rfl rfl rfl rfl hH1 hlr (.cons_cons _ (.cons _ .slnil)) (RunY.loadBox (ci := 0) tabOK rfl rfl rfl rfl) ?_
 refine WpD.y (i := 3) (fuel := 7) (listed' := lst 11 15) (by kernel_rfl) rfl rfl rfl rfl hH1 hlr (.cons_cons _ (.cons _ .slnil)) (RunY.loadBox (ci := 0) tabOK rfl rfl rfl rfl) ?_
 refine WpD.f (i := 4) (fuel := 6) (listed' := lst 11 31) (by kernel_rfl) hH1 (OpG.call (Lc := []) rfl rfl rfl rfl rfl rfl (.refl _) (Tree_calls ⟨_, _, _, _, rfl, ua1, ra1, ub1, rb1⟩ 0 hok.2.2.2.1 (by omega) (by omega))) ?_
 rintro _ H3 L1 ⟨_, _, rfl, hH3, ⟨bt, ct, tl, rfl, hTP, hTA, rfl⟩, eL⟩
 subst eL
 refine ⟨hH3, (.cons _ (.cons_cons _ (.cons _ .slnil))), ?_⟩
 change WpD _ _ _ _ _ _ _ _ _ _ _ _ _ _ [Chunk.own 3 1 (some ⟨bt, 0, none⟩) ct tl.length (tl.map iv), Chunk.box b2 [.slice A1 ((ofD f).1.succ.length) c1, .slice B1 ((ofD f).1.pred.length) d1] 46, Chunk.box b [.slice A_f_0 f.params.length c_f_0, .int .i64 f.ret, .slice A_f_2 f.blocks.length c_f_2, .int .i64 lv, .slice none 0 0, .slice none 0 0, .slice none 0 0, .map none] 137]
 refine WpD.ownCap (ci := 0) rfl (fun uz4 => ?_)
 refine WpD.freezeOwn (ci := 0) rfl (fun H4 hH4 fz4 => ?_)
 have rz4 : RdS H4 (some ⟨bt, 0, none⟩) tl := RdS.of_own (H := H3) (show RdL H3 (tl.map iv) tl from RdL_ints _ hTA) (rfl) (by have := hTP.len; omega) hH4 fz4
 refine WpD.g (listed' := lst 11 127) tabOK [5, 6] (by kernel_rfl) rfl hH1 (hH3.trans hH4) (.cons_cons _ (.cons _ .slnil)) ?_
 refine WpD.f (i := 7) (fuel := 3) (listed' := lst 11 255) (by kernel_rfl) hH1 (OpG.storeBox (ci := 1) (cs' := [.slice A_f_0 f.params.length c_f_0, .int .i64 f.ret, .slice A_f_2 f.blocks.length c_f_2, .int .i64 lv, .slice A1 ((ofD f).1.succ.length) c1, .slice B1 ((ofD f).1.pred.length) d1, .slice none 0 0, .map none]) tabOK rfl rfl rfl rfl rfl rfl rfl rfl rfl) ?_
 rintro F1 H1 L1 ⟨eF, eH, eL⟩
 subst eF; subst eL; rw [eH]; clear eH H1
 refine ⟨(hH3.trans hH4), (.cons_cons _ (.cons _ .slnil)), ?_⟩
 change WpD _ _ _ _ _ _ _ _ _ _ _ _ _ _ [Chunk.box b2 [.slice A1 ((ofD f).1.succ.length) c1, .slice B1 ((ofD f).1.pred.length) d1] 46, Chunk.box b [.slice A_f_0 f.params.length c_f_0, .int .i64 f.ret, .slice A_f_2 f.blocks.length c_f_2, .int .i64 lv, .slice A1 ((ofD f).1.succ.length) c1, .slice B1 ((ofD f).1.pred.length) d1, .slice none 0 0, .map none] 137]
 refine WpD.g (listed' := lst 11 1023) tabOK [8, 9] (by kernel_rfl) rfl hH1 (hH3.trans hH4) (.cons_cons _ (.cons _ .slnil)) ?_
 refine WpD.f (i := 10) (fuel := 0) (listed' := lst 11 2047) (by kernel_rfl) hH1 (OpG.storeBox (ci := 1) (cs' := [.slice A_f_0 f.params.length c_f_0, .int .i64 f.ret, .slice A_f_2 f.blocks.length c_f_2, .int .i64 lv, .slice A1 ((ofD f).1.succ.length) c1, .slice B1 ((ofD f).1.pred.length) d1, .slice (some ⟨bt, 0, none⟩) tl.length ct, .map none]) tabOK rfl rfl rfl rfl rfl rfl rfl rfl rfl) ?_
 rintro F1 H1 L1 ⟨eF, eH, eL⟩
 subst eF; subst eL; rw [eH]; clear eH H1
 refine ⟨(hH3.trans hH4), (.cons_cons _ (.cons _ .slnil)), ?_⟩
 change WpD _ _ _ _ _ _ _ _ _ _ _ _ _ _ [Chunk.box b2 [.slice A1 ((ofD f).1.succ.length) c1, .slice B1 ((ofD f).1.pred.length) d1] 46, Chunk.box b [.slice A_f_0 f.params.length c_f_0, .int .i64 f.ret, .slice A_f_2 f.blocks.length c_f_2, .int .i64 lv, .slice A1 ((ofD f).1.succ.length) c1, .slice B1 ((ofD f).1.pred.length) d1, .slice (some ⟨bt, 0, none⟩) tl.length ct, .map none] 137]
 refine WpD.done (by kernel_rfl) ?_
 refine WpG.g tabOK 7 rfl ?_
 refine WpG.y rfl rfl rfl rfl (RunY.loadBox (ci := 1) tabOK rfl rfl rfl rfl) ?_
 refine WpG.g tabOK 5 rfl ?_
 refine WpG.wk (WpG.ind1 (fun (i : Int) => ⟨(f.blocks.length - i).toNat, [(0, .pointer (some ⟨b, 0, none⟩)), (3, .pointer (some ⟨b2, 0, none⟩)), (32, .slice A_f_2 f.blocks.length c_f_2), (33, .int .i64 (f.blocks.length : Int)), (34, .int .i64 i)], H4, [Chunk.box b2 [.slice A1 ((ofD f).1.succ.length) c1, .slice B1 ((ofD f).1.pred.length) d1] 46, Chunk.box b [.slice A_f_0 f.params.length c_f_0, .int .i64 f.ret, .slice A_f_2 f.blocks.length c_f_2, .int .i64 lv, .slice A1 ((ofD f).1.succ.length) c1, .slice B1 ((ofD f).1.pred.length) d1, .slice (some ⟨bt, 0, none⟩) tl.length ct, .map none] 137], 0 ≤ i ∧ i ≤ f.blocks.length ∧ shapeW f tl = fitFrom (ofD f).1 tl i (f.blocks.drop i.toNat)⟩) ?_ 0 ⟨by omega, by omega, rfl⟩) rfl
 intro i inv ih1
 obtain ⟨i0, i1, i2⟩ := inv
 refine WpG.g tabOK 5 rfl ?_
 refine WpG.caseD (t := 35) rfl (fun q35 => ?_) (fun q35 => ?_)
 ·refine WpG.g tabOK 7 rfl ?_
  refine WpG.indexR tabOK rfl rfl rfl rfl rfl rfl rfl rfl rfl r_f_2 (by omega) (by omega) ?_
  rintro x5 hx5 b5 o5 cs5 rd5 hc5
  have rd5' := rd5; obtain ⟨A5_0, c5_0, A5_1, c5_1, A5_4, c5_4, rfl, u5_0, r5_0, u5_1, r5_1, u5_4, r5_4, k5_0, k5_1⟩ := rd5
  have bx5 := r5_0.1; have bo5 := r5_1.1
  refine WpG.y rfl rfl rfl rfl (RunY.loadH tabOK hc5 ((hH1.trans hH3).trans hH4) rfl rfl rfl rfl) ?_
  refine WpG.alloc tabOK rfl rfl rfl rfl rfl (fun b6 => ?_)
  refine WpG.g tabOK 1 rfl ?_
  refine WpG.storeBox (ci := 0) (cs' := [.slice A5_0 x5.phis.length c5_0, .slice A5_1 x5.ops.length c5_1, .int .i64 x5.en.kind, .int .i64 x5.en.arg, .slice A5_4 x5.en.to.length c5_4]) tabOK rfl rfl rfl rfl rfl rfl rfl rfl rfl ?_
  refine WpG.g tabOK 7 rfl ?_
  refine WpG.y rfl rfl rfl rfl (RunY.loadBox (ci := 2) tabOK rfl rfl rfl rfl) ?_
  refine WpG.g tabOK 2 rfl ?_
  refine WpG.callS rfl rfl rfl rfl rfl rfl hlr (Over_calls rz4 ⟨by omega, by omega⟩ ⟨by omega, by omega⟩) ?_
  refine WpG.g tabOK 2 rfl ?_
  refine WpG.caseBn (t := 46) rfl (fun q46 => ?_) (fun q46 => ?_)
  ·refine WpG.g tabOK 5 rfl ?_
   exact WpG.ret tabOK (L' := [Chunk.box b [.slice A_f_0 f.params.length c_f_0, .int .i64 f.ret, .slice A_f_2 f.blocks.length c_f_2, .int .i64 lv, .slice A1 ((ofD f).1.succ.length) c1, .slice B1 ((ofD f).1.pred.length) d1, .slice (some ⟨bt, 0, none⟩) tl.length ct, .map none] 137]) (.tmp rfl .nil) (.cons _ (.cons _ (.cons_cons _ .slnil))) (.inr ⟨q18, tl, hTP, hTA, .inl ⟨fit_no i2 i0 q35 hx5 (.inl q46), rfl⟩⟩)
  refine WpG.g tabOK 6 rfl ?_
  refine WpG.y rfl rfl rfl rfl (RunY.loadBox (ci := 0) tabOK rfl rfl rfl rfl) ?_
  refine WpG.g tabOK 5 rfl ?_
  refine WpG.wk (WpG.ind1 (fun (j : Int) => ⟨(x5.phis.length - j).toNat, [(0, .pointer (some ⟨b, 0, none⟩)), (3, .pointer (some ⟨b2, 0, none⟩)), (5, .int .i64 i), (6, .pointer (some ⟨b6, 0, none⟩)), (32, .slice A_f_2 f.blocks.length c_f_2), (33, .int .i64 (f.blocks.length : Int)), (34, .int .i64 i), (48, .slice A5_0 x5.phis.length c5_0), (49, .int .i64 (x5.phis.length : Int)), (50, .int .i64 j)], H4, [Chunk.box b6 [.slice A5_0 x5.phis.length c5_0, .slice A5_1 x5.ops.length c5_1, .int .i64 x5.en.kind, .int .i64 x5.en.arg, .slice A5_4 x5.en.to.length c5_4] 43, Chunk.box b2 [.slice A1 ((ofD f).1.succ.length) c1, .slice B1 ((ofD f).1.pred.length) d1] 46, Chunk.box b [.slice A_f_0 f.params.length c_f_0, .int .i64 f.ret, .slice A_f_2 f.blocks.length c_f_2, .int .i64 lv, .slice A1 ((ofD f).1.succ.length) c1, .slice B1 ((ofD f).1.pred.length) d1, .slice (some ⟨bt, 0, none⟩) tl.length ct, .map none] 137], 0 ≤ j ∧ j ≤ x5.phis.length ∧ x5.phis.all (phiFit (nth (ofD f).1.pred i)) = (x5.phis.drop j.toNat).all (phiFit (nth (ofD f).1.pred i))⟩) ?_ 0 ⟨by omega, by omega, rfl⟩) rfl
  intro j inv ih2
  obtain ⟨j0, j1, j2⟩ := inv
  refine WpG.g tabOK 5 rfl ?_
  refine WpG.caseD (t := 51) rfl (fun q51 => ?_) (fun q51 => ?_)
  ·refine WpG.g tabOK 6 rfl ?_
   refine WpG.indexR tabOK rfl rfl rfl rfl rfl rfl rfl rfl rfl r5_0 (by omega) (by omega) ?_
   rintro x7 hx7 b7 o7 cs7 rd7 hc7
   have rd7' := rd7; obtain ⟨A7_2, c7_2, A7_3, c7_3, rfl, u7_2, r7_2, u7_3, r7_3, k7_0, k7_1⟩ := rd7
   refine WpG.y rfl rfl rfl rfl (RunY.loadH tabOK hc7 ((hH1.trans hH3).trans hH4) rfl rfl rfl rfl) ?_
   refine WpG.alloc tabOK rfl rfl rfl rfl rfl (fun b8 => ?_)
   refine WpG.storeBox (ci := 0) (cs' := [.int .i64 x7.bits, .int .i64 x7.dst, .slice A7_2 x7.frm.length c7_2, .slice A7_3 x7.args.length c7_3]) tabOK rfl rfl rfl rfl rfl rfl rfl rfl rfl ?_
   refine WpG.g tabOK 2 rfl ?_
   refine WpG.draw 24 [Chunk.box b8 [.int .i64 x7.bits, .int .i64 x7.dst, .slice A7_2 x7.frm.length c7_2, .slice A7_3 x7.args.length c7_3] 55, Chunk.box b6 [.slice A5_0 x5.phis.length c5_0, .slice A5_1 x5.ops.length c5_1, .int .i64 x5.en.kind, .int .i64 x5.en.arg, .slice A5_4 x5.en.to.length c5_4] 43, Chunk.box b2 [.slice A1 ((ofD f).1.succ.length) c1, .slice B1 ((ofD f).1.pred.length) d1] 46, Chunk.box b [.slice A_f_0 f.params.length c_f_0, .int .i64 f.ret, .slice A_f_2 f.blocks.length c_f_2, .int .i64 lv, .slice A1 ((ofD f).1.succ.length) c1, .slice B1 ((ofD f).1.pred.length) d1, .slice (some ⟨bt, 0, none⟩) tl.length ct, .map none] 137] mixed (by kernel_rfl) ?_
   refine WpD.g (listed' := lst 24 1) tabOK [0] (by kernel_rfl) rfl ((hH1.trans hH3).trans hH4) hlr (.refl _) ?_
   refine WpD.y (i := 1) (fuel := 22) (listed' := lst 24 3) (by kernel_rfl) rfl rfl rfl rfl ((hH1.trans hH3).trans hH4) hlr (.refl _) (RunY.loadBox (ci := 0) tabOK rfl rfl rfl rfl) ?_
   refine WpD.g (listed' := lst 24 31) tabOK [2, 3, 4] (by kernel_rfl) rfl ((hH1.trans hH3).trans hH4) hlr (.refl _) ?_
   refine WpD.caseE (t := 58) rfl (fun q58 => ?_) (fun q58 => ?_)
   ·refine WpD.g (listed' := lst 24 16777215) tabOK [5, 6, 7, 8, 9, 10, 11, 12, 13, 14, 15, 16, 17, 18, 19, 20, 21, 22, 23] (by kernel_rfl) rfl ((hH1.trans hH3).trans hH4) hlr (.refl _) ?_
    refine WpD.done (by kernel_rfl) ?_
    refine WpG.g tabOK 5 rfl ?_
    exact WpG.ret tabOK (L' := [Chunk.box b [.slice A_f_0 f.params.length c_f_0, .int .i64 f.ret, .slice A_f_2 f.blocks.length c_f_2, .int .i64 lv, .slice A1 ((ofD f).1.succ.length) c1, .slice B1 ((ofD f).1.pred.length) d1, .slice (some ⟨bt, 0, none⟩) tl.length ct, .map none] 137]) (.tmp rfl .nil) (.cons _ (.cons _ (.cons _ (.cons_cons _ .slnil)))) (.inr ⟨q18, tl, hTP, hTA, .inl ⟨fit_no i2 i0 q35 hx5 (.inr (.inl (all_no j2 j0 q51 hx7 (phiFit_no (.inl q58))))), rfl⟩⟩)
   refine WpD.g (listed' := lst 24 703) tabOK [5, 7, 9] (by kernel_rfl) rfl ((hH1.trans hH3).trans hH4) hlr (.refl _) ?_
   refine WpD.y (i := 6) (fuel := 15) (listed' := lst 24 767) (by kernel_rfl) rfl rfl rfl rfl ((hH1.trans hH3).trans hH4) hlr (.refl _) (RunY.loadBox (ci := 0) tabOK rfl rfl rfl rfl) ?_
   refine WpD.y (i := 8) (fuel := 14) (listed' := lst 24 1023) (by kernel_rfl) rfl rfl rfl rfl ((hH1.trans hH3).trans hH4) hlr (.refl _) (RunY.loadBox (ci := 2) tabOK rfl rfl rfl rfl) ?_
   refine WpD.indexR (i := 10) (fuel := 13) (listed' := lst 24 2047) tabOK (by kernel_rfl) rfl rfl rfl rfl rfl rfl rfl rfl rfl ((hH1.trans hH3).trans hH4) hlr (.refl _) rb1 (by omega) (by omega) ?_
   rintro x9 hx9 b9 o9 _ ⟨A9, c9, rfl, u9, r9⟩ hc9
   refine WpD.y (i := 11) (fuel := 12) (listed' := lst 24 4095) (by kernel_rfl) rfl rfl rfl rfl ((hH1.trans hH3).trans hH4) hlr (.refl _) (RunY.loadH tabOK hc9 (hH3.trans hH4) rfl rfl rfl rfl) ?_
   refine WpD.callS (i := 12) (fuel := 11) (listed' := lst 24 8191) (by kernel_rfl) rfl rfl rfl rfl rfl rfl hlr (Equal_calls (r7_2.mono ((hH1.trans hH3).trans hH4)) (r9.mono (hH3.trans hH4))) ((hH1.trans hH3).trans hH4) hlr (.refl _) ?_
   refine WpD.g (listed' := lst 24 65535) tabOK [13, 14, 15] (by kernel_rfl) rfl ((hH1.trans hH3).trans hH4) hlr (.refl _) ?_
   refine WpD.caseBn (t := 69) rfl (fun q69 => ?_) (fun q69 => ?_)
   ·refine WpD.g (listed' := lst 24 16777215) tabOK [16, 17, 18, 19, 20, 21, 22, 23] (by kernel_rfl) rfl ((hH1.trans hH3).trans hH4) hlr (.refl _) ?_
    refine WpD.done (by kernel_rfl) ?_
    refine WpG.g tabOK 5 rfl ?_
    exact WpG.ret tabOK (L' := [Chunk.box b [.slice A_f_0 f.params.length c_f_0, .int .i64 f.ret, .slice A_f_2 f.blocks.length c_f_2, .int .i64 lv, .slice A1 ((ofD f).1.succ.length) c1, .slice B1 ((ofD f).1.pred.length) d1, .slice (some ⟨bt, 0, none⟩) tl.length ct, .map none] 137]) (.tmp rfl .nil) (.cons _ (.cons _ (.cons _ (.cons_cons _ .slnil)))) (.inr ⟨q18, tl, hTP, hTA, .inl ⟨fit_no i2 i0 q35 hx5 (.inr (.inl (all_no j2 j0 q51 hx7 (phiFit_no (.inr (.inl (hx9 ▸ q69))))))), rfl⟩⟩)
   refine WpD.g (listed' := lst 24 655359) tabOK [16, 19] (by kernel_rfl) rfl ((hH1.trans hH3).trans hH4) hlr (.refl _) ?_
   refine WpD.y (i := 17) (fuel := 5) (listed' := lst 24 786431) (by kernel_rfl) rfl rfl rfl rfl ((hH1.trans hH3).trans hH4) hlr (.refl _) (RunY.loadBox (ci := 0) tabOK rfl rfl rfl rfl) ?_
   refine WpD.g (listed' := lst 24 1048575) tabOK [18] (by kernel_rfl) rfl ((hH1.trans hH3).trans hH4) hlr (.refl _) ?_
   refine WpD.y (i := 20) (fuel := 3) (listed' := lst 24 2097151) (by kernel_rfl) rfl rfl rfl rfl ((hH1.trans hH3).trans hH4) hlr (.refl _) (RunY.loadBox (ci := 0) tabOK rfl rfl rfl rfl) ?_
   refine WpD.g (listed' := lst 24 16777215) tabOK [21, 22, 23] (by kernel_rfl) rfl ((hH1.trans hH3).trans hH4) hlr (.refl _) ?_
   refine WpD.done (by kernel_rfl) ?_
   refine WpG.caseN (t := 77) rfl (fun q77 => ?_) (fun q77 => ?_)
   ·refine WpG.g tabOK 5 rfl ?_
    exact WpG.ret tabOK (L' := [Chunk.box b [.slice A_f_0 f.params.length c_f_0, .int .i64 f.ret, .slice A_f_2 f.blocks.length c_f_2, .int .i64 lv, .slice A1 ((ofD f).1.succ.length) c1, .slice B1 ((ofD f).1.pred.length) d1, .slice (some ⟨bt, 0, none⟩) tl.length ct, .map none] 137]) (.tmp rfl .nil) (.cons _ (.cons _ (.cons _ (.cons_cons _ .slnil)))) (.inr ⟨q18, tl, hTP, hTA, .inl ⟨fit_no i2 i0 q35 hx5 (.inr (.inl (all_no j2 j0 q51 hx7 (phiFit_no (.inr (.inr q77)))))), rfl⟩⟩)
   refine WpG.gw tabOK 5 78 rfl (wrk (x := j + 1) (by omega) (by omega)) ?_
   refine WpG.g tabOK 3 rfl ?_
   refine WpG.dropL (L' := [Chunk.box b6 [.slice A5_0 x5.phis.length c5_0, .slice A5_1 x5.ops.length c5_1, .int .i64 x5.en.kind, .int .i64 x5.en.arg, .slice A5_4 x5.en.to.length c5_4] 43, Chunk.box b2 [.slice A1 ((ofD f).1.succ.length) c1, .slice B1 ((ofD f).1.pred.length) d1] 46, Chunk.box b [.slice A_f_0 f.params.length c_f_0, .int .i64 f.ret, .slice A_f_2 f.blocks.length c_f_2, .int .i64 lv, .slice A1 ((ofD f).1.succ.length) c1, .slice B1 ((ofD f).1.pred.length) d1, .slice (some ⟨bt, 0, none⟩) tl.length ct, .map none] 137]) (.cons _ (.cons_cons _ (.cons_cons _ (.cons_cons _ .slnil)))) ?_
   refine WpG.wk (ih2 (j + 1) ?_ ?_) rfl
   ·dsimp only
    omega
   clear ih1 ih2
   exact ⟨by omega, by omega, all_step j2 j0 q51 hx7 (phiFit_yes q58 (hx9 ▸ q69) q77)⟩
  refine WpG.g tabOK 6 rfl ?_
  refine WpG.y rfl rfl rfl rfl (RunY.loadBox (ci := 0) tabOK rfl rfl rfl rfl) ?_
  refine WpG.g tabOK 2 rfl ?_
  refine WpG.caseE (t := 83) rfl (fun q83 => ?_) (fun q83 => ?_)
  ·refine WpG.g tabOK 8 rfl ?_
   refine WpG.y rfl rfl rfl rfl (RunY.loadBox (ci := 0) tabOK rfl rfl rfl rfl) ?_
   refine WpG.g tabOK 3 rfl ?_
   refine WpG.caseN (t := 94) rfl (fun q94 => ?_) (fun q94 => ?_)
   ·refine WpG.g tabOK 5 rfl ?_
    exact WpG.ret tabOK (L' := [Chunk.box b [.slice A_f_0 f.params.length c_f_0, .int .i64 f.ret, .slice A_f_2 f.blocks.length c_f_2, .int .i64 lv, .slice A1 ((ofD f).1.succ.length) c1, .slice B1 ((ofD f).1.pred.length) d1, .slice (some ⟨bt, 0, none⟩) tl.length ct, .map none] 137]) (.tmp rfl .nil) (.cons _ (.cons _ (.cons_cons _ .slnil))) (.inr ⟨q18, tl, hTP, hTA, .inl ⟨fit_no i2 i0 q35 hx5 (.inr (.inr (endFit_no (.inl q83) q94))), rfl⟩⟩)
   refine WpG.gw tabOK 5 95 rfl (wrk (x := i + 1) (by omega) (by omega)) ?_
   refine WpG.g tabOK 3 rfl ?_
   refine WpG.dropL (L' := [Chunk.box b2 [.slice A1 ((ofD f).1.succ.length) c1, .slice B1 ((ofD f).1.pred.length) d1] 46, Chunk.box b [.slice A_f_0 f.params.length c_f_0, .int .i64 f.ret, .slice A_f_2 f.blocks.length c_f_2, .int .i64 lv, .slice A1 ((ofD f).1.succ.length) c1, .slice B1 ((ofD f).1.pred.length) d1, .slice (some ⟨bt, 0, none⟩) tl.length ct, .map none] 137]) (.cons _ (.cons_cons _ (.cons_cons _ .slnil))) ?_
   refine WpG.wk (ih1 (i + 1) ?_ ?_) rfl
   ·dsimp only
    omega
   clear ih1 ih2
   exact ⟨by omega, by omega, fit_go i2 i0 q35 hx5 q46 (all_end j2 j0 q51) (endFit_yes (.inr q94))⟩
  refine WpG.g tabOK 2 rfl ?_
  refine WpG.y rfl rfl rfl rfl (RunY.loadBox (ci := 0) tabOK rfl rfl rfl rfl) ?_
  refine WpG.g tabOK 3 rfl ?_
  refine WpG.caseE (t := 89) rfl (fun q89 => ?_) (fun q89 => ?_)
  ·refine WpG.g tabOK 2 rfl ?_
   refine WpG.y rfl rfl rfl rfl (RunY.loadBox (ci := 0) tabOK rfl rfl rfl rfl) ?_
   refine WpG.g tabOK 3 rfl ?_
   refine WpG.caseN (t := 94) rfl (fun q94 => ?_) (fun q94 => ?_)
   ·refine WpG.g tabOK 5 rfl ?_
    exact WpG.ret tabOK (L' := [Chunk.box b [.slice A_f_0 f.params.length c_f_0, .int .i64 f.ret, .slice A_f_2 f.blocks.length c_f_2, .int .i64 lv, .slice A1 ((ofD f).1.succ.length) c1, .slice B1 ((ofD f).1.pred.length) d1, .slice (some ⟨bt, 0, none⟩) tl.length ct, .map none] 137]) (.tmp rfl .nil) (.cons _ (.cons _ (.cons_cons _ .slnil))) (.inr ⟨q18, tl, hTP, hTA, .inl ⟨fit_no i2 i0 q35 hx5 (.inr (.inr (endFit_no (.inr q89) q94))), rfl⟩⟩)
   refine WpG.gw tabOK 5 95 rfl (wrk (x := i + 1) (by omega) (by omega)) ?_
   refine WpG.g tabOK 3 rfl ?_
   refine WpG.dropL (L' := [Chunk.box b2 [.slice A1 ((ofD f).1.succ.length) c1, .slice B1 ((ofD f).1.pred.length) d1] 46, Chunk.box b [.slice A_f_0 f.params.length c_f_0, .int .i64 f.ret, .slice A_f_2 f.blocks.length c_f_2, .int .i64 lv, .slice A1 ((ofD f).1.succ.length) c1, .slice B1 ((ofD f).1.pred.length) d1, .slice (some ⟨bt, 0, none⟩) tl.length ct, .map none] 137]) (.cons _ (.cons_cons _ (.cons_cons _ .slnil))) ?_
   refine WpG.wk (ih1 (i + 1) ?_ ?_) rfl
   ·dsimp only
    omega
   clear ih1 ih2
   exact ⟨by omega, by omega, fit_go i2 i0 q35 hx5 q46 (all_end j2 j0 q51) (endFit_yes (.inr q94))⟩
  refine WpG.gw tabOK 11 95 rfl (wrk (x := i + 1) (by omega) (by omega)) ?_
  refine WpG.g tabOK 3 rfl ?_
  refine WpG.dropL (L' := [Chunk.box b2 [.slice A1 ((ofD f).1.succ.length) c1, .slice B1 ((ofD f).1.pred.length) d1] 46, Chunk.box b [.slice A_f_0 f.params.length c_f_0, .int .i64 f.ret, .slice A_f_2 f.blocks.length c_f_2, .int .i64 lv, .slice A1 ((ofD f).1.succ.length) c1, .slice B1 ((ofD f).1.pred.length) d1, .slice (some ⟨bt, 0, none⟩) tl.length ct, .map none] 137]) (.cons _ (.cons_cons _ (.cons_cons _ .slnil))) ?_
  refine WpG.wk (ih1 (i + 1) ?_ ?_) rfl
  ·dsimp only
   omega
  clear ih1 ih2
  exact ⟨by omega, by omega, fit_go i2 i0 q35 hx5 q46 (all_end j2 j0 q51) (endFit_yes (.inl ⟨q83, q89⟩))⟩
 refine WpG.g tabOK 6 rfl ?_
 exact WpG.ret tabOK (L' := [Chunk.box b [.slice A_f_0 f.params.length c_f_0, .int .i64 f.ret, .slice A_f_2 f.blocks.length c_f_2, .int .i64 lv, .slice A1 ((ofD f).1.succ.length) c1, .slice B1 ((ofD f).1.pred.length) d1, .slice (some ⟨bt, 0, none⟩) tl.length ct, .map none] 137]) (.tmp rfl .nil) (.cons _ (.cons_cons _ .slnil)) (.inr ⟨q18, tl, hTP, hTA, .inr ⟨by rw [i2, drop_end i0 q35]; rfl, rfl, _, _, _, _, _, _, rz4, uz4, rfl⟩⟩)
end Go.Proofs.YtakameggkkjcpaaGreat
set_option maxRecDepth 4000
namespace Go.Proofs.YtakameggkkjcpaaGreat
open Go Go.RowKit
theorem Typed1_calls {H : Hp} (x : Int) : CallG Tryz.prog 136 [.int .i64 x] H [] (fun v _ L' => v = .bool (!mayW x) ∧ L' = []) := by
 refine CallG.of Tryz.func136 rfl rfl rfl fun w0 => ?_
 refine WpG.g tabOK 7 rfl ?_
 refine WpG.callS rfl rfl rfl rfl rfl rfl hlr (May_calls x) ?_
 refine WpG.g tabOK 3 rfl ?_
 exact WpG.ret tabOK (L' := []) (.tmp rfl .nil) .slnil ⟨congrArg Value.bool (by rfl), rfl⟩
theorem Typed2_calls {H : Hp} {p : PhiD} {cs_p : List Value} (rd_p : Rdc.rd H cs_p p) : CallG Tryz.prog 138 [.agg cs_p.toArray] H [] (fun v _ L' => v = .bool (!mayW p.bits) ∧ L' = []) := by
 have rd_p' := rd_p; obtain ⟨A_p_2, c_p_2, A_p_3, c_p_3, rfl, u_p_2, r_p_2, u_p_3, r_p_3, k_p_0, k_p_1⟩ := rd_p
 refine CallG.of Tryz.func138 rfl rfl rfl fun w0 => ?_
 refine WpG.g tabOK 2 rfl ?_
 refine WpG.box rfl rfl rfl rfl rfl (fun b1 => ?_)
 refine WpG.g tabOK 5 rfl ?_
 refine WpG.y rfl rfl rfl rfl (RunY.loadBox (ci := 0) tabOK rfl rfl rfl rfl) ?_
 refine WpG.callS rfl rfl rfl rfl rfl rfl hlr (May_calls p.bits) ?_
 refine WpG.g tabOK 3 rfl ?_
 exact WpG.ret tabOK (L' := []) (.tmp rfl .nil) (.cons _ .slnil) ⟨congrArg Value.bool (by rfl), rfl⟩
theorem CheckOf_calls {H : Hp} {o : OpD} {cs_o : List Value} (rd_o : Rdc.rd H cs_o o) {b : Nat} {lv : Int} {v0 v1 v2 s1 s2 t1 dm : Value} (hb : HCells H b 0 [v0, v1, v2, .int .i64 lv, s1, s2, t1, dm]) : CallG Tryz.prog 140 [.pointer (some ⟨b, 0, none⟩), .agg cs_o.toArray] H [] (fun v _ L' => v = .bool (ofOpD lv o) ∧ L' = []) := by
 have rd_o' := rd_o; obtain ⟨A_o_4, c_o_4, rfl, u_o_4, r_o_4, k_o_0, k_o_1, k_o_2, k_o_3, k_o_4⟩ := rd_o
 refine CallG.of Tryz.func140 rfl rfl rfl fun w0 => ?_
 refine WpG.g tabOK 2 rfl ?_
 refine WpG.box rfl rfl rfl rfl rfl (fun b1 => ?_)
 refine WpG.g tabOK 9 rfl ?_
 refine WpG.y rfl rfl rfl rfl (RunY.loadH tabOK (hb.sub 3 1) hlr rfl rfl rfl rfl) ?_
 refine WpG.g tabOK 2 rfl ?_
 refine WpG.caseD (t := 11) rfl (fun q11 => ?_) (fun q11 => ?_)
 ·refine WpG.g tabOK 1 rfl ?_
  refine WpG.y rfl rfl rfl rfl (RunY.loadBox (ci := 0) tabOK rfl rfl rfl rfl) ?_
  refine WpG.g tabOK 2 rfl ?_
  refine WpG.caseD (t := 15) rfl (fun q15 => ?_) (fun q15 => ?_)
  ·refine WpG.g tabOK 12 rfl ?_
   exact WpG.ret tabOK (L' := []) (.tmp rfl .nil) (.cons _ .slnil) ⟨congrArg Value.bool (by unfold ofOpD; first | (rw [if_pos (by omega)]; done) | (rw [if_neg (by omega), if_pos (by omega)]; done) | rw [if_neg (by omega), if_neg (by omega)]), rfl⟩
  refine WpG.g tabOK 1 rfl ?_
  refine WpG.y rfl rfl rfl rfl (RunY.loadBox (ci := 0) tabOK rfl rfl rfl rfl) ?_
  refine WpG.g tabOK 5 rfl ?_
  refine WpG.caseD (t := 5) rfl (fun q5 => ?_) (fun q5 => ?_)
  ·refine WpG.g tabOK 5 rfl ?_
   exact WpG.ret tabOK (L' := []) (.tmp rfl .nil) (.cons _ .slnil) ⟨congrArg Value.bool (by unfold ofOpD; first | (rw [if_pos (by omega)]; done) | (rw [if_neg (by omega), if_pos (by omega)]; done) | rw [if_neg (by omega), if_neg (by omega)]), rfl⟩
  refine WpG.g tabOK 6 rfl ?_
  refine WpG.y rfl rfl rfl rfl (RunY.loadH tabOK (hb.sub 3 1) hlr rfl rfl rfl rfl) ?_
  refine WpG.g tabOK 2 rfl ?_
  refine WpG.caseD (t := 27) rfl (fun q27 => ?_) (fun q27 => ?_)
  ·refine WpG.g tabOK 1 rfl ?_
   refine WpG.y rfl rfl rfl rfl (RunY.loadBox (ci := 0) tabOK rfl rfl rfl rfl) ?_
   refine WpG.g tabOK 4 rfl ?_
   refine WpG.caseD (t := 21) rfl (fun q21 => ?_) (fun q21 => ?_)
   ·refine WpG.g tabOK 5 rfl ?_
    exact WpG.ret tabOK (L' := []) (.tmp rfl .nil) (.cons _ .slnil) ⟨congrArg Value.bool (by unfold ofOpD; first | (rw [if_pos (by omega)]; done) | (rw [if_neg (by omega), if_pos (by omega)]; done) | rw [if_neg (by omega), if_neg (by omega)]), rfl⟩
   refine WpG.g tabOK 5 rfl ?_
   refine WpG.y rfl rfl rfl rfl (RunY.loadBox (ci := 0) tabOK rfl rfl rfl rfl) ?_
   refine WpG.callS rfl rfl rfl rfl rfl rfl hlr (kMay_calls rd_o') ?_
   refine WpG.g tabOK 2 rfl ?_
   exact WpG.ret tabOK (L' := []) (.tmp rfl .nil) (.cons _ .slnil) ⟨congrArg Value.bool (by unfold ofOpD; first | (rw [if_pos (by omega)]; done) | (rw [if_neg (by omega), if_pos (by omega)]; done) | rw [if_neg (by omega), if_neg (by omega)]), rfl⟩
  refine WpG.g tabOK 11 rfl ?_
  refine WpG.y rfl rfl rfl rfl (RunY.loadBox (ci := 0) tabOK rfl rfl rfl rfl) ?_
  refine WpG.callS rfl rfl rfl rfl rfl rfl hlr (kMay_calls rd_o') ?_
  refine WpG.g tabOK 2 rfl ?_
  exact WpG.ret tabOK (L' := []) (.tmp rfl .nil) (.cons _ .slnil) ⟨congrArg Value.bool (by unfold ofOpD; first | (rw [if_pos (by omega)]; done) | (rw [if_neg (by omega), if_pos (by omega)]; done) | rw [if_neg (by omega), if_neg (by omega)]), rfl⟩
 refine WpG.g tabOK 17 rfl ?_
 refine WpG.y rfl rfl rfl rfl (RunY.loadH tabOK (hb.sub 3 1) hlr rfl rfl rfl rfl) ?_
 refine WpG.g tabOK 2 rfl ?_
 refine WpG.caseD (t := 27) rfl (fun q27 => ?_) (fun q27 => ?_)
 ·refine WpG.g tabOK 1 rfl ?_
  refine WpG.y rfl rfl rfl rfl (RunY.loadBox (ci := 0) tabOK rfl rfl rfl rfl) ?_
  refine WpG.g tabOK 4 rfl ?_
  refine WpG.caseD (t := 21) rfl (fun q21 => ?_) (fun q21 => ?_)
  ·refine WpG.g tabOK 5 rfl ?_
   exact WpG.ret tabOK (L' := []) (.tmp rfl .nil) (.cons _ .slnil) ⟨congrArg Value.bool (by unfold ofOpD; first | (rw [if_pos (by omega)]; done) | (rw [if_neg (by omega), if_pos (by omega)]; done) | rw [if_neg (by omega), if_neg (by omega)]), rfl⟩
  refine WpG.g tabOK 5 rfl ?_
  refine WpG.y rfl rfl rfl rfl (RunY.loadBox (ci := 0) tabOK rfl rfl rfl rfl) ?_
  refine WpG.callS rfl rfl rfl rfl rfl rfl hlr (kMay_calls rd_o') ?_
  refine WpG.g tabOK 2 rfl ?_
  exact WpG.ret tabOK (L' := []) (.tmp rfl .nil) (.cons _ .slnil) ⟨congrArg Value.bool (by unfold ofOpD; first | (rw [if_pos (by omega)]; done) | (rw [if_neg (by omega), if_pos (by omega)]; done) | rw [if_neg (by omega), if_neg (by omega)]), rfl⟩
 refine WpG.g tabOK 11 rfl ?_
 refine WpG.y rfl rfl rfl rfl (RunY.loadBox (ci := 0) tabOK rfl rfl rfl rfl) ?_
 refine WpG.callS rfl rfl rfl rfl rfl rfl hlr (kMay_calls rd_o') ?_
 refine WpG.g tabOK 2 rfl ?_
 exact WpG.ret tabOK (L' := []) (.tmp rfl .nil) (.cons _ .slnil) ⟨congrArg Value.bool (by unfold ofOpD; first | (rw [if_pos (by omega)]; done) | (rw [if_neg (by omega), if_pos (by omega)]; done) | rw [if_neg (by omega), if_neg (by omega)]), rfl⟩
theorem Typed3_calls {H : Hp} {o : OpD} {cs_o : List Value} (rd_o : Rdc.rd H cs_o o) {b : Nat} {lv : Int} {v0 v1 v2 s1 s2 t1 dm : Value} (hb : HCells H b 0 [v0, v1, v2, .int .i64 lv, s1, s2, t1, dm]) {bx : Nat} (hx : HCells H bx 0 [.pointer (some ⟨b, 0, none⟩)]) : CallG Tryz.prog 139 [.agg cs_o.toArray, .pointer (some ⟨bx, 0, none⟩)] H [] (fun v _ L' => v = .bool (!ofOpD lv o) ∧ L' = []) := by
 have rd_o' := rd_o; obtain ⟨A_o_4, c_o_4, rfl, u_o_4, r_o_4, k_o_0, k_o_1, k_o_2, k_o_3, k_o_4⟩ := rd_o
 refine CallG.of Tryz.func139 rfl rfl rfl fun w0 => ?_
 refine WpG.g tabOK 2 rfl ?_
 refine WpG.box rfl rfl rfl rfl rfl (fun b1 => ?_)
 refine WpG.g tabOK 4 rfl ?_
 refine WpG.y rfl rfl rfl rfl (RunY.loadH tabOK hx hlr rfl rfl rfl rfl) ?_
 refine WpG.y rfl rfl rfl rfl (RunY.loadBox (ci := 0) tabOK rfl rfl rfl rfl) ?_
 refine WpG.callS rfl rfl rfl rfl rfl rfl hlr (CheckOf_calls rd_o' hb) ?_
 refine WpG.g tabOK 3 rfl ?_
 exact WpG.ret tabOK (L' := []) (.tmp rfl .nil) (.cons _ .slnil) ⟨congrArg Value.bool (by rfl), rfl⟩
theorem Typed_calls {H : Hp} {f : FuncD} {A_f_0 A_f_2 : Option Addr} {c_f_0 c_f_2 : Nat} (u_f_0 : f.params.length ≤ c_f_0) (r_f_0 : RdS H A_f_0 f.params) (u_f_2 : f.blocks.length ≤ c_f_2) (r_f_2 : RdS H A_f_2 f.blocks) (k_f_0 : I64 f.ret) {b : Nat} {lv : Int} {s1 s2 t1 dm : Value} (hb : HCells H b 0 [.slice A_f_0 f.params.length c_f_0, .int .i64 f.ret, .slice A_f_2 f.blocks.length c_f_2, .int .i64 lv, s1, s2, t1, dm]) : CallG Tryz.prog 112 [.pointer (some ⟨b, 0, none⟩)] H [] (fun v _ L' => v = .int .i64 (if typedD f lv then 0 else 6) ∧ L' = []) := by
 have rd_f' : Rdc.rd H [.slice A_f_0 f.params.length c_f_0, .int .i64 f.ret, .slice A_f_2 f.blocks.length c_f_2] f := ⟨_, _, _, _, rfl, u_f_0, r_f_0, u_f_2, r_f_2, k_f_0⟩
 have bs := r_f_2.1; have bsp := r_f_0.1
 refine CallG.of Tryz.func112 rfl rfl rfl fun w0 => ?_
 refine WpG.g tabOK 2 rfl ?_
 refine WpG.box rfl rfl rfl rfl rfl (fun b1 => ?_)
 refine WpG.freezeBox (ci := 0) rfl (fun H2 hH2 hc2 => ?_)
 refine WpG.g tabOK 5 rfl ?_
 refine WpG.y rfl rfl rfl rfl (RunY.loadH tabOK hc2 hlr rfl rfl rfl rfl) ?_
 refine WpG.g tabOK 3 rfl ?_
 refine WpG.y rfl rfl rfl rfl (RunY.loadH tabOK (hb.sub 1 1) hH2 rfl rfl rfl rfl) ?_
 refine WpG.callS rfl rfl rfl rfl rfl rfl hlr (May_calls f.ret) ?_
 refine WpG.g tabOK 2 rfl ?_
 refine WpG.caseBn (t := 13) rfl (fun q13 => ?_) (fun q13 => ?_)
 ·refine WpG.g tabOK 13 rfl ?_
  exact WpG.ret tabOK (L' := []) (.tmp rfl .nil) .slnil ⟨congrArg (Value.int .i64) (by exact typed_no (by unfold typedD; rw [q13]; rfl)), rfl⟩
 refine WpG.y rfl rfl rfl rfl (RunY.loadH tabOK hc2 hlr rfl rfl rfl rfl) ?_
 refine WpG.g tabOK 3 rfl ?_
 refine WpG.y rfl rfl rfl rfl (RunY.loadH tabOK (hb.sub 0 1) hH2 rfl rfl rfl rfl) ?_
 refine WpG.callS rfl rfl rfl rfl rfl rfl hlr (ContainsFunc_int (r_f_0.mono hH2) (p := fun x => !mayW x) (fun x _ => Typed1_calls x)) ?_
 refine WpG.g tabOK 2 rfl ?_
 refine WpG.caseB (t := 20) rfl (fun q20 => ?_) (fun q20 => ?_)
 ·refine WpG.g tabOK 5 rfl ?_
  exact WpG.ret tabOK (L' := []) (.tmp rfl .nil) .slnil ⟨congrArg (Value.int .i64) (by exact typed_no (by unfold typedD; rw [q13, q20]; rfl)), rfl⟩
 refine WpG.g tabOK 5 rfl ?_
 refine WpG.y rfl rfl rfl rfl (RunY.loadH tabOK hc2 hlr rfl rfl rfl rfl) ?_
 refine WpG.g tabOK 3 rfl ?_
 refine WpG.y rfl rfl rfl rfl (RunY.loadH tabOK (hb.sub 2 1) hH2 rfl rfl rfl rfl) ?_
 refine WpG.g tabOK 5 rfl ?_
 refine WpG.wk (WpG.ind1 (fun (i : Int) => ⟨(f.blocks.length - i).toNat, [(1, .pointer (some ⟨b1, 0, none⟩)), (25, .slice A_f_2 f.blocks.length c_f_2), (26, .int .i64 (f.blocks.length : Int)), (27, .int .i64 i)], H2, [], 0 ≤ i ∧ i ≤ f.blocks.length ∧ f.blocks.all (typedB lv) = (f.blocks.drop i.toNat).all (typedB lv)⟩) ?_ 0 ⟨by omega, by omega, rfl⟩) rfl
 intro i inv ih1
 obtain ⟨i0, i1, i2⟩ := inv
 refine WpG.g tabOK 5 rfl ?_
 refine WpG.caseD (t := 28) rfl (fun q28 => ?_) (fun q28 => ?_)
 ·refine WpG.g tabOK 6 rfl ?_
  refine WpG.indexR tabOK rfl rfl rfl rfl rfl rfl rfl rfl rfl r_f_2 (by omega) (by omega) ?_
  rintro x3 hx3 b3 o3 cs3 rd3 hc3
  have rd3' := rd3; obtain ⟨A3_0, c3_0, A3_1, c3_1, A3_4, c3_4, rfl, u3_0, r3_0, u3_1, r3_1, u3_4, r3_4, k3_0, k3_1⟩ := rd3
  refine WpG.y rfl rfl rfl rfl (RunY.loadH tabOK hc3 hH2 rfl rfl rfl rfl) ?_
  refine WpG.alloc tabOK rfl rfl rfl rfl rfl (fun b4 => ?_)
  refine WpG.storeBox (ci := 0) (cs' := [.slice A3_0 x3.phis.length c3_0, .slice A3_1 x3.ops.length c3_1, .int .i64 x3.en.kind, .int .i64 x3.en.arg, .slice A3_4 x3.en.to.length c3_4]) tabOK rfl rfl rfl rfl rfl rfl rfl rfl rfl ?_
  refine WpG.g tabOK 4 rfl ?_
  refine WpG.y rfl rfl rfl rfl (RunY.loadBox (ci := 0) tabOK rfl rfl rfl rfl) ?_
  refine WpG.callS rfl rfl rfl rfl rfl rfl hlr (ContainsFunc_phi (r3_0.mono hH2) (p := fun p => !mayW p.bits) (fun x _ cs hx => Typed2_calls hx)) ?_
  refine WpG.g tabOK 6 rfl ?_
  refine WpG.caseB (t := 35) rfl (fun q35 => ?_) (fun q35 => ?_)
  ·refine WpG.g tabOK 11 rfl ?_
   exact WpG.ret tabOK (L' := []) (.tmp rfl .nil) (.cons _ .slnil) ⟨congrArg (Value.int .i64) (by clear ih1; exact typed_no (by unfold typedD; rw [q13, q20, all_no i2 i0 q28 hx3 (by unfold typedB; rw [q35]; rfl)]; rfl)), rfl⟩
  refine WpG.g tabOK 1 rfl ?_
  refine WpG.y rfl rfl rfl rfl (RunY.loadBox (ci := 0) tabOK rfl rfl rfl rfl) ?_
  refine WpG.g tabOK 1 rfl ?_
  refine WpG.callS rfl rfl rfl rfl rfl rfl hlr (ContainsFunc_op (r3_1.mono hH2) (p := fun o => !ofOpD lv o) (fun x _ cs hx => Typed3_calls hx (hb.mono hH2) (hc2.mono hlr))) ?_
  refine WpG.g tabOK 2 rfl ?_
  refine WpG.caseB (t := 40) rfl (fun q40 => ?_) (fun q40 => ?_)
  ·refine WpG.g tabOK 5 rfl ?_
   exact WpG.ret tabOK (L' := []) (.tmp rfl .nil) (.cons _ .slnil) ⟨congrArg (Value.int .i64) (by clear ih1; exact typed_no (by unfold typedD; rw [q13, q20, all_no i2 i0 q28 hx3 (by unfold typedB; rw [q35, q40]; rfl)]; rfl)), rfl⟩
  refine WpG.gw tabOK 5 41 rfl (wrk (x := i + 1) (by omega) (by omega)) ?_
  refine WpG.g tabOK 3 rfl ?_
  refine WpG.dropL (L' := []) (.cons _ .slnil) ?_
  refine WpG.wk (ih1 (i + 1) ?_ ?_) rfl
  ·dsimp only
   omega
  clear ih1
  exact ⟨by omega, by omega, all_step i2 i0 q28 hx3 (by unfold typedB; rw [q35, q40]; rfl)⟩
 refine WpG.g tabOK 6 rfl ?_
 exact WpG.ret tabOK (L' := []) (.tmp rfl .nil) .slnil ⟨congrArg (Value.int .i64) (by clear ih1; exact typed_yes (by unfold typedD; rw [q13, q20, all_end i2 i0 q28]; rfl)), rfl⟩
end Go.Proofs.YtakameggkkjcpaaGreat
namespace Go.Proofs.YtakameggkkjcpaaGreat
open Go Go.RowKit
section
variable {P : Program} {T : List TRow} {fn : Func} {w0 : World} {H0 : Hp} {X : List Nat} {k : List Item} {F : Fk} {H : Hp} {L : List Chunk} {R : Ending → World → Prop} {Hs : Hp} {Ls : List Chunk} {ops : Array Oper} {fuel : Nat} {listed : Array Bool} {ty : TypeId} {pos : String} {af : Array Edge} {g : Option (Nat × Bool)} {dst : Option Nat}
theorem OpG.y {i d : Nat} {o : Oper} {v : Value} (ho : ops[i]? = some o) (hw : wantk ops F o.guard = some true) (hd : o.dst = some d) (hn : Nat.blt d fn.ntmps = true) (hr : RunY P fn w0 H0 X F H L o v) :
    OpG P fn w0 H0 X ops i F H L fun F' H' L' => F' = (d, v) :: F ∧ H' = H ∧ L' = L := ⟨o, ho, hw, fun a w ha hs =>
  .value (hr a w ha hs) ⟨_, _, _, ⟨rfl, rfl, rfl⟩, by rw [hd]; exact ha.put (by simpa [Nat.blt_eq] using hn) _, hs⟩⟩
theorem WpD.dropL {L' : List Chunk} (hL : L'.Sublist L) (h : WpD P fn w0 H0 X k R Hs Ls ops fuel listed F H L') : WpD P fn w0 H0 X k R Hs Ls ops fuel listed F H L := fun a w ha hs => h a w ha (hs.drop hL)
end
structure AskD where
  v : Int
  s1 : Int
  s2 : Int
  bl : Int
  pos : Int
  deriving Inhabited, DecidableEq
def zipA {α β γ : Type} (f : α → β → γ) : List α → List β → List γ
  | a :: l, b :: m => f a b :: zipA f l m
  | _, _ => []
theorem zipA_len {α β γ : Type} (f : α → β → γ) : ∀ (l : List α) (m : List β), l.length ≤ m.length → (zipA f l m).length = l.length
  | [], [], _ => rfl
  | [], _ :: _, _ => rfl
  | _ :: _, [], h => by simp at h
  | a :: l, b :: m, h => by simp only [zipA, List.length_cons, zipA_len f l m (by simpa using h)]
theorem zipA_len' {α β γ : Type} (f : α → β → γ) : ∀ (l : List α) (m : List β), m.length ≤ l.length → (zipA f l m).length = m.length
  | [], [], _ => rfl
  | _ :: _, [], _ => rfl
  | [], _ :: _, h => by simp at h
  | a :: l, b :: m, h => by simp only [zipA, List.length_cons, zipA_len' f l m (by simpa using h)]
theorem zipA_drop {α β γ : Type} [Inhabited α] [Inhabited β] (f : α → β → γ) {l : List α} {m : List β} {k : Int} (h0 : 0 ≤ k) (h1 : k < l.length) (h2 : k < m.length) : (zipA f l m).drop k.toNat = f (nth l k) (nth m k) :: (zipA f l m).drop (k + 1).toNat := by
  have key : ∀ (n : Nat) (l : List α) (m : List β), n < l.length → n < m.length → (zipA f l m).drop n = f (l.getD n default) (m.getD n default) :: (zipA f l m).drop (n + 1) := by
    intro n
    induction n with
    | zero =>
      intro l m hl hm
      match l, m, hl, hm with
      | a :: l, b :: m, _, _ => rfl
      | [], _, hl, _ => simp at hl
      | _ :: _, [], _, hm => simp at hm
    | succ n ih =>
      intro l m hl hm
      match l, m, hl, hm with
      | a :: l, b :: m, hl, hm => simpa [zipA] using ih l m (by simpa using hl) (by simpa using hm)
      | [], _, hl, _ => simp at hl
      | _ :: _, [], _, hm => simp at hm
  rw [toNat_succ h0]
  exact key k.toNat l m (by omega) (by omega)
def phiAsks (p : PhiD) : List AskD := zipA (fun v fr => ⟨v, p.bits, 1, fr, 1048576⟩) p.args p.frm
def opAsks (i k : Int) (o : OpD) : List AskD := zipA (fun v s => ⟨v, s.1, s.2, i, k⟩) o.args (takesF o)
def opsAsks (i : Int) : Int → List OpD → List AskD
  | _, [] => []
  | k, o :: l => opAsks i k o ++ opsAsks i (k + 1) l
def endBits (ret kind : Int) : Int := if kind = 0 then ret else if kind = 2 then 1 else 0
def endAsks (ret i : Int) (e : EndD) : List AskD := if endBits ret e.kind = 0 then [] else [⟨e.arg, endBits ret e.kind, 1, i, 1048576⟩]
def blkAsks (ret i : Int) (b : BlockD) : List AskD := b.phis.flatMap phiAsks ++ (opsAsks i 0 b.ops ++ endAsks ret i b.en)
def allAsks (ret : Int) : Int → List BlockD → List AskD
  | _, [] => []
  | i, b :: l => blkAsks ret i b ++ allAsks ret (i + 1) l
def asksF (f : FuncD) : List AskD := allAsks f.ret 0 f.blocks
abbrev AskF := Int → Int → Int → Int → Int → Int
def firstA (ask : AskF) : List AskD → Int
  | [] => 0
  | a :: l => if ask a.v a.s1 a.s2 a.bl a.pos ≠ 0 then ask a.v a.s1 a.s2 a.bl a.pos else firstA ask l
theorem firstA_no {ask : AskF} {a : AskD} {l : List AskD} {r : Int} (h : r = firstA ask (a :: l)) (h2 : ask a.v a.s1 a.s2 a.bl a.pos = 0) : r = firstA ask l := by rw [h]; simp only [firstA, h2]; rw [if_neg (by simp)]
theorem firstA_yes {ask : AskF} {a : AskD} {l : List AskD} {r : Int} (h : r = firstA ask (a :: l)) (h2 : ask a.v a.s1 a.s2 a.bl a.pos ≠ 0) : r = ask a.v a.s1 a.s2 a.bl a.pos := by rw [h]; simp only [firstA]; rw [if_pos h2]
def askDef (ms : List (Int × DefD)) : AskF := fun v _ _ _ _ => if (mget ms v).isSome then 0 else 7
def askShape (ms : List (Int × DefD)) : AskF := fun v s1 s2 _ _ => if ((mget ms v).getD ⟨0, 0, 0, 0⟩).bits = s1 ∧ ((mget ms v).getD ⟨0, 0, 0, 0⟩).lanes = s2 then 0 else 6
def placeOK (tl : List Int) (d : DefD) (bl pos : Int) : Bool := decide (d.blk < 0) || (decide (d.blk = bl) && decide (d.pos < pos)) || (!decide (d.blk = bl) && overD tl d.blk bl)
def askPlace (ms : List (Int × DefD)) (tl : List Int) : AskF := fun v _ _ bl pos => if placeOK tl ((mget ms v).getD ⟨0, 0, 0, 0⟩) bl pos then 0 else 7
structure PutD where
  phi : Bool
  v : Int
  d : DefD
  deriving Inhabited
def putAll : List (Int × DefD) → List PutD → Option (List (Int × DefD))
  | ms, [] => some ms
  | ms, p :: l => if (p.phi = true ∧ (p.v < 1 ∨ p.v > 1023)) ∨ (mget ms p.v).isSome = true then none else putAll (mput ms p.v p.d) l
def parPuts : List (Int × DefD) → Int → List Int → List (Int × DefD)
  | ms, _, [] => ms
  | ms, i, b :: l => parPuts (mput ms (i + 1) ⟨-1, 0, b, 1⟩) (i + 1) l
def phiPuts (i : Int) (l : List PhiD) : List PutD := l.map fun p => ⟨true, p.dst, ⟨i, -1, p.bits, 1⟩⟩
def opsPuts (i : Int) : Int → List OpD → List PutD
  | _, [] => []
  | k, o :: l => (if (givesF o).1 > 0 then [⟨false, o.dst, ⟨i, k, (givesF o).1, (givesF o).2⟩⟩] else []) ++ opsPuts i (k + 1) l
def allPuts : Int → List BlockD → List PutD
  | _, [] => []
  | i, b :: l => phiPuts i b.phis ++ (opsPuts i 0 b.ops ++ allPuts (i + 1) l)
def defsD (f : FuncD) : Option (List (Int × DefD)) := putAll (parPuts [] 0 f.params) (allPuts 0 f.blocks)
theorem put_bad {ms : List (Int × DefD)} {p : PutD} {l : List PutD} {r : Option (List (Int × DefD))} (h : r = putAll ms (p :: l)) (h2 : (p.phi = true ∧ (p.v < 1 ∨ p.v > 1023)) ∨ (mget ms p.v).isSome = true) : r = none := by rw [h]; simp only [putAll]; rw [if_pos h2]
theorem put_ok {ms : List (Int × DefD)} {p : PutD} {l : List PutD} {r : Option (List (Int × DefD))} (h : r = putAll ms (p :: l)) (h2 : ¬ ((p.phi = true ∧ (p.v < 1 ∨ p.v > 1023)) ∨ (mget ms p.v).isSome = true)) : r = putAll (mput ms p.v p.d) l := by rw [h]; simp only [putAll]; rw [if_neg h2]
def Small64 (ms : List (Int × DefD)) : Prop := ∀ v, I64 ((mget ms v).getD ⟨0, 0, 0, 0⟩).blk
theorem end_map1 (ret k : Int) : (mget (mput (mput ([] : List (Int × Int)) 0 ret) 2 1) k).getD 0 = endBits ret k := by
  unfold endBits
  by_cases h0 : k = 0
  · subst h0; simp [mput, mget]
  · by_cases h2 : k = 2
    · subst h2; simp [mput, mget]
    · simp [mput, mget, Ne.symm h0, Ne.symm h2, h0, h2]
theorem end_map2 (ret k : Int) : (mget (mput (mput ([] : List (Int × Int)) 2 1) 0 ret) k).getD 0 = endBits ret k := by
  unfold endBits
  by_cases h0 : k = 0
  · subst h0; simp [mput, mget]
  · by_cases h2 : k = 2
    · subst h2; simp [mput, mget]
    · simp [mput, mget, Ne.symm h0, Ne.symm h2, h0, h2]
theorem takes_le (o : OpD) : (takesF o).length ≤ o.args.length := by
  unfold takesF
  by_cases h : mayO o = true
  · rw [if_pos h]
    simp only [mayO, Bool.and_eq_true, beq_iff_eq] at h
    omega
  · rw [if_neg h]; simp
theorem asks_step {ret i : Int} {bs : List BlockD} {x : BlockD} (h0 : 0 ≤ i) (h1 : i < bs.length) (hx : x = nth bs i) :
    allAsks ret i (bs.drop i.toNat) = x.phis.flatMap phiAsks ++ (opsAsks i 0 x.ops ++ (endAsks ret i x.en ++ allAsks ret (i + 1) (bs.drop (i + 1).toNat))) := by
  rw [drop_nth h0 h1, ← hx, toNat_succ h0]; simp only [allAsks, blkAsks, List.append_assoc]
theorem phis_step {l : List PhiD} {j : Int} {x : PhiD} (h0 : 0 ≤ j) (h1 : j < l.length) (hx : x = nth l j) : (l.drop j.toNat).flatMap phiAsks = phiAsks x ++ (l.drop (j + 1).toNat).flatMap phiAsks := by
  rw [drop_nth h0 h1, ← hx, toNat_succ h0]; rfl
theorem ops_step {i : Int} {l : List OpD} {m : Int} {x : OpD} (h0 : 0 ≤ m) (h1 : m < l.length) (hx : x = nth l m) : opsAsks i m (l.drop m.toNat) = opAsks i m x ++ opsAsks i (m + 1) (l.drop (m + 1).toNat) := by
  rw [drop_nth h0 h1, ← hx, toNat_succ h0]; rfl
theorem phi_ask {p : PhiD} {k : Int} {v fr : Int} (hl : p.args.length = p.frm.length) (h0 : 0 ≤ k) (h1 : k < p.args.length) (hv : v = nth p.args k) (hf : fr = nth p.frm k) : (phiAsks p).drop k.toNat = ⟨v, p.bits, 1, fr, 1048576⟩ :: (phiAsks p).drop (k + 1).toNat := by
  rw [hv, hf]; exact zipA_drop _ h0 h1 (by omega)
theorem phi_end {p : PhiD} {k : Int} (hl : p.args.length = p.frm.length) (h0 : 0 ≤ k) (h1 : ¬ k < p.args.length) : (phiAsks p).drop k.toNat = [] := by
  apply List.drop_eq_nil_of_le
  have := zipA_len (fun v fr => (⟨v, p.bits, 1, fr, 1048576⟩ : AskD)) p.args p.frm (by omega)
  unfold phiAsks; omega
theorem op_ask {i m : Int} {o : OpD} {k : Int} {v : Int} {s : Int × Int} (h0 : 0 ≤ k) (h1 : k < (takesF o).length) (hv : v = nth o.args k) (hs : s = nth (takesF o) k) : (opAsks i m o).drop k.toNat = ⟨v, s.1, s.2, i, m⟩ :: (opAsks i m o).drop (k + 1).toNat := by
  rw [hv, hs]; exact zipA_drop _ h0 (by have := takes_le o; omega) h1
theorem op_end {i m : Int} {o : OpD} {k : Int} (h0 : 0 ≤ k) (h1 : ¬ k < (takesF o).length) : (opAsks i m o).drop k.toNat = [] := by
  apply List.drop_eq_nil_of_le
  have := zipA_len' (fun v s => (⟨v, s.1, s.2, i, m⟩ : AskD)) o.args (takesF o) (takes_le o)
  unfold opAsks; omega
theorem perm_two {α : Type} {L : List α} {i j : Nat} {c d : α} (h : L[i]? = some c) (h2 : (L.eraseIdx i)[j]? = some d) : L.Perm ([c, d] ++ (L.eraseIdx i).eraseIdx j) := (perm_at h).trans ((perm_at h2).cons c)
theorem par_step {ms : List (Int × DefD)} {l : List Int} {i : Int} {x : Int} (h0 : 0 ≤ i) (h1 : i < l.length) (hx : x = nth l i) : parPuts ms i (l.drop i.toNat) = parPuts (mput ms (i + 1) ⟨-1, 0, x, 1⟩) (i + 1) (l.drop (i + 1).toNat) := by
  rw [drop_nth h0 h1, ← hx, toNat_succ h0]; rfl
theorem allPuts_step {i : Int} {bs : List BlockD} {x : BlockD} (h0 : 0 ≤ i) (h1 : i < bs.length) (hx : x = nth bs i) : allPuts i (bs.drop i.toNat) = phiPuts i x.phis ++ (opsPuts i 0 x.ops ++ allPuts (i + 1) (bs.drop (i + 1).toNat)) := by
  rw [drop_nth h0 h1, ← hx, toNat_succ h0]; rfl
theorem phiPuts_step {i : Int} {l : List PhiD} {j : Int} {x : PhiD} (h0 : 0 ≤ j) (h1 : j < l.length) (hx : x = nth l j) : phiPuts i (l.drop j.toNat) = ⟨true, x.dst, ⟨i, -1, x.bits, 1⟩⟩ :: phiPuts i (l.drop (j + 1).toNat) := by
  rw [drop_nth h0 h1, ← hx, toNat_succ h0]; rfl
theorem opsPuts_step {i : Int} {l : List OpD} {k : Int} {x : OpD} (h0 : 0 ≤ k) (h1 : k < l.length) (hx : x = nth l k) : opsPuts i k (l.drop k.toNat) = (if (givesF x).1 > 0 then [⟨false, x.dst, ⟨i, k, (givesF x).1, (givesF x).2⟩⟩] else []) ++ opsPuts i (k + 1) (l.drop (k + 1).toNat) := by
  rw [drop_nth h0 h1, ← hx, toNat_succ h0]; rfl
theorem phi_ok {ms : List (Int × DefD)} {v : Int} {d : DefD} {T : List PutD} {r : Option (List (Int × DefD))} (h : r = putAll ms (⟨true, v, d⟩ :: T)) (h1 : ¬ v < 1) (h2 : ¬ v > 1023) (h3 : (!(mget ms v).isSome) = true) : r = putAll (mput ms v d) T :=
  put_ok h (by
    rintro (⟨-, h⟩ | h)
    · rcases h with h | h
      · exact h1 h
      · exact h2 h
    · have h' : (mget ms v).isSome = true := h
      rw [h'] at h3; cases h3)
theorem phi_bad {ms : List (Int × DefD)} {v : Int} {d : DefD} {T : List PutD} {r : Option (List (Int × DefD))} (h : r = putAll ms (⟨true, v, d⟩ :: T)) (h1 : v < 1 ∨ v > 1023 ∨ (!(mget ms v).isSome) = false) : r = none :=
  put_bad h (by
    rcases h1 with h1 | h1 | h1
    · exact .inl ⟨rfl, .inl h1⟩
    · exact .inl ⟨rfl, .inr h1⟩
    · exact .inr (by simpa using h1))
theorem op_ok {ms : List (Int × DefD)} {v : Int} {d : DefD} {T : List PutD} {r : Option (List (Int × DefD))} (h : r = putAll ms (⟨false, v, d⟩ :: T)) (h3 : (!(mget ms v).isSome) = true) : r = putAll (mput ms v d) T :=
  put_ok h (by
    rintro (⟨h, -⟩ | h)
    · cases h
    · have h' : (mget ms v).isSome = true := h
      rw [h'] at h3; cases h3)
theorem op_bad {ms : List (Int × DefD)} {v : Int} {d : DefD} {T : List PutD} {r : Option (List (Int × DefD))} (h : r = putAll ms (⟨false, v, d⟩ :: T)) (h1 : (!(mget ms v).isSome) = false) : r = none :=
  put_bad h (.inr (by simpa using h1))
end Go.Proofs.YtakameggkkjcpaaGreat
set_option maxRecDepth 4000
namespace Go.Proofs.YtakameggkkjcpaaGreat
open Go Go.RowKit
theorem Scalar_calls {H : Hp} (x : Int) : CallG Tryz.prog 142 [.int .i64 x] H [] (fun v H' L' => v = .agg #[.int .i64 x, .int .i64 1] ∧ L' = []) := by
 refine CallG.of Tryz.func142 rfl rfl rfl fun w0 => ?_
 refine WpG.g tabOK 2 rfl ?_
 refine WpG.alloc tabOK rfl rfl rfl rfl rfl (fun b1 => ?_)
 refine WpG.g tabOK 5 rfl ?_
 refine WpG.storeBox (ci := 0) (cs' := [.int .i64 x, .int .i64 1]) tabOK rfl rfl rfl rfl rfl rfl rfl rfl rfl ?_
 refine WpG.g tabOK 1 rfl ?_
 exact WpG.ret tabOK (L' := []) (.cell (ci := 0) rfl rfl rfl rfl .nil) (.cons _ .slnil) ⟨rfl, rfl⟩
theorem Put_calls {H : Hp} {b mb : Nat} {v0 v1 v2 lv s1 s2 t1 : Value} {ms : List (Int × DefD)} (k : Int) (d : DefD) : CallG Tryz.prog 141 [.pointer (some ⟨b, 0, none⟩), .int .i64 k, .agg #[.int .i64 d.blk, .int .i64 d.pos, .int .i64 d.bits, .int .i64 d.lanes]] H [Chunk.box b [v0, v1, v2, lv, s1, s2, t1, .map (some mb)] 137, Chunk.imap mb (encm dv ms)] (fun v H' L' => H' = H ∧ v = .bool (!(mget ms k).isSome) ∧ L' = [Chunk.box b [v0, v1, v2, lv, s1, s2, t1, .map (some mb)] 137, Chunk.imap mb (encm dv (mput ms k d))]) := by
 refine CallG.of Tryz.func141 rfl rfl rfl fun w0 => ?_
 refine WpG.g tabOK 2 rfl ?_
 refine WpG.box rfl rfl rfl rfl rfl (fun b1 => ?_)
 refine WpG.g tabOK 7 rfl ?_
 refine WpG.y rfl rfl rfl rfl (RunY.loadBox (ci := 1) tabOK rfl rfl rfl rfl) ?_
 refine WpG.g tabOK 1 rfl ?_
 obtain ⟨X2, hX2⟩ : ∃ X, (mget ms k).getD ⟨0, 0, 0, 0⟩ = X := ⟨_, rfl⟩
 refine WpG.y rfl rfl rfl rfl (RunY.lookupT dv ⟨0, 0, 0, 0⟩ (ci := 2) tabOK rfl rfl rfl rfl rfl rfl rfl rfl rfl hX2 (ok := true)) ?_
 refine WpG.g tabOK 3 rfl ?_
 refine WpG.alloc tabOK rfl rfl rfl rfl rfl (fun b3 => ?_)
 refine WpG.storeBox (ci := 0) (cs' := [.int .i64 X2.blk, .int .i64 X2.pos, .int .i64 X2.bits, .int .i64 X2.lanes]) tabOK rfl rfl rfl rfl rfl rfl rfl rfl rfl ?_
 refine WpG.g tabOK 3 rfl ?_
 refine WpG.draw 7 [Chunk.box b3 [.int .i64 X2.blk, .int .i64 X2.pos, .int .i64 X2.bits, .int .i64 X2.lanes] 163, Chunk.box b1 [.int .i64 d.blk, .int .i64 d.pos, .int .i64 d.bits, .int .i64 d.lanes] 163, Chunk.box b [v0, v1, v2, lv, s1, s2, t1, .map (some mb)] 137] mixed (by kernel_rfl) ?_
 refine WpD.g (listed' := lst 7 23) tabOK [0, 1, 2, 4] (by kernel_rfl) rfl hlr hlr (.cons_cons _ (.cons_cons _ (.cons_cons _ (.cons _ .slnil)))) ?_
 refine WpD.y (i := 3) (fuel := 2) (listed' := lst 7 31) (by kernel_rfl) rfl rfl rfl rfl hlr hlr (.cons_cons _ (.cons_cons _ (.cons_cons _ (.cons _ .slnil)))) (RunY.loadBox (ci := 2) tabOK rfl rfl rfl rfl) ?_
 refine WpD.y (i := 5) (fuel := 1) (listed' := lst 7 63) (by kernel_rfl) rfl rfl rfl rfl hlr hlr (.cons_cons _ (.cons_cons _ (.cons_cons _ (.cons _ .slnil)))) (RunY.loadBox (ci := 1) tabOK rfl rfl rfl rfl) ?_
 refine WpD.f (i := 6) (fuel := 0) (listed' := lst 7 127) (by kernel_rfl) hlr (OpG.mapUpdate (ci := 3) tabOK rfl (.inl rfl) rfl rfl rfl rfl rfl rfl rfl rfl rfl rfl) ?_
 rintro F1 H1 L1 ⟨eF, eH, eL⟩
 subst eF; subst eL; rw [eH]; clear eH H1
 refine ⟨hlr, (.cons_cons _ (.cons_cons _ (.cons_cons _ (.cons _ .slnil)))), ?_⟩
 refine WpD.setL (L' := [Chunk.box b3 [.int .i64 X2.blk, .int .i64 X2.pos, .int .i64 X2.bits, .int .i64 X2.lanes] 163, Chunk.box b1 [.int .i64 d.blk, .int .i64 d.pos, .int .i64 d.bits, .int .i64 d.lanes] 163, Chunk.box b [v0, v1, v2, lv, s1, s2, t1, .map (some mb)] 137, Chunk.imap mb (encm dv (mput ms k ⟨d.blk, d.pos, d.bits, d.lanes⟩))]) (by rw [encm_put dv ms k ⟨d.blk, d.pos, d.bits, d.lanes⟩]; rfl) ?_
 refine WpD.done (by kernel_rfl) ?_
 refine WpG.g tabOK 6 rfl ?_
 exact WpG.ret tabOK (L' := [Chunk.box b [v0, v1, v2, lv, s1, s2, t1, .map (some mb)] 137, Chunk.imap mb (encm dv (mput ms k ⟨d.blk, d.pos, d.bits, d.lanes⟩))]) (.tmp rfl .nil) (.cons _ (.cons _ (.cons_cons _ (.cons_cons _ .slnil)))) ⟨rfl, rfl, rfl⟩
theorem Defined1_calls {H : Hp} {b mb bx : Nat} {v0 v1 v2 lv s1 s2 t1 : Value} {ms : List (Int × DefD)} (hb : HCells H b 0 [v0, v1, v2, lv, s1, s2, t1, .map (some mb)]) (hm : H mb = some (mobj (encm dv ms))) (hx : HCells H bx 0 [.pointer (some ⟨b, 0, none⟩)]) (x w1 w2 bl pos : Int) : CallG Tryz.prog 145 [.int .i64 x, .agg #[.int .i64 w1, .int .i64 w2], .int .i64 bl, .int .i64 pos, .pointer (some ⟨bx, 0, none⟩)] H [] (fun v _ L' => v = .int .i64 (askDef ms x w1 w2 bl pos) ∧ L' = []) := by
 refine CallG.of Tryz.func145 rfl rfl rfl fun w0 => ?_
 refine WpG.g tabOK 2 rfl ?_
 refine WpG.box rfl rfl rfl rfl rfl (fun b1 => ?_)
 refine WpG.g tabOK 5 rfl ?_
 refine WpG.y rfl rfl rfl rfl (RunY.loadH tabOK hx hlr rfl rfl rfl rfl) ?_
 refine WpG.g tabOK 2 rfl ?_
 refine WpG.y rfl rfl rfl rfl (RunY.loadH tabOK (hb.sub 7 1) hlr rfl rfl rfl rfl) ?_
 refine WpG.g tabOK 1 rfl ?_
 obtain ⟨X2, hX2⟩ : ∃ X, (mget ms x).getD ⟨0, 0, 0, 0⟩ = X := ⟨_, rfl⟩
 refine WpG.y rfl rfl rfl rfl (RunY.lookupHT dv ⟨0, 0, 0, 0⟩ tabOK hm hlr rfl rfl rfl rfl rfl rfl rfl rfl hX2 (ok := true)) ?_
 refine WpG.g tabOK 3 rfl ?_
 refine WpG.alloc tabOK rfl rfl rfl rfl rfl (fun b3 => ?_)
 refine WpG.storeBox (ci := 0) (cs' := [.int .i64 X2.blk, .int .i64 X2.pos, .int .i64 X2.bits, .int .i64 X2.lanes]) tabOK rfl rfl rfl rfl rfl rfl rfl rfl rfl ?_
 refine WpG.g tabOK 7 rfl ?_
 refine WpG.caseBn (t := 22) rfl (fun q22 => ?_) (fun q22 => ?_)
 ·refine WpG.g tabOK 5 rfl ?_
  exact WpG.ret tabOK (L' := []) (.tmp rfl .nil) (.cons _ (.cons _ .slnil)) ⟨congrArg (Value.int .i64) (by simp [askDef, *]), rfl⟩
 refine WpG.g tabOK 6 rfl ?_
 exact WpG.ret tabOK (L' := []) (.tmp rfl .nil) (.cons _ (.cons _ .slnil)) ⟨congrArg (Value.int .i64) (by simp [askDef, *]), rfl⟩
theorem Shapes1_calls {H : Hp} {b mb bx : Nat} {v0 v1 v2 lv s1 s2 t1 : Value} {ms : List (Int × DefD)} (hb : HCells H b 0 [v0, v1, v2, lv, s1, s2, t1, .map (some mb)]) (hm : H mb = some (mobj (encm dv ms))) (hx : HCells H bx 0 [.pointer (some ⟨b, 0, none⟩)]) (x w1 w2 bl pos : Int) : CallG Tryz.prog 146 [.int .i64 x, .agg #[.int .i64 w1, .int .i64 w2], .int .i64 bl, .int .i64 pos, .pointer (some ⟨bx, 0, none⟩)] H [] (fun v _ L' => v = .int .i64 (askShape ms x w1 w2 bl pos) ∧ L' = []) := by
 refine CallG.of Tryz.func146 rfl rfl rfl fun w0 => ?_
 refine WpG.g tabOK 2 rfl ?_
 refine WpG.box rfl rfl rfl rfl rfl (fun b1 => ?_)
 refine WpG.g tabOK 4 rfl ?_
 refine WpG.draw 9 [Chunk.box b1 [.int .i64 w1, .int .i64 w2] 81] mixed (by kernel_rfl) ?_
 refine WpD.g (listed' := lst 9 16) tabOK [4] (by kernel_rfl) rfl hlr hlr (.refl _) ?_
 refine WpD.y (i := 0) (fuel := 7) (listed' := lst 9 17) (by kernel_rfl) rfl rfl rfl rfl hlr hlr (.refl _) (RunY.loadH tabOK hx hlr rfl rfl rfl rfl) ?_
 refine WpD.g (listed' := lst 9 23) tabOK [1, 2] (by kernel_rfl) rfl hlr hlr (.refl _) ?_
 refine WpD.y (i := 3) (fuel := 4) (listed' := lst 9 31) (by kernel_rfl) rfl rfl rfl rfl hlr hlr (.refl _) (RunY.loadH tabOK (hb.sub 7 1) hlr rfl rfl rfl rfl) ?_
 obtain ⟨X2, hX2⟩ : ∃ X, (mget ms x).getD ⟨0, 0, 0, 0⟩ = X := ⟨_, rfl⟩
 refine WpD.y (i := 5) (fuel := 3) (listed' := lst 9 63) (by kernel_rfl) rfl rfl rfl rfl hlr hlr (.refl _) (RunY.lookupHT dv ⟨0, 0, 0, 0⟩ tabOK hm hlr rfl rfl rfl rfl rfl rfl rfl rfl hX2 (ok := false)) ?_
 refine WpD.g (listed' := lst 9 127) tabOK [6] (by kernel_rfl) rfl hlr hlr (.refl _) ?_
 refine WpD.y (i := 7) (fuel := 1) (listed' := lst 9 255) (by kernel_rfl) rfl rfl rfl rfl hlr hlr (.refl _) (RunY.loadBox (ci := 0) tabOK rfl rfl rfl rfl) ?_
 refine WpD.y (i := 8) (fuel := 0) (listed' := lst 9 511) (by kernel_rfl) rfl rfl rfl rfl hlr hlr (.refl _) (RunY.nePair tabOK rfl rfl rfl rfl rfl rfl rfl (by kernel_rfl)) ?_
 refine WpD.done (by kernel_rfl) ?_
 refine WpG.caseBn (t := 18) rfl (fun q18 => ?_) (fun q18 => ?_)
 ·refine WpG.g tabOK 5 rfl ?_
  exact WpG.ret tabOK (L' := []) (.tmp rfl .nil) (.cons _ .slnil) ⟨congrArg (Value.int .i64) (by simp_all [askShape]), rfl⟩
 refine WpG.g tabOK 6 rfl ?_
 exact WpG.ret tabOK (L' := []) (.tmp rfl .nil) (.cons _ .slnil) ⟨congrArg (Value.int .i64) (by simp_all [askShape]), rfl⟩
theorem Places1_calls {H : Hp} {b mb bx : Nat} {v0 v1 v2 lv s1 s2 : Value} {At : Option Addr} {ct : Nat} {tl : List Int} (ht : RdS H At tl) {ms : List (Int × DefD)} (hms : Small64 ms) (hb : HCells H b 0 [v0, v1, v2, lv, s1, s2, .slice At tl.length ct, .map (some mb)]) (hm : H mb = some (mobj (encm dv ms))) (hx : HCells H bx 0 [.pointer (some ⟨b, 0, none⟩)]) (x w1 w2 pos : Int) {bl : Int} (kb : I64 bl) : CallG Tryz.prog 147 [.int .i64 x, .agg #[.int .i64 w1, .int .i64 w2], .int .i64 bl, .int .i64 pos, .pointer (some ⟨bx, 0, none⟩)] H [] (fun v _ L' => v = .int .i64 (askPlace ms tl x w1 w2 bl pos) ∧ L' = []) := by
 refine CallG.of Tryz.func147 rfl rfl rfl fun w0 => ?_
 refine WpG.g tabOK 2 rfl ?_
 refine WpG.box rfl rfl rfl rfl rfl (fun b1 => ?_)
 refine WpG.g tabOK 4 rfl ?_
 refine WpG.y rfl rfl rfl rfl (RunY.loadH tabOK hx hlr rfl rfl rfl rfl) ?_
 refine WpG.g tabOK 2 rfl ?_
 refine WpG.y rfl rfl rfl rfl (RunY.loadH tabOK (hb.sub 7 1) hlr rfl rfl rfl rfl) ?_
 refine WpG.g tabOK 1 rfl ?_
 obtain ⟨X2, hX2⟩ : ∃ X, (mget ms x).getD ⟨0, 0, 0, 0⟩ = X := ⟨_, rfl⟩
 refine WpG.y rfl rfl rfl rfl (RunY.lookupHT dv ⟨0, 0, 0, 0⟩ tabOK hm hlr rfl rfl rfl rfl rfl rfl rfl rfl hX2 (ok := false)) ?_
 refine WpG.alloc tabOK rfl rfl rfl rfl rfl (fun b3 => ?_)
 refine WpG.storeBox (ci := 0) (cs' := [.int .i64 X2.blk, .int .i64 X2.pos, .int .i64 X2.bits, .int .i64 X2.lanes]) tabOK rfl rfl rfl rfl rfl rfl rfl rfl rfl ?_
 refine WpG.g tabOK 6 rfl ?_
 refine WpG.y rfl rfl rfl rfl (RunY.loadBox (ci := 0) tabOK rfl rfl rfl rfl) ?_
 refine WpG.g tabOK 3 rfl ?_
 refine WpG.caseD (t := 17) rfl (fun q17 => ?_) (fun q17 => ?_)
 ·refine WpG.g tabOK 5 rfl ?_
  exact WpG.ret tabOK (L' := []) (.tmp rfl .nil) (.cons _ (.cons _ .slnil)) ⟨congrArg (Value.int .i64) (by unfold askPlace; rw [hX2]; first | (exfalso; exact q36 q26) | (simp [placeOK, *]; done) | (simp_all [placeOK]; done) | (simp_all [placeOK]; omega)), rfl⟩
 refine WpG.g tabOK 5 rfl ?_
 refine WpG.y rfl rfl rfl rfl (RunY.loadBox (ci := 0) tabOK rfl rfl rfl rfl) ?_
 refine WpG.g tabOK 3 rfl ?_
 refine WpG.caseE (t := 26) rfl (fun q26 => ?_) (fun q26 => ?_)
 ·refine WpG.g tabOK 1 rfl ?_
  refine WpG.y rfl rfl rfl rfl (RunY.loadBox (ci := 0) tabOK rfl rfl rfl rfl) ?_
  refine WpG.g tabOK 5 rfl ?_
  refine WpG.caseD (t := 21) rfl (fun q21 => ?_) (fun q21 => ?_)
  ·refine WpG.g tabOK 7 rfl ?_
   exact WpG.ret tabOK (L' := []) (.tmp rfl .nil) (.cons _ (.cons _ .slnil)) ⟨congrArg (Value.int .i64) (by unfold askPlace; rw [hX2]; first | (exfalso; exact q36 q26) | (simp [placeOK, *]; done) | (simp_all [placeOK]; done) | (simp_all [placeOK]; omega)), rfl⟩
  refine WpG.g tabOK 1 rfl ?_
  refine WpG.draw 15 [Chunk.box b3 [.int .i64 X2.blk, .int .i64 X2.pos, .int .i64 X2.bits, .int .i64 X2.lanes] 163, Chunk.box b1 [.int .i64 w1, .int .i64 w2] 81] mixed (by kernel_rfl) ?_
  refine WpD.g (listed' := lst 15 5) tabOK [0, 2] (by kernel_rfl) rfl hlr hlr (.refl _) ?_
  refine WpD.y (i := 1) (fuel := 12) (listed' := lst 15 7) (by kernel_rfl) rfl rfl rfl rfl hlr hlr (.refl _) (RunY.loadBox (ci := 0) tabOK rfl rfl rfl rfl) ?_
  refine WpD.g (listed' := lst 15 31) tabOK [3, 4] (by kernel_rfl) rfl hlr hlr (.refl _) ?_
  refine WpD.caseN (t := 36) rfl (fun q36 => ?_) (fun q36 => ?_)
  ·refine WpD.g (listed' := lst 15 2591) tabOK [9, 11] (by kernel_rfl) rfl hlr hlr (.refl _) ?_
   refine WpD.y (i := 5) (fuel := 7) (listed' := lst 15 2623) (by kernel_rfl) rfl rfl rfl rfl hlr hlr (.refl _) (RunY.loadH tabOK hx hlr rfl rfl rfl rfl) ?_
   refine WpD.g (listed' := lst 15 2815) tabOK [6, 7] (by kernel_rfl) rfl hlr hlr (.refl _) ?_
   refine WpD.y (i := 8) (fuel := 4) (listed' := lst 15 3071) (by kernel_rfl) rfl rfl rfl rfl hlr hlr (.refl _) (RunY.loadH tabOK (hb.sub 6 1) hlr rfl rfl rfl rfl) ?_
   refine WpD.y (i := 10) (fuel := 3) (listed' := lst 15 4095) (by kernel_rfl) rfl rfl rfl rfl hlr hlr (.refl _) (RunY.loadBox (ci := 0) tabOK rfl rfl rfl rfl) ?_
   refine WpD.callS (i := 12) (fuel := 2) (listed' := lst 15 8191) (by kernel_rfl) rfl rfl rfl rfl rfl rfl hlr (Over_calls ht (hX2 ▸ hms x) kb) hlr hlr (.refl _) ?_
   refine WpD.g (listed' := lst 15 32767) tabOK [13, 14] (by kernel_rfl) rfl hlr hlr (.refl _) ?_
   refine WpD.done (by kernel_rfl) ?_
   refine WpG.caseB (t := 21) rfl (fun q21_2 => ?_) (fun q21_2 => ?_)
   ·refine WpG.g tabOK 5 rfl ?_
    exact WpG.ret tabOK (L' := []) (.tmp rfl .nil) (.cons _ (.cons _ .slnil)) ⟨congrArg (Value.int .i64) (by unfold askPlace; rw [hX2]; first | (exfalso; exact q36 q26) | (simp [placeOK, *]; done) | (simp_all [placeOK]; done) | (simp_all [placeOK]; omega)), rfl⟩
   refine WpG.g tabOK 7 rfl ?_
   exact WpG.ret tabOK (L' := []) (.tmp rfl .nil) (.cons _ (.cons _ .slnil)) ⟨congrArg (Value.int .i64) (by unfold askPlace; rw [hX2]; first | (exfalso; exact q36 q26) | (simp [placeOK, *]; done) | (simp_all [placeOK]; done) | (simp_all [placeOK]; omega)), rfl⟩
  refine WpD.g (listed' := lst 15 32767) tabOK [5, 6, 7, 8, 9, 10, 11, 12, 13, 14] (by kernel_rfl) rfl hlr hlr (.refl _) ?_
  refine WpD.done (by kernel_rfl) ?_
  refine WpG.g tabOK 7 rfl ?_
  exact WpG.ret tabOK (L' := []) (.tmp rfl .nil) (.cons _ (.cons _ .slnil)) ⟨congrArg (Value.int .i64) (by unfold askPlace; rw [hX2]; first | (exfalso; exact q36 q26) | (simp [placeOK, *]; done) | (simp_all [placeOK]; done) | (simp_all [placeOK]; omega)), rfl⟩
 refine WpG.g tabOK 8 rfl ?_
 refine WpG.draw 15 [Chunk.box b3 [.int .i64 X2.blk, .int .i64 X2.pos, .int .i64 X2.bits, .int .i64 X2.lanes] 163, Chunk.box b1 [.int .i64 w1, .int .i64 w2] 81] mixed (by kernel_rfl) ?_
 refine WpD.g (listed' := lst 15 5) tabOK [0, 2] (by kernel_rfl) rfl hlr hlr (.refl _) ?_
 refine WpD.y (i := 1) (fuel := 12) (listed' := lst 15 7) (by kernel_rfl) rfl rfl rfl rfl hlr hlr (.refl _) (RunY.loadBox (ci := 0) tabOK rfl rfl rfl rfl) ?_
 refine WpD.g (listed' := lst 15 31) tabOK [3, 4] (by kernel_rfl) rfl hlr hlr (.refl _) ?_
 refine WpD.caseN (t := 36) rfl (fun q36 => ?_) (fun q36 => ?_)
 ·refine WpD.g (listed' := lst 15 2591) tabOK [9, 11] (by kernel_rfl) rfl hlr hlr (.refl _) ?_
  refine WpD.y (i := 5) (fuel := 7) (listed' := lst 15 2623) (by kernel_rfl) rfl rfl rfl rfl hlr hlr (.refl _) (RunY.loadH tabOK hx hlr rfl rfl rfl rfl) ?_
  refine WpD.g (listed' := lst 15 2815) tabOK [6, 7] (by kernel_rfl) rfl hlr hlr (.refl _) ?_
  refine WpD.y (i := 8) (fuel := 4) (listed' := lst 15 3071) (by kernel_rfl) rfl rfl rfl rfl hlr hlr (.refl _) (RunY.loadH tabOK (hb.sub 6 1) hlr rfl rfl rfl rfl) ?_
  refine WpD.y (i := 10) (fuel := 3) (listed' := lst 15 4095) (by kernel_rfl) rfl rfl rfl rfl hlr hlr (.refl _) (RunY.loadBox (ci := 0) tabOK rfl rfl rfl rfl) ?_
  refine WpD.callS (i := 12) (fuel := 2) (listed' := lst 15 8191) (by kernel_rfl) rfl rfl rfl rfl rfl rfl hlr (Over_calls ht (hX2 ▸ hms x) kb) hlr hlr (.refl _) ?_
  refine WpD.g (listed' := lst 15 32767) tabOK [13, 14] (by kernel_rfl) rfl hlr hlr (.refl _) ?_
  refine WpD.done (by kernel_rfl) ?_
  refine WpG.caseB (t := 21) rfl (fun q21 => ?_) (fun q21 => ?_)
  ·refine WpG.g tabOK 5 rfl ?_
   exact WpG.ret tabOK (L' := []) (.tmp rfl .nil) (.cons _ (.cons _ .slnil)) ⟨congrArg (Value.int .i64) (by unfold askPlace; rw [hX2]; first | (exfalso; exact q36 q26) | (simp [placeOK, *]; done) | (simp_all [placeOK]; done) | (simp_all [placeOK]; omega)), rfl⟩
  refine WpG.g tabOK 7 rfl ?_
  exact WpG.ret tabOK (L' := []) (.tmp rfl .nil) (.cons _ (.cons _ .slnil)) ⟨congrArg (Value.int .i64) (by unfold askPlace; rw [hX2]; first | (exfalso; exact q36 q26) | (simp [placeOK, *]; done) | (simp_all [placeOK]; done) | (simp_all [placeOK]; omega)), rfl⟩
 refine WpD.g (listed' := lst 15 32767) tabOK [5, 6, 7, 8, 9, 10, 11, 12, 13, 14] (by kernel_rfl) rfl hlr hlr (.refl _) ?_
 refine WpD.done (by kernel_rfl) ?_
 refine WpG.g tabOK 7 rfl ?_
 exact WpG.ret tabOK (L' := []) (.tmp rfl .nil) (.cons _ (.cons _ .slnil)) ⟨congrArg (Value.int .i64) (by unfold askPlace; rw [hX2]; first | (exfalso; exact q36 q26) | (simp [placeOK, *]; done) | (simp_all [placeOK]; done) | (simp_all [placeOK]; omega)), rfl⟩
end Go.Proofs.YtakameggkkjcpaaGreat
set_option maxRecDepth 4000
namespace Go.Proofs.YtakameggkkjcpaaGreat
open Go Go.RowKit
theorem Uses_calls {H : Hp} {f : FuncD} {A_f_0 A_f_2 : Option Addr} {c_f_0 c_f_2 : Nat} (u_f_0 : f.params.length ≤ c_f_0) (r_f_0 : RdS H A_f_0 f.params) (u_f_2 : f.blocks.length ≤ c_f_2) (r_f_2 : RdS H A_f_2 f.blocks) (k_f_0 : I64 f.ret) {b : Nat} {lv s1 s2 t1 dm : Value} (hb : HCells H b 0 [.slice A_f_0 f.params.length c_f_0, .int .i64 f.ret, .slice A_f_2 f.blocks.length c_f_2, lv, s1, s2, t1, dm]) (hs : ∀ x ∈ f.blocks, ∀ p ∈ x.phis, p.args.length = p.frm.length) (hn : f.blocks.length ≤ 64) {gf : Nat} {first cap : Array Value} {ask : AskF} (hask : ∀ x w1 w2 bl pos, I64 bl → CallG Tryz.prog gf (first.toList ++ ([.int .i64 x, .agg #[.int .i64 w1, .int .i64 w2], .int .i64 bl, .int .i64 pos] ++ cap.toList)) H [] fun u _ L' => u = .int .i64 (ask x w1 w2 bl pos) ∧ L' = []) : CallG Tryz.prog 144 [.pointer (some ⟨b, 0, none⟩), .func (.func gf) first cap] H [] (fun v _ L' => v = .int .i64 (firstA ask (asksF f)) ∧ L' = []) := by
 have rd_f' : Rdc.rd H [.slice A_f_0 f.params.length c_f_0, .int .i64 f.ret, .slice A_f_2 f.blocks.length c_f_2] f := ⟨_, _, _, _, rfl, u_f_0, r_f_0, u_f_2, r_f_2, k_f_0⟩
 have bs := r_f_2.1; have bsp := r_f_0.1
 refine CallG.of Tryz.func144 rfl rfl rfl fun w0 => ?_
 refine WpG.g tabOK 16 rfl ?_
 refine WpG.y rfl rfl rfl rfl (RunY.loadH tabOK (hb.sub 2 1) hlr rfl rfl rfl rfl) ?_
 refine WpG.g tabOK 5 rfl ?_
 refine WpG.wk (WpG.ind2 (fun (i : Int) (e1 : Int) => ⟨(f.blocks.length - i).toNat, [(0, .pointer (some ⟨b, 0, none⟩)), (1, .func (.func gf) first cap), (5, .int .i64 e1), (21, .slice A_f_2 f.blocks.length c_f_2), (22, .int .i64 (f.blocks.length : Int)), (23, .int .i64 i)], H, [], 0 ≤ i ∧ i ≤ f.blocks.length ∧ e1 = 0 ∧ firstA ask (asksF f) = firstA ask (allAsks f.ret i (f.blocks.drop i.toNat))⟩) ?_ 0 0 ⟨by omega, by omega, rfl, rfl⟩) rfl
 intro i e1 inv ih1
 obtain ⟨i0, i1, i2, i3⟩ := inv
 refine WpG.g tabOK 5 rfl ?_
 refine WpG.caseD (t := 24) rfl (fun q24 => ?_) (fun q24 => ?_)
 ·refine WpG.g tabOK 7 rfl ?_
  refine WpG.indexR tabOK rfl rfl rfl rfl rfl rfl rfl rfl rfl r_f_2 (by omega) (by omega) ?_
  rintro x1 hx1 b1 o1 cs1 rd1 hc1
  have rd1' := rd1; obtain ⟨A1_0, c1_0, A1_1, c1_1, A1_4, c1_4, rfl, u1_0, r1_0, u1_1, r1_1, u1_4, r1_4, k1_0, k1_1⟩ := rd1
  have bp1 := r1_0.1; have bo1 := r1_1.1
  refine WpG.y rfl rfl rfl rfl (RunY.loadH tabOK hc1 hlr rfl rfl rfl rfl) ?_
  refine WpG.alloc tabOK rfl rfl rfl rfl rfl (fun b2 => ?_)
  refine WpG.g tabOK 1 rfl ?_
  refine WpG.storeBox (ci := 0) (cs' := [.slice A1_0 x1.phis.length c1_0, .slice A1_1 x1.ops.length c1_1, .int .i64 x1.en.kind, .int .i64 x1.en.arg, .slice A1_4 x1.en.to.length c1_4]) tabOK rfl rfl rfl rfl rfl rfl rfl rfl rfl ?_
  refine WpG.g tabOK 5 rfl ?_
  refine WpG.y rfl rfl rfl rfl (RunY.loadBox (ci := 0) tabOK rfl rfl rfl rfl) ?_
  refine WpG.g tabOK 5 rfl ?_
  refine WpG.wk (WpG.ind2 (fun (j : Int) (e2 : Int) => ⟨(x1.phis.length - j).toNat, [(0, .pointer (some ⟨b, 0, none⟩)), (1, .func (.func gf) first cap), (5, .int .i64 e2), (6, .int .i64 i), (7, .pointer (some ⟨b2, 0, none⟩)), (21, .slice A_f_2 f.blocks.length c_f_2), (22, .int .i64 (f.blocks.length : Int)), (23, .int .i64 i), (29, .slice A1_0 x1.phis.length c1_0), (30, .int .i64 (x1.phis.length : Int)), (31, .int .i64 j)], H, [Chunk.box b2 [.slice A1_0 x1.phis.length c1_0, .slice A1_1 x1.ops.length c1_1, .int .i64 x1.en.kind, .int .i64 x1.en.arg, .slice A1_4 x1.en.to.length c1_4] 43], 0 ≤ j ∧ j ≤ x1.phis.length ∧ e2 = 0 ∧ firstA ask (asksF f) = firstA ask ((x1.phis.drop j.toNat).flatMap phiAsks ++ (opsAsks i 0 x1.ops ++ (endAsks f.ret i x1.en ++ allAsks f.ret (i + 1) (f.blocks.drop (i + 1).toNat))))⟩) ?_ 0 e1 ⟨by omega, by omega, i2, by rw [i3, asks_step i0 q24 hx1]; rfl⟩) rfl
  intro j e2 inv ih2
  obtain ⟨j0, j1, j2, j3⟩ := inv
  refine WpG.g tabOK 5 rfl ?_
  refine WpG.caseD (t := 32) rfl (fun q32 => ?_) (fun q32 => ?_)
  ·refine WpG.g tabOK 6 rfl ?_
   refine WpG.indexR tabOK rfl rfl rfl rfl rfl rfl rfl rfl rfl r1_0 (by omega) (by omega) ?_
   rintro x3 hx3 b3 o3 cs3 rd3 hc3
   have rd3' := rd3; obtain ⟨A3_2, c3_2, A3_3, c3_3, rfl, u3_2, r3_2, u3_3, r3_3, k3_0, k3_1⟩ := rd3
   have hpl := hs x1 (hx1 ▸ nth_mem i0 q24) x3 (hx3 ▸ nth_mem j0 q32)
   have ba3 := r3_3.1
   refine WpG.y rfl rfl rfl rfl (RunY.loadH tabOK hc3 hlr rfl rfl rfl rfl) ?_
   refine WpG.alloc tabOK rfl rfl rfl rfl rfl (fun b4 => ?_)
   refine WpG.storeBox (ci := 0) (cs' := [.int .i64 x3.bits, .int .i64 x3.dst, .slice A3_2 x3.frm.length c3_2, .slice A3_3 x3.args.length c3_3]) tabOK rfl rfl rfl rfl rfl rfl rfl rfl rfl ?_
   refine WpG.g tabOK 4 rfl ?_
   refine WpG.y rfl rfl rfl rfl (RunY.loadBox (ci := 0) tabOK rfl rfl rfl rfl) ?_
   refine WpG.g tabOK 5 rfl ?_
   refine WpG.wk (WpG.ind2 (fun (k : Int) (e3 : Int) => ⟨(x3.args.length - k).toNat, [(0, .pointer (some ⟨b, 0, none⟩)), (1, .func (.func gf) first cap), (5, .int .i64 e3), (6, .int .i64 i), (7, .pointer (some ⟨b2, 0, none⟩)), (9, .pointer (some ⟨b4, 0, none⟩)), (21, .slice A_f_2 f.blocks.length c_f_2), (22, .int .i64 (f.blocks.length : Int)), (23, .int .i64 i), (29, .slice A1_0 x1.phis.length c1_0), (30, .int .i64 (x1.phis.length : Int)), (31, .int .i64 j), (36, .slice A3_3 x3.args.length c3_3), (37, .int .i64 (x3.args.length : Int)), (38, .int .i64 k)], H, [Chunk.box b4 [.int .i64 x3.bits, .int .i64 x3.dst, .slice A3_2 x3.frm.length c3_2, .slice A3_3 x3.args.length c3_3] 55, Chunk.box b2 [.slice A1_0 x1.phis.length c1_0, .slice A1_1 x1.ops.length c1_1, .int .i64 x1.en.kind, .int .i64 x1.en.arg, .slice A1_4 x1.en.to.length c1_4] 43], 0 ≤ k ∧ k ≤ x3.args.length ∧ e3 = 0 ∧ firstA ask (asksF f) = firstA ask ((phiAsks x3).drop k.toNat ++ ((x1.phis.drop (j + 1).toNat).flatMap phiAsks ++ (opsAsks i 0 x1.ops ++ (endAsks f.ret i x1.en ++ allAsks f.ret (i + 1) (f.blocks.drop (i + 1).toNat)))))⟩) ?_ 0 e2 ⟨by omega, by omega, j2, by rw [j3, phis_step j0 q32 hx3, List.append_assoc]; rfl⟩) rfl
   intro k e3 inv ih3
   obtain ⟨k0, k1, k2, k3⟩ := inv
   refine WpG.g tabOK 5 rfl ?_
   refine WpG.caseD (t := 39) rfl (fun q39 => ?_) (fun q39 => ?_)
   ·refine WpG.g tabOK 7 rfl ?_
    refine WpG.indexR tabOK rfl rfl rfl rfl rfl rfl rfl rfl rfl r3_3 (by omega) (by omega) ?_
    rintro x5 hx5 b5 o5 _ ⟨rfl, k5⟩ hc5
    refine WpG.y rfl rfl rfl rfl (RunY.loadH tabOK hc5 hlr rfl rfl rfl rfl) ?_
    refine WpG.g tabOK 4 rfl ?_
    refine WpG.draw 12 [Chunk.box b4 [.int .i64 x3.bits, .int .i64 x3.dst, .slice A3_2 x3.frm.length c3_2, .slice A3_3 x3.args.length c3_3] 55, Chunk.box b2 [.slice A1_0 x1.phis.length c1_0, .slice A1_1 x1.ops.length c1_1, .int .i64 x1.en.kind, .int .i64 x1.en.arg, .slice A1_4 x1.en.to.length c1_4] 43] mixed (by kernel_rfl) ?_
    refine WpD.g (listed' := lst 12 167) tabOK [0, 1, 2, 5, 7] (by kernel_rfl) rfl hlr hlr (.refl _) ?_
    refine WpD.y (i := 3) (fuel := 6) (listed' := lst 12 175) (by kernel_rfl) rfl rfl rfl rfl hlr hlr (.refl _) (RunY.loadBox (ci := 0) tabOK rfl rfl rfl rfl) ?_
    refine WpD.y (i := 6) (fuel := 5) (listed' := lst 12 239) (by kernel_rfl) rfl rfl rfl rfl hlr hlr (.refl _) (RunY.loadBox (ci := 0) tabOK rfl rfl rfl rfl) ?_
    refine WpD.indexR (i := 8) (fuel := 4) (listed' := lst 12 495) tabOK (by kernel_rfl) rfl rfl rfl rfl rfl rfl rfl rfl rfl hlr hlr (.refl _) r3_2 (by omega) (by omega) ?_
    rintro x6 hx6 b6 o6 _ ⟨rfl, k6⟩ hc6
    refine WpD.y (i := 9) (fuel := 3) (listed' := lst 12 1007) (by kernel_rfl) rfl rfl rfl rfl hlr hlr (.refl _) (RunY.loadH tabOK hc6 hlr rfl rfl rfl rfl) ?_
    refine WpD.callS (i := 4) (fuel := 2) (listed' := lst 12 1023) (by kernel_rfl) rfl rfl rfl rfl rfl rfl hlr (Scalar_calls x3.bits) hlr hlr (.refl _) ?_
    refine WpD.callS (i := 10) (fuel := 1) (listed' := lst 12 2047) (by kernel_rfl) rfl rfl rfl rfl rfl rfl hlr (hask x5 x3.bits 1 x6 1048576 k6) hlr hlr (.refl _) ?_
    refine WpD.g (listed' := lst 12 4095) tabOK [11] (by kernel_rfl) rfl hlr hlr (.refl _) ?_
    refine WpD.done (by kernel_rfl) ?_
    refine WpG.g tabOK 5 rfl ?_
    refine WpG.caseN (t := 55) rfl (fun q55 => ?_) (fun q55 => ?_)
    ·refine WpG.g tabOK 9 rfl ?_
     exact WpG.ret tabOK (L' := []) (.tmp rfl .nil) (.cons _ (.cons _ .slnil)) ⟨congrArg (Value.int .i64) (by clear ih1 ih2 ih3; rw [phi_ask hpl k0 q39 hx5 hx6] at k3; exact (firstA_yes k3 q55).symm), rfl⟩
    refine WpG.gw tabOK 5 56 rfl (wrk (x := k + 1) (by omega) (by omega)) ?_
    refine WpG.g tabOK 3 rfl ?_
    refine WpG.wk (ih3 (k + 1) (ask x5 x3.bits 1 x6 1048576) ?_ ?_) rfl
    ·dsimp only
     omega
    clear ih1 ih2 ih3
    show 0 ≤ (k + 1) ∧ (k + 1) ≤ x3.args.length ∧ (ask x5 x3.bits 1 x6 1048576) = 0 ∧ firstA ask (asksF f) = firstA ask ((phiAsks x3).drop (k + 1).toNat ++ ((x1.phis.drop (j + 1).toNat).flatMap phiAsks ++ (opsAsks i 0 x1.ops ++ (endAsks f.ret i x1.en ++ allAsks f.ret (i + 1) (f.blocks.drop (i + 1).toNat)))))
    rw [phi_ask hpl k0 q39 hx5 hx6] at k3
    exact ⟨by omega, by omega, q55, firstA_no k3 q55⟩
   refine WpG.gw tabOK 5 57 rfl (wrk (x := j + 1) (by omega) (by omega)) ?_
   refine WpG.g tabOK 3 rfl ?_
   refine WpG.dropL (L' := [Chunk.box b2 [.slice A1_0 x1.phis.length c1_0, .slice A1_1 x1.ops.length c1_1, .int .i64 x1.en.kind, .int .i64 x1.en.arg, .slice A1_4 x1.en.to.length c1_4] 43]) (.cons _ (.cons_cons _ .slnil)) ?_
   refine WpG.wk (ih2 (j + 1) e3 ?_ ?_) rfl
   ·dsimp only
    omega
   clear ih1 ih2 ih3
   exact ⟨by omega, by omega, k2, by rw [k3, phi_end hpl k0 q39]; rfl⟩
  refine WpG.g tabOK 6 rfl ?_
  refine WpG.y rfl rfl rfl rfl (RunY.loadBox (ci := 0) tabOK rfl rfl rfl rfl) ?_
  refine WpG.g tabOK 5 rfl ?_
  refine WpG.wk (WpG.ind2 (fun (m : Int) (e4 : Int) => ⟨(x1.ops.length - m).toNat, [(0, .pointer (some ⟨b, 0, none⟩)), (1, .func (.func gf) first cap), (5, .int .i64 e4), (6, .int .i64 i), (7, .pointer (some ⟨b2, 0, none⟩)), (21, .slice A_f_2 f.blocks.length c_f_2), (22, .int .i64 (f.blocks.length : Int)), (23, .int .i64 i), (59, .slice A1_1 x1.ops.length c1_1), (60, .int .i64 (x1.ops.length : Int)), (61, .int .i64 m)], H, [Chunk.box b2 [.slice A1_0 x1.phis.length c1_0, .slice A1_1 x1.ops.length c1_1, .int .i64 x1.en.kind, .int .i64 x1.en.arg, .slice A1_4 x1.en.to.length c1_4] 43], 0 ≤ m ∧ m ≤ x1.ops.length ∧ e4 = 0 ∧ firstA ask (asksF f) = firstA ask (opsAsks i m (x1.ops.drop m.toNat) ++ (endAsks f.ret i x1.en ++ allAsks f.ret (i + 1) (f.blocks.drop (i + 1).toNat)))⟩) ?_ 0 e2 ⟨by omega, by omega, j2, by rw [j3, drop_end j0 q32]; rfl⟩) rfl
  intro m e4 inv ih4
  obtain ⟨m0, m1, m2, m3⟩ := inv
  refine WpG.g tabOK 5 rfl ?_
  refine WpG.caseD (t := 62) rfl (fun q62 => ?_) (fun q62 => ?_)
  ·refine WpG.g tabOK 7 rfl ?_
   refine WpG.indexR tabOK rfl rfl rfl rfl rfl rfl rfl rfl rfl r1_1 (by omega) (by omega) ?_
   rintro x7 hx7 b7 o7 cs7 rd7 hc7
   have rd7' := rd7; obtain ⟨A7_4, c7_4, rfl, u7_4, r7_4, k7_0, k7_1, k7_2, k7_3, k7_4⟩ := rd7
   have ht7 := takes_le x7; have ba7 := r7_4.1
   refine WpG.y rfl rfl rfl rfl (RunY.loadH tabOK hc7 hlr rfl rfl rfl rfl) ?_
   refine WpG.alloc tabOK rfl rfl rfl rfl rfl (fun b8 => ?_)
   refine WpG.g tabOK 1 rfl ?_
   refine WpG.storeBox (ci := 0) (cs' := [.int .i64 x7.kind, .int .i64 x7.bits, .int .i64 x7.lanes, .int .i64 x7.dst, .slice A7_4 x7.args.length c7_4, .int .u64 x7.imm]) tabOK rfl rfl rfl rfl rfl rfl rfl rfl rfl ?_
   refine WpG.g tabOK 3 rfl ?_
   refine WpG.y rfl rfl rfl rfl (RunY.loadBox (ci := 0) tabOK rfl rfl rfl rfl) ?_
   refine WpG.call0 rfl rfl rfl rfl rfl rfl (kTakes_calls rd7') ?_
   rintro _ H9 _ hH9 ⟨A9, c9, rfl, r9, rfl⟩
   refine WpG.g tabOK 5 rfl ?_
   refine WpG.wk (WpG.ind2 (fun (n : Int) (e5 : Int) => ⟨((takesF x7).length - n).toNat, [(0, .pointer (some ⟨b, 0, none⟩)), (1, .func (.func gf) first cap), (5, .int .i64 e5), (6, .int .i64 i), (7, .pointer (some ⟨b2, 0, none⟩)), (12, .int .i64 m), (13, .pointer (some ⟨b8, 0, none⟩)), (21, .slice A_f_2 f.blocks.length c_f_2), (22, .int .i64 (f.blocks.length : Int)), (23, .int .i64 i), (59, .slice A1_1 x1.ops.length c1_1), (60, .int .i64 (x1.ops.length : Int)), (61, .int .i64 m), (67, .slice A9 ((takesF x7).length) c9), (68, .int .i64 ((takesF x7).length : Int)), (69, .int .i64 n)], H9, [Chunk.box b8 [.int .i64 x7.kind, .int .i64 x7.bits, .int .i64 x7.lanes, .int .i64 x7.dst, .slice A7_4 x7.args.length c7_4, .int .u64 x7.imm] 53, Chunk.box b2 [.slice A1_0 x1.phis.length c1_0, .slice A1_1 x1.ops.length c1_1, .int .i64 x1.en.kind, .int .i64 x1.en.arg, .slice A1_4 x1.en.to.length c1_4] 43], 0 ≤ n ∧ n ≤ (takesF x7).length ∧ e5 = 0 ∧ firstA ask (asksF f) = firstA ask ((opAsks i m x7).drop n.toNat ++ (opsAsks i (m + 1) (x1.ops.drop (m + 1).toNat) ++ (endAsks f.ret i x1.en ++ allAsks f.ret (i + 1) (f.blocks.drop (i + 1).toNat))))⟩) ?_ 0 e4 ⟨by omega, by omega, m2, by rw [m3, ops_step m0 q62 hx7, List.append_assoc]; rfl⟩) rfl
   intro n e5 inv ih5
   obtain ⟨n0, n1, n2, n3⟩ := inv
   refine WpG.g tabOK 5 rfl ?_
   refine WpG.caseD (t := 70) rfl (fun q70 => ?_) (fun q70 => ?_)
   ·refine WpG.g tabOK 7 rfl ?_
    refine WpG.indexR tabOK rfl rfl rfl rfl rfl rfl rfl rfl rfl r9 (by omega) (by omega) ?_
    rintro x10 hx10 b10 o10 cs10 rd10 hc10
    have rd10' := rd10; obtain ⟨rfl, k10_0, k10_1⟩ := rd10
    refine WpG.y rfl rfl rfl rfl (RunY.loadH tabOK hc10 hlr rfl rfl rfl rfl) ?_
    refine WpG.alloc tabOK rfl rfl rfl rfl rfl (fun b11 => ?_)
    refine WpG.g tabOK 1 rfl ?_
    refine WpG.storeBox (ci := 0) (cs' := [.int .i64 x10.1, .int .i64 x10.2]) tabOK rfl rfl rfl rfl rfl rfl rfl rfl rfl ?_
    refine WpG.g tabOK 2 rfl ?_
    refine WpG.draw 11 [Chunk.box b11 [.int .i64 x10.1, .int .i64 x10.2] 81, Chunk.box b8 [.int .i64 x7.kind, .int .i64 x7.bits, .int .i64 x7.lanes, .int .i64 x7.dst, .slice A7_4 x7.args.length c7_4, .int .u64 x7.imm] 53, Chunk.box b2 [.slice A1_0 x1.phis.length c1_0, .slice A1_1 x1.ops.length c1_1, .int .i64 x1.en.kind, .int .i64 x1.en.arg, .slice A1_4 x1.en.to.length c1_4] 43] mixed (by kernel_rfl) ?_
    refine WpD.g (listed' := lst 11 395) tabOK [0, 1, 3, 7, 8] (by kernel_rfl) rfl hH9 hlr (.refl _) ?_
    refine WpD.y (i := 2) (fuel := 5) (listed' := lst 11 399) (by kernel_rfl) rfl rfl rfl rfl hH9 hlr (.refl _) (RunY.loadBox (ci := 1) tabOK rfl rfl rfl rfl) ?_
    refine WpD.indexR (i := 4) (fuel := 4) (listed' := lst 11 415) tabOK (by kernel_rfl) rfl rfl rfl rfl rfl rfl rfl rfl rfl hH9 hlr (.refl _) r7_4 (by omega) (by omega) ?_
    rintro x12 hx12 b12 o12 _ ⟨rfl, k12⟩ hc12
    refine WpD.y (i := 5) (fuel := 3) (listed' := lst 11 447) (by kernel_rfl) rfl rfl rfl rfl hH9 hlr (.refl _) (RunY.loadH tabOK hc12 hH9 rfl rfl rfl rfl) ?_
    refine WpD.y (i := 6) (fuel := 2) (listed' := lst 11 511) (by kernel_rfl) rfl rfl rfl rfl hH9 hlr (.refl _) (RunY.loadBox (ci := 0) tabOK rfl rfl rfl rfl) ?_
    refine WpD.callS (i := 9) (fuel := 1) (listed' := lst 11 1023) (by kernel_rfl) rfl rfl rfl rfl rfl rfl hH9 (hask x12 x10.1 x10.2 i m ⟨by omega, by omega⟩) hH9 hlr (.refl _) ?_
    refine WpD.g (listed' := lst 11 2047) tabOK [10] (by kernel_rfl) rfl hH9 hlr (.refl _) ?_
    refine WpD.done (by kernel_rfl) ?_
    refine WpG.g tabOK 5 rfl ?_
    refine WpG.caseN (t := 85) rfl (fun q85 => ?_) (fun q85 => ?_)
    ·refine WpG.g tabOK 9 rfl ?_
     exact WpG.ret tabOK (L' := []) (.tmp rfl .nil) (.cons _ (.cons _ (.cons _ .slnil))) ⟨congrArg (Value.int .i64) (by clear ih1 ih2 ih4 ih5; rw [op_ask n0 q70 hx12 hx10] at n3; exact (firstA_yes n3 q85).symm), rfl⟩
    refine WpG.gw tabOK 5 86 rfl (wrk (x := n + 1) (by omega) (by omega)) ?_
    refine WpG.g tabOK 3 rfl ?_
    refine WpG.dropL (L' := [Chunk.box b8 [.int .i64 x7.kind, .int .i64 x7.bits, .int .i64 x7.lanes, .int .i64 x7.dst, .slice A7_4 x7.args.length c7_4, .int .u64 x7.imm] 53, Chunk.box b2 [.slice A1_0 x1.phis.length c1_0, .slice A1_1 x1.ops.length c1_1, .int .i64 x1.en.kind, .int .i64 x1.en.arg, .slice A1_4 x1.en.to.length c1_4] 43]) (.cons _ (.cons_cons _ (.cons_cons _ .slnil))) ?_
    refine WpG.wk (ih5 (n + 1) (ask x12 x10.1 x10.2 i m) ?_ ?_) rfl
    ·dsimp only
     omega
    clear ih1 ih2 ih4 ih5
    show 0 ≤ (n + 1) ∧ (n + 1) ≤ (takesF x7).length ∧ (ask x12 x10.1 x10.2 i m) = 0 ∧ firstA ask (asksF f) = firstA ask ((opAsks i m x7).drop (n + 1).toNat ++ (opsAsks i (m + 1) (x1.ops.drop (m + 1).toNat) ++ (endAsks f.ret i x1.en ++ allAsks f.ret (i + 1) (f.blocks.drop (i + 1).toNat))))
    rw [op_ask n0 q70 hx12 hx10] at n3
    exact ⟨by omega, by omega, q85, firstA_no n3 q85⟩
   refine WpG.gw tabOK 5 87 rfl (wrk (x := m + 1) (by omega) (by omega)) ?_
   refine WpG.g tabOK 3 rfl ?_
   refine WpG.dropL (L' := [Chunk.box b2 [.slice A1_0 x1.phis.length c1_0, .slice A1_1 x1.ops.length c1_1, .int .i64 x1.en.kind, .int .i64 x1.en.arg, .slice A1_4 x1.en.to.length c1_4] 43]) (.cons _ (.cons_cons _ .slnil)) ?_
   refine WpG.lessH hlr hH9 ?_
   refine WpG.wk (ih4 (m + 1) e5 ?_ ?_) rfl
   ·dsimp only
    omega
   clear ih1 ih2 ih4 ih5
   exact ⟨by omega, by omega, n2, by rw [n3, op_end n0 q70]; rfl⟩
  refine WpG.g tabOK 3 rfl ?_
  refine WpG.draw 14 [Chunk.box b2 [.slice A1_0 x1.phis.length c1_0, .slice A1_1 x1.ops.length c1_1, .int .i64 x1.en.kind, .int .i64 x1.en.arg, .slice A1_4 x1.en.to.length c1_4] 43] mixed (by kernel_rfl) ?_
  refine WpD.g (listed' := lst 14 1566) tabOK [1, 2, 3, 4, 9, 10] (by kernel_rfl) rfl hlr hlr (.refl _) ?_
  refine WpD.y (i := 5) (fuel := 7) (listed' := lst 14 1598) (by kernel_rfl) rfl rfl rfl rfl hlr hlr (.refl _) (RunY.loadH tabOK (hb.sub 1 1) hlr rfl rfl rfl rfl) ?_
  refine WpD.y (i := 11) (fuel := 6) (listed' := lst 14 3646) (by kernel_rfl) rfl rfl rfl rfl hlr hlr (.refl _) (RunY.loadBox (ci := 0) tabOK rfl rfl rfl rfl) ?_
  refine WpD.f (i := 0) (fuel := 5) (listed' := lst 14 3647) (by kernel_rfl) hlr (OpG.makeMap rfl rfl rfl) ?_
  rintro F1 H1 L1 ⟨b13, eF, eH, eL⟩
  subst eF; subst eL; rw [eH]; clear eH H1
  refine ⟨hlr, (.cons _ (.cons_cons _ .slnil)), ?_⟩
  refine WpD.join (H := H) (σ := Unit) (fuel' := 1) (lst 14 8191) (fun _ => [(0, .pointer (some ⟨b, 0, none⟩)), (1, .func (.func gf) first cap), (5, .int .i64 e4), (6, .int .i64 i), (7, .pointer (some ⟨b2, 0, none⟩)), (21, .slice A_f_2 f.blocks.length c_f_2), (22, .int .i64 (f.blocks.length : Int)), (23, .int .i64 i), (98, .int .i64 (endBits f.ret x1.en.kind))]) (fun _ => [Chunk.box b2 [.slice A1_0 x1.phis.length c1_0, .slice A1_1 x1.ops.length c1_1, .int .i64 x1.en.kind, .int .i64 x1.en.arg, .slice A1_4 x1.en.to.length c1_4] 43]) (fun hK => ?_) ?_
  ·refine WpD.any2 (i := 6) (j := 7) (by kernel_rfl) hlr (OpG.mapUpdate (ci := 0) tabOK rfl (.inr rfl) rfl rfl rfl rfl rfl rfl rfl rfl rfl rfl) (OpG.mapUpdate (ci := 0) tabOK rfl (.inr rfl) rfl rfl rfl rfl rfl rfl rfl rfl rfl rfl) ?_ ?_
   ·rintro F1 H1 L1 ⟨eF, eH, eL⟩
    subst eF; subst eL; rw [eH]; clear eH H1
    refine ⟨hlr, (.cons _ (.cons_cons _ .slnil)), ?_⟩
    refine WpD.setL (L' := [Chunk.imap b13 (encm iv (mput [] 0 f.ret)), Chunk.box b2 [.slice A1_0 x1.phis.length c1_0, .slice A1_1 x1.ops.length c1_1, .int .i64 x1.en.kind, .int .i64 x1.en.arg, .slice A1_4 x1.en.to.length c1_4] 43]) (by rw [encm_put iv [] 0 f.ret]; rfl) ?_
    refine WpD.f (i := 7) (fuel := 3) (listed' := lst 14 3839) (by kernel_rfl) hlr (OpG.mapUpdate (ci := 0) tabOK rfl (.inr rfl) rfl rfl rfl rfl rfl rfl rfl rfl rfl rfl) ?_
    rintro F1 H1 L1 ⟨eF, eH, eL⟩
    subst eF; subst eL; rw [eH]; clear eH H1
    refine ⟨hlr, (.cons _ (.cons_cons _ .slnil)), ?_⟩
    refine WpD.setL (L' := [Chunk.imap b13 (encm iv (mput (mput [] 0 f.ret) 2 1)), Chunk.box b2 [.slice A1_0 x1.phis.length c1_0, .slice A1_1 x1.ops.length c1_1, .int .i64 x1.en.kind, .int .i64 x1.en.arg, .slice A1_4 x1.en.to.length c1_4] 43]) (by rw [encm_put iv (mput [] 0 f.ret) 2 1]; rfl) ?_
    refine WpD.go (listed' := lst 14 4095) tabOK [8] [(0, .pointer (some ⟨b, 0, none⟩)), (1, .func (.func gf) first cap), (5, .int .i64 e4), (6, .int .i64 i), (7, .pointer (some ⟨b2, 0, none⟩)), (21, .slice A_f_2 f.blocks.length c_f_2), (22, .int .i64 (f.blocks.length : Int)), (23, .int .i64 i), (94, .map (some b13)), (97, .int .i64 x1.en.kind)] (by kernel_rfl) rfl ⟨rfl, rfl, rfl, rfl, rfl, rfl, rfl, rfl, rfl, rfl, trivial⟩ hlr hlr (.cons _ (.cons_cons _ .slnil)) ?_
    refine WpD.f (i := 12) (fuel := 1) (listed' := lst 14 8191) (by kernel_rfl) hlr (OpG.y rfl rfl rfl rfl (RunY.lookupT iv 0 (ci := 0) tabOK rfl rfl rfl rfl rfl rfl rfl rfl rfl (end_map1 f.ret x1.en.kind) (ok := false))) ?_
    rintro F1 H1 L1 ⟨eF, eH, eL⟩
    subst eF; subst eL; rw [eH]; clear eH H1
    refine ⟨hlr, (.cons _ (.cons_cons _ .slnil)), ?_⟩
    refine WpD.dropL (L' := [Chunk.box b2 [.slice A1_0 x1.phis.length c1_0, .slice A1_1 x1.ops.length c1_1, .int .i64 x1.en.kind, .int .i64 x1.en.arg, .slice A1_4 x1.en.to.length c1_4] 43]) (.cons _ (List.Sublist.refl _)) ?_
    exact WpD.weaken (G := [(0, .pointer (some ⟨b, 0, none⟩)), (1, .func (.func gf) first cap), (5, .int .i64 e4), (6, .int .i64 i), (7, .pointer (some ⟨b2, 0, none⟩)), (21, .slice A_f_2 f.blocks.length c_f_2), (22, .int .i64 (f.blocks.length : Int)), (23, .int .i64 i), (98, .int .i64 (endBits f.ret x1.en.kind))]) ⟨rfl, rfl, rfl, rfl, rfl, rfl, rfl, rfl, rfl, trivial⟩ (hK ())
   ·rintro F1 H1 L1 ⟨eF, eH, eL⟩
    subst eF; subst eL; rw [eH]; clear eH H1
    refine ⟨hlr, (.cons _ (.cons_cons _ .slnil)), ?_⟩
    refine WpD.setL (L' := [Chunk.imap b13 (encm iv (mput [] 2 1)), Chunk.box b2 [.slice A1_0 x1.phis.length c1_0, .slice A1_1 x1.ops.length c1_1, .int .i64 x1.en.kind, .int .i64 x1.en.arg, .slice A1_4 x1.en.to.length c1_4] 43]) (by rw [encm_put iv [] 2 1]; rfl) ?_
    refine WpD.f (i := 6) (fuel := 3) (listed' := lst 14 3839) (by kernel_rfl) hlr (OpG.mapUpdate (ci := 0) tabOK rfl (.inr rfl) rfl rfl rfl rfl rfl rfl rfl rfl rfl rfl) ?_
    rintro F1 H1 L1 ⟨eF, eH, eL⟩
    subst eF; subst eL; rw [eH]; clear eH H1
    refine ⟨hlr, (.cons _ (.cons_cons _ .slnil)), ?_⟩
    refine WpD.setL (L' := [Chunk.imap b13 (encm iv (mput (mput [] 2 1) 0 f.ret)), Chunk.box b2 [.slice A1_0 x1.phis.length c1_0, .slice A1_1 x1.ops.length c1_1, .int .i64 x1.en.kind, .int .i64 x1.en.arg, .slice A1_4 x1.en.to.length c1_4] 43]) (by rw [encm_put iv (mput [] 2 1) 0 f.ret]; rfl) ?_
    refine WpD.go (listed' := lst 14 4095) tabOK [8] [(0, .pointer (some ⟨b, 0, none⟩)), (1, .func (.func gf) first cap), (5, .int .i64 e4), (6, .int .i64 i), (7, .pointer (some ⟨b2, 0, none⟩)), (21, .slice A_f_2 f.blocks.length c_f_2), (22, .int .i64 (f.blocks.length : Int)), (23, .int .i64 i), (94, .map (some b13)), (97, .int .i64 x1.en.kind)] (by kernel_rfl) rfl ⟨rfl, rfl, rfl, rfl, rfl, rfl, rfl, rfl, rfl, rfl, trivial⟩ hlr hlr (.cons _ (.cons_cons _ .slnil)) ?_
    refine WpD.f (i := 12) (fuel := 1) (listed' := lst 14 8191) (by kernel_rfl) hlr (OpG.y rfl rfl rfl rfl (RunY.lookupT iv 0 (ci := 0) tabOK rfl rfl rfl rfl rfl rfl rfl rfl rfl (end_map2 f.ret x1.en.kind) (ok := false))) ?_
    rintro F1 H1 L1 ⟨eF, eH, eL⟩
    subst eF; subst eL; rw [eH]; clear eH H1
    refine ⟨hlr, (.cons _ (.cons_cons _ .slnil)), ?_⟩
    refine WpD.dropL (L' := [Chunk.box b2 [.slice A1_0 x1.phis.length c1_0, .slice A1_1 x1.ops.length c1_1, .int .i64 x1.en.kind, .int .i64 x1.en.arg, .slice A1_4 x1.en.to.length c1_4] 43]) (.cons _ (List.Sublist.refl _)) ?_
    exact WpD.weaken (G := [(0, .pointer (some ⟨b, 0, none⟩)), (1, .func (.func gf) first cap), (5, .int .i64 e4), (6, .int .i64 i), (7, .pointer (some ⟨b2, 0, none⟩)), (21, .slice A_f_2 f.blocks.length c_f_2), (22, .int .i64 (f.blocks.length : Int)), (23, .int .i64 i), (98, .int .i64 (endBits f.ret x1.en.kind))]) ⟨rfl, rfl, rfl, rfl, rfl, rfl, rfl, rfl, rfl, trivial⟩ (hK ())
  rintro -
  change WpD _ _ _ _ _ _ _ _ _ _ _ _ [(0, .pointer (some ⟨b, 0, none⟩)), (1, .func (.func gf) first cap), (5, .int .i64 e4), (6, .int .i64 i), (7, .pointer (some ⟨b2, 0, none⟩)), (21, .slice A_f_2 f.blocks.length c_f_2), (22, .int .i64 (f.blocks.length : Int)), (23, .int .i64 i), (98, .int .i64 (endBits f.ret x1.en.kind))] _ [Chunk.box b2 [.slice A1_0 x1.phis.length c1_0, .slice A1_1 x1.ops.length c1_1, .int .i64 x1.en.kind, .int .i64 x1.en.arg, .slice A1_4 x1.en.to.length c1_4] 43]
  refine WpD.g (listed' := lst 14 16383) tabOK [13] (by kernel_rfl) rfl hlr hlr (.refl _) ?_
  refine WpD.done (by kernel_rfl) ?_
  refine WpG.g tabOK 6 rfl ?_
  refine WpG.caseE (t := 100) rfl (fun q100 => ?_) (fun q100 => ?_)
  ·refine WpG.gw tabOK 4 111 rfl (wrk (x := i + 1) (by omega) (by omega)) ?_
   refine WpG.g tabOK 3 rfl ?_
   refine WpG.dropL (L' := []) (.cons _ .slnil) ?_
   refine WpG.wk (ih1 (i + 1) e4 ?_ ?_) rfl
   ·dsimp only
    omega
   clear ih1 ih2 ih4
   show 0 ≤ (i + 1) ∧ (i + 1) ≤ f.blocks.length ∧ e4 = 0 ∧ firstA ask (asksF f) = firstA ask (allAsks f.ret (i + 1) (f.blocks.drop (i + 1).toNat))
   have h := m3
   rw [drop_end m0 q62] at h
   have e : endAsks f.ret i x1.en = [] := if_pos q100
   rw [e] at h
   exact ⟨by omega, by omega, m2, h⟩
  refine WpG.g tabOK 3 rfl ?_
  refine WpG.draw 9 [Chunk.box b2 [.slice A1_0 x1.phis.length c1_0, .slice A1_1 x1.ops.length c1_1, .int .i64 x1.en.kind, .int .i64 x1.en.arg, .slice A1_4 x1.en.to.length c1_4] 43] mixed (by kernel_rfl) ?_
  refine WpD.g (listed' := lst 9 87) tabOK [0, 1, 2, 4, 6] (by kernel_rfl) rfl hlr hlr (.refl _) ?_
  refine WpD.y (i := 3) (fuel := 3) (listed' := lst 9 95) (by kernel_rfl) rfl rfl rfl rfl hlr hlr (.refl _) (RunY.loadBox (ci := 0) tabOK rfl rfl rfl rfl) ?_
  refine WpD.callS (i := 5) (fuel := 2) (listed' := lst 9 127) (by kernel_rfl) rfl rfl rfl rfl rfl rfl hlr (Scalar_calls (endBits f.ret x1.en.kind)) hlr hlr (.refl _) ?_
  refine WpD.callS (i := 7) (fuel := 1) (listed' := lst 9 255) (by kernel_rfl) rfl rfl rfl rfl rfl rfl hlr (hask x1.en.arg (endBits f.ret x1.en.kind) 1 i 1048576 ⟨by omega, by omega⟩) hlr hlr (.refl _) ?_
  refine WpD.g (listed' := lst 9 511) tabOK [8] (by kernel_rfl) rfl hlr hlr (.refl _) ?_
  refine WpD.done (by kernel_rfl) ?_
  refine WpG.g tabOK 5 rfl ?_
  refine WpG.caseN (t := 110) rfl (fun q110 => ?_) (fun q110 => ?_)
  ·refine WpG.g tabOK 9 rfl ?_
   exact WpG.ret tabOK (L' := []) (.tmp rfl .nil) (.cons _ .slnil) ⟨congrArg (Value.int .i64) (by clear ih1 ih2 ih4; have h := m3; rw [drop_end m0 q62] at h; have e : endAsks f.ret i x1.en = [⟨x1.en.arg, endBits f.ret x1.en.kind, 1, i, 1048576⟩] := if_neg q100; rw [e] at h; exact (firstA_yes h q110).symm), rfl⟩
  refine WpG.gw tabOK 5 111 rfl (wrk (x := i + 1) (by omega) (by omega)) ?_
  refine WpG.g tabOK 3 rfl ?_
  refine WpG.dropL (L' := []) (.cons _ .slnil) ?_
  refine WpG.wk (ih1 (i + 1) (ask x1.en.arg (endBits f.ret x1.en.kind) 1 i 1048576) ?_ ?_) rfl
  ·dsimp only
   omega
  clear ih1 ih2 ih4
  show 0 ≤ (i + 1) ∧ (i + 1) ≤ f.blocks.length ∧ (ask x1.en.arg (endBits f.ret x1.en.kind) 1 i 1048576) = 0 ∧ firstA ask (asksF f) = firstA ask (allAsks f.ret (i + 1) (f.blocks.drop (i + 1).toNat))
  have h := m3
  rw [drop_end m0 q62] at h
  have e : endAsks f.ret i x1.en = [⟨x1.en.arg, endBits f.ret x1.en.kind, 1, i, 1048576⟩] := if_neg q100
  rw [e] at h
  exact ⟨by omega, by omega, q110, firstA_no h q110⟩
 refine WpG.g tabOK 9 rfl ?_
 exact WpG.ret tabOK (L' := []) (.tmp rfl .nil) .slnil ⟨congrArg (Value.int .i64) (by clear ih1; rw [i3, drop_end i0 q24, i2]; rfl), rfl⟩
end Go.Proofs.YtakameggkkjcpaaGreat
set_option maxRecDepth 4000
namespace Go.Proofs.YtakameggkkjcpaaGreat
open Go Go.RowKit
theorem Defined_calls {H : Hp} {f : FuncD} {A_f_0 A_f_2 : Option Addr} {c_f_0 c_f_2 : Nat} (u_f_0 : f.params.length ≤ c_f_0) (r_f_0 : RdS H A_f_0 f.params) (u_f_2 : f.blocks.length ≤ c_f_2) (r_f_2 : RdS H A_f_2 f.blocks) (k_f_0 : I64 f.ret) {b : Nat} {lv s1 s2 t1 : Value} (hs : ∀ x ∈ f.blocks, ∀ p ∈ x.phis, p.args.length = p.frm.length) (hn : f.blocks.length ≤ 64) : CallG Tryz.prog 113 [.pointer (some ⟨b, 0, none⟩)] H [Chunk.box b [.slice A_f_0 f.params.length c_f_0, .int .i64 f.ret, .slice A_f_2 f.blocks.length c_f_2, lv, s1, s2, t1, .map none] 137] (fun v H' L' => (defsD f = none ∧ v = .int .i64 7) ∨ (∃ ms mb, defsD f = some ms ∧ v = .int .i64 (firstA (askDef ms) (asksF f)) ∧ L' = [Chunk.imap mb (encm dv ms), Chunk.box b [.slice A_f_0 f.params.length c_f_0, .int .i64 f.ret, .slice A_f_2 f.blocks.length c_f_2, lv, s1, s2, t1, .map (some mb)] 137])) := by
 have rd_f' : Rdc.rd H [.slice A_f_0 f.params.length c_f_0, .int .i64 f.ret, .slice A_f_2 f.blocks.length c_f_2] f := ⟨_, _, _, _, rfl, u_f_0, r_f_0, u_f_2, r_f_2, k_f_0⟩
 have bs := r_f_2.1; have bsp := r_f_0.1
 refine CallG.of Tryz.func113 rfl rfl rfl fun w0 => ?_
 refine WpG.g tabOK 2 rfl ?_
 refine WpG.box rfl rfl rfl rfl rfl (fun b1 => ?_)
 refine WpG.g tabOK 4 rfl ?_
 refine WpG.y rfl rfl rfl rfl (RunY.loadBox (ci := 0) tabOK rfl rfl rfl rfl) ?_
 refine WpG.makeMap rfl rfl rfl (fun b2 => ?_)
 refine WpG.g tabOK 2 rfl ?_
 refine WpG.storeBox (ci := 2) (cs' := [.slice A_f_0 f.params.length c_f_0, .int .i64 f.ret, .slice A_f_2 f.blocks.length c_f_2, lv, s1, s2, t1, .map (some b2)]) tabOK rfl rfl rfl rfl rfl rfl rfl rfl rfl ?_
 refine WpG.g tabOK 4 rfl ?_
 refine WpG.y rfl rfl rfl rfl (RunY.loadBox (ci := 1) tabOK rfl rfl rfl rfl) ?_
 refine WpG.g tabOK 3 rfl ?_
 refine WpG.y rfl rfl rfl rfl (RunY.loadBox (ci := 2) tabOK rfl rfl rfl rfl) ?_
 refine WpG.g tabOK 5 rfl ?_
 refine WpG.wk (WpG.ind2 (fun (i : Int) (ms : List (Int × DefD)) => ⟨(f.params.length - i).toNat, [(1, .pointer (some ⟨b1, 0, none⟩)), (21, .slice A_f_0 f.params.length c_f_0), (22, .int .i64 (f.params.length : Int)), (23, .int .i64 i)], H, [Chunk.imap b2 (encm dv ms), Chunk.box b1 [.pointer (some ⟨b, 0, none⟩)] 119, Chunk.box b [.slice A_f_0 f.params.length c_f_0, .int .i64 f.ret, .slice A_f_2 f.blocks.length c_f_2, lv, s1, s2, t1, .map (some b2)] 137], 0 ≤ i ∧ i ≤ f.params.length ∧ parPuts [] 0 f.params = parPuts ms i (f.params.drop i.toNat)⟩) ?_ 0 [] ⟨by omega, by omega, rfl⟩) rfl
 intro i ms inv ih1
 obtain ⟨p0, p1, p2⟩ := inv
 refine WpG.g tabOK 5 rfl ?_
 refine WpG.caseD (t := 24) rfl (fun q24 => ?_) (fun q24 => ?_)
 ·refine WpG.g tabOK 7 rfl ?_
  refine WpG.indexR tabOK rfl rfl rfl rfl rfl rfl rfl rfl rfl r_f_0 (by omega) (by omega) ?_
  rintro x3 hx3 b3 o3 _ ⟨rfl, k3⟩ hc3
  refine WpG.y rfl rfl rfl rfl (RunY.loadH tabOK hc3 hlr rfl rfl rfl rfl) ?_
  refine WpG.g tabOK 3 rfl ?_
  refine WpG.draw 7 [Chunk.box b1 [.pointer (some ⟨b, 0, none⟩)] 119] mixed (by kernel_rfl) ?_
  refine WpD.gw (listed' := lst 7 6) tabOK [1, 2] 30 (by kernel_rfl) rfl (wrk (x := i + 1) (by omega) (by omega)) hlr hlr (.cons _ (.cons_cons _ (.cons _ .slnil))) ?_
  refine WpD.g (listed' := lst 7 14) tabOK [3] (by kernel_rfl) rfl hlr hlr (.cons _ (.cons_cons _ (.cons _ .slnil))) ?_
  refine WpD.y (i := 0) (fuel := 3) (listed' := lst 7 15) (by kernel_rfl) rfl rfl rfl rfl hlr hlr (.cons _ (.cons_cons _ (.cons _ .slnil))) (RunY.loadBox (ci := 0) tabOK rfl rfl rfl rfl) ?_
  refine WpD.callS (i := 4) (fuel := 2) (listed' := lst 7 31) (by kernel_rfl) rfl rfl rfl rfl rfl rfl hlr (Scalar_calls x3) hlr hlr (.cons _ (.cons_cons _ (.cons _ .slnil))) ?_
  refine WpD.g (listed' := lst 7 63) tabOK [5] (by kernel_rfl) rfl hlr hlr (.cons _ (.cons_cons _ (.cons _ .slnil))) ?_
  refine WpD.f (i := 6) (fuel := 0) (listed' := lst 7 127) (by kernel_rfl) hlr (OpG.call (Lc := [Chunk.box b [.slice A_f_0 f.params.length c_f_0, .int .i64 f.ret, .slice A_f_2 f.blocks.length c_f_2, lv, s1, s2, t1, .map (some b2)] 137, Chunk.imap b2 (encm dv ms)]) rfl rfl rfl rfl rfl rfl (perm_two (i := 2) (j := 0) rfl rfl) (Put_calls (i + 1) ⟨(-1), 0, x3, 1⟩)) ?_
  rintro F1 H1 L1 ⟨_, _, eF, -, ⟨eH, rfl, rfl⟩, eL⟩
  subst eF; subst eL; rw [eH]; clear eH H1
  refine ⟨hlr, (.cons _ (.cons _ (.cons_cons _ .slnil))), ?_⟩
  refine WpD.permL (L' := [Chunk.imap b2 (encm dv (mput ms (i + 1) ⟨(-1), 0, x3, 1⟩)), Chunk.box b1 [.pointer (some ⟨b, 0, none⟩)] 119, Chunk.box b [.slice A_f_0 f.params.length c_f_0, .int .i64 f.ret, .slice A_f_2 f.blocks.length c_f_2, lv, s1, s2, t1, .map (some b2)] 137]) (perm_two (i := 2) (j := 0) rfl rfl) ?_
  refine WpD.done (by kernel_rfl) ?_
  refine WpG.gw tabOK 3 35 rfl (wrk (x := i + 1) (by omega) (by omega)) ?_
  refine WpG.g tabOK 3 rfl ?_
  refine WpG.wk (ih1 (i + 1) (mput ms (i + 1) ⟨(-1), 0, x3, 1⟩) ?_ ?_) rfl
  ·dsimp only
   omega
  clear ih1
  exact ⟨by omega, by omega, by rw [p2, par_step p0 q24 hx3]⟩
 refine WpG.g tabOK 5 rfl ?_
 refine WpG.y rfl rfl rfl rfl (RunY.loadBox (ci := 1) tabOK rfl rfl rfl rfl) ?_
 refine WpG.g tabOK 3 rfl ?_
 refine WpG.y rfl rfl rfl rfl (RunY.loadBox (ci := 2) tabOK rfl rfl rfl rfl) ?_
 refine WpG.g tabOK 5 rfl ?_
 refine WpG.wk (WpG.ind2 (fun (i : Int) (ms2 : List (Int × DefD)) => ⟨(f.blocks.length - i).toNat, [(1, .pointer (some ⟨b1, 0, none⟩)), (40, .slice A_f_2 f.blocks.length c_f_2), (41, .int .i64 (f.blocks.length : Int)), (42, .int .i64 i)], H, [Chunk.imap b2 (encm dv ms2), Chunk.box b1 [.pointer (some ⟨b, 0, none⟩)] 119, Chunk.box b [.slice A_f_0 f.params.length c_f_0, .int .i64 f.ret, .slice A_f_2 f.blocks.length c_f_2, lv, s1, s2, t1, .map (some b2)] 137], 0 ≤ i ∧ i ≤ f.blocks.length ∧ defsD f = putAll ms2 (allPuts i (f.blocks.drop i.toNat))⟩) ?_ 0 ms ⟨by omega, by omega, by unfold defsD; rw [p2, drop_end p0 q24]; rfl⟩) rfl
 intro i ms2 inv ih2
 obtain ⟨i0, i1, i2⟩ := inv
 refine WpG.g tabOK 5 rfl ?_
 refine WpG.caseD (t := 43) rfl (fun q43 => ?_) (fun q43 => ?_)
 ·refine WpG.g tabOK 7 rfl ?_
  refine WpG.indexR tabOK rfl rfl rfl rfl rfl rfl rfl rfl rfl r_f_2 (by omega) (by omega) ?_
  rintro x4 hx4 b4 o4 cs4 rd4 hc4
  have rd4' := rd4; obtain ⟨A4_0, c4_0, A4_1, c4_1, A4_4, c4_4, rfl, u4_0, r4_0, u4_1, r4_1, u4_4, r4_4, k4_0, k4_1⟩ := rd4
  have bp4 := r4_0.1; have bo4 := r4_1.1
  refine WpG.y rfl rfl rfl rfl (RunY.loadH tabOK hc4 hlr rfl rfl rfl rfl) ?_
  refine WpG.alloc tabOK rfl rfl rfl rfl rfl (fun b5 => ?_)
  refine WpG.g tabOK 1 rfl ?_
  refine WpG.storeBox (ci := 0) (cs' := [.slice A4_0 x4.phis.length c4_0, .slice A4_1 x4.ops.length c4_1, .int .i64 x4.en.kind, .int .i64 x4.en.arg, .slice A4_4 x4.en.to.length c4_4]) tabOK rfl rfl rfl rfl rfl rfl rfl rfl rfl ?_
  refine WpG.g tabOK 5 rfl ?_
  refine WpG.y rfl rfl rfl rfl (RunY.loadBox (ci := 0) tabOK rfl rfl rfl rfl) ?_
  refine WpG.g tabOK 5 rfl ?_
  refine WpG.wk (WpG.ind2 (fun (j : Int) (ms3 : List (Int × DefD)) => ⟨(x4.phis.length - j).toNat, [(1, .pointer (some ⟨b1, 0, none⟩)), (5, .int .i64 i), (6, .pointer (some ⟨b5, 0, none⟩)), (40, .slice A_f_2 f.blocks.length c_f_2), (41, .int .i64 (f.blocks.length : Int)), (42, .int .i64 i), (48, .slice A4_0 x4.phis.length c4_0), (49, .int .i64 (x4.phis.length : Int)), (50, .int .i64 j)], H, [Chunk.box b5 [.slice A4_0 x4.phis.length c4_0, .slice A4_1 x4.ops.length c4_1, .int .i64 x4.en.kind, .int .i64 x4.en.arg, .slice A4_4 x4.en.to.length c4_4] 43, Chunk.imap b2 (encm dv ms3), Chunk.box b1 [.pointer (some ⟨b, 0, none⟩)] 119, Chunk.box b [.slice A_f_0 f.params.length c_f_0, .int .i64 f.ret, .slice A_f_2 f.blocks.length c_f_2, lv, s1, s2, t1, .map (some b2)] 137], 0 ≤ j ∧ j ≤ x4.phis.length ∧ defsD f = putAll ms3 (phiPuts i (x4.phis.drop j.toNat) ++ (opsPuts i 0 x4.ops ++ allPuts (i + 1) (f.blocks.drop (i + 1).toNat)))⟩) ?_ 0 ms2 ⟨by omega, by omega, by rw [i2, allPuts_step i0 q43 hx4]; rfl⟩) rfl
  intro j ms3 inv ih3
  obtain ⟨j0, j1, j2⟩ := inv
  refine WpG.g tabOK 5 rfl ?_
  refine WpG.caseD (t := 51) rfl (fun q51 => ?_) (fun q51 => ?_)
  ·refine WpG.g tabOK 6 rfl ?_
   refine WpG.indexR tabOK rfl rfl rfl rfl rfl rfl rfl rfl rfl r4_0 (by omega) (by omega) ?_
   rintro x6 hx6 b6 o6 cs6 rd6 hc6
   have rd6' := rd6; obtain ⟨A6_2, c6_2, A6_3, c6_3, rfl, u6_2, r6_2, u6_3, r6_3, k6_0, k6_1⟩ := rd6
   refine WpG.y rfl rfl rfl rfl (RunY.loadH tabOK hc6 hlr rfl rfl rfl rfl) ?_
   refine WpG.alloc tabOK rfl rfl rfl rfl rfl (fun b7 => ?_)
   refine WpG.storeBox (ci := 0) (cs' := [.int .i64 x6.bits, .int .i64 x6.dst, .slice A6_2 x6.frm.length c6_2, .slice A6_3 x6.args.length c6_3]) tabOK rfl rfl rfl rfl rfl rfl rfl rfl rfl ?_
   refine WpG.g tabOK 2 rfl ?_
   refine WpG.draw 20 [Chunk.box b7 [.int .i64 x6.bits, .int .i64 x6.dst, .slice A6_2 x6.frm.length c6_2, .slice A6_3 x6.args.length c6_3] 55, Chunk.box b5 [.slice A4_0 x4.phis.length c4_0, .slice A4_1 x4.ops.length c4_1, .int .i64 x4.en.kind, .int .i64 x4.en.arg, .slice A4_4 x4.en.to.length c4_4] 43, Chunk.box b1 [.pointer (some ⟨b, 0, none⟩)] 119] mixed (by kernel_rfl) ?_
   refine WpD.g (listed' := lst 20 1) tabOK [0] (by kernel_rfl) rfl hlr hlr (.cons_cons _ (.cons_cons _ (.cons _ (.cons_cons _ (.cons _ .slnil))))) ?_
   refine WpD.y (i := 1) (fuel := 18) (listed' := lst 20 3) (by kernel_rfl) rfl rfl rfl rfl hlr hlr (.cons_cons _ (.cons_cons _ (.cons _ (.cons_cons _ (.cons _ .slnil))))) (RunY.loadBox (ci := 0) tabOK rfl rfl rfl rfl) ?_
   refine WpD.g (listed' := lst 20 15) tabOK [2, 3] (by kernel_rfl) rfl hlr hlr (.cons_cons _ (.cons_cons _ (.cons _ (.cons_cons _ (.cons _ .slnil))))) ?_
   refine WpD.caseD (t := 57) rfl (fun q57 => ?_) (fun q57 => ?_)
   ·refine WpD.g (listed' := lst 20 1048575) tabOK [4, 5, 6, 7, 8, 9, 10, 11, 12, 13, 14, 15, 16, 17, 18, 19] (by kernel_rfl) rfl hlr hlr (.cons_cons _ (.cons_cons _ (.cons _ (.cons_cons _ (.cons _ .slnil))))) ?_
    refine WpD.done (by kernel_rfl) ?_
    refine WpG.g tabOK 5 rfl ?_
    exact WpG.ret tabOK (L' := [Chunk.imap b2 (encm dv ms3), Chunk.box b [.slice A_f_0 f.params.length c_f_0, .int .i64 f.ret, .slice A_f_2 f.blocks.length c_f_2, lv, s1, s2, t1, .map (some b2)] 137]) (.tmp rfl .nil) (.cons _ (.cons _ (.cons_cons _ (.cons _ (.cons_cons _ .slnil))))) (.inl ⟨by rw [phiPuts_step j0 q51 hx6] at j2; exact phi_bad j2 (.inl q57), rfl⟩)
   refine WpD.g (listed' := lst 20 31) tabOK [4] (by kernel_rfl) rfl hlr hlr (.cons_cons _ (.cons_cons _ (.cons _ (.cons_cons _ (.cons _ .slnil))))) ?_
   refine WpD.y (i := 5) (fuel := 14) (listed' := lst 20 63) (by kernel_rfl) rfl rfl rfl rfl hlr hlr (.cons_cons _ (.cons_cons _ (.cons _ (.cons_cons _ (.cons _ .slnil))))) (RunY.loadBox (ci := 0) tabOK rfl rfl rfl rfl) ?_
   refine WpD.g (listed' := lst 20 511) tabOK [6, 7, 8] (by kernel_rfl) rfl hlr hlr (.cons_cons _ (.cons_cons _ (.cons _ (.cons_cons _ (.cons _ .slnil))))) ?_
   refine WpD.caseD (t := 62) rfl (fun q62 => ?_) (fun q62 => ?_)
   ·refine WpD.g (listed' := lst 20 1048575) tabOK [9, 10, 11, 12, 13, 14, 15, 16, 17, 18, 19] (by kernel_rfl) rfl hlr hlr (.cons_cons _ (.cons_cons _ (.cons _ (.cons_cons _ (.cons _ .slnil))))) ?_
    refine WpD.done (by kernel_rfl) ?_
    refine WpG.g tabOK 5 rfl ?_
    exact WpG.ret tabOK (L' := [Chunk.imap b2 (encm dv ms3), Chunk.box b [.slice A_f_0 f.params.length c_f_0, .int .i64 f.ret, .slice A_f_2 f.blocks.length c_f_2, lv, s1, s2, t1, .map (some b2)] 137]) (.tmp rfl .nil) (.cons _ (.cons _ (.cons_cons _ (.cons _ (.cons_cons _ .slnil))))) (.inl ⟨by rw [phiPuts_step j0 q51 hx6] at j2; exact phi_bad j2 (.inr (.inl q62)), rfl⟩)
   refine WpD.g (listed' := lst 20 13823) tabOK [10, 12, 13] (by kernel_rfl) rfl hlr hlr (.cons_cons _ (.cons_cons _ (.cons _ (.cons_cons _ (.cons _ .slnil))))) ?_
   refine WpD.y (i := 9) (fuel := 7) (listed' := lst 20 14335) (by kernel_rfl) rfl rfl rfl rfl hlr hlr (.cons_cons _ (.cons_cons _ (.cons _ (.cons_cons _ (.cons _ .slnil))))) (RunY.loadBox (ci := 2) tabOK rfl rfl rfl rfl) ?_
   refine WpD.y (i := 11) (fuel := 6) (listed' := lst 20 16383) (by kernel_rfl) rfl rfl rfl rfl hlr hlr (.cons_cons _ (.cons_cons _ (.cons _ (.cons_cons _ (.cons _ .slnil))))) (RunY.loadBox (ci := 0) tabOK rfl rfl rfl rfl) ?_
   refine WpD.y (i := 14) (fuel := 5) (listed' := lst 20 32767) (by kernel_rfl) rfl rfl rfl rfl hlr hlr (.cons_cons _ (.cons_cons _ (.cons _ (.cons_cons _ (.cons _ .slnil))))) (RunY.loadBox (ci := 0) tabOK rfl rfl rfl rfl) ?_
   refine WpD.callS (i := 15) (fuel := 4) (listed' := lst 20 65535) (by kernel_rfl) rfl rfl rfl rfl rfl rfl hlr (Scalar_calls x6.bits) hlr hlr (.cons_cons _ (.cons_cons _ (.cons _ (.cons_cons _ (.cons _ .slnil))))) ?_
   refine WpD.g (listed' := lst 20 131071) tabOK [16] (by kernel_rfl) rfl hlr hlr (.cons_cons _ (.cons_cons _ (.cons _ (.cons_cons _ (.cons _ .slnil))))) ?_
   refine WpD.f (i := 17) (fuel := 2) (listed' := lst 20 262143) (by kernel_rfl) hlr (OpG.call (Lc := [Chunk.box b [.slice A_f_0 f.params.length c_f_0, .int .i64 f.ret, .slice A_f_2 f.blocks.length c_f_2, lv, s1, s2, t1, .map (some b2)] 137, Chunk.imap b2 (encm dv ms3)]) rfl rfl rfl rfl rfl rfl (perm_two (i := 4) (j := 2) rfl rfl) (Put_calls x6.dst ⟨i, (-1), x6.bits, 1⟩)) ?_
   rintro F1 H1 L1 ⟨_, _, eF, -, ⟨eH, rfl, rfl⟩, eL⟩
   subst eF; subst eL; rw [eH]; clear eH H1
   refine ⟨hlr, (.cons _ (.cons _ (.cons_cons _ (.cons_cons _ (.cons_cons _ .slnil))))), ?_⟩
   refine WpD.permL (L' := [Chunk.box b7 [.int .i64 x6.bits, .int .i64 x6.dst, .slice A6_2 x6.frm.length c6_2, .slice A6_3 x6.args.length c6_3] 55, Chunk.box b5 [.slice A4_0 x4.phis.length c4_0, .slice A4_1 x4.ops.length c4_1, .int .i64 x4.en.kind, .int .i64 x4.en.arg, .slice A4_4 x4.en.to.length c4_4] 43, Chunk.imap b2 (encm dv (mput ms3 x6.dst ⟨i, (-1), x6.bits, 1⟩)), Chunk.box b1 [.pointer (some ⟨b, 0, none⟩)] 119, Chunk.box b [.slice A_f_0 f.params.length c_f_0, .int .i64 f.ret, .slice A_f_2 f.blocks.length c_f_2, lv, s1, s2, t1, .map (some b2)] 137]) (perm_two (i := 4) (j := 2) rfl rfl) ?_
   refine WpD.g (listed' := lst 20 1048575) tabOK [18, 19] (by kernel_rfl) rfl hlr hlr (.cons_cons _ (.cons_cons _ (.cons _ (.cons_cons _ (.cons _ .slnil))))) ?_
   refine WpD.done (by kernel_rfl) ?_
   refine WpG.caseBn (t := 73) rfl (fun q73 => ?_) (fun q73 => ?_)
   ·refine WpG.g tabOK 5 rfl ?_
    exact WpG.ret tabOK (L' := [Chunk.imap b2 (encm dv (mput ms3 x6.dst ⟨i, (-1), x6.bits, 1⟩)), Chunk.box b [.slice A_f_0 f.params.length c_f_0, .int .i64 f.ret, .slice A_f_2 f.blocks.length c_f_2, lv, s1, s2, t1, .map (some b2)] 137]) (.tmp rfl .nil) (.cons _ (.cons _ (.cons_cons _ (.cons _ (.cons_cons _ .slnil))))) (.inl ⟨by rw [phiPuts_step j0 q51 hx6] at j2; exact phi_bad j2 (.inr (.inr q73)), rfl⟩)
   refine WpG.gw tabOK 5 74 rfl (wrk (x := j + 1) (by omega) (by omega)) ?_
   refine WpG.g tabOK 3 rfl ?_
   refine WpG.dropL (L' := [Chunk.box b5 [.slice A4_0 x4.phis.length c4_0, .slice A4_1 x4.ops.length c4_1, .int .i64 x4.en.kind, .int .i64 x4.en.arg, .slice A4_4 x4.en.to.length c4_4] 43, Chunk.imap b2 (encm dv (mput ms3 x6.dst ⟨i, (-1), x6.bits, 1⟩)), Chunk.box b1 [.pointer (some ⟨b, 0, none⟩)] 119, Chunk.box b [.slice A_f_0 f.params.length c_f_0, .int .i64 f.ret, .slice A_f_2 f.blocks.length c_f_2, lv, s1, s2, t1, .map (some b2)] 137]) (.cons _ (.cons_cons _ (.cons_cons _ (.cons_cons _ (.cons_cons _ .slnil))))) ?_
   refine WpG.wk (ih3 (j + 1) (mput ms3 x6.dst ⟨i, (-1), x6.bits, 1⟩) ?_ ?_) rfl
   ·dsimp only
    omega
   clear ih1 ih2 ih3
   show 0 ≤ (j + 1) ∧ (j + 1) ≤ x4.phis.length ∧ defsD f = putAll (mput ms3 x6.dst ⟨i, (-1), x6.bits, 1⟩) (phiPuts i (x4.phis.drop (j + 1).toNat) ++ (opsPuts i 0 x4.ops ++ allPuts (i + 1) (f.blocks.drop (i + 1).toNat)))
   rw [phiPuts_step j0 q51 hx6] at j2
   exact ⟨by omega, by omega, phi_ok j2 q57 q62 q73⟩
  refine WpG.g tabOK 5 rfl ?_
  refine WpG.y rfl rfl rfl rfl (RunY.loadBox (ci := 0) tabOK rfl rfl rfl rfl) ?_
  refine WpG.g tabOK 5 rfl ?_
  refine WpG.wk (WpG.ind2 (fun (k : Int) (ms4 : List (Int × DefD)) => ⟨(x4.ops.length - k).toNat, [(1, .pointer (some ⟨b1, 0, none⟩)), (5, .int .i64 i), (40, .slice A_f_2 f.blocks.length c_f_2), (41, .int .i64 (f.blocks.length : Int)), (42, .int .i64 i), (76, .slice A4_1 x4.ops.length c4_1), (77, .int .i64 (x4.ops.length : Int)), (78, .int .i64 k)], H, [Chunk.box b5 [.slice A4_0 x4.phis.length c4_0, .slice A4_1 x4.ops.length c4_1, .int .i64 x4.en.kind, .int .i64 x4.en.arg, .slice A4_4 x4.en.to.length c4_4] 43, Chunk.imap b2 (encm dv ms4), Chunk.box b1 [.pointer (some ⟨b, 0, none⟩)] 119, Chunk.box b [.slice A_f_0 f.params.length c_f_0, .int .i64 f.ret, .slice A_f_2 f.blocks.length c_f_2, lv, s1, s2, t1, .map (some b2)] 137], 0 ≤ k ∧ k ≤ x4.ops.length ∧ defsD f = putAll ms4 (opsPuts i k (x4.ops.drop k.toNat) ++ allPuts (i + 1) (f.blocks.drop (i + 1).toNat))⟩) ?_ 0 ms3 ⟨by omega, by omega, by rw [j2, drop_end j0 q51]; rfl⟩) rfl
  intro k ms4 inv ih4
  obtain ⟨k0, k1, k2⟩ := inv
  refine WpG.g tabOK 5 rfl ?_
  refine WpG.caseD (t := 79) rfl (fun q79 => ?_) (fun q79 => ?_)
  ·refine WpG.g tabOK 7 rfl ?_
   refine WpG.indexR tabOK rfl rfl rfl rfl rfl rfl rfl rfl rfl r4_1 (by omega) (by omega) ?_
   rintro x8 hx8 b8 o8 cs8 rd8 hc8
   have rd8' := rd8; obtain ⟨A8_4, c8_4, rfl, u8_4, r8_4, k8_0, k8_1, k8_2, k8_3, k8_4⟩ := rd8
   refine WpG.y rfl rfl rfl rfl (RunY.loadH tabOK hc8 hlr rfl rfl rfl rfl) ?_
   refine WpG.alloc tabOK rfl rfl rfl rfl rfl (fun b9 => ?_)
   refine WpG.g tabOK 1 rfl ?_
   refine WpG.storeBox (ci := 0) (cs' := [.int .i64 x8.kind, .int .i64 x8.bits, .int .i64 x8.lanes, .int .i64 x8.dst, .slice A8_4 x8.args.length c8_4, .int .u64 x8.imm]) tabOK rfl rfl rfl rfl rfl rfl rfl rfl rfl ?_
   refine WpG.g tabOK 3 rfl ?_
   refine WpG.y rfl rfl rfl rfl (RunY.loadBox (ci := 0) tabOK rfl rfl rfl rfl) ?_
   refine WpG.callS rfl rfl rfl rfl rfl rfl hlr (kGives_calls rd8') ?_
   refine WpG.g tabOK 11 rfl ?_
   refine WpG.caseD (t := 90) rfl (fun q90 => ?_) (fun q90 => ?_)
   ·refine WpG.y rfl rfl rfl rfl (RunY.loadBox (ci := 3) tabOK rfl rfl rfl rfl) ?_
    refine WpG.g tabOK 1 rfl ?_
    refine WpG.y rfl rfl rfl rfl (RunY.loadBox (ci := 0) tabOK rfl rfl rfl rfl) ?_
    refine WpG.g tabOK 6 rfl ?_
    refine WpG.call (Lc := [Chunk.box b [.slice A_f_0 f.params.length c_f_0, .int .i64 f.ret, .slice A_f_2 f.blocks.length c_f_2, lv, s1, s2, t1, .map (some b2)] 137, Chunk.imap b2 (encm dv ms4)]) rfl rfl rfl rfl rfl rfl (perm_two (i := 4) (j := 2) rfl rfl) (Put_calls x8.dst ⟨i, k, (givesF x8).1, (givesF x8).2⟩) ?_
    rintro _ H1 _ - ⟨eH, rfl, rfl⟩
    rw [eH]; clear eH H1
    refine WpG.permL (L' := [Chunk.box b9 [.int .i64 x8.kind, .int .i64 x8.bits, .int .i64 x8.lanes, .int .i64 x8.dst, .slice A8_4 x8.args.length c8_4, .int .u64 x8.imm] 53, Chunk.box b5 [.slice A4_0 x4.phis.length c4_0, .slice A4_1 x4.ops.length c4_1, .int .i64 x4.en.kind, .int .i64 x4.en.arg, .slice A4_4 x4.en.to.length c4_4] 43, Chunk.imap b2 (encm dv (mput ms4 x8.dst ⟨i, k, (givesF x8).1, (givesF x8).2⟩)), Chunk.box b1 [.pointer (some ⟨b, 0, none⟩)] 119, Chunk.box b [.slice A_f_0 f.params.length c_f_0, .int .i64 f.ret, .slice A_f_2 f.blocks.length c_f_2, lv, s1, s2, t1, .map (some b2)] 137]) (perm_two (i := 4) (j := 2) rfl rfl) ?_
    refine WpG.g tabOK 3 rfl ?_
    refine WpG.caseBn (t := 102) rfl (fun q102 => ?_) (fun q102 => ?_)
    ·refine WpG.g tabOK 5 rfl ?_
     exact WpG.ret tabOK (L' := [Chunk.imap b2 (encm dv (mput ms4 x8.dst ⟨i, k, (givesF x8).1, (givesF x8).2⟩)), Chunk.box b [.slice A_f_0 f.params.length c_f_0, .int .i64 f.ret, .slice A_f_2 f.blocks.length c_f_2, lv, s1, s2, t1, .map (some b2)] 137]) (.tmp rfl .nil) (.cons _ (.cons _ (.cons_cons _ (.cons _ (.cons_cons _ .slnil))))) (.inl ⟨by rw [opsPuts_step k0 q79 hx8, if_pos q90] at k2; exact op_bad k2 q102, rfl⟩)
    refine WpG.gw tabOK 5 103 rfl (wrk (x := k + 1) (by omega) (by omega)) ?_
    refine WpG.g tabOK 3 rfl ?_
    refine WpG.dropL (L' := [Chunk.box b5 [.slice A4_0 x4.phis.length c4_0, .slice A4_1 x4.ops.length c4_1, .int .i64 x4.en.kind, .int .i64 x4.en.arg, .slice A4_4 x4.en.to.length c4_4] 43, Chunk.imap b2 (encm dv (mput ms4 x8.dst ⟨i, k, (givesF x8).1, (givesF x8).2⟩)), Chunk.box b1 [.pointer (some ⟨b, 0, none⟩)] 119, Chunk.box b [.slice A_f_0 f.params.length c_f_0, .int .i64 f.ret, .slice A_f_2 f.blocks.length c_f_2, lv, s1, s2, t1, .map (some b2)] 137]) (.cons _ (.cons_cons _ (.cons_cons _ (.cons_cons _ (.cons_cons _ .slnil))))) ?_
    refine WpG.wk (ih4 (k + 1) (mput ms4 x8.dst ⟨i, k, (givesF x8).1, (givesF x8).2⟩) ?_ ?_) rfl
    ·dsimp only
     omega
    clear ih1 ih2 ih3 ih4
    show 0 ≤ (k + 1) ∧ (k + 1) ≤ x4.ops.length ∧ defsD f = putAll (mput ms4 x8.dst ⟨i, k, (givesF x8).1, (givesF x8).2⟩) (opsPuts i (k + 1) (x4.ops.drop (k + 1).toNat) ++ allPuts (i + 1) (f.blocks.drop (i + 1).toNat))
    rw [opsPuts_step k0 q79 hx8, if_pos q90] at k2
    exact ⟨by omega, by omega, op_ok k2 q102⟩
   refine WpG.gw tabOK 18 103 rfl (wrk (x := k + 1) (by omega) (by omega)) ?_
   refine WpG.g tabOK 3 rfl ?_
   refine WpG.dropL (L' := [Chunk.box b5 [.slice A4_0 x4.phis.length c4_0, .slice A4_1 x4.ops.length c4_1, .int .i64 x4.en.kind, .int .i64 x4.en.arg, .slice A4_4 x4.en.to.length c4_4] 43, Chunk.imap b2 (encm dv ms4), Chunk.box b1 [.pointer (some ⟨b, 0, none⟩)] 119, Chunk.box b [.slice A_f_0 f.params.length c_f_0, .int .i64 f.ret, .slice A_f_2 f.blocks.length c_f_2, lv, s1, s2, t1, .map (some b2)] 137]) (.cons _ (.cons_cons _ (.cons_cons _ (.cons_cons _ (.cons_cons _ .slnil))))) ?_
   refine WpG.wk (ih4 (k + 1) ms4 ?_ ?_) rfl
   ·dsimp only
    omega
   clear ih1 ih2 ih3 ih4
   show 0 ≤ (k + 1) ∧ (k + 1) ≤ x4.ops.length ∧ defsD f = putAll ms4 (opsPuts i (k + 1) (x4.ops.drop (k + 1).toNat) ++ allPuts (i + 1) (f.blocks.drop (i + 1).toNat))
   rw [opsPuts_step k0 q79 hx8, if_neg q90] at k2
   exact ⟨by omega, by omega, k2⟩
  refine WpG.gw tabOK 5 104 rfl (wrk (x := i + 1) (by omega) (by omega)) ?_
  refine WpG.g tabOK 3 rfl ?_
  refine WpG.dropL (L' := [Chunk.imap b2 (encm dv ms4), Chunk.box b1 [.pointer (some ⟨b, 0, none⟩)] 119, Chunk.box b [.slice A_f_0 f.params.length c_f_0, .int .i64 f.ret, .slice A_f_2 f.blocks.length c_f_2, lv, s1, s2, t1, .map (some b2)] 137]) (.cons _ (.cons_cons _ (.cons_cons _ (.cons_cons _ .slnil)))) ?_
  refine WpG.wk (ih2 (i + 1) ms4 ?_ ?_) rfl
  ·dsimp only
   omega
  clear ih1 ih2 ih3 ih4
  exact ⟨by omega, by omega, by rw [k2, drop_end k0 q79]; rfl⟩
 refine WpG.g tabOK 4 rfl ?_
 refine WpG.y rfl rfl rfl rfl (RunY.loadBox (ci := 1) tabOK rfl rfl rfl rfl) ?_
 refine WpG.g tabOK 1 rfl ?_
 refine WpG.callF (v := .int .i64 (firstA (askDef ms2) (asksF f))) rfl rfl rfl rfl rfl rfl ⟨_, Tryz.func144, rfl, rfl⟩ (fun H1 hz => ?_) ?_
 ·exact Uses_calls u_f_0 (r_f_0.mono hz.1) u_f_2 (r_f_2.mono hz.1) k_f_0 (hz.box (ci := 2) rfl) hs hn (fun x w1 w2 bl pos _ => Defined1_calls (hz.box (ci := 2) rfl) (hz.imap (ci := 0) rfl) (hz.box (ci := 1) rfl) x w1 w2 bl pos)
 refine WpG.g tabOK 2 rfl ?_
 exact WpG.ret tabOK (L' := [Chunk.imap b2 (encm dv ms2), Chunk.box b [.slice A_f_0 f.params.length c_f_0, .int .i64 f.ret, .slice A_f_2 f.blocks.length c_f_2, lv, s1, s2, t1, .map (some b2)] 137]) (.tmp rfl .nil) (.cons_cons _ (.cons _ (.cons_cons _ .slnil))) (.inr ⟨ms2, b2, by rw [i2, drop_end i0 q43]; rfl, rfl, rfl⟩)
end Go.Proofs.YtakameggkkjcpaaGreat
namespace Go.Proofs.YtakameggkkjcpaaGreat
open Go Go.RowKit
theorem RchN.ne {succ : List (List Int)} {root no x : Int} (h : RchN succ root no x) : x ≠ no := by
  cases h with
  | root h => exact h
  | step _ _ h => exact h
theorem RchN.either {succ : List (List Int)} {root p q x : Int} (hpq : p ≠ q) (h : RchN succ root (-1) x) : (RchN succ root p x ∧ RchN succ root q x) ∨ RchN succ root q p ∨ RchN succ root p q := by
  induction h with
  | root _ =>
    by_cases e : root = p
    · subst e; exact .inr (.inl (.root hpq))
    · by_cases e2 : root = q
      · subst e2; exact .inr (.inr (.root e))
      · exact .inl ⟨.root e, .root e2⟩
  | @step y x _ hx _ ih =>
    rcases ih with ⟨h1, h2⟩ | h
    · by_cases e : x = p
      · subst e; exact .inr (.inl (.step h2 hx hpq))
      · by_cases e2 : x = q
        · subst e2; exact .inr (.inr (.step h1 hx e))
        · exact .inl ⟨.step h1 hx e, .step h2 hx e2⟩
    · exact .inr h
theorem TreeP.unique {succ : List (List Int)} {root : Int} {t1 t2 : List Int} (h1 : TreeP succ root t1) (h2 : TreeP succ root t2) : t1 = t2 := by
  refine nth_ext (h1.len.trans h2.len.symm) fun k k0 k1 => ?_
  rw [h1.len] at k1
  by_cases hr : RchN succ root (-1) k
  · by_cases e : k = root
    · subst e; rw [h1.top, h2.top]
    · obtain ⟨a1, a2, a3⟩ := h1.up k hr e
      obtain ⟨b1, b2, b3⟩ := h2.up k hr e
      apply Classical.byContradiction
      intro hne
      have n1 : nth t1 k ≠ k := a2.ne
      have n2 : nth t2 k ≠ k := b2.ne
      have c1 : ¬ RchN succ root (nth t1 k) (nth t2 k) := fun h => by
        have := (b3 _ n1).2 h
        exact ((a3 _ n1).1 this).ne rfl
      have c2 : ¬ RchN succ root (nth t2 k) (nth t1 k) := fun h => by
        have := (a3 _ n2).2 h
        exact ((b3 _ n2).1 this).ne rfl
      rcases RchN.either hne a1 with ⟨h, _⟩ | h | h
      · exact h.ne rfl
      · exact c2 h
      · exact c1 h
  · rw [h1.none_ k k0 k1 hr, h2.none_ k k0 k1 hr]
def codeOf (f : FuncD) (lv : Int) (tl : List Int) : Int :=
  if mayF f = false then 4 else if (ofD f).2 ≠ 0 then 5 else if shapeW f tl = false then 5 else if typedD f lv = false then 6 else
  match defsD f with
  | none => 7
  | some ms => if firstA (askDef ms) (asksF f) ≠ 0 then firstA (askDef ms) (asksF f) else if firstA (askShape ms) (asksF f) ≠ 0 then firstA (askShape ms) (asksF f) else firstA (askPlace ms tl) (asksF f)
def TreeGood (f : FuncD) (tl : List Int) : Prop := mayF f = true → (ofD f).2 = 0 → TreeP (ofD f).1.succ 0 tl
def CodeIs (f : FuncD) (lv e : Int) : Prop := ∃ tl, TreeGood f tl ∧ e = codeOf f lv tl
theorem CodeIs.same {f : FuncD} {lv e e' : Int} (h : CodeIs f lv e) (h' : CodeIs f lv e') : e = e' := by
  obtain ⟨tl, g, rfl⟩ := h
  obtain ⟨tl', g', rfl⟩ := h'
  by_cases h1 : mayF f = true
  · by_cases h2 : (ofD f).2 = 0
    · rw [(g h1 h2).unique (g' h1 h2)]
    · unfold codeOf; rw [if_neg (by rw [h1]; simp), if_pos h2, if_neg (by rw [h1]; simp), if_pos h2]
  · have h1' : mayF f = false := by simpa using h1
    unfold codeOf; rw [if_pos h1', if_pos h1']
theorem code4 {f : FuncD} {lv : Int} (h' : mayF f = false) : CodeIs f lv 4 := by
  exact ⟨[], (fun h2 => by rw [h'] at h2; cases h2), by unfold codeOf; rw [if_pos h']⟩
theorem code5 {f : FuncD} {lv : Int} (h : mayF f = true) (h2 : (ofD f).2 ≠ 0) : CodeIs f lv 5 :=
  ⟨[], fun _ h3 => absurd h3 h2, by unfold codeOf; rw [if_neg (by rw [h]; simp), if_pos h2]⟩
theorem code5' {f : FuncD} {lv : Int} {tl : List Int} (h : mayF f = true) (h2 : (ofD f).2 = 0) (ht : TreeP (ofD f).1.succ 0 tl) (h3 : shapeW f tl = false) : CodeIs f lv 5 :=
  ⟨tl, fun _ _ => ht, by unfold codeOf; rw [if_neg (by rw [h]; simp), if_neg (by simp [h2]), if_pos h3]⟩
theorem code6 {f : FuncD} {lv : Int} {tl : List Int} (h : mayF f = true) (h2 : (ofD f).2 = 0) (ht : TreeP (ofD f).1.succ 0 tl) (h3 : shapeW f tl = true) (h4 : (if typedD f lv = true then (0 : Int) else 6) ≠ 0) : CodeIs f lv (if typedD f lv = true then 0 else 6) := by
  have h4' : typedD f lv = false := by
    cases h : typedD f lv with
    | false => rfl
    | true => rw [h] at h4; simp at h4
  refine ⟨tl, fun _ _ => ht, ?_⟩
  have e : (if typedD f lv = true then (0 : Int) else 6) = 6 := by rw [h4']; rfl
  have e2 : codeOf f lv tl = 6 := by unfold codeOf; rw [if_neg (by rw [h]; simp), if_neg (by simp [h2]), if_neg (by simp [h3]), if_pos h4']
  rw [e, e2]
theorem typed_of {f : FuncD} {lv : Int} (h4 : (if typedD f lv = true then (0 : Int) else 6) = 0) : typedD f lv = true := by
  cases h : typedD f lv with
  | true => rfl
  | false => rw [h] at h4; simp at h4
theorem code7 {f : FuncD} {lv : Int} {tl : List Int} (h : mayF f = true) (h2 : (ofD f).2 = 0) (ht : TreeP (ofD f).1.succ 0 tl) (h3 : shapeW f tl = true) (h4 : (if typedD f lv = true then (0 : Int) else 6) = 0) (h5 : defsD f = none) : CodeIs f lv 7 := by
  refine ⟨tl, fun _ _ => ht, ?_⟩
  unfold codeOf; rw [if_neg (by rw [h]; simp), if_neg (by simp [h2]), if_neg (by simp [h3]), if_neg (by simp [typed_of h4]), h5]
theorem code_ms {f : FuncD} {lv : Int} {tl : List Int} {ms : List (Int × DefD)} {e : Int} (h : mayF f = true) (h2 : (ofD f).2 = 0) (ht : TreeP (ofD f).1.succ 0 tl) (h3 : shapeW f tl = true) (h4 : (if typedD f lv = true then (0 : Int) else 6) = 0) (h5 : defsD f = some ms)
    (he : e = if firstA (askDef ms) (asksF f) ≠ 0 then firstA (askDef ms) (asksF f) else if firstA (askShape ms) (asksF f) ≠ 0 then firstA (askShape ms) (asksF f) else firstA (askPlace ms tl) (asksF f)) : CodeIs f lv e := by
  refine ⟨tl, fun _ _ => ht, ?_⟩
  unfold codeOf; rw [if_neg (by rw [h]; simp), if_neg (by simp [h2]), if_neg (by simp [h3]), if_neg (by simp [typed_of h4]), h5, he]
theorem shape_phis {f : FuncD} {tl : List Int} (h : shapeW f tl = true) : ∀ x ∈ f.blocks, ∀ p ∈ x.phis, p.args.length = p.frm.length := by
  have key : ∀ (bs : List BlockD) (g : GraphD) (i : Int), fitFrom g tl i bs = true → ∀ x ∈ bs, ∀ p ∈ x.phis, p.args.length = p.frm.length := by
    intro bs
    induction bs with
    | nil => intro g i _ x hx; cases hx
    | cons b l ih =>
      intro g i h x hx p hp
      simp only [fitFrom, Bool.and_eq_true] at h
      rcases List.mem_cons.1 hx with rfl | hx
      · have h1 := h.1
        unfold blkFit at h1
        simp only [Bool.and_eq_true] at h1
        have h2 := List.all_eq_true.1 h1.2.1 p hp
        unfold phiFit at h2
        simp only [Bool.and_eq_true, beq_iff_eq] at h2
        omega
      · exact ih g (i + 1) h.2 x hx p hp
  exact key f.blocks _ 0 h
theorem small_put {ms : List (Int × DefD)} {k : Int} {d : DefD} (h : Small64 ms) (hd : I64 d.blk) : Small64 (mput ms k d) := by
  have key : ∀ (ms : List (Int × DefD)) (v : Int), mget (mput ms k d) v = if v = k then some d else mget ms v := by
    intro ms
    induction ms with
    | nil => intro v; by_cases e : v = k
             · subst e; simp [mput, mget]
             · simp [mput, mget, Ne.symm e, e]
    | cons a l ih =>
      obtain ⟨a, x⟩ := a
      intro v
      by_cases e1 : a = k
      · subst e1
        by_cases e : v = a
        · subst e; simp [mput, mget]
        · simp [mput, mget, Ne.symm e, e]
      · by_cases e : v = a
        · subst e; simp [mput, mget, e1]
        · simp [mput, mget, e1, Ne.symm e, ih v]
  intro v
  rw [key]
  by_cases e : v = k
  · rw [if_pos e]; exact hd
  · rw [if_neg e]; exact h v
theorem small_nil : Small64 [] := fun _ => ⟨by show (-9223372036854775808 : Int) ≤ 0; decide, by show (0 : Int) ≤ 9223372036854775807; decide⟩
theorem small_par : ∀ (l : List Int) (ms : List (Int × DefD)) (i : Int), Small64 ms → Small64 (parPuts ms i l)
  | [], _, _, h => h
  | b :: l, ms, i, h => small_par l _ _ (small_put h ⟨by show (-9223372036854775808 : Int) ≤ -1; decide, by show (-1 : Int) ≤ 9223372036854775807; decide⟩)
theorem small_all : ∀ (l : List PutD) (ms ms' : List (Int × DefD)), (∀ p ∈ l, I64 p.d.blk) → Small64 ms → putAll ms l = some ms' → Small64 ms'
  | [], ms, ms', _, h, e => by simp only [putAll, Option.some.injEq] at e; exact e ▸ h
  | p :: l, ms, ms', hp, h, e => by
    simp only [putAll] at e
    split at e
    · cases e
    · exact small_all l _ ms' (fun q hq => hp q (.tail _ hq)) (small_put h (hp p (.head _))) e
theorem opsPuts_blk (i : Int) : ∀ (l : List OpD) (k : Int), ∀ p ∈ opsPuts i k l, p.d.blk = i
  | [], _, p, h => by cases h
  | o :: l, k, p, h => by
    simp only [opsPuts] at h
    rcases List.mem_append.1 h with h | h
    · split at h
      · simp at h; subst h; rfl
      · cases h
    · exact opsPuts_blk i l (k + 1) p h
theorem allPuts_blk : ∀ (bs : List BlockD) (i : Int), ∀ p ∈ allPuts i bs, i ≤ p.d.blk ∧ p.d.blk < i + bs.length
  | [], _, p, h => by cases h
  | b :: l, i, p, h => by
    simp only [allPuts] at h
    simp only [List.length_cons]
    rcases List.mem_append.1 h with h | h
    · unfold phiPuts at h
      obtain ⟨q, _, rfl⟩ := List.mem_map.1 h
      simp; omega
    · rcases List.mem_append.1 h with h | h
      · have := opsPuts_blk i b.ops 0 p h; omega
      · have := allPuts_blk l (i + 1) p h; omega
theorem defs_small {f : FuncD} {ms : List (Int × DefD)} (h : defsD f = some ms) (hn : f.blocks.length ≤ 64) : Small64 ms :=
  small_all _ _ _ (fun p hp => by have := allPuts_blk f.blocks 0 p hp; exact ⟨by omega, by omega⟩) (small_par _ _ _ small_nil) h
end Go.Proofs.YtakameggkkjcpaaGreat
set_option maxRecDepth 4000
namespace Go.Proofs.YtakameggkkjcpaaGreat
open Go Go.RowKit
theorem Shapes_chk {H : Hp} {f : FuncD} {A_f_0 A_f_2 : Option Addr} {c_f_0 c_f_2 : Nat} (u_f_0 : f.params.length ≤ c_f_0) (r_f_0 : RdS H A_f_0 f.params) (u_f_2 : f.blocks.length ≤ c_f_2) (r_f_2 : RdS H A_f_2 f.blocks) (k_f_0 : I64 f.ret) {b mb : Nat} {lv s1 s2 : Value} {t1 : Value} {ms : List (Int × DefD)} (hb : HCells H b 0 [.slice A_f_0 f.params.length c_f_0, .int .i64 f.ret, .slice A_f_2 f.blocks.length c_f_2, lv, s1, s2, t1, .map (some mb)]) (hm : H mb = some (mobj (encm dv ms))) (hs : ∀ x ∈ f.blocks, ∀ p ∈ x.phis, p.args.length = p.frm.length) (hn : f.blocks.length ≤ 64) : CallG Tryz.prog 114 [.pointer (some ⟨b, 0, none⟩)] H [] (fun v _ L' => v = .int .i64 (firstA (askShape ms) (asksF f)) ∧ L' = []) := by
 refine CallG.of Tryz.func114 rfl rfl rfl fun w0 => ?_
 refine WpG.g tabOK 2 rfl ?_
 refine WpG.box rfl rfl rfl rfl rfl (fun b1 => ?_)
 refine WpG.g tabOK 4 rfl ?_
 refine WpG.y rfl rfl rfl rfl (RunY.loadBox (ci := 0) tabOK rfl rfl rfl rfl) ?_
 refine WpG.g tabOK 1 rfl ?_
 refine WpG.callF (v := .int .i64 (firstA (askShape ms) (asksF f))) rfl rfl rfl rfl rfl rfl ⟨_, Tryz.func144, rfl, rfl⟩ (fun H1 hz => ?_) ?_
 ·exact Uses_calls u_f_0 (r_f_0.mono hz.1) u_f_2 (r_f_2.mono hz.1) k_f_0 (hb.mono hz.1) hs hn (fun x w1 w2 bl pos kb => Shapes1_calls (hb.mono hz.1) (hz.1 _ _ hm) (hz.box (ci := 0) rfl) x w1 w2 bl pos)
 refine WpG.g tabOK 2 rfl ?_
 exact WpG.ret tabOK (L' := []) (.tmp rfl .nil) (.cons _ .slnil) ⟨congrArg (Value.int .i64) (by rfl), rfl⟩
theorem Places_chk {H : Hp} {f : FuncD} {A_f_0 A_f_2 : Option Addr} {c_f_0 c_f_2 : Nat} (u_f_0 : f.params.length ≤ c_f_0) (r_f_0 : RdS H A_f_0 f.params) (u_f_2 : f.blocks.length ≤ c_f_2) (r_f_2 : RdS H A_f_2 f.blocks) (k_f_0 : I64 f.ret) {b mb : Nat} {lv s1 s2 : Value} {At : Option Addr} {ct : Nat} {tl : List Int} (ht : RdS H At tl) {ms : List (Int × DefD)} (hms : Small64 ms) (hb : HCells H b 0 [.slice A_f_0 f.params.length c_f_0, .int .i64 f.ret, .slice A_f_2 f.blocks.length c_f_2, lv, s1, s2, .slice At tl.length ct, .map (some mb)]) (hm : H mb = some (mobj (encm dv ms))) (hs : ∀ x ∈ f.blocks, ∀ p ∈ x.phis, p.args.length = p.frm.length) (hn : f.blocks.length ≤ 64) : CallG Tryz.prog 115 [.pointer (some ⟨b, 0, none⟩)] H [] (fun v _ L' => v = .int .i64 (firstA (askPlace ms tl) (asksF f)) ∧ L' = []) := by
 refine CallG.of Tryz.func115 rfl rfl rfl fun w0 => ?_
 refine WpG.g tabOK 2 rfl ?_
 refine WpG.box rfl rfl rfl rfl rfl (fun b1 => ?_)
 refine WpG.g tabOK 4 rfl ?_
 refine WpG.y rfl rfl rfl rfl (RunY.loadBox (ci := 0) tabOK rfl rfl rfl rfl) ?_
 refine WpG.g tabOK 1 rfl ?_
 refine WpG.callF (v := .int .i64 (firstA (askPlace ms tl) (asksF f))) rfl rfl rfl rfl rfl rfl ⟨_, Tryz.func144, rfl, rfl⟩ (fun H1 hz => ?_) ?_
 ·exact Uses_calls u_f_0 (r_f_0.mono hz.1) u_f_2 (r_f_2.mono hz.1) k_f_0 (hb.mono hz.1) hs hn (fun x w1 w2 bl pos kb => Places1_calls (ht.mono hz.1) hms (hb.mono hz.1) (hz.1 _ _ hm) (hz.box (ci := 0) rfl) x w1 w2 pos kb)
 refine WpG.g tabOK 2 rfl ?_
 exact WpG.ret tabOK (L' := []) (.tmp rfl .nil) (.cons _ .slnil) ⟨congrArg (Value.int .i64) (by rfl), rfl⟩
theorem Look_calls {H : Hp} {f : FuncD} {A_f_0 A_f_2 : Option Addr} {c_f_0 c_f_2 : Nat} (u_f_0 : f.params.length ≤ c_f_0) (r_f_0 : RdS H A_f_0 f.params) (u_f_2 : f.blocks.length ≤ c_f_2) (r_f_2 : RdS H A_f_2 f.blocks) (k_f_0 : I64 f.ret) (lv : Int) : CallG Tryz.prog 95 [.agg #[.slice A_f_0 f.params.length c_f_0, .int .i64 f.ret, .slice A_f_2 f.blocks.length c_f_2], .int .i64 lv] H [] (fun v H' L' => ∃ e p, v = .tuple #[.pointer p, .int .i64 e] ∧ CodeIs f lv e ∧ (e = 0 → ∃ b mb ms v0 v1 v2 v3 v4 v5 v6, p = some ⟨b, 0, none⟩ ∧ defsD f = some ms ∧ L' = [Chunk.imap mb (encm dv ms), Chunk.box b [v0, v1, v2, v3, v4, v5, v6, .map (some mb)] 137])) := by
 have rd_f' : Rdc.rd H [.slice A_f_0 f.params.length c_f_0, .int .i64 f.ret, .slice A_f_2 f.blocks.length c_f_2] f := ⟨_, _, _, _, rfl, u_f_0, r_f_0, u_f_2, r_f_2, k_f_0⟩
 have bs := r_f_2.1; have bsp := r_f_0.1
 refine CallG.of Tryz.func95 rfl rfl rfl fun w0 => ?_
 refine WpG.g tabOK 2 rfl ?_
 refine WpG.box rfl rfl rfl rfl rfl (fun b1 => ?_)
 refine WpG.g tabOK 5 rfl ?_
 refine WpG.y rfl rfl rfl rfl (RunY.loadBox (ci := 0) tabOK rfl rfl rfl rfl) ?_
 refine WpG.g tabOK 2 rfl ?_
 refine WpG.box rfl rfl rfl rfl rfl (fun b2 => ?_)
 refine WpG.g tabOK 5 rfl ?_
 refine WpG.y rfl rfl rfl rfl (RunY.loadBox (ci := 1) tabOK rfl rfl rfl rfl) ?_
 refine WpG.callS rfl rfl rfl rfl rfl rfl hlr (codeMay_calls rd_f') ?_
 refine WpG.g tabOK 2 rfl ?_
 refine WpG.caseBn (t := 16) rfl (fun q16 => ?_) (fun q16 => ?_)
 ·refine WpG.g tabOK 7 rfl ?_
  exact WpG.ret tabOK (L' := [Chunk.box b2 [.slice A_f_0 f.params.length c_f_0, .int .i64 f.ret, .slice A_f_2 f.blocks.length c_f_2, .int .i64 lv, .slice none 0 0, .slice none 0 0, .slice none 0 0, .map none] 137]) (.tmp rfl (.tmp rfl .nil)) (.cons_cons _ (.cons _ .slnil)) ⟨_, _, rfl, code4 q16, fun h => absurd h (by decide)⟩
 refine WpG.g tabOK 15 rfl ?_
 refine WpG.buildSlice (xs := [.func (.func 111) #[.pointer (some ⟨b2, 0, none⟩)] #[], .func (.func 112) #[.pointer (some ⟨b2, 0, none⟩)] #[], .func (.func 113) #[.pointer (some ⟨b2, 0, none⟩)] #[], .func (.func 114) #[.pointer (some ⟨b2, 0, none⟩)] #[], .func (.func 115) #[.pointer (some ⟨b2, 0, none⟩)] #[]]) tabOK rfl rfl rfl rfl rfl rfl rfl rfl rfl rfl (fun b3 => ?_)
 refine WpG.g tabOK 5 rfl ?_
 refine WpG.g tabOK 11 rfl ?_
 refine WpG.y rfl rfl rfl rfl (RunY.indexAddr tabOK rfl rfl rfl rfl rfl (by decide) (by decide)) ?_
 refine WpG.y rfl rfl rfl rfl (RunY.loadOwn (ci := 0) (cs := [.func (.func 111) #[.pointer (some ⟨b2, 0, none⟩)] #[]]) tabOK rfl rfl rfl rfl rfl (own_cell1 rfl)) ?_
 refine WpG.g tabOK 5 rfl ?_
 refine WpG.call1 (ci := 1) rfl rfl rfl rfl rfl rfl rfl (Shape_fn u_f_0 r_f_0 u_f_2 r_f_2 k_f_0 lv) ?_
 rintro _ H5 L1 hH5 (⟨hof, rfl⟩ | ⟨hof, tl, hTP, hTA, (⟨hsw, rfl⟩ | ⟨hsw, rfl, Ag, cg, Ag', cg', At, ct, rtl, utl, rfl⟩)⟩)
 ·refine WpG.dropL (L' := [Chunk.own 138 1 (some ⟨b3, 0, none⟩) 5 5 [.func (.func 111) #[.pointer (some ⟨b2, 0, none⟩)] #[], .func (.func 112) #[.pointer (some ⟨b2, 0, none⟩)] #[], .func (.func 113) #[.pointer (some ⟨b2, 0, none⟩)] #[], .func (.func 114) #[.pointer (some ⟨b2, 0, none⟩)] #[], .func (.func 115) #[.pointer (some ⟨b2, 0, none⟩)] #[]], Chunk.box b1 [.slice A_f_0 f.params.length c_f_0, .int .i64 f.ret, .slice A_f_2 f.blocks.length c_f_2] 25]) (List.sublist_append_right ..) ?_
  refine WpG.g tabOK 15 rfl ?_
  exact WpG.ret tabOK (L' := []) (.tmp rfl (.tmp rfl .nil)) (.cons _ (.cons _ .slnil)) ⟨_, _, rfl, code5 q16 hof, fun h => absurd h (by decide)⟩
 ·refine WpG.dropL (L' := [Chunk.own 138 1 (some ⟨b3, 0, none⟩) 5 5 [.func (.func 111) #[.pointer (some ⟨b2, 0, none⟩)] #[], .func (.func 112) #[.pointer (some ⟨b2, 0, none⟩)] #[], .func (.func 113) #[.pointer (some ⟨b2, 0, none⟩)] #[], .func (.func 114) #[.pointer (some ⟨b2, 0, none⟩)] #[], .func (.func 115) #[.pointer (some ⟨b2, 0, none⟩)] #[]], Chunk.box b1 [.slice A_f_0 f.params.length c_f_0, .int .i64 f.ret, .slice A_f_2 f.blocks.length c_f_2] 25]) (List.sublist_append_right ..) ?_
  refine WpG.g tabOK 15 rfl ?_
  exact WpG.ret tabOK (L' := []) (.tmp rfl (.tmp rfl .nil)) (.cons _ (.cons _ .slnil)) ⟨_, _, rfl, code5' q16 hof hTP hsw, fun h => absurd h (by decide)⟩
 have hnb := (of_ok hof).1
 have hfs := shape_phis hsw
 refine WpG.gw tabOK 12 40 (v := .int .i64 1) rfl rfl ?_
 refine WpG.g tabOK 3 rfl ?_
 refine WpG.g tabOK 11 rfl ?_
 refine WpG.y rfl rfl rfl rfl (RunY.indexAddr tabOK rfl rfl rfl rfl rfl (by decide) (by decide)) ?_
 refine WpG.y rfl rfl rfl rfl (RunY.loadOwn (ci := 1) (cs := [.func (.func 112) #[.pointer (some ⟨b2, 0, none⟩)] #[]]) tabOK rfl rfl rfl rfl rfl (own_cell1 rfl)) ?_
 refine WpG.g tabOK 5 rfl ?_
 refine WpG.callF (v := .int .i64 (if typedD f lv then 0 else 6)) rfl rfl rfl rfl rfl rfl ⟨_, Tryz.func112, rfl, rfl⟩ (fun H1 hz => ?_) ?_
 ·exact Typed_calls u_f_0 (r_f_0.mono ((hH5).trans hz.1)) u_f_2 (r_f_2.mono ((hH5).trans hz.1)) k_f_0 (hz.box (ci := 0) rfl)
 refine WpG.g tabOK 7 rfl ?_
 refine WpG.caseN (t := 37) rfl (fun q37 => ?_) (fun q37 => ?_)
 ·refine WpG.g tabOK 8 rfl ?_
  exact WpG.ret tabOK (L' := [Chunk.box b2 [.slice A_f_0 f.params.length c_f_0, .int .i64 f.ret, .slice A_f_2 f.blocks.length c_f_2, .int .i64 lv, .slice Ag ((ofD f).1.succ.length) cg, .slice Ag' ((ofD f).1.pred.length) cg', .slice At tl.length ct, .map none] 137]) (.tmp rfl (.tmp rfl .nil)) (.cons_cons _ (.cons _ (.cons _ .slnil))) ⟨_, _, rfl, code6 q16 hof hTP hsw q37, fun h => absurd h q37⟩
 refine WpG.gw tabOK 5 40 (v := .int .i64 2) rfl rfl ?_
 refine WpG.g tabOK 3 rfl ?_
 refine WpG.g tabOK 11 rfl ?_
 refine WpG.y rfl rfl rfl rfl (RunY.indexAddr tabOK rfl rfl rfl rfl rfl (by decide) (by decide)) ?_
 refine WpG.y rfl rfl rfl rfl (RunY.loadOwn (ci := 1) (cs := [.func (.func 113) #[.pointer (some ⟨b2, 0, none⟩)] #[]]) tabOK rfl rfl rfl rfl rfl (own_cell1 rfl)) ?_
 refine WpG.g tabOK 5 rfl ?_
 refine WpG.call1 (ci := 0) rfl rfl rfl rfl rfl rfl rfl (Defined_calls u_f_0 (r_f_0.mono hH5) u_f_2 (r_f_2.mono hH5) k_f_0 hfs hnb) ?_
 rintro _ H6 L1 hH6 (⟨hdf, rfl⟩ | ⟨ms, mb, hdf, rfl, rfl⟩)
 ·refine WpG.dropL (L' := [Chunk.own 138 1 (some ⟨b3, 0, none⟩) 5 5 [.func (.func 111) #[.pointer (some ⟨b2, 0, none⟩)] #[], .func (.func 112) #[.pointer (some ⟨b2, 0, none⟩)] #[], .func (.func 113) #[.pointer (some ⟨b2, 0, none⟩)] #[], .func (.func 114) #[.pointer (some ⟨b2, 0, none⟩)] #[], .func (.func 115) #[.pointer (some ⟨b2, 0, none⟩)] #[]], Chunk.box b1 [.slice A_f_0 f.params.length c_f_0, .int .i64 f.ret, .slice A_f_2 f.blocks.length c_f_2] 25]) (List.sublist_append_right ..) ?_
  refine WpG.g tabOK 15 rfl ?_
  exact WpG.ret tabOK (L' := []) (.tmp rfl (.tmp rfl .nil)) (.cons _ (.cons _ .slnil)) ⟨_, _, rfl, code7 q16 hof hTP hsw q37 hdf, fun h => absurd h (by decide)⟩
 have hms := defs_small hdf hnb
 refine WpG.g tabOK 7 rfl ?_
 refine WpG.caseN (t := 37) rfl (fun q37_2 => ?_) (fun q37_2 => ?_)
 ·refine WpG.g tabOK 8 rfl ?_
  exact WpG.ret tabOK (L' := [Chunk.imap mb (encm dv ms), Chunk.box b2 [.slice A_f_0 f.params.length c_f_0, .int .i64 f.ret, .slice A_f_2 f.blocks.length c_f_2, .int .i64 lv, .slice Ag ((ofD f).1.succ.length) cg, .slice Ag' ((ofD f).1.pred.length) cg', .slice At tl.length ct, .map (some mb)] 137]) (.tmp rfl (.tmp rfl .nil)) (.cons_cons _ (.cons_cons _ (.cons _ (.cons _ .slnil)))) ⟨_, _, rfl, code_ms q16 hof hTP hsw q37 hdf (by rw [if_pos q37_2]), fun h => absurd h q37_2⟩
 refine WpG.gw tabOK 5 40 (v := .int .i64 3) rfl rfl ?_
 refine WpG.g tabOK 3 rfl ?_
 refine WpG.g tabOK 11 rfl ?_
 refine WpG.y rfl rfl rfl rfl (RunY.indexAddr tabOK rfl rfl rfl rfl rfl (by decide) (by decide)) ?_
 refine WpG.y rfl rfl rfl rfl (RunY.loadOwn (ci := 2) (cs := [.func (.func 114) #[.pointer (some ⟨b2, 0, none⟩)] #[]]) tabOK rfl rfl rfl rfl rfl (own_cell1 rfl)) ?_
 refine WpG.g tabOK 5 rfl ?_
 refine WpG.callF (v := .int .i64 (firstA (askShape ms) (asksF f))) rfl rfl rfl rfl rfl rfl ⟨_, Tryz.func114, rfl, rfl⟩ (fun H1 hz => ?_) ?_
 ·exact Shapes_chk u_f_0 (r_f_0.mono (((hH5.trans hH6)).trans hz.1)) u_f_2 (r_f_2.mono (((hH5.trans hH6)).trans hz.1)) k_f_0 (hz.box (ci := 1) rfl) (hz.imap (ci := 0) rfl) hfs hnb
 refine WpG.g tabOK 7 rfl ?_
 refine WpG.caseN (t := 37) rfl (fun q37_3 => ?_) (fun q37_3 => ?_)
 ·refine WpG.g tabOK 8 rfl ?_
  exact WpG.ret tabOK (L' := [Chunk.imap mb (encm dv ms), Chunk.box b2 [.slice A_f_0 f.params.length c_f_0, .int .i64 f.ret, .slice A_f_2 f.blocks.length c_f_2, .int .i64 lv, .slice Ag ((ofD f).1.succ.length) cg, .slice Ag' ((ofD f).1.pred.length) cg', .slice At tl.length ct, .map (some mb)] 137]) (.tmp rfl (.tmp rfl .nil)) (.cons_cons _ (.cons_cons _ (.cons _ (.cons _ .slnil)))) ⟨_, _, rfl, code_ms q16 hof hTP hsw q37 hdf (by rw [if_neg (by simp [q37_2]), if_pos q37_3]), fun h => absurd h q37_3⟩
 refine WpG.gw tabOK 5 40 (v := .int .i64 4) rfl rfl ?_
 refine WpG.g tabOK 3 rfl ?_
 refine WpG.g tabOK 11 rfl ?_
 refine WpG.y rfl rfl rfl rfl (RunY.indexAddr tabOK rfl rfl rfl rfl rfl (by decide) (by decide)) ?_
 refine WpG.y rfl rfl rfl rfl (RunY.loadOwn (ci := 2) (cs := [.func (.func 115) #[.pointer (some ⟨b2, 0, none⟩)] #[]]) tabOK rfl rfl rfl rfl rfl (own_cell1 rfl)) ?_
 refine WpG.g tabOK 5 rfl ?_
 refine WpG.callF (v := .int .i64 (firstA (askPlace ms tl) (asksF f))) rfl rfl rfl rfl rfl rfl ⟨_, Tryz.func115, rfl, rfl⟩ (fun H1 hz => ?_) ?_
 ·exact Places_chk u_f_0 (r_f_0.mono (((hH5.trans hH6)).trans hz.1)) u_f_2 (r_f_2.mono (((hH5.trans hH6)).trans hz.1)) k_f_0 (rtl.mono ((hH6).trans hz.1)) hms (hz.box (ci := 1) rfl) (hz.imap (ci := 0) rfl) hfs hnb
 refine WpG.g tabOK 7 rfl ?_
 refine WpG.caseN (t := 37) rfl (fun q37_4 => ?_) (fun q37_4 => ?_)
 ·refine WpG.g tabOK 8 rfl ?_
  exact WpG.ret tabOK (L' := [Chunk.imap mb (encm dv ms), Chunk.box b2 [.slice A_f_0 f.params.length c_f_0, .int .i64 f.ret, .slice A_f_2 f.blocks.length c_f_2, .int .i64 lv, .slice Ag ((ofD f).1.succ.length) cg, .slice Ag' ((ofD f).1.pred.length) cg', .slice At tl.length ct, .map (some mb)] 137]) (.tmp rfl (.tmp rfl .nil)) (.cons_cons _ (.cons_cons _ (.cons _ (.cons _ .slnil)))) ⟨_, _, rfl, code_ms q16 hof hTP hsw q37 hdf (by rw [if_neg (by simp [q37_2]), if_neg (by simp [q37_3])]), fun h => absurd h q37_4⟩
 refine WpG.gw tabOK 5 40 (v := .int .i64 5) rfl rfl ?_
 refine WpG.g tabOK 3 rfl ?_
 refine WpG.g tabOK 13 rfl ?_
 exact WpG.ret tabOK (L' := [Chunk.imap mb (encm dv ms), Chunk.box b2 [.slice A_f_0 f.params.length c_f_0, .int .i64 f.ret, .slice A_f_2 f.blocks.length c_f_2, .int .i64 lv, .slice Ag ((ofD f).1.succ.length) cg, .slice Ag' ((ofD f).1.pred.length) cg', .slice At tl.length ct, .map (some mb)] 137]) (.tmp rfl (.tmp rfl .nil)) (.cons_cons _ (.cons_cons _ (.cons _ (.cons _ .slnil)))) ⟨_, _, rfl, code_ms q16 hof hTP hsw q37 hdf (by rw [if_neg (by simp [q37_2]), if_neg (by simp [q37_3]), q37_4]), fun _ => ⟨b2, mb, ms, _, _, _, _, _, _, _, rfl, hdf, rfl⟩⟩
end Go.Proofs.YtakameggkkjcpaaGreat
