/- A function that returns its only parameter is right just if that is of a width, and it returns that width; a Trap alone is right for any width: 'CheckRet' answers true at every input. No conditions. -/
import Derived.Test.YtdjemlkllbhdlaaGreatTK4
import Derived.Test.YtdjemlkllbhdlaaGreatRows
set_option linter.unusedVariables false
set_option linter.unusedSimpArgs false
namespace Go.Proofs.YtdjemlkllbhdlaaGreat
open Go Go.RowKit
theorem rReach_calls {H : Hp} {gr : GraphD} {cs_gr : List Value} (rd_gr : Rdc.rd H cs_gr gr) (root wo : Int) (hR : Rows gr.succ) (h0 : 0 ≤ root) (h1 : root < gr.succ.length) : CallG Tryz.prog 39 [.agg cs_gr.toArray, .int .i64 root, .int .i64 wo] H [] (fun v H' L' => ∃ A c bs, RExact gr.succ root wo bs ∧ v = .slice A bs.length c ∧ bs.length ≤ c ∧ RdS H' A bs ∧ L' = []) := by
 have rd_gr' := rd_gr; obtain ⟨A_gr_0, c_gr_0, A_gr_1, c_gr_1, rfl, u_gr_0, r_gr_0, u_gr_1, r_gr_1⟩ := rd_gr
 have h64 := hR.1
 refine CallG.of Tryz.func39 rfl rfl rfl fun w0 => ?_
 refine WpG.g tabOK 2 rfl ?_
 refine WpG.box rfl rfl rfl rfl rfl (fun b1 => ?_)
 refine WpG.freezeBox (ci := 0) rfl (fun H2 hH2 hc2 => ?_)
 refine WpG.setL (L' := []) rfl ?_
 refine WpG.g tabOK 5 rfl ?_
 refine WpG.y rfl rfl rfl rfl (RunY.loadH tabOK (hc2.sub 0 1) (Hp.le.refl _) rfl rfl rfl rfl) ?_
 refine WpG.g tabOK 1 rfl ?_
 refine WpG.makeSlice (n := gr.succ.length) tabOK rfl rfl rfl rfl rfl rfl rfl rfl rfl (by omega) (fun b3 => ?_)
 refine WpG.setL (L' := [Chunk.own 4 1 (some ⟨b3, 0, none⟩) gr.succ.length gr.succ.length ((List.replicate gr.succ.length false).map Value.bool)]) (by rw [List.map_replicate]) ?_
 refine WpG.g tabOK 9 rfl ?_
 refine WpG.caseE (t := 17) rfl (fun q17 => ?_) (fun q17 => ?_)
 ·refine WpG.g tabOK 6 rfl ?_
  refine WpG.ownCap (ci := 0) rfl (fun uz4 => ?_)
  refine WpG.freezeOwn (ci := 0) rfl (fun H4 hH4 fz4 => ?_)
  have rz4 : RdS H4 (some ⟨b3, 0, none⟩) (List.replicate gr.succ.length false) := RdS.of_own (H := H2) (show RdL H2 ((List.replicate gr.succ.length false).map Value.bool) (List.replicate gr.succ.length false) from RdL_bools _) ((by first | omega | simp)) (by first | omega | (simp; omega)) hH4 fz4
  refine WpG.setL (L' := []) rfl ?_
  exact WpG.ret tabOK (L' := []) (.tmp rfl .nil) .slnil (reach_ret (RExact.none_ q17) rz4)
 ·refine WpG.g tabOK 6 rfl ?_
  refine WpG.y rfl rfl rfl rfl (RunY.indexAddr tabOK rfl rfl rfl rfl rfl (by omega) (by omega)) ?_
  refine WpG.storeOwn (ci := 0) tabOK rfl rfl rfl rfl rfl rfl rfl rfl (putAt_one (own_lt (by omega) (by simpa using h1))) ?_
  refine WpG.setL (L' := [Chunk.own 4 1 (some ⟨b3, 0, none⟩) gr.succ.length gr.succ.length (((List.replicate gr.succ.length false).set root.toNat true).map Value.bool)]) (by rw [← arr_set (f := Value.bool) (xs := List.replicate gr.succ.length false) (j := root) true]; rfl) ?_
  refine WpG.g tabOK 8 rfl ?_
  refine WpG.wk (WpG.ind2 (fun (rd : Int) (bs : List Bool) => ⟨(gr.succ.length - rd).toNat, [(2, .int .i64 wo), (3, .pointer (some ⟨b1, 0, none⟩)), (7, .slice (some ⟨b3, 0, none⟩) gr.succ.length gr.succ.length), (8, .int .i64 rd)], H2, [Chunk.own 4 1 (some ⟨b3, 0, none⟩) gr.succ.length gr.succ.length (bs.map Value.bool)], 0 ≤ rd ∧ rd ≤ gr.succ.length ∧ RSound gr.succ root wo bs ∧ (RExact gr.succ root wo bs ∨ rd + 1 ≤ (bs.count true : Int))⟩) ?_ 0 ((List.replicate gr.succ.length false).set root.toNat true) ⟨by omega, by omega, RSound.start h0 h1 q17, .inr (count_start h0 h1)⟩) rfl
  intro rd bs inv ih1
  obtain ⟨a0, a3, a1, a2⟩ := inv
  have bl := a1.1
  refine WpG.g tabOK 8 rfl ?_
  refine WpG.caseD (t := 25) rfl (fun q25 => ?_) (fun q25 => ?_)
  ·refine WpG.g tabOK 10 rfl ?_
   refine WpG.wk (WpG.ind2 (fun (i : Int) (bs2 : List Bool) => ⟨(gr.succ.length - i).toNat, [(2, .int .i64 wo), (3, .pointer (some ⟨b1, 0, none⟩)), (7, .slice (some ⟨b3, 0, none⟩) gr.succ.length gr.succ.length), (8, .int .i64 rd), (9, .int .i64 i)], H2, [Chunk.own 4 1 (some ⟨b3, 0, none⟩) gr.succ.length gr.succ.length (bs2.map Value.bool)], 0 ≤ i ∧ i ≤ gr.succ.length ∧ RSound gr.succ root wo bs2 ∧ RSub bs bs2 ∧ ∀ x : Int, 0 ≤ x → x < i → nth bs x = true → ROn gr.succ wo bs2 x⟩) ?_ 0 bs ⟨by omega, by omega, a1, fun _ _ h => h, fun x x0 x1 => by exfalso; have : x < 0 := x1; omega⟩) rfl
   intro i bs2 inv ih2
   obtain ⟨i0, i1, d1, d2, d3⟩ := inv
   have bl2 := d1.1
   refine WpG.g tabOK 8 rfl ?_
   refine WpG.caseD (t := 31) rfl (fun q31 => ?_) (fun q31 => ?_)
   ·refine WpG.g tabOK 10 rfl ?_
    refine WpG.wk (WpG.ind2 (fun (k : Int) (bs3 : List Bool) => ⟨((nth gr.succ i).length - k).toNat, [(2, .int .i64 wo), (3, .pointer (some ⟨b1, 0, none⟩)), (7, .slice (some ⟨b3, 0, none⟩) gr.succ.length gr.succ.length), (8, .int .i64 rd), (9, .int .i64 i), (10, .int .i64 k)], H2, [Chunk.own 4 1 (some ⟨b3, 0, none⟩) gr.succ.length gr.succ.length (bs3.map Value.bool)], 0 ≤ k ∧ RSound gr.succ root wo bs3 ∧ RSub bs bs3 ∧ (∀ x : Int, 0 ≤ x → x < i → nth bs x = true → ROn gr.succ wo bs3 x) ∧ k ≤ (nth gr.succ i).length ∧ ∀ y ∈ (nth gr.succ i).take k.toNat, y ≠ wo → nth bs3 y = true⟩) ?_ 0 bs2 ⟨by omega, d1, d2, d3, by omega, by simp⟩) rfl
    intro k bs3 inv ih3
    obtain ⟨k0, e1, e2, e3, e4, e5⟩ := inv
    have bl3 := e1.1
    refine WpG.g tabOK 5 rfl ?_
    refine WpG.y rfl rfl rfl rfl (RunY.indexAddr tabOK rfl rfl rfl rfl rfl (by omega) (by omega)) ?_
    refine WpG.y rfl rfl rfl rfl (RunY.loadOwn (ci := 0) (cs := [.bool (nth bs3 i)]) tabOK rfl rfl rfl rfl rfl (own_f (f := Value.bool) (by omega) (by omega))) ?_
    refine WpG.g tabOK 1 rfl ?_
    refine WpG.caseB (t := 38) rfl (fun q38 => ?_) (fun q38 => ?_)
    ·refine WpG.g tabOK 2 rfl ?_
     refine WpG.y rfl rfl rfl rfl (RunY.loadH tabOK (hc2.sub 0 1) (Hp.le.refl _) rfl rfl rfl rfl) ?_
     refine WpG.g tabOK 1 rfl ?_
     refine WpG.indexR tabOK rfl rfl rfl rfl rfl rfl rfl rfl rfl r_gr_0 (by omega) (by omega) ?_
     rintro x5 hx5 b5 o5 _ ⟨A5, c5, rfl, u5, r5⟩ hc5
     have bz5 := r5.1
     obtain rfl : x5 = (nth gr.succ i) := hx5
     refine WpG.y rfl rfl rfl rfl (RunY.loadH tabOK hc5 hH2 rfl rfl rfl rfl) ?_
     refine WpG.g tabOK 4 rfl ?_
     refine WpG.caseD (t := 47) rfl (fun q47 => ?_) (fun q47 => ?_)
     ·refine WpG.g tabOK 7 rfl ?_
      refine WpG.y rfl rfl rfl rfl (RunY.loadH tabOK (hc2.sub 0 1) (Hp.le.refl _) rfl rfl rfl rfl) ?_
      refine WpG.g tabOK 1 rfl ?_
      refine WpG.indexR tabOK rfl rfl rfl rfl rfl rfl rfl rfl rfl r_gr_0 (by omega) (by omega) ?_
      rintro x6 hx6 b6 o6 _ ⟨A6, c6, rfl, u6, r6⟩ hc6
      have bz6 := r6.1
      obtain rfl : x6 = (nth gr.succ i) := hx6
      refine WpG.y rfl rfl rfl rfl (RunY.loadH tabOK hc6 hH2 rfl rfl rfl rfl) ?_
      refine WpG.g tabOK 1 rfl ?_
      refine WpG.indexR tabOK rfl rfl rfl rfl rfl rfl rfl rfl rfl r6 (by omega) (by omega) ?_
      rintro x7 hx7 b7 o7 _ ⟨rfl, k7⟩ hc7
      obtain rfl : x7 = (nth (nth gr.succ i) k) := hx7
      refine WpG.y rfl rfl rfl rfl (RunY.loadH tabOK hc7 hH2 rfl rfl rfl rfl) ?_
      refine WpG.g tabOK 3 rfl ?_
      refine WpG.caseN (t := 59) rfl (fun q59 => ?_) (fun q59 => ?_)
      ·have hk := nth_mem (xs := (nth gr.succ i)) k0 q47
       have hy := (hR.2 _ (nth_mem i0 q31)).2 _ hk
       refine WpG.g tabOK 4 rfl ?_
       refine WpG.y rfl rfl rfl rfl (RunY.loadH tabOK (hc2.sub 0 1) (Hp.le.refl _) rfl rfl rfl rfl) ?_
       refine WpG.g tabOK 1 rfl ?_
       refine WpG.indexR tabOK rfl rfl rfl rfl rfl rfl rfl rfl rfl r_gr_0 (by omega) (by omega) ?_
       rintro x8 hx8 b8 o8 _ ⟨A8, c8, rfl, u8, r8⟩ hc8
       have bz8 := r8.1
       obtain rfl : x8 = (nth gr.succ i) := hx8
       refine WpG.y rfl rfl rfl rfl (RunY.loadH tabOK hc8 hH2 rfl rfl rfl rfl) ?_
       refine WpG.g tabOK 1 rfl ?_
       refine WpG.indexR tabOK rfl rfl rfl rfl rfl rfl rfl rfl rfl r8 (by omega) (by omega) ?_
       rintro x9 hx9 b9 o9 _ ⟨rfl, k9⟩ hc9
       obtain rfl : x9 = (nth (nth gr.succ i) k) := hx9
       refine WpG.y rfl rfl rfl rfl (RunY.loadH tabOK hc9 hH2 rfl rfl rfl rfl) ?_
       refine WpG.y rfl rfl rfl rfl (RunY.indexAddr tabOK rfl rfl rfl rfl rfl (by omega) (by omega)) ?_
       refine WpG.storeOwn (ci := 0) tabOK rfl rfl rfl rfl rfl rfl rfl rfl (putAt_one (own_lt (by omega) (by omega))) ?_
       refine WpG.setL (L' := [Chunk.own 4 1 (some ⟨b3, 0, none⟩) gr.succ.length gr.succ.length ((bs3.set (nth (nth gr.succ i) k).toNat true).map Value.bool)]) (by rw [← arr_set (f := Value.bool) (xs := bs3) (j := (nth (nth gr.succ i) k)) true]; rfl) ?_
       refine WpG.gw tabOK 5 49 rfl (wrk (x := k + 1) (by omega) (by omega)) ?_
       refine WpG.g tabOK 3 rfl ?_
       refine WpG.wk (ih3 (k + 1) (bs3.set (nth (nth gr.succ i) k).toNat true) ?_ ?_) rfl
       ·dsimp only
        omega
       ·
        clear ih1 ih2 ih3
        show 0 ≤ (k + 1) ∧ RSound gr.succ root wo (bs3.set (nth (nth gr.succ i) k).toNat true) ∧ RSub bs (bs3.set (nth (nth gr.succ i) k).toNat true) ∧ (∀ x : Int, 0 ≤ x → x < i → nth bs x = true → ROn gr.succ wo (bs3.set (nth (nth gr.succ i) k).toNat true) x) ∧ (k + 1) ≤ (nth gr.succ i).length ∧ ∀ y ∈ (nth gr.succ i).take (k + 1).toNat, y ≠ wo → nth (bs3.set (nth (nth gr.succ i) k).toNat true) y = true
        have z := e1.set hR i0 q31 q38 hk q59
        exact ⟨by omega, z.1, fun x x0 h => z.2.1 x x0 (e2 x x0 h), fun x x0 x1 h => (e3 x x0 x1 h).mono z.2.1 hR x0 (by omega), by omega, reach_k1 hR i0 q31 k0 q47 e5 z.2.1 z.2.2⟩
      ·refine WpG.gw tabOK 6 49 rfl (wrk (x := k + 1) (by omega) (by omega)) ?_
       refine WpG.g tabOK 3 rfl ?_
       refine WpG.wk (ih3 (k + 1) bs3 ?_ ?_) rfl
       ·dsimp only
        omega
       ·
        clear ih1 ih2 ih3
        exact ⟨by omega, e1, e2, e3, by omega, reach_k0 k0 q47 e5 q59⟩
     ·refine WpG.gw tabOK 6 33 rfl (wrk (x := i + 1) (by omega) (by omega)) ?_
      refine WpG.g tabOK 3 rfl ?_
      refine WpG.wk (ih2 (i + 1) bs3 ?_ ?_) rfl
      ·dsimp only
       omega
      ·
       clear ih1 ih2 ih3
       exact ⟨by omega, by omega, e1, e2, reach_i (hR := hR) e2 e3 e5 (.inr (by omega))⟩
    ·refine WpG.gw tabOK 16 33 rfl (wrk (x := i + 1) (by omega) (by omega)) ?_
     refine WpG.g tabOK 3 rfl ?_
     refine WpG.wk (ih2 (i + 1) bs3 ?_ ?_) rfl
     ·dsimp only
      omega
     ·
      clear ih1 ih2 ih3
      exact ⟨by omega, by omega, e1, e2, reach_i (hR := hR) e2 e3 e5 (.inl q38)⟩
   ·refine WpG.gw tabOK 6 27 rfl (wrk (x := rd + 1) (by omega) (by omega)) ?_
    refine WpG.g tabOK 3 rfl ?_
    refine WpG.wk (ih1 (rd + 1) bs2 ?_ ?_) rfl
    ·dsimp only
     omega
    ·
     clear ih1 ih2
     exact ⟨by omega, by omega, d1, by have z := round_end hR h0 h1 a2 bl d2 d1 (fun x x0 x1 => d3 x x0 (by omega)); exact z.imp id (fun h => by omega)⟩
  ·refine WpG.g tabOK 7 rfl ?_
   refine WpG.ownCap (ci := 0) rfl (fun uz10 => ?_)
   refine WpG.freezeOwn (ci := 0) rfl (fun H10 hH10 fz10 => ?_)
   have rz10 : RdS H10 (some ⟨b3, 0, none⟩) bs := RdS.of_own (H := H2) (show RdL H2 (bs.map Value.bool) bs from RdL_bools _) ((by first | omega | simp)) (by first | omega | (simp; omega)) hH10 fz10
   refine WpG.setL (L' := []) rfl ?_
   exact WpG.ret tabOK (L' := []) (.tmp rfl .nil) .slnil (reach_ret (rounds_end a2 a1 q25) rz10)
end Go.Proofs.YtdjemlkllbhdlaaGreat
namespace Go.Proofs.YtdjemlkllbhdlaaGreat
open Go Go.RowKit
section
variable {P : Program} {fn : Func} {w0 : World} {H0 : Hp} {X : List Nat} {k : List Item} {F : Fk} {H : Hp} {L : List Chunk} {R : Ending → World → Prop} {Hs : Hp} {Ls : List Chunk} {ops : Array Oper} {fuel stop : Nat} {listed : Array Bool}
theorem WpE.setV {t : Nat} {v v' : Value} (hc : look F t = some v) (e : v = v') (h : WpE P fn w0 H0 X k R Hs Ls ops stop fuel listed ((t, v') :: F) H L) : WpE P fn w0 H0 X k R Hs Ls ops stop fuel listed F H L := fun a w ha hs =>
  h a w ⟨ha.defers, ha.size, fun s u hu => by
    simp only [look] at hu
    by_cases es : t = s
    · subst es; simp at hu; subst hu; exact e ▸ ha.at_ t v hc
    · rw [beq_no es] at hu; exact ha.at_ s u hu⟩ hs
theorem WpE.indexR {α : Type} [Inhabited α] [Rdc α] {T : List TRow} {ty : TypeId} {pos : String} {af : Array Edge} {g : Option (Nat × Bool)} (hT : TabOK P T) {i : Nat} {d t : Nat} {x y : Operand} {A : Option Addr} {c e : Nat} {kd : IntKind} {j : Int} {r q : TRow} {xs : List α} {H1 : Hp} {listed' : Array Bool}
    (hchk : (pchk ops listed stop i && (listed.setIfInBounds i true == listed')) = true)
    (ho : ops[i]? = some ⟨some d, .indexAddr t x y, ty, pos, af, g⟩) (hw : wantk ops F g = some true) (hn : Nat.blt d fn.ntmps = true) (hx : evk F x = some (.slice A xs.length c)) (hy : evk F y = some (.int kd j))
    (hr : trow T t = some r) (hk : r.kind = .slice e) (hq : trow T e = some q) (hsz : Rdc.sz α = q.size) (h00 : H0.le Hs) (hH : Hs.le H) (hL : Ls.Sublist L) (hR : RdS H1 A xs) (h0 : 0 ≤ j) (h1 : j < xs.length)
    (h : ∀ u, u = nth xs j → ∀ b o cs, Rdc.rd H1 cs u → HCells H1 b o cs → WpE P fn w0 H0 X k R Hs Ls ops stop fuel listed' ((d, .pointer (some ⟨b, o, none⟩)) :: F) H L) : WpE P fn w0 H0 X k R Hs Ls ops stop (fuel + 1) listed F H L := by
  obtain ⟨b, o, rfl, cs, k1, k2⟩ := hR.at_ h0 h1
  refine WpE.p hchk ho hw rfl hn h00 hH hL (RunP.indexAddr hT hx hy hr hk hq h0 h1) ?_
  rw [← hsz]
  exact h _ rfl b _ cs k1 k2
theorem WpE.caseB {t : Nat} {b : Bool} (hc : look F t = some (.bool b)) (ht : b = true → WpE P fn w0 H0 X k R Hs Ls ops stop fuel listed ((t, .bool true) :: F) H L) (hf : b = false → WpE P fn w0 H0 X k R Hs Ls ops stop fuel listed ((t, .bool false) :: F) H L) : WpE P fn w0 H0 X k R Hs Ls ops stop fuel listed F H L := by
  cases b
  · exact WpE.setV hc rfl (hf rfl)
  · exact WpE.setV hc rfl (ht rfl)
end
section
variable {S : List (List Int)} {root : Int}
def Ov (S : List (List Int)) (root a b : Int) : Prop := RchN S root (-1) b ∧ ¬ RchN S root a b
def Near (S : List (List Int)) (root a b : Int) : Prop := a ≠ b ∧ Ov S root a b ∧ ∀ c : Int, 0 ≤ c → c < S.length → c = b ∨ ¬ Ov S root c b ∨ Ov S root c a
theorem TreeP.near {tl : List Int} (h : TreeP S root tl) {b : Int} (hb : RchN S root (-1) b) (hr : b ≠ root) : Near S root (nth tl b) b := by
  obtain ⟨h1, h2, h3⟩ := h.up b hb hr
  have hne : nth tl b ≠ b := h2.ne
  refine ⟨hne, ⟨hb, fun hx => ((h3 _ hne).1 hx).ne rfl⟩, fun c _ _ => ?_⟩
  by_cases e : c = b
  · exact .inl e
  · by_cases o : Ov S root c b
    · exact .inr (.inr ⟨h1, fun hx => o.2 ((h3 c e).2 hx)⟩)
    · exact .inr (.inl o)
theorem TreeP.near_eq {tl : List Int} (h : TreeP S root tl) {a b : Int} (ha : Near S root a b) (hr : b ≠ root) : a = nth tl b := by
  obtain ⟨hne, ho, hc⟩ := ha
  obtain ⟨h1, h2, h3⟩ := h.up b ho.1 hr
  have hn2 : nth tl b ≠ b := h2.ne
  have t0 := h.range _ h1
  apply Classical.byContradiction
  intro hx
  rcases hc (nth tl b) t0.1 t0.2 with e | e | e
  · exact hn2 e
  · exact e ⟨ho.1, fun hy => ((h3 _ hn2).1 hy).ne rfl⟩
  · rcases RchN.either hx h1 with ⟨_, z⟩ | z | z
    · exact z.ne rfl
    · exact e.2 z
    · exact ho.2 ((h3 a hne).2 z)
def TAt (S : List (List Int)) (root : Int) (tl : List Int) (b a v : Int) : Prop := (RchN S root (-1) b ∧ nth tl b < a → v = nth tl b) ∧ (¬ (RchN S root (-1) b ∧ nth tl b < a) → v = -2)
theorem TAt.start {tl : List Int} (h : TreeP S root tl) {b : Int} (hr : b ≠ root) : TAt S root tl b 0 (-2) := by
  refine ⟨fun hx => ?_, fun _ => rfl⟩
  have := h.range _ (h.up b hx.1 hr).1
  omega
theorem TAt.skip {tl : List Int} {a b v : Int} (h : TreeP S root tl) (hr : b ≠ root) (ht : TAt S root tl b a v) (hn : ¬ Near S root a b) : TAt S root tl b (a + 1) v := by
  have : RchN S root (-1) b → nth tl b ≠ a := fun hb e => hn (e ▸ h.near hb hr)
  exact ⟨fun hx => ht.1 ⟨hx.1, by have := this hx.1; omega⟩, fun hx => ht.2 fun hy => hx ⟨hy.1, by omega⟩⟩
theorem TAt.take {tl : List Int} {a b : Int} (h : TreeP S root tl) (hr : b ≠ root) (hn : Near S root a b) : TAt S root tl b (a + 1) a := by
  have e := h.near_eq hn hr
  exact ⟨fun _ => e, fun hx => absurd ⟨hn.2.1.1, by omega⟩ hx⟩
theorem TAt.done {tl : List Int} {b v : Int} (h : TreeP S root tl) (hr : b ≠ root) (b0 : 0 ≤ b) (b1 : b < S.length) {a : Int} (ha : ¬ a < S.length) (ht : TAt S root tl b a v) : v = nth tl b := by
  by_cases hb : RchN S root (-1) b
  · have := h.range _ (h.up b hb hr).1
    exact ht.1 ⟨hb, by omega⟩
  · rw [ht.2 fun hx => hb hx.1, h.none_ b b0 b1 hb]
def OvRow (S : List (List Int)) (root a : Int) (r : List Bool) : Prop := r.length = S.length ∧ ∀ b : Int, 0 ≤ b → b < S.length → (nth r b = true ↔ Ov S root a b)
def OvTab (S : List (List Int)) (root : Int) (rows : List (List Bool)) (m : Int) : Prop := (rows.length : Int) = m ∧ ∀ a : Int, 0 ≤ a → a < m → OvRow S root a (nth rows a)
theorem OvTab.nil : OvTab S root [] 0 := ⟨rfl, fun a h0 h1 => by omega⟩
theorem nth_app {α : Type} [Inhabited α] {l : List α} {x : α} {k : Int} (h0 : 0 ≤ k) : nth (l ++ [x]) k = if k < l.length then nth l k else if k = l.length then x else default := by
  obtain ⟨n, rfl⟩ := Int.eq_ofNat_of_zero_le h0
  unfold nth
  rw [show ((n : Int)).toNat = n from rfl, List.getD_eq_getElem?_getD, List.getElem?_append]
  split
  · rw [if_pos (by omega), List.getD_eq_getElem?_getD]
  · rw [if_neg (by omega)]
    split
    · rename_i h1 h2
      rw [show n - l.length = 0 from by omega]; rfl
    · rename_i h1 h2
      rw [List.getElem?_eq_none (by simp; omega)]; rfl
theorem OvTab.snoc {rows : List (List Bool)} {a : Int} {r : List Bool} (h : OvTab S root rows a) (hr : OvRow S root a r) : OvTab S root (rows ++ [r]) (a + 1) := by
  refine ⟨by rw [List.length_append]; have := h.1; simp; omega, fun x x0 x1 => ?_⟩
  rw [nth_app x0]
  have := h.1
  split
  · exact h.2 x x0 (by omega)
  · rw [if_pos (by omega), show x = a from by omega]; exact hr
end
section
variable {S : List (List Int)} {root : Int}
theorem ov_step {a b : Int} {bsr : List Bool} {v : Bool} (b0 : 0 ≤ b) (b1 : b < S.length) (hl : bsr.length = S.length) (h : ∀ x : Int, 0 ≤ x → x < b → (nth bsr x = true ↔ Ov S root a x)) (hv : v = true ↔ Ov S root a b) :
    0 ≤ b + 1 ∧ b + 1 ≤ S.length ∧ (bsr.set b.toNat v).length = S.length ∧ ∀ x : Int, 0 ≤ x → x < b + 1 → (nth (bsr.set b.toNat v) x = true ↔ Ov S root a x) := by
  refine ⟨by omega, by omega, by simpa using hl, fun x x0 x1 => ?_⟩
  rw [nth_setB b0 (by omega) x0]
  split
  · rename_i e; rw [e]; exact hv
  · exact h x x0 (by omega)
theorem ov_t {a b : Int} {A B : List Bool} (hA : RExact S root (-1) A) (hB : RExact S root a B) (b0 : 0 ≤ b) (b1 : b < S.length) (q : nth A b = true) : (!(nth B b)) = true ↔ Ov S root a b := by
  unfold Ov
  rw [← hA.2 b b0 b1, ← hB.2 b b0 b1, q]; simp
theorem ov_f {a b : Int} {A : List Bool} (hA : RExact S root (-1) A) (b0 : 0 ≤ b) (b1 : b < S.length) (q : nth A b = false) : false = true ↔ Ov S root a b := by
  unfold Ov
  rw [← hA.2 b b0 b1, q]; simp
theorem OvTab.at_ {rows : List (List Bool)} {m a b : Int} (h : OvTab S root rows m) (a0 : 0 ≤ a) (a1 : a < m) (b0 : 0 ≤ b) (b1 : b < S.length) : nth (nth rows a) b = true ↔ Ov S root a b := (h.2 a a0 a1).2 b b0 b1
theorem OvTab.no {rows : List (List Bool)} {m a b : Int} (h : OvTab S root rows m) (a0 : 0 ≤ a) (a1 : a < m) (b0 : 0 ≤ b) (b1 : b < S.length) (q : nth (nth rows a) b = false) : ¬ Ov S root a b := fun o => by
  have := (h.at_ a0 a1 b0 b1).2 o
  rw [q] at this; cases this
theorem tree_done {tl ou : List Int} (ht : TreeP S root tl) {t p : Int} (t0 : 0 ≤ t) (t1 : t < S.length) (hp : ¬ p < S.length ∨ t = root) (g4 : ∀ x : Int, 0 ≤ x → x < t → nth ou x = nth tl x) (g5 : t = root → nth ou t = -1) (g6 : t ≠ root → TAt S root tl t p (nth ou t)) :
    ∀ x : Int, 0 ≤ x → x < t + 1 → nth ou x = nth tl x := fun x x0 x1 => by
  by_cases e : x = t
  · rw [e]
    by_cases e2 : t = root
    · rw [g5 e2, e2, ht.top]
    · exact (g6 e2).done ht e2 t0 t1 (by omega)
  · exact g4 x x0 (by omega)
theorem tree_start {out : List Int} {t : Int} (t0 : 0 ≤ t) (t1 : t < S.length) (f2 : out.length = S.length) (f3 : AllI out) (f4 : ∀ tl, TreeP S root tl → ∀ x : Int, 0 ≤ x → x < t → nth out x = nth tl x) :
    (out.set t.toNat (if t = root then -1 else -2)).length = S.length ∧ AllI (out.set t.toNat (if t = root then -1 else -2)) ∧ (∀ tl, TreeP S root tl → ∀ x : Int, 0 ≤ x → x < t → nth (out.set t.toNat (if t = root then -1 else -2)) x = nth tl x) ∧
    (t = root → nth (out.set t.toNat (if t = root then -1 else -2)) t = -1) ∧ (t ≠ root → ∀ tl, TreeP S root tl → TAt S root tl t 0 (nth (out.set t.toNat (if t = root then -1 else -2)) t)) := by
  refine ⟨by simpa using f2, AllI_set f3 (by split <;> exact ⟨by decide, by decide⟩), fun tl ht x x0 x1 => ?_, fun e => ?_, fun e tl ht => ?_⟩
  · rw [nth_set t0 (by omega) x0, if_neg (by omega)]; exact f4 tl ht x x0 x1
  · rw [nth_set t0 (by omega) t0, if_pos rfl, if_pos e]
  · rw [nth_set t0 (by omega) t0, if_pos rfl, if_neg e]; exact TAt.start ht e
theorem tree_set {ou : List Int} {t p : Int} (t0 : 0 ≤ t) (t1 : t < S.length) (p0 : 0 ≤ p) (p1 : p < 64) (g2 : ou.length = S.length) (g3 : AllI ou) (g4 : ∀ tl, TreeP S root tl → ∀ x : Int, 0 ≤ x → x < t → nth ou x = nth tl x) (hr : t ≠ root) (hn : Near S root p t) :
    (ou.set t.toNat p).length = S.length ∧ AllI (ou.set t.toNat p) ∧ (∀ tl, TreeP S root tl → ∀ x : Int, 0 ≤ x → x < t → nth (ou.set t.toNat p) x = nth tl x) ∧
    (t = root → nth (ou.set t.toNat p) t = -1) ∧ (t ≠ root → ∀ tl, TreeP S root tl → TAt S root tl t (p + 1) (nth (ou.set t.toNat p) t)) := by
  refine ⟨by simpa using g2, AllI_set g3 ⟨by omega, by omega⟩, fun tl ht x x0 x1 => ?_, fun e => absurd e hr, fun e tl ht => ?_⟩
  · rw [nth_set t0 (by omega) x0, if_neg (by omega)]; exact g4 tl ht x x0 x1
  · rw [nth_set t0 (by omega) t0, if_pos rfl]; exact TAt.take ht e hn
theorem near_step {c : Int} {near v : Bool} {Q : Int → Prop} (c0 : 0 ≤ c) (h : near = true ↔ ∀ x : Int, 0 ≤ x → x < c → Q x) (hv : v = true ↔ near = true ∧ Q c) : v = true ↔ ∀ x : Int, 0 ≤ x → x < c + 1 → Q x := by
  rw [hv, h]
  constructor
  · rintro ⟨h1, h2⟩ x x0 x1
    by_cases e : x = c
    · rw [e]; exact h2
    · exact h1 x x0 (by omega)
  · exact fun h1 => ⟨fun x x0 x1 => h1 x x0 (by omega), h1 c c0 (by omega)⟩
theorem near_2 {near v : Bool} {c t p : Int} (hn : near = true) (ht : c ≠ t) (o1 : Ov S root c t) (o2 : v = true ↔ Ov S root c p) : v = true ↔ near = true ∧ (c = t ∨ ¬ Ov S root c t ∨ Ov S root c p) := by
  refine ⟨fun hv => ⟨hn, .inr (.inr (o2.1 hv))⟩, fun h => ?_⟩
  rcases h.2 with e | e | e
  · exact absurd e ht
  · exact absurd o1 e
  · exact o2.2 e
theorem tree_ret {H : Hp} {A : Option Addr} {n c : Nat} {out : List Int} (hn : n = S.length) (hc : n ≤ c) (f2 : out.length = S.length) (f4 : ∀ tl, TreeP S root tl → ∀ x : Int, 0 ≤ x → x < S.length → nth out x = nth tl x) (r : RdS H A out) :
    ∃ A' c' out', out'.length = S.length ∧ (∀ tl, TreeP S root tl → out' = tl) ∧ Value.slice A n c = .slice A' out'.length c' ∧ out'.length ≤ c' ∧ RdS H A' out' ∧ ([] : List Chunk) = [] :=
  ⟨A, c, out, f2, fun tl ht => nth_ext (by have := ht.len; omega) fun x x0 x1 => f4 tl ht x x0 (by omega), by rw [f2, hn], by omega, r, rfl⟩
end
theorem cs_set {cs : List Value} {n : Nat} {a : Int} {v z : Value} (a0 : 0 ≤ a) (hc : (cs.length : Int) = a) (h : a < n) : (cs ++ List.replicate (n - a.toNat) z).set (0 + a.toNat * 1) v = (cs ++ [v]) ++ List.replicate (n - (a + 1).toNat) z := by
  have e : n - a.toNat = (n - (a + 1).toNat) + 1 := by omega
  have e2 : 0 + a.toNat * 1 = cs.length := by omega
  rw [e, e2, List.replicate_succ]
  simp [List.set_append]
theorem cs_at {cs rest : List Value} {a : Int} {v : Value} (hc : (cs.length : Int) = a) : ∀ (q : Nat) u, [v][q]? = some u → ((cs ++ [v]) ++ rest)[0 + a.toNat * 1 + q]? = some u := fun q u hu => by
  cases q with
  | zero =>
    simp only [List.getElem?_cons_zero, Option.some.injEq] at hu
    subst hu
    rw [show 0 + a.toNat * 1 + 0 = cs.length from by omega]; simp
  | succ q => simp at hu
theorem AllI_zero (n : Nat) : AllI (List.replicate n (0 : Int)) := AllI_iff.2 fun y hy => by rw [List.eq_of_mem_replicate hy]; exact ⟨by decide, by decide⟩
end Go.Proofs.YtdjemlkllbhdlaaGreat
namespace Go.Proofs.YtdjemlkllbhdlaaGreat
open Go Go.RowKit
set_option maxHeartbeats 1000000 in
theorem rTree_calls {H : Hp} {gr : GraphD} {cs_gr : List Value} (rd_gr : Rdc.rd H cs_gr gr) (root : Int) (hm : mayG gr = true) (hR : Rows gr.succ) (h0 : 0 ≤ root) (h1 : root < gr.succ.length) : CallG Tryz.prog 27 [.agg cs_gr.toArray, .int .i64 root] H [] (fun v H' L' => ∃ A c out, out.length = gr.succ.length ∧ (∀ tl, TreeP gr.succ root tl → out = tl) ∧ v = .slice A out.length c ∧ out.length ≤ c ∧ RdS H' A out ∧ L' = []) := by
 have rd_gr' := rd_gr; obtain ⟨A_gr_0, c_gr_0, A_gr_1, c_gr_1, rfl, u_gr_0, r_gr_0, u_gr_1, r_gr_1⟩ := rd_gr
 have h64 := hR.1
 refine CallG.of Tryz.func27 rfl rfl rfl fun w0 => ?_
 refine WpG.g tabOK 2 rfl ?_
 refine WpG.box rfl rfl rfl rfl rfl (fun b1 => ?_)
 refine WpG.freezeBox (ci := 0) rfl (fun H2 hH2 hc2 => ?_)
 refine WpG.g tabOK 4 rfl ?_
 apply WpG.join (G := [(1, .int .i64 root), (2, .pointer (some ⟨b1, 0, none⟩)), (29, .bool (((!(mayG gr)) || (decide (root < 0))) || (decide (root ≥ (gr.succ.length : Int)))))])
 ·intro nx3
  refine WpG.g tabOK 1 rfl ?_
  refine WpG.y rfl rfl rfl rfl (RunY.loadH tabOK hc2 (Hp.le.refl _) rfl rfl rfl rfl) ?_
  refine WpG.callS rfl rfl rfl rfl rfl rfl (Hp.le.refl _) (rMayG_calls (Rdc.mono hH2 rd_gr')) ?_
  refine WpG.g tabOK 2 rfl ?_
  refine WpG.caseBn (t := 19) rfl (fun q19 => ?_) (fun q19 => ?_)
  ·refine WpG.g tabOK 11 rfl ?_
   exact nx3.weak ⟨rfl, rfl, bq (by simp [q19]), trivial⟩
  ·refine WpG.g tabOK 4 rfl ?_
   refine WpG.caseD (t := 23) rfl (fun q23 => ?_) (fun q23 => ?_)
   ·refine WpG.g tabOK 7 rfl ?_
    exact nx3.weak ⟨rfl, rfl, bq (by simp [q19, q23]), trivial⟩
   ·refine WpG.g tabOK 2 rfl ?_
    refine WpG.y rfl rfl rfl rfl (RunY.loadH tabOK (hc2.sub 0 1) (Hp.le.refl _) rfl rfl rfl rfl) ?_
    refine WpG.g tabOK 4 rfl ?_
    exact nx3.weak ⟨rfl, rfl, bq (by simp [q19, q23]), trivial⟩
 refine WpG.caseB (t := 29) rfl (fun q29 => ?_) (fun q29 => ?_)
 ·have q29' := q29; simp only [Bool.or_eq_true, Bool.and_eq_true, beq_iff_eq, bne_iff_ne, decide_eq_true_eq, Bool.not_eq_true] at q29'
  exfalso; simp only [hm, Bool.not_true, Bool.false_or, Bool.or_eq_true, decide_eq_true_eq] at q29; omega
 ·have q29' := q29; simp only [Bool.or_eq_false_iff, Bool.and_eq_false_iff, beq_eq_false_iff_ne, bne_eq_false_iff_eq, decide_eq_false_iff_not, Bool.not_eq_false] at q29'
  refine WpG.g tabOK 5 rfl ?_
  refine WpG.y rfl rfl rfl rfl (RunY.loadH tabOK (hc2.sub 0 1) (Hp.le.refl _) rfl rfl rfl rfl) ?_
  refine WpG.g tabOK 5 rfl ?_
  refine WpG.y rfl rfl rfl rfl (RunY.loadH tabOK hc2 (Hp.le.refl _) rfl rfl rfl rfl) ?_
  refine WpG.g tabOK 1 rfl ?_
  refine WpG.call0 rfl rfl rfl rfl rfl rfl (rReach_calls (Rdc.mono hH2 rd_gr') root (-1) hR h0 h1) ?_
  rintro _ H4 _ hH4 ⟨A4, c4, bs4, hx4, rfl, u4, r4, rfl⟩
  have hl4 := hx4.1
  refine WpG.g tabOK 5 rfl ?_
  refine WpG.makeSlice (n := gr.succ.length) tabOK rfl rfl rfl rfl rfl rfl rfl rfl rfl (by omega) (fun b5 => ?_)
  refine WpG.g tabOK 9 rfl ?_
  refine WpG.wk (WpG.ind4 (fun (a : Int) (cs : List Value) (rows : List (List Bool)) (G : Hp) => ⟨(gr.succ.length - a).toNat, [(1, .int .i64 root), (2, .pointer (some ⟨b1, 0, none⟩)), (5, .int .i64 (gr.succ.length : Int)), (6, .slice A4 bs4.length c4), (7, .slice (some ⟨b5, 0, none⟩) gr.succ.length gr.succ.length), (8, .int .i64 a)], G, [Chunk.own 80 1 (some ⟨b5, 0, none⟩) gr.succ.length gr.succ.length (cs ++ List.replicate (gr.succ.length - a.toNat) (.slice none 0 0))], 0 ≤ a ∧ a ≤ gr.succ.length ∧ (cs.length : Int) = a ∧ H4.le G ∧ OvTab gr.succ root rows a ∧ RdL G cs rows⟩) ?_ 0 [] [] H4 ⟨by omega, by omega, rfl, Hp.le.refl _, OvTab.nil, rfl⟩) rfl
  intro a cs rows G inv ih1
  obtain ⟨a0, a1, a2, a3, a4, a5⟩ := inv
  refine WpG.g tabOK 7 rfl ?_
  refine WpG.caseD (t := 40) rfl (fun q40 => ?_) (fun q40 => ?_)
  ·refine WpG.g tabOK 9 rfl ?_
   refine WpG.makeSlice (n := gr.succ.length) tabOK rfl rfl rfl rfl rfl rfl rfl rfl rfl (by omega) (fun b6 => ?_)
   refine WpG.setL (L' := [Chunk.own 4 1 (some ⟨b6, 0, none⟩) gr.succ.length gr.succ.length ((List.replicate gr.succ.length false).map Value.bool), Chunk.own 80 1 (some ⟨b5, 0, none⟩) gr.succ.length gr.succ.length (cs ++ List.replicate (gr.succ.length - a.toNat) (.slice none 0 0))]) (by rw [List.map_replicate]) ?_
   refine WpG.y rfl rfl rfl rfl (RunY.indexAddr tabOK rfl rfl rfl rfl rfl (by omega) (by omega)) ?_
   refine WpG.storeOwn (ci := 1) tabOK rfl rfl rfl rfl rfl rfl rfl rfl (putAt_one (by simp; omega)) ?_
   refine WpG.setL (L' := [Chunk.own 4 1 (some ⟨b6, 0, none⟩) gr.succ.length gr.succ.length ((List.replicate gr.succ.length false).map Value.bool), Chunk.own 80 1 (some ⟨b5, 0, none⟩) gr.succ.length gr.succ.length ((cs ++ [.slice (some ⟨b6, 0, none⟩) gr.succ.length gr.succ.length]) ++ List.replicate (gr.succ.length - (a + 1).toNat) (.slice none 0 0))]) (by rw [← cs_set (a := a) a0 a2 q40]; rfl) ?_
   refine WpG.g tabOK 3 rfl ?_
   refine WpG.y rfl rfl rfl rfl (RunY.loadH tabOK hc2 (hH4.trans a3) rfl rfl rfl rfl) ?_
   refine WpG.g tabOK 2 rfl ?_
   refine WpG.call0 rfl rfl rfl rfl rfl rfl (rReach_calls (Rdc.mono ((hH2.trans hH4).trans a3) rd_gr') root a hR h0 h1) ?_
   rintro _ H7 _ hH7 ⟨A7, c7, bs7, hx7, rfl, u7, r7, rfl⟩
   have hl7 := hx7.1
   refine WpG.g tabOK 8 rfl ?_
   refine WpG.wk (WpG.ind2 (fun (b : Int) (bsr : List Bool) => ⟨(gr.succ.length - b).toNat, [(1, .int .i64 root), (2, .pointer (some ⟨b1, 0, none⟩)), (5, .int .i64 (gr.succ.length : Int)), (6, .slice A4 bs4.length c4), (7, .slice (some ⟨b5, 0, none⟩) gr.succ.length gr.succ.length), (8, .int .i64 a), (9, .slice A7 bs7.length c7), (10, .int .i64 b)], H7, [Chunk.own 4 1 (some ⟨b6, 0, none⟩) gr.succ.length gr.succ.length (bsr.map Value.bool), Chunk.own 80 1 (some ⟨b5, 0, none⟩) gr.succ.length gr.succ.length ((cs ++ [.slice (some ⟨b6, 0, none⟩) gr.succ.length gr.succ.length]) ++ List.replicate (gr.succ.length - (a + 1).toNat) (.slice none 0 0))], 0 ≤ b ∧ b ≤ gr.succ.length ∧ bsr.length = gr.succ.length ∧ ∀ x : Int, 0 ≤ x → x < b → (nth bsr x = true ↔ Ov gr.succ root a x)⟩) ?_ 0 (List.replicate gr.succ.length false) ⟨by omega, by omega, by simp, fun x x0 x1 => by exfalso; have : x < 0 := x1; omega⟩) rfl
   intro b bsr inv ih2
   obtain ⟨d0, d1, d2, d3⟩ := inv
   refine WpG.g tabOK 7 rfl ?_
   refine WpG.caseD (t := 54) rfl (fun q54 => ?_) (fun q54 => ?_)
   ·refine WpG.g tabOK 4 rfl ?_
    refine WpG.drawE 18 17 [Chunk.own 4 1 (some ⟨b6, 0, none⟩) gr.succ.length gr.succ.length (bsr.map Value.bool), Chunk.own 80 1 (some ⟨b5, 0, none⟩) gr.succ.length gr.succ.length ((cs ++ [.slice (some ⟨b6, 0, none⟩) gr.succ.length gr.succ.length]) ++ List.replicate (gr.succ.length - (a + 1).toNat) (.slice none 0 0))] mixed (by kernel_rfl) ?_
    refine WpE.gg (listed' := lst 18 115) tabOK [0, 1, 4, 5, 6] (by kernel_rfl) rfl (((hH2.trans hH4).trans a3).trans hH7) (Hp.le.refl _) (.cons_cons _ (.cons_cons _ .slnil)) ?_
    refine WpE.p (i := 2) (fuel := 12) (listed' := lst 18 119) (by kernel_rfl) rfl rfl rfl rfl (((hH2.trans hH4).trans a3).trans hH7) (Hp.le.refl _) (.cons_cons _ (.cons_cons _ .slnil)) (RunP.indexAddr tabOK rfl rfl rfl rfl rfl (by omega) (by omega)) ?_
    refine WpE.y (i := 3) (fuel := 11) (listed' := lst 18 127) (by kernel_rfl) rfl rfl rfl rfl (((hH2.trans hH4).trans a3).trans hH7) (Hp.le.refl _) (.cons_cons _ (.cons_cons _ .slnil)) (RunY.loadOwn (ci := 1) (cs := [.slice (some ⟨b6, 0, none⟩) gr.succ.length gr.succ.length]) tabOK rfl rfl rfl rfl rfl (cs_at a2)) ?_
    refine WpE.indexR (i := 7) (fuel := 10) (listed' := lst 18 255) tabOK (by kernel_rfl) rfl rfl rfl rfl rfl rfl rfl rfl rfl (((hH2.trans hH4).trans a3).trans hH7) (Hp.le.refl _) (.cons_cons _ (.cons_cons _ .slnil)) r4 (by omega) (by omega) ?_
    rintro x8 hx8 b8 o8 _ rfl hc8
    obtain rfl : x8 = (nth bs4 b) := hx8
    refine WpE.y (i := 8) (fuel := 9) (listed' := lst 18 511) (by kernel_rfl) rfl rfl rfl rfl (((hH2.trans hH4).trans a3).trans hH7) (Hp.le.refl _) (.cons_cons _ (.cons_cons _ .slnil)) (RunY.loadH tabOK hc8 (a3.trans hH7) rfl rfl rfl rfl) ?_
    refine WpE.gg (listed' := lst 18 1023) tabOK [9] (by kernel_rfl) rfl (((hH2.trans hH4).trans a3).trans hH7) (Hp.le.refl _) (.cons_cons _ (.cons_cons _ .slnil)) ?_
    refine WpE.caseB (t := 66) rfl (fun q66 => ?_) (fun q66 => ?_)
    ·refine WpE.gg (listed' := lst 18 4095) tabOK [10, 11] (by kernel_rfl) rfl (((hH2.trans hH4).trans a3).trans hH7) (Hp.le.refl _) (.cons_cons _ (.cons_cons _ .slnil)) ?_
     refine WpE.indexR (i := 12) (fuel := 5) (listed' := lst 18 8191) tabOK (by kernel_rfl) rfl rfl rfl rfl rfl rfl rfl rfl rfl (((hH2.trans hH4).trans a3).trans hH7) (Hp.le.refl _) (.cons_cons _ (.cons_cons _ .slnil)) r7 (by omega) (by omega) ?_
     rintro x9 hx9 b9 o9 _ rfl hc9
     obtain rfl : x9 = (nth bs7 b) := hx9
     refine WpE.y (i := 13) (fuel := 4) (listed' := lst 18 16383) (by kernel_rfl) rfl rfl rfl rfl (((hH2.trans hH4).trans a3).trans hH7) (Hp.le.refl _) (.cons_cons _ (.cons_cons _ .slnil)) (RunY.loadH tabOK hc9 (Hp.le.refl _) rfl rfl rfl rfl) ?_
     refine WpE.gg (listed' := lst 18 65535) tabOK [14, 15] (by kernel_rfl) rfl (((hH2.trans hH4).trans a3).trans hH7) (Hp.le.refl _) (.cons_cons _ (.cons_cons _ .slnil)) ?_
     refine WpE.p (i := 16) (fuel := 1) (listed' := lst 18 131071) (by kernel_rfl) rfl rfl rfl rfl (((hH2.trans hH4).trans a3).trans hH7) (Hp.le.refl _) (.cons_cons _ (.cons_cons _ .slnil)) (RunP.indexAddr tabOK rfl rfl rfl rfl rfl (by omega) (by omega)) ?_
     refine WpE.halt [Chunk.own 80 1 (some ⟨b5, 0, none⟩) gr.succ.length gr.succ.length ((cs ++ [.slice (some ⟨b6, 0, none⟩) gr.succ.length gr.succ.length]) ++ List.replicate (gr.succ.length - (a + 1).toNat) (.slice none 0 0))] (fuel := 0) (listed' := lst 18 262143) (by kernel_rfl) (OpG.storeOwn (ci := 0) tabOK rfl rfl rfl rfl rfl rfl rfl rfl (putAt_one (own_lt (by omega) (by omega)))) ?_
     rintro F1 H1 L1 ⟨eF, eH, eL⟩
     subst eF; subst eL; rw [eH]; clear eH H1
     refine WpD.setL (L' := [Chunk.own 4 1 (some ⟨b6, 0, none⟩) gr.succ.length gr.succ.length ((bsr.set b.toNat (!(nth bs7 b))).map Value.bool), Chunk.own 80 1 (some ⟨b5, 0, none⟩) gr.succ.length gr.succ.length ((cs ++ [.slice (some ⟨b6, 0, none⟩) gr.succ.length gr.succ.length]) ++ List.replicate (gr.succ.length - (a + 1).toNat) (.slice none 0 0))]) (by rw [← arr_set (f := Value.bool) (xs := bsr) (j := b) (!(nth bs7 b))]; rfl) ?_
     refine WpD.done (by kernel_rfl) ?_
     refine WpG.gw tabOK 4 56 rfl (wrk (x := b + 1) (by omega) (by omega)) ?_
     refine WpG.g tabOK 3 rfl ?_
     refine WpG.wk (ih2 (b + 1) (bsr.set b.toNat (!(nth bs7 b))) ?_ ?_) rfl
     ·dsimp only
      omega
     ·
      clear ih1 ih2
      show 0 ≤ (b + 1) ∧ (b + 1) ≤ gr.succ.length ∧ (bsr.set b.toNat (!(nth bs7 b))).length = gr.succ.length ∧ ∀ x : Int, 0 ≤ x → x < (b + 1) → (nth (bsr.set b.toNat (!(nth bs7 b))) x = true ↔ Ov gr.succ root a x)
      exact ov_step d0 q54 d2 d3 (ov_t hx4 hx7 d0 q54 q66)
    ·refine WpE.gg (listed' := lst 18 65535) tabOK [10, 11, 12, 13, 14, 15] (by kernel_rfl) rfl (((hH2.trans hH4).trans a3).trans hH7) (Hp.le.refl _) (.cons_cons _ (.cons_cons _ .slnil)) ?_
     refine WpE.p (i := 16) (fuel := 1) (listed' := lst 18 131071) (by kernel_rfl) rfl rfl rfl rfl (((hH2.trans hH4).trans a3).trans hH7) (Hp.le.refl _) (.cons_cons _ (.cons_cons _ .slnil)) (RunP.indexAddr tabOK rfl rfl rfl rfl rfl (by omega) (by omega)) ?_
     refine WpE.halt [Chunk.own 80 1 (some ⟨b5, 0, none⟩) gr.succ.length gr.succ.length ((cs ++ [.slice (some ⟨b6, 0, none⟩) gr.succ.length gr.succ.length]) ++ List.replicate (gr.succ.length - (a + 1).toNat) (.slice none 0 0))] (fuel := 0) (listed' := lst 18 262143) (by kernel_rfl) (OpG.storeOwn (ci := 0) tabOK rfl rfl rfl rfl rfl rfl rfl rfl (putAt_one (own_lt (by omega) (by omega)))) ?_
     rintro F1 H1 L1 ⟨eF, eH, eL⟩
     subst eF; subst eL; rw [eH]; clear eH H1
     refine WpD.setL (L' := [Chunk.own 4 1 (some ⟨b6, 0, none⟩) gr.succ.length gr.succ.length ((bsr.set b.toNat false).map Value.bool), Chunk.own 80 1 (some ⟨b5, 0, none⟩) gr.succ.length gr.succ.length ((cs ++ [.slice (some ⟨b6, 0, none⟩) gr.succ.length gr.succ.length]) ++ List.replicate (gr.succ.length - (a + 1).toNat) (.slice none 0 0))]) (by rw [← arr_set (f := Value.bool) (xs := bsr) (j := b) false]; rfl) ?_
     refine WpD.done (by kernel_rfl) ?_
     refine WpG.gw tabOK 4 56 rfl (wrk (x := b + 1) (by omega) (by omega)) ?_
     refine WpG.g tabOK 3 rfl ?_
     refine WpG.wk (ih2 (b + 1) (bsr.set b.toNat false) ?_ ?_) rfl
     ·dsimp only
      omega
     ·
      clear ih1 ih2
      show 0 ≤ (b + 1) ∧ (b + 1) ≤ gr.succ.length ∧ (bsr.set b.toNat false).length = gr.succ.length ∧ ∀ x : Int, 0 ≤ x → x < (b + 1) → (nth (bsr.set b.toNat false) x = true ↔ Ov gr.succ root a x)
      exact ov_step d0 q54 d2 d3 (ov_f hx4 d0 q54 q66)
   ·refine WpG.ownCap (ci := 0) rfl (fun uz10 => ?_)
    refine WpG.freezeOwn (ci := 0) rfl (fun H10 hH10 fz10 => ?_)
    have rz10 : RdS H10 (some ⟨b6, 0, none⟩) bsr := RdS.of_own (H := H7) (show RdL H7 (bsr.map Value.bool) bsr from RdL_bools _) ((by omega)) (by omega) hH10 fz10
    refine WpG.gw tabOK 6 42 rfl (wrk (x := a + 1) (by omega) (by omega)) ?_
    refine WpG.g tabOK 3 rfl ?_
    refine WpG.wk (ih1 (a + 1) (cs ++ [Value.slice (some ⟨b6, 0, none⟩) gr.succ.length gr.succ.length]) (rows ++ [bsr]) H10 ?_ ?_) rfl
    ·dsimp only
     omega
    ·
     clear ih1 ih2
     exact ⟨by omega, by omega, by simp; omega, a3.trans (hH7.trans hH10), a4.snoc ⟨d2, fun b b0 b1 => d3 b b0 (by omega)⟩, (a5.mono (hH7.trans hH10)).snoc ⟨_, gr.succ.length, by rw [d2], by omega, rz10⟩⟩
  ·have a9 : a = (gr.succ.length : Int) := by omega
   refine WpG.setL (L' := [Chunk.own 80 1 (some ⟨b5, 0, none⟩) gr.succ.length gr.succ.length cs]) (by rw [show gr.succ.length - a.toNat = 0 from by omega, List.replicate_zero, List.append_nil]) ?_
   have hrl : gr.succ.length = rows.length := by have := a4.1; omega
   refine WpG.ownCap (ci := 0) rfl (fun uz11 => ?_)
   refine WpG.freezeOwn (ci := 0) rfl (fun H11 hH11 fz11 => ?_)
   have rz11 : RdS H11 (some ⟨b5, 0, none⟩) rows := RdS.of_own (H := G) (show RdL G cs rows from a5) (hrl) (by omega) hH11 fz11
   refine WpG.weaken (G := [(1, .int .i64 root), (2, .pointer (some ⟨b1, 0, none⟩)), (5, .int .i64 (gr.succ.length : Int)), (6, .slice A4 bs4.length c4), (7, .slice (some ⟨b5, 0, none⟩) rows.length gr.succ.length), (8, .int .i64 a), (40, .bool false)]) (Known.all ⟨rfl, rfl, rfl, rfl, (congrArg (fun n => some (Value.slice (some ⟨b5, 0, none⟩) n gr.succ.length)) hrl), rfl, rfl, trivial⟩) ?_
   refine WpG.g tabOK 5 rfl ?_
   refine WpG.makeSlice (n := gr.succ.length) tabOK rfl rfl rfl rfl rfl rfl rfl rfl rfl (by omega) (fun b12 => ?_)
   refine WpG.setL (L' := [Chunk.own 3 1 (some ⟨b12, 0, none⟩) gr.succ.length gr.succ.length ((List.replicate gr.succ.length (0 : Int)).map iv)]) (by rw [List.map_replicate]; rfl) ?_
   refine WpG.g tabOK 9 rfl ?_
   refine WpG.wk (WpG.ind2 (fun (t : Int) (out : List Int) => ⟨(gr.succ.length - t).toNat, [(1, .int .i64 root), (5, .int .i64 (gr.succ.length : Int)), (7, .slice (some ⟨b5, 0, none⟩) rows.length gr.succ.length), (11, .slice (some ⟨b12, 0, none⟩) gr.succ.length gr.succ.length), (12, .int .i64 t)], H11, [Chunk.own 3 1 (some ⟨b12, 0, none⟩) gr.succ.length gr.succ.length (out.map iv)], 0 ≤ t ∧ t ≤ gr.succ.length ∧ out.length = gr.succ.length ∧ AllI out ∧ ∀ tl, TreeP gr.succ root tl → ∀ x : Int, 0 ≤ x → x < t → nth out x = nth tl x⟩) ?_ 0 (List.replicate gr.succ.length (0 : Int)) ⟨by omega, by omega, by simp, AllI_zero _, fun tl _ x x0 x1 => by exfalso; have : x < 0 := x1; omega⟩) rfl
   intro t out inv ih3
   obtain ⟨f0, f1, f2, f3, f4⟩ := inv
   refine WpG.g tabOK 7 rfl ?_
   refine WpG.caseD (t := 78) rfl (fun q78 => ?_) (fun q78 => ?_)
   ·refine WpG.g tabOK 8 rfl ?_
    refine WpG.y rfl rfl rfl rfl (RunY.indexAddr tabOK rfl rfl rfl rfl rfl (by omega) (by omega)) ?_
    refine WpG.storeOwn (ci := 0) tabOK rfl rfl rfl rfl rfl rfl rfl rfl (putAt_one (own_lt (by omega) (by omega))) ?_
    refine WpG.setL (L' := [Chunk.own 3 1 (some ⟨b12, 0, none⟩) gr.succ.length gr.succ.length ((out.set t.toNat (-2)).map iv)]) (by rw [← arr_set (f := iv) (xs := out) (j := t) (-2)]; rfl) ?_
    refine WpG.g tabOK 8 rfl ?_
    apply WpG.joinP (True) (G := [(1, .int .i64 root), (5, .int .i64 (gr.succ.length : Int)), (7, .slice (some ⟨b5, 0, none⟩) rows.length gr.succ.length), (11, .slice (some ⟨b12, 0, none⟩) gr.succ.length gr.succ.length), (12, .int .i64 t)])
    ·intro nx13
     refine WpG.caseE (t := 86) rfl (fun q86 => ?_) (fun q86 => ?_)
     ·refine WpG.g tabOK 4 rfl ?_
      refine WpG.y rfl rfl rfl rfl (RunY.indexAddr tabOK rfl rfl rfl rfl rfl (by omega) (by omega)) ?_
      refine WpG.storeOwn (ci := 0) tabOK rfl rfl rfl rfl rfl rfl rfl rfl (putAt_one (own_lt (by omega) (by simp; omega))) ?_
      refine WpG.setL (L' := [Chunk.own 3 1 (some ⟨b12, 0, none⟩) gr.succ.length gr.succ.length (((out.set t.toNat (-2)).set t.toNat (-1)).map iv)]) (by rw [← arr_set (f := iv) (xs := out.set t.toNat (-2)) (j := t) (-1)]; rfl) ?_
      refine WpG.g tabOK 1 rfl ?_
      refine WpG.setL (L' := [Chunk.own 3 1 (some ⟨b12, 0, none⟩) gr.succ.length gr.succ.length ((out.set t.toNat (if t = root then -1 else -2)).map iv)]) (by rw [if_pos q86, List.set_set]) ?_
      exact (nx13 (trivial)).weak ⟨rfl, rfl, rfl, rfl, rfl, trivial⟩
     ·refine WpG.g tabOK 2 rfl ?_
      refine WpG.setL (L' := [Chunk.own 3 1 (some ⟨b12, 0, none⟩) gr.succ.length gr.succ.length ((out.set t.toNat (if t = root then -1 else -2)).map iv)]) (by rw [if_neg q86]) ?_
      exact (nx13 (trivial)).weak ⟨rfl, rfl, rfl, rfl, rfl, trivial⟩
    intro _
    refine WpG.g tabOK 6 rfl ?_
    refine WpG.wk (WpG.ind2 (fun (p : Int) (ou : List Int) => ⟨(gr.succ.length - p).toNat, [(1, .int .i64 root), (5, .int .i64 (gr.succ.length : Int)), (7, .slice (some ⟨b5, 0, none⟩) rows.length gr.succ.length), (11, .slice (some ⟨b12, 0, none⟩) gr.succ.length gr.succ.length), (12, .int .i64 t), (13, .int .i64 p)], H11, [Chunk.own 3 1 (some ⟨b12, 0, none⟩) gr.succ.length gr.succ.length (ou.map iv)], 0 ≤ p ∧ p ≤ gr.succ.length ∧ ou.length = gr.succ.length ∧ AllI ou ∧ (∀ tl, TreeP gr.succ root tl → ∀ x : Int, 0 ≤ x → x < t → nth ou x = nth tl x) ∧ (t = root → nth ou t = -1) ∧ (t ≠ root → ∀ tl, TreeP gr.succ root tl → TAt gr.succ root tl t p (nth ou t))⟩) ?_ 0 (out.set t.toNat (if t = root then -1 else -2)) ⟨by omega, by omega, tree_start f0 q78 f2 f3 f4⟩) rfl
    intro p ou inv ih4
    obtain ⟨g0, g1, g2, g3, g4, g5, g6⟩ := inv
    refine WpG.g tabOK 2 rfl ?_
    apply WpG.join (G := [(1, .int .i64 root), (5, .int .i64 (gr.succ.length : Int)), (7, .slice (some ⟨b5, 0, none⟩) rows.length gr.succ.length), (11, .slice (some ⟨b12, 0, none⟩) gr.succ.length gr.succ.length), (12, .int .i64 t), (13, .int .i64 p), (97, .bool ((decide (p < (gr.succ.length : Int))) && (t != root)))])
    ·intro nx14
     refine WpG.g tabOK 1 rfl ?_
     refine WpG.g tabOK 4 rfl ?_
     refine WpG.caseD (t := 93) rfl (fun q93 => ?_) (fun q93 => ?_)
     ·refine WpG.g tabOK 5 rfl ?_
      exact nx14.weak ⟨rfl, rfl, rfl, rfl, rfl, rfl, bq (by simp [q93]), trivial⟩
     ·refine WpG.g tabOK 5 rfl ?_
      exact nx14.weak ⟨rfl, rfl, rfl, rfl, rfl, rfl, bq (by simp [q93]), trivial⟩
    refine WpG.caseB (t := 97) rfl (fun q97 => ?_) (fun q97 => ?_)
    ·have q97' := q97; simp only [Bool.or_eq_true, Bool.and_eq_true, beq_iff_eq, bne_iff_ne, decide_eq_true_eq, Bool.not_eq_true] at q97'
     have hrp := (a4.2 p g0 (by omega)).1
     refine WpG.g tabOK 11 rfl ?_
     refine WpG.caseE (t := 103) rfl (fun q103 => ?_) (fun q103 => ?_)
     ·refine WpG.gw tabOK 15 99 rfl (wrk (x := p + 1) (by omega) (by omega)) ?_
      refine WpG.g tabOK 3 rfl ?_
      refine WpG.wk (ih4 (p + 1) ou ?_ ?_) rfl
      ·dsimp only
       omega
      ·
       clear ih1 ih3 ih4
       exact ⟨by omega, by omega, g2, g3, g4, g5, fun e tl ht => (g6 e tl ht).skip ht e (fun h => h.1 q103)⟩
     ·refine WpG.g tabOK 2 rfl ?_
      refine WpG.indexR tabOK rfl rfl rfl rfl rfl rfl rfl rfl rfl rz11 (by omega) (by omega) ?_
      rintro x15 hx15 b15 o15 _ ⟨A15, c15, rfl, u15, r15⟩ hc15
      have bz15 := r15.1
      obtain rfl : x15 = (nth rows p) := hx15
      refine WpG.y rfl rfl rfl rfl (RunY.loadH tabOK hc15 (Hp.le.refl _) rfl rfl rfl rfl) ?_
      refine WpG.g tabOK 1 rfl ?_
      refine WpG.indexR tabOK rfl rfl rfl rfl rfl rfl rfl rfl rfl r15 (by omega) (by omega) ?_
      rintro x16 hx16 b16 o16 _ rfl hc16
      obtain rfl : x16 = (nth (nth rows p) t) := hx16
      refine WpG.y rfl rfl rfl rfl (RunY.loadH tabOK hc16 (Hp.le.refl _) rfl rfl rfl rfl) ?_
      refine WpG.g tabOK 3 rfl ?_
      refine WpG.caseBn (t := 112) rfl (fun q112 => ?_) (fun q112 => ?_)
      ·refine WpG.gw tabOK 5 99 rfl (wrk (x := p + 1) (by omega) (by omega)) ?_
       refine WpG.g tabOK 3 rfl ?_
       refine WpG.wk (ih4 (p + 1) ou ?_ ?_) rfl
       ·dsimp only
        omega
       ·
        clear ih1 ih3 ih4
        exact ⟨by omega, by omega, g2, g3, g4, g5, fun e tl ht => (g6 e tl ht).skip ht e (fun h => a4.no g0 (by omega) f0 q78 q112 h.2.1)⟩
      ·refine WpG.g tabOK 13 rfl ?_
       refine WpG.wk (WpG.ind2 (fun (c : Int) (near : Bool) => ⟨(gr.succ.length - c).toNat, [(1, .int .i64 root), (5, .int .i64 (gr.succ.length : Int)), (7, .slice (some ⟨b5, 0, none⟩) rows.length gr.succ.length), (11, .slice (some ⟨b12, 0, none⟩) gr.succ.length gr.succ.length), (12, .int .i64 t), (13, .int .i64 p), (14, .bool near), (15, .int .i64 c)], H11, [Chunk.own 3 1 (some ⟨b12, 0, none⟩) gr.succ.length gr.succ.length (ou.map iv)], 0 ≤ c ∧ c ≤ gr.succ.length ∧ (near = true ↔ ∀ x : Int, 0 ≤ x → x < c → (x = t ∨ ¬ Ov gr.succ root x t ∨ Ov gr.succ root x p))⟩) ?_ 0 true ⟨by omega, by omega, ⟨fun _ x x0 x1 => by exfalso; have : x < 0 := x1; omega, fun _ => rfl⟩⟩) rfl
       intro c near inv ih5
       obtain ⟨h0_, h1_, h2_⟩ := inv
       refine WpG.g tabOK 7 rfl ?_
       refine WpG.caseD (t := 115) rfl (fun q115 => ?_) (fun q115 => ?_)
       ·have hrc := (a4.2 c h0_ (by omega)).1
        refine WpG.g tabOK 7 rfl ?_
        refine WpG.caseB (t := 119) rfl (fun q119 => ?_) (fun q119 => ?_)
        ·refine WpG.g tabOK 4 rfl ?_
         refine WpG.caseE (t := 123) rfl (fun q123 => ?_) (fun q123 => ?_)
         ·refine WpG.gw tabOK 25 117 rfl (wrk (x := c + 1) (by omega) (by omega)) ?_
          refine WpG.g tabOK 3 rfl ?_
          refine WpG.wk (ih5 (c + 1) true ?_ ?_) rfl
          ·dsimp only
           omega
          ·
           clear ih1 ih3 ih4 ih5
           exact ⟨by omega, by omega, near_step h0_ h2_ ⟨fun _ => ⟨q119, .inl q123⟩, fun _ => rfl⟩⟩
         ·refine WpG.g tabOK 2 rfl ?_
          refine WpG.indexR tabOK rfl rfl rfl rfl rfl rfl rfl rfl rfl rz11 (by omega) (by omega) ?_
          rintro x17 hx17 b17 o17 _ ⟨A17, c17, rfl, u17, r17⟩ hc17
          have bz17 := r17.1
          obtain rfl : x17 = (nth rows c) := hx17
          refine WpG.y rfl rfl rfl rfl (RunY.loadH tabOK hc17 (Hp.le.refl _) rfl rfl rfl rfl) ?_
          refine WpG.g tabOK 1 rfl ?_
          refine WpG.indexR tabOK rfl rfl rfl rfl rfl rfl rfl rfl rfl r17 (by omega) (by omega) ?_
          rintro x18 hx18 b18 o18 _ rfl hc18
          obtain rfl : x18 = (nth (nth rows c) t) := hx18
          refine WpG.y rfl rfl rfl rfl (RunY.loadH tabOK hc18 (Hp.le.refl _) rfl rfl rfl rfl) ?_
          refine WpG.g tabOK 3 rfl ?_
          refine WpG.caseBn (t := 133) rfl (fun q133 => ?_) (fun q133 => ?_)
          ·refine WpG.gw tabOK 15 117 rfl (wrk (x := c + 1) (by omega) (by omega)) ?_
           refine WpG.g tabOK 3 rfl ?_
           refine WpG.wk (ih5 (c + 1) true ?_ ?_) rfl
           ·dsimp only
            omega
           ·
            clear ih1 ih3 ih4 ih5
            exact ⟨by omega, by omega, near_step h0_ h2_ ⟨fun _ => ⟨q119, .inr (.inl (a4.no h0_ (by omega) f0 q78 q133))⟩, fun _ => rfl⟩⟩
          ·refine WpG.g tabOK 2 rfl ?_
           refine WpG.indexR tabOK rfl rfl rfl rfl rfl rfl rfl rfl rfl rz11 (by omega) (by omega) ?_
           rintro x19 hx19 b19 o19 _ ⟨A19, c19, rfl, u19, r19⟩ hc19
           have bz19 := r19.1
           obtain rfl : x19 = (nth rows c) := hx19
           refine WpG.y rfl rfl rfl rfl (RunY.loadH tabOK hc19 (Hp.le.refl _) rfl rfl rfl rfl) ?_
           refine WpG.g tabOK 1 rfl ?_
           refine WpG.indexR tabOK rfl rfl rfl rfl rfl rfl rfl rfl rfl r19 (by omega) (by omega) ?_
           rintro x20 hx20 b20 o20 _ rfl hc20
           obtain rfl : x20 = (nth (nth rows c) p) := hx20
           refine WpG.y rfl rfl rfl rfl (RunY.loadH tabOK hc20 (Hp.le.refl _) rfl rfl rfl rfl) ?_
           refine WpG.gw tabOK 8 117 rfl (wrk (x := c + 1) (by omega) (by omega)) ?_
           refine WpG.g tabOK 3 rfl ?_
           refine WpG.wk (ih5 (c + 1) (nth (nth rows c) p) ?_ ?_) rfl
           ·dsimp only
            omega
           ·
            clear ih1 ih3 ih4 ih5
            exact ⟨by omega, by omega, near_step h0_ h2_ (near_2 q119 q123 ((a4.at_ h0_ (by omega) f0 q78).1 q133) (a4.at_ h0_ (by omega) g0 (by omega)))⟩
        ·refine WpG.gw tabOK 29 117 rfl (wrk (x := c + 1) (by omega) (by omega)) ?_
         refine WpG.g tabOK 3 rfl ?_
         refine WpG.wk (ih5 (c + 1) false ?_ ?_) rfl
         ·dsimp only
          omega
         ·
          clear ih1 ih3 ih4 ih5
          exact ⟨by omega, by omega, near_step h0_ h2_ ⟨fun h => (by cases h), fun h => (by rw [q119] at h; cases h.1)⟩⟩
       ·refine WpG.g tabOK 6 rfl ?_
        refine WpG.caseB (t := 143) rfl (fun q143 => ?_) (fun q143 => ?_)
        ·refine WpG.g tabOK 5 rfl ?_
         refine WpG.y rfl rfl rfl rfl (RunY.indexAddr tabOK rfl rfl rfl rfl rfl (by omega) (by omega)) ?_
         refine WpG.storeOwn (ci := 0) tabOK rfl rfl rfl rfl rfl rfl rfl rfl (putAt_one (own_lt (by omega) (by omega))) ?_
         refine WpG.setL (L' := [Chunk.own 3 1 (some ⟨b12, 0, none⟩) gr.succ.length gr.succ.length ((ou.set t.toNat p).map iv)]) (by rw [← arr_set (f := iv) (xs := ou) (j := t) p]; rfl) ?_
         refine WpG.gw tabOK 5 99 rfl (wrk (x := p + 1) (by omega) (by omega)) ?_
         refine WpG.g tabOK 3 rfl ?_
         refine WpG.wk (ih4 (p + 1) (ou.set t.toNat p) ?_ ?_) rfl
         ·dsimp only
          omega
         ·
          clear ih1 ih3 ih4 ih5
          exact ⟨by omega, by omega, tree_set f0 q78 g0 (by omega) g2 g3 g4 q97'.2 ⟨q103, (a4.at_ g0 (by omega) f0 q78).1 q112, fun x x0 x1 => h2_.1 q143 x x0 (by omega)⟩⟩
        ·refine WpG.gw tabOK 6 99 rfl (wrk (x := p + 1) (by omega) (by omega)) ?_
         refine WpG.g tabOK 3 rfl ?_
         refine WpG.wk (ih4 (p + 1) ou ?_ ?_) rfl
         ·dsimp only
          omega
         ·
          clear ih1 ih3 ih4 ih5
          exact ⟨by omega, by omega, g2, g3, g4, g5, fun e tl ht => (g6 e tl ht).skip ht e (fun h => by have := h2_.2 (fun x x0 x1 => h.2.2 x x0 (by omega)); rw [q143] at this; cases this)⟩
    ·have q97' := q97; simp only [Bool.or_eq_false_iff, Bool.and_eq_false_iff, beq_eq_false_iff_ne, bne_eq_false_iff_eq, decide_eq_false_iff_not, Bool.not_eq_false] at q97'
     refine WpG.gw tabOK 6 80 rfl (wrk (x := t + 1) (by omega) (by omega)) ?_
     refine WpG.g tabOK 3 rfl ?_
     refine WpG.wk (ih3 (t + 1) ou ?_ ?_) rfl
     ·dsimp only
      omega
     ·
      clear ih1 ih3 ih4
      exact ⟨by omega, by omega, g2, g3, fun tl ht => tree_done ht f0 q78 q97' (g4 tl ht) g5 (fun e => g6 e tl ht)⟩
   ·refine WpG.g tabOK 7 rfl ?_
    refine WpG.ownCap (ci := 0) rfl (fun uz21 => ?_)
    refine WpG.freezeOwn (ci := 0) rfl (fun H21 hH21 fz21 => ?_)
    have rz21 : RdS H21 (some ⟨b12, 0, none⟩) out := RdS.of_own (H := H11) (show RdL H11 (out.map iv) out from RdL_ints _ f3) ((by omega)) (by omega) hH21 fz21
    exact WpG.ret tabOK (L' := []) (.tmp rfl .nil) .slnil (tree_ret rfl (Nat.le_refl _) f2 (fun tl ht x x0 x1 => f4 tl ht x x0 (by omega)) rz21)
end Go.Proofs.YtdjemlkllbhdlaaGreat
namespace Go.Proofs.YtdjemlkllbhdlaaGreat
open Go Go.RowKit
def onto (l r : List Int) : List Int := if r = [] then [] else l ++ r
def pathF (tree : List Int) : Nat → Int → List Int
  | 0, _ => []
  | k + 1, a => if a < 0 ∨ a ≥ tree.length then [] else if nth tree a = -1 then [a] else onto [a] (pathF tree k (nth tree a))
def pathD (tree : List Int) (a : Int) : List Int := pathF tree tree.length a
theorem pathF_succ (tree : List Int) (k : Nat) (a : Int) : pathF tree (k + 1) a = if a < 0 ∨ a ≥ tree.length then [] else if nth tree a = -1 then [a] else onto [a] (pathF tree k (nth tree a)) := rfl
theorem onto_onto (l m r : List Int) : onto l (onto m r) = onto (l ++ m) r := by
  unfold onto
  by_cases h : r = []
  · simp [h]
  · by_cases h2 : m ++ r = []
    · exact absurd (List.append_eq_nil_iff.1 h2).2 h
    · simp only [h, h2, if_false, List.append_assoc]
theorem path_depth (tree : List Int) : ∀ (k : Nat) (n a : Int), 0 ≤ n → (depthF tree k n a = -1 ∧ pathF tree k a = []) ∨ (0 ≤ depthF tree k n a ∧ pathF tree k a ≠ [])
  | 0, _, _, _ => .inl ⟨rfl, rfl⟩
  | k + 1, n, a, hn => by
    rw [depthF_succ, pathF_succ]
    by_cases h1 : a < 0 ∨ a ≥ tree.length
    · rw [if_pos h1, if_pos h1]; exact .inl ⟨rfl, rfl⟩
    · rw [if_neg h1, if_neg h1]
      by_cases h2 : nth tree a = -1
      · rw [if_pos h2, if_pos h2]; exact .inr ⟨hn, by simp⟩
      · rw [if_neg h2, if_neg h2]
        rcases path_depth tree k (n + 1) (nth tree a) (by omega) with h | h
        · exact .inl ⟨h.1, by rw [h.2]; rfl⟩
        · exact .inr ⟨h.1, by unfold onto; rw [if_neg h.2]; simp⟩
theorem path_none {tree : List Int} {a : Int} (h : pathD tree a = []) : depthD tree a < 0 := by
  rcases path_depth tree tree.length 0 a (by omega) with h1 | h1
  · unfold depthD; omega
  · exact absurd h h1.2
theorem path_some {tree : List Int} {a : Int} (h : pathD tree a ≠ []) : ¬ depthD tree a < 0 := by
  rcases path_depth tree tree.length 0 a (by omega) with h1 | h1
  · exact absurd h1.2 h
  · unfold depthD; omega
theorem pathF_more (tree : List Int) : ∀ (k : Nat) (a : Int), pathF tree k a ≠ [] → pathF tree (k + 1) a = pathF tree k a
  | 0, a, h => absurd rfl h
  | k + 1, a, h => by
    rw [pathF_succ tree (k + 1) a, pathF_succ tree k a]
    rw [pathF_succ tree k a] at h
    by_cases h1 : a < 0 ∨ a ≥ tree.length
    · rw [if_pos h1, if_pos h1]
    · rw [if_neg h1] at h ⊢
      rw [if_neg h1]
      by_cases h2 : nth tree a = -1
      · rw [if_pos h2, if_pos h2]
      · rw [if_neg h2] at h ⊢
        rw [if_neg h2, pathF_more tree k (nth tree a) (fun e => h (by rw [e]; rfl))]
theorem path_top {tree : List Int} {a : Int} (h : 0 ≤ depthD tree a) (ht : nth tree a = -1) : pathD tree a = [a] := by
  have hr := depth_range h
  unfold pathD
  obtain ⟨k, hk⟩ : ∃ k, tree.length = k + 1 := ⟨tree.length - 1, by omega⟩
  rw [hk, pathF_succ, if_neg (by omega), if_pos ht]
theorem path_up {tree : List Int} {a : Int} (h : 0 ≤ depthD tree a) (ht : nth tree a ≠ -1) : pathD tree a = a :: pathD tree (nth tree a) := by
  have hr := depth_range h
  have hd := depth_less h ht
  obtain ⟨k, hk⟩ : ∃ k, tree.length = k + 1 := ⟨tree.length - 1, by omega⟩
  have e : pathD tree a = onto [a] (pathF tree k (nth tree a)) := by
    unfold pathD; rw [hk, pathF_succ, if_neg (by omega), if_neg ht]
  have hne : pathF tree k (nth tree a) ≠ [] := fun e2 => by
    have : pathD tree a = [] := by rw [e, e2]; rfl
    have := path_none this; omega
  have e3 : pathD tree (nth tree a) = pathF tree k (nth tree a) := by unfold pathD; rw [hk]; exact pathF_more tree k _ hne
  rw [e, e3]; unfold onto; rw [if_neg hne]; rfl
theorem path_mem {tree : List Int} : ∀ (n : Nat) {a x : Int}, 0 ≤ depthD tree a → (depthD tree a).toNat ≤ n → x ∈ pathD tree a → x = a ∨ depthD tree x < depthD tree a
  | n, a, x, h, hn, hx => by
    by_cases ht : nth tree a = -1
    · rw [path_top h ht] at hx; exact .inl (List.mem_singleton.1 hx)
    · have hd := depth_less h ht
      rw [path_up h ht] at hx
      rcases List.mem_cons.1 hx with e | hx
      · exact .inl e
      · match n, hn with
        | 0, hn => omega
        | n + 1, hn =>
          rcases path_mem n (a := nth tree a) (by omega) (by omega) hx with e | e
          · right; rw [e]; omega
          · right; omega
theorem path_self {tree : List Int} {a : Int} (h : 0 ≤ depthD tree a) : a ∈ pathD tree a := by
  by_cases ht : nth tree a = -1
  · rw [path_top h ht]; simp
  · rw [path_up h ht]; simp
theorem meet_depth {tree : List Int} (hr : rightD tree = true) : ∀ (n : Nat) {a b : Int}, 0 ≤ depthD tree a → 0 ≤ depthD tree b → (depthD tree a + depthD tree b).toNat ≤ n → depthD tree (meetF tree (depthD tree a + depthD tree b).toNat a b) ≤ depthD tree a
  | n, a, b, ha, hb, hn => by
    by_cases e : a = b
    · subst e; rw [meet_same]; exact Int.le_refl _
    · by_cases hge : depthD tree a ≥ depthD tree b
      · obtain ⟨h1, h2, h3⟩ := meet_left hr ha hb e hge
        rw [h3]
        match n, hn with
        | 0, hn => omega
        | n + 1, hn => have := meet_depth hr n h1 hb (by omega); omega
      · obtain ⟨h1, h2, h3⟩ := meet_right hr ha hb e hge
        rw [h3]
        match n, hn with
        | 0, hn => omega
        | n + 1, hn => exact meet_depth hr n ha h1 (by omega)
theorem meet_mem {tree : List Int} (hr : rightD tree = true) : ∀ (n : Nat) {a b : Int}, 0 ≤ depthD tree a → 0 ≤ depthD tree b → (depthD tree a + depthD tree b).toNat ≤ n → (meetF tree (depthD tree a + depthD tree b).toNat a b = a ↔ a ∈ pathD tree b)
  | n, a, b, ha, hb, hn => by
    by_cases e : a = b
    · subst e; rw [meet_same]; exact ⟨fun _ => path_self ha, fun _ => rfl⟩
    · by_cases hge : depthD tree a ≥ depthD tree b
      · obtain ⟨h1, h2, h3⟩ := meet_left hr ha hb e hge
        rw [h3]
        have hd := meet_depth hr _ h1 hb (Nat.le_refl _)
        refine ⟨fun h => ?_, fun h => ?_⟩
        · rw [h] at hd; omega
        · rcases path_mem _ hb (Nat.le_refl _) h with h4 | h4
          · exact absurd h4 e
          · omega
      · obtain ⟨h1, h2, h3⟩ := meet_right hr ha hb e hge
        rw [h3]
        have ht : nth tree b ≠ -1 := meet_up hr hb ha (Ne.symm e) (by omega)
        match n, hn with
        | 0, hn => omega
        | n + 1, hn =>
          rw [meet_mem hr n ha h1 (by omega), path_up hb ht]
          simp [e]
def firstIn : List Int → List Int → Int
  | [], _ => -2
  | x :: p, q => if hasD q x = true then x else firstIn p q
def meetR (tree : List Int) (a b : Int) : Int := if rightD tree = true then firstIn (pathD tree a) (pathD tree b) else -2
theorem firstIn_mem : ∀ {p q : List Int} {x : Int}, firstIn p q = x → x = -2 ∨ x ∈ q
  | [], _, x, h => .inl h.symm
  | y :: p, q, x, h => by
    unfold firstIn at h
    split at h
    · rename_i h2; subst h; exact .inr (hasD_iff.1 h2)
    · exact firstIn_mem h
theorem overR {tree : List Int} {a b : Int} (h : inD tree [a, b] = true) : (meetR tree a b == a) = overD tree a b := by
  obtain ⟨hr, ha, hb⟩ := in_two h
  unfold overD meetD meetR
  rw [if_pos hr, if_pos h, h, Bool.true_and, Bool.eq_iff_iff, beq_iff_eq, beq_iff_eq, meet_mem hr _ ha hb (Nat.le_refl _)]
  have hr0 := depth_range ha
  constructor
  · intro h1
    rcases firstIn_mem h1 with e | e
    · omega
    · exact e
  · intro h1
    have : ∃ l, pathD tree a = a :: l := by
      by_cases ht : nth tree a = -1
      · exact ⟨[], path_top ha ht⟩
      · exact ⟨_, path_up ha ht⟩
    obtain ⟨l, e⟩ := this
    rw [e]; unfold firstIn; rw [if_pos (hasD_iff.2 h1)]
theorem AllI_app {l m : List Int} (h1 : AllI l) (h2 : AllI m) : AllI (l ++ m) := AllI_iff.2 fun x hx => (List.mem_append.1 hx).elim (AllI_iff.1 h1 x) (AllI_iff.1 h2 x)
theorem path_go {tree l r : List Int} {a : Int} (h : r = onto l (pathF tree (tree.length - l.length) a)) (h1 : (l.length : Int) < tree.length) (h2 : 0 ≤ a ∧ a < tree.length) (h3 : nth tree a ≠ -1) : r = onto (l ++ [a]) (pathF tree (tree.length - (l ++ [a]).length) (nth tree a)) := by
  obtain ⟨k, hk⟩ : ∃ k, tree.length - l.length = k + 1 := ⟨tree.length - l.length - 1, by omega⟩
  rw [h, hk, pathF_succ, if_neg (by omega), if_neg h3, onto_onto, List.length_append, show tree.length - (l.length + [a].length) = k from by simp; omega]
theorem path_top_ {tree l r : List Int} {a : Int} (h : r = onto l (pathF tree (tree.length - l.length) a)) (h1 : (l.length : Int) < tree.length) (h2 : 0 ≤ a ∧ a < tree.length) (h3 : nth tree a = -1) : r = l ++ [a] := by
  obtain ⟨k, hk⟩ : ∃ k, tree.length - l.length = k + 1 := ⟨tree.length - l.length - 1, by omega⟩
  rw [h, hk, pathF_succ, if_neg (by omega), if_pos h3]; rfl
theorem path_end {tree l r : List Int} {a : Int} (h : r = onto l (pathF tree (tree.length - l.length) a)) (h1 : ¬ ((l.length : Int) < tree.length) ∨ ¬ 0 ≤ a ∨ ¬ a < tree.length) : r = [] := by
  rw [h]
  cases hk : tree.length - l.length with
  | zero => rfl
  | succ k => rw [pathF_succ, if_pos (by omega)]; rfl
theorem path_ret {H : Hp} {tree l : List Int} {a : Int} {A : Option Addr} {n c : Nat} (e : pathD tree a = l) (hn : n = l.length) (hc : n ≤ c) (r : RdS H A l) :
    ∃ A' c', Value.slice A n c = .slice A' (pathD tree a).length c' ∧ (pathD tree a).length ≤ c' ∧ RdS H A' (pathD tree a) ∧ ([] : List Chunk) = [] := by
  subst hn; rw [e]; exact ⟨A, c, rfl, hc, r, rfl⟩
theorem right_no {tree : List Int} {i tops : Int} (h : rightD tree = rightF tree (tree.drop i.toNat) i tops) (h0 : 0 ≤ i) (h1 : i < tree.length) (h2 : nth tree i ≠ -2) (h3 : pathD tree i = []) : false = rightD tree := by
  rw [h, drop_nth h0 h1]; simp only [rightF]; rw [if_pos ⟨h2, path_none h3⟩]
theorem right_step {tree : List Int} {i tops : Int} (h : rightD tree = rightF tree (tree.drop i.toNat) i tops) (h0 : 0 ≤ i) (h1 : i < tree.length) (h2 : nth tree i = -2 ∨ pathD tree i ≠ []) : rightD tree = rightF tree (tree.drop (i + 1).toNat) (i + 1) (if nth tree i = -1 then tops + 1 else tops) := by
  rw [h, drop_nth h0 h1, toNat_succ h0]; simp only [rightF]
  rw [if_neg (fun hx => h2.elim hx.1 fun h3 => path_some h3 hx.2)]
theorem right_end {tree : List Int} {i tops : Int} (h : rightD tree = rightF tree (tree.drop i.toNat) i tops) (h0 : 0 ≤ i) (h1 : ¬ i < tree.length) : (tops == 1) = rightD tree := by
  rw [h, drop_end h0 h1]; rfl
theorem first_step {p q : List Int} {i r : Int} (h : r = firstIn (p.drop i.toNat) q) (h0 : 0 ≤ i) (h1 : i < p.length) (h2 : hasD q (nth p i) = false) : r = firstIn (p.drop (i + 1).toNat) q := by
  rw [h, drop_nth h0 h1, toNat_succ h0]
  show (if hasD q (nth p i) = true then nth p i else _) = _
  rw [if_neg (nt h2)]
theorem first_yes {p q : List Int} {i r : Int} (h : r = firstIn (p.drop i.toNat) q) (h0 : 0 ≤ i) (h1 : i < p.length) (h2 : hasD q (nth p i) = true) : nth p i = r := by
  rw [h, drop_nth h0 h1]
  show _ = (if hasD q (nth p i) = true then nth p i else _)
  rw [if_pos h2]
theorem first_no {p q : List Int} {i r : Int} (h : r = firstIn (p.drop i.toNat) q) (h0 : 0 ≤ i) (h1 : ¬ i < p.length) : -2 = r := by
  rw [h, drop_end h0 h1]; rfl
end Go.Proofs.YtdjemlkllbhdlaaGreat
namespace Go.Proofs.YtdjemlkllbhdlaaGreat
open Go Go.RowKit
theorem rPath_calls {H : Hp} {A : Option Addr} {c : Nat} {tree : List Int} (ht : RdS H A tree) (h64 : tree.length ≤ 64) (a : Int) : CallG Tryz.prog 47 [.slice A tree.length c, .int .i64 a] H [] (fun v H' L' => ∃ A' c', v = .slice A' (pathD tree a).length c' ∧ (pathD tree a).length ≤ c' ∧ RdS H' A' (pathD tree a) ∧ L' = []) := by
 refine CallG.of Tryz.func47 rfl rfl rfl fun w0 => ?_
 refine WpG.g tabOK 11 rfl ?_
 refine WpG.ownNil 3 1 ?_
 refine WpG.wk (WpG.ind5 (fun (x : Int) (A5 : Option Addr) (n5 : Nat) (c5 : Nat) (l : List Int) => ⟨(tree.length - n5), [(0, .slice A tree.length c), (1, .int .i64 x), (5, .slice A5 n5 c5)], H, [Chunk.own 3 1 A5 c5 n5 (l.map iv)], n5 = l.length ∧ (pathD tree a = onto l (pathF tree (tree.length - l.length) x)) ∧ AllI l⟩) ?_ a none 0 0 [] ⟨rfl, by unfold onto pathD; simp, trivial⟩) rfl
 intro x A5 n5 c5 l inv ih1
 obtain ⟨p1, p2, p3⟩ := inv
 refine WpG.g tabOK 2 rfl ?_
 apply WpG.join (G := [(0, .slice A tree.length c), (1, .int .i64 x), (5, .slice A5 n5 c5), (20, .bool (((decide ((n5 : Int) < (tree.length : Int))) && (decide (x ≥ 0))) && (decide (x < (tree.length : Int)))))])
 ·intro nx1
  refine WpG.g tabOK 1 rfl ?_
  refine WpG.g tabOK 6 rfl ?_
  refine WpG.caseD (t := 11) rfl (fun q11 => ?_) (fun q11 => ?_)
  ·refine WpG.g tabOK 4 rfl ?_
   refine WpG.caseD (t := 15) rfl (fun q15 => ?_) (fun q15 => ?_)
   ·refine WpG.g tabOK 6 rfl ?_
    exact nx1.weak ⟨rfl, rfl, rfl, bq (by simp [q11, q15]), trivial⟩
   ·refine WpG.g tabOK 6 rfl ?_
    exact nx1.weak ⟨rfl, rfl, rfl, bq (by simp [q11, q15]), trivial⟩
  ·refine WpG.g tabOK 10 rfl ?_
   exact nx1.weak ⟨rfl, rfl, rfl, bq (by simp [q11]), trivial⟩
 refine WpG.caseB (t := 20) rfl (fun q20 => ?_) (fun q20 => ?_)
 ·have q20' := q20; simp only [Bool.or_eq_true, Bool.and_eq_true, beq_iff_eq, bne_iff_ne, decide_eq_true_eq, Bool.not_eq_true] at q20'
  refine WpG.g tabOK 7 rfl ?_
  refine WpG.buildSlice (xs := [.int .i64 x]) tabOK rfl rfl rfl rfl rfl rfl rfl rfl rfl rfl (fun b2 => ?_)
  refine WpG.append (ci := 1) tabOK rfl rfl rfl rfl rfl rfl rfl rfl rfl rfl rfl rfl (Src.own (ci := 0) rfl) (by omega) (fun A4 c5 => ?_)
  refine WpG.dropL (L' := [Chunk.own 3 1 A4 c5 (n5 + 1) ((l.map iv) ++ [.int .i64 x])]) (.cons _ (.cons_cons _ .slnil)) ?_
  refine WpG.setL (L' := [Chunk.own 3 1 A4 c5 (n5 + 1) ((l ++ [x]).map iv)]) (by rw [List.map_append]; rfl) ?_
  refine WpG.g tabOK 7 rfl ?_
  refine WpG.indexR tabOK rfl rfl rfl rfl rfl rfl rfl rfl rfl ht (by omega) (by omega) ?_
  rintro x6 hx6 b6 o6 _ ⟨rfl, k6⟩ hc6
  obtain rfl : x6 = (nth tree x) := hx6
  refine WpG.y rfl rfl rfl rfl (RunY.loadH tabOK hc6 (Hp.le.refl _) rfl rfl rfl rfl) ?_
  refine WpG.g tabOK 2 rfl ?_
  refine WpG.caseE (t := 29) rfl (fun q29 => ?_) (fun q29 => ?_)
  ·refine WpG.g tabOK 6 rfl ?_
   refine WpG.ownCap (ci := 0) rfl (fun uz7 => ?_)
   refine WpG.freezeOwn (ci := 0) rfl (fun H7 hH7 fz7 => ?_)
   have rz7 : RdS H7 A4 (l ++ [x]) := RdS.of_own (H := H) (show RdL H ((l ++ [x]).map iv) (l ++ [x]) from RdL_ints _ (AllI_app p3 ⟨⟨by omega, by omega⟩, trivial⟩)) ((by simp; omega)) (by simp; omega) hH7 fz7
   exact WpG.ret tabOK (L' := []) (.tmp rfl .nil) .slnil (path_ret (path_top_ p2 (by omega) (by omega) q29) (by simp; omega) uz7 rz7)
  ·refine WpG.g tabOK 5 rfl ?_
   refine WpG.indexR tabOK rfl rfl rfl rfl rfl rfl rfl rfl rfl ht (by omega) (by omega) ?_
   rintro x8 hx8 b8 o8 _ ⟨rfl, k8⟩ hc8
   obtain rfl : x8 = (nth tree x) := hx8
   refine WpG.y rfl rfl rfl rfl (RunY.loadH tabOK hc8 (Hp.le.refl _) rfl rfl rfl rfl) ?_
   refine WpG.g tabOK 4 rfl ?_
   refine WpG.wk (ih1 (nth tree x) A4 (n5 + 1) c5 (l ++ [x]) ?_ ?_) rfl
   ·dsimp only
    omega
   ·
    clear ih1
    exact ⟨by simp; omega, path_go p2 (by omega) (by omega) q29, AllI_app p3 ⟨⟨by omega, by omega⟩, trivial⟩⟩
 ·have q20' := q20; simp only [Bool.or_eq_false_iff, Bool.and_eq_false_iff, beq_eq_false_iff_ne, bne_eq_false_iff_eq, decide_eq_false_iff_not, Bool.not_eq_false] at q20'
  refine WpG.g tabOK 6 rfl ?_
  exact WpG.ret tabOK (L' := []) (.tmp rfl .nil) (.cons _ .slnil) ⟨none, 0, by rw [path_end p2 (by omega)]; rfl, by rw [path_end p2 (by omega)]; exact Nat.le_refl _, by rw [path_end p2 (by omega)]; exact RdS.nil _ _, rfl⟩
theorem rRight_calls {H : Hp} {A : Option Addr} {c : Nat} {tree : List Int} (ht : RdS H A tree) (h64 : tree.length ≤ 64) : CallG Tryz.prog 46 [.slice A tree.length c] H [] (fun v H' L' => v = .bool (rightD tree) ∧ L' = []) := by
 refine CallG.of Tryz.func46 rfl rfl rfl fun w0 => ?_
 refine WpG.g tabOK 15 rfl ?_
 refine WpG.wk (WpG.ind3 (fun (i : Int) (tops : Int) (G : Hp) => ⟨(tree.length - i).toNat, [(0, .slice A tree.length c), (3, .int .i64 tops), (4, .int .i64 i)], G, [], 0 ≤ i ∧ i ≤ tree.length ∧ (rightD tree = rightF tree (tree.drop i.toNat) i tops) ∧ 0 ≤ tops ∧ tops ≤ i ∧ H.le G⟩) ?_ 0 0 H ⟨Int.le_refl 0, by omega, rfl, Int.le_refl 0, Int.le_refl 0, Hp.le.refl _⟩) rfl
 intro i tops G inv ih1
 obtain ⟨i0, i1, i2, i3, i5, i4⟩ := inv
 refine WpG.g tabOK 8 rfl ?_
 refine WpG.caseD (t := 8) rfl (fun q8 => ?_) (fun q8 => ?_)
 ·refine WpG.g tabOK 9 rfl ?_
  refine WpG.indexR tabOK rfl rfl rfl rfl rfl rfl rfl rfl rfl ht (by omega) (by omega) ?_
  rintro x1 hx1 b1 o1 _ ⟨rfl, k1⟩ hc1
  obtain rfl : x1 = (nth tree i) := hx1
  refine WpG.y rfl rfl rfl rfl (RunY.loadH tabOK hc1 i4 rfl rfl rfl rfl) ?_
  refine WpG.g tabOK 2 rfl ?_
  refine WpG.caseE (t := 15) rfl (fun q15 => ?_) (fun q15 => ?_)
  ·refine WpG.gw tabOK 4 17 rfl (wrk (x := tops + 1) (by omega) (by omega)) ?_
   refine WpG.g tabOK 6 rfl ?_
   refine WpG.indexR tabOK rfl rfl rfl rfl rfl rfl rfl rfl rfl ht (by omega) (by omega) ?_
   rintro x2 hx2 b2 o2 _ ⟨rfl, k2⟩ hc2
   obtain rfl : x2 = (nth tree i) := hx2
   refine WpG.y rfl rfl rfl rfl (RunY.loadH tabOK hc2 i4 rfl rfl rfl rfl) ?_
   refine WpG.g tabOK 2 rfl ?_
   refine WpG.caseN (t := 23) rfl (fun q23 => ?_) (fun q23 => ?_)
   ·refine WpG.g tabOK 2 rfl ?_
    refine WpG.call0 rfl rfl rfl rfl rfl rfl (rPath_calls (ht.mono i4) h64 i) ?_
    rintro _ H3 _ hH3 ⟨A3, c3, rfl, u3, r3, rfl⟩
    refine WpG.g tabOK 4 rfl ?_
    refine WpG.caseE (t := 29) rfl (fun q29 => ?_) (fun q29 => ?_)
    ·refine WpG.g tabOK 5 rfl ?_
     exact WpG.ret tabOK (L' := []) (.tmp rfl .nil) .slnil ⟨congrArg Value.bool (by clear ih1; exact right_no i2 i0 q8 q23 (List.eq_nil_of_length_eq_zero (by omega))), rfl⟩
    ·refine WpG.gw tabOK 6 10 rfl (wrk (x := i + 1) (by omega) (by omega)) ?_
     refine WpG.g tabOK 3 rfl ?_
     refine WpG.wk (ih1 (i + 1) (tops + 1) H3 ?_ ?_) rfl
     ·dsimp only
      omega
     ·
      clear ih1
      exact ⟨by omega, by omega, by have z := right_step i2 i0 q8 (.inr (by intro e; rw [e] at q29; exact q29 rfl)); rw [if_pos q15] at z; exact z, by omega, by omega, i4.trans hH3⟩
   ·refine WpG.gw tabOK 13 10 rfl (wrk (x := i + 1) (by omega) (by omega)) ?_
    refine WpG.g tabOK 3 rfl ?_
    refine WpG.wk (ih1 (i + 1) (tops + 1) G ?_ ?_) rfl
    ·dsimp only
     omega
    ·
     clear ih1
     exact ⟨by omega, by omega, by have z := right_step i2 i0 q8 (.inl q23); rw [if_pos q15] at z; exact z, by omega, by omega, i4⟩
  ·refine WpG.g tabOK 6 rfl ?_
   refine WpG.indexR tabOK rfl rfl rfl rfl rfl rfl rfl rfl rfl ht (by omega) (by omega) ?_
   rintro x4 hx4 b4 o4 _ ⟨rfl, k4⟩ hc4
   obtain rfl : x4 = (nth tree i) := hx4
   refine WpG.y rfl rfl rfl rfl (RunY.loadH tabOK hc4 i4 rfl rfl rfl rfl) ?_
   refine WpG.g tabOK 2 rfl ?_
   refine WpG.caseN (t := 23) rfl (fun q23 => ?_) (fun q23 => ?_)
   ·refine WpG.g tabOK 2 rfl ?_
    refine WpG.call0 rfl rfl rfl rfl rfl rfl (rPath_calls (ht.mono i4) h64 i) ?_
    rintro _ H5 _ hH5 ⟨A5, c5, rfl, u5, r5, rfl⟩
    refine WpG.g tabOK 4 rfl ?_
    refine WpG.caseE (t := 29) rfl (fun q29 => ?_) (fun q29 => ?_)
    ·refine WpG.g tabOK 5 rfl ?_
     exact WpG.ret tabOK (L' := []) (.tmp rfl .nil) .slnil ⟨congrArg Value.bool (by clear ih1; exact right_no i2 i0 q8 q23 (List.eq_nil_of_length_eq_zero (by omega))), rfl⟩
    ·refine WpG.gw tabOK 6 10 rfl (wrk (x := i + 1) (by omega) (by omega)) ?_
     refine WpG.g tabOK 3 rfl ?_
     refine WpG.wk (ih1 (i + 1) tops H5 ?_ ?_) rfl
     ·dsimp only
      omega
     ·
      clear ih1
      exact ⟨by omega, by omega, by have z := right_step i2 i0 q8 (.inr (by intro e; rw [e] at q29; exact q29 rfl)); rw [if_neg q15] at z; exact z, by omega, by omega, i4.trans hH5⟩
   ·refine WpG.gw tabOK 13 10 rfl (wrk (x := i + 1) (by omega) (by omega)) ?_
    refine WpG.g tabOK 3 rfl ?_
    refine WpG.wk (ih1 (i + 1) tops G ?_ ?_) rfl
    ·dsimp only
     omega
    ·
     clear ih1
     exact ⟨by omega, by omega, by have z := right_step i2 i0 q8 (.inl q23); rw [if_neg q15] at z; exact z, by omega, by omega, i4⟩
 ·refine WpG.g tabOK 8 rfl ?_
  exact WpG.ret tabOK (L' := []) (.tmp rfl .nil) .slnil ⟨congrArg Value.bool (by clear ih1; exact right_end i2 i0 q8), rfl⟩
theorem rMeet_calls {H : Hp} {A : Option Addr} {c : Nat} {tree : List Int} (ht : RdS H A tree) (h64 : tree.length ≤ 64) (a b : Int) : CallG Tryz.prog 28 [.slice A tree.length c, .int .i64 a, .int .i64 b] H [] (fun v _ L' => v = .int .i64 (meetR tree a b) ∧ L' = []) := by
 refine CallG.of Tryz.func28 rfl rfl rfl fun w0 => ?_
 refine WpG.g tabOK 8 rfl ?_
 refine WpG.callS rfl rfl rfl rfl rfl rfl (Hp.le.refl _) (rRight_calls ht h64) ?_
 refine WpG.g tabOK 2 rfl ?_
 refine WpG.caseBn (t := 12) rfl (fun q12 => ?_) (fun q12 => ?_)
 ·refine WpG.g tabOK 5 rfl ?_
  exact WpG.ret tabOK (L' := []) (.tmp rfl .nil) .slnil ⟨congrArg (Value.int .i64) (by unfold meetR; rw [if_neg (nt q12)]), rfl⟩
 ·refine WpG.g tabOK 6 rfl ?_
  refine WpG.call0 rfl rfl rfl rfl rfl rfl (rPath_calls ht h64 a) ?_
  rintro _ H1 _ hH1 ⟨A1, c1, rfl, u1, r1, rfl⟩
  refine WpG.g tabOK 6 rfl ?_
  refine WpG.call0 rfl rfl rfl rfl rfl rfl (rPath_calls (ht.mono hH1) h64 b) ?_
  rintro _ H2 _ hH2 ⟨A2, c2, rfl, u2, r2, rfl⟩
  refine WpG.g tabOK 9 rfl ?_
  have hpl := r1.1
  refine WpG.wk (WpG.ind1 (fun (i : Int) => ⟨((pathD tree a).length - i).toNat, [(7, .slice A1 ((pathD tree a).length) c1), (8, .slice A2 ((pathD tree b).length) c2), (9, .int .i64 i)], H2, [], 0 ≤ i ∧ i ≤ (pathD tree a).length ∧ meetR tree a b = firstIn ((pathD tree a).drop i.toNat) (pathD tree b)⟩) ?_ 0 ⟨by omega, by omega, by unfold meetR; rw [if_pos q12]; rfl⟩) rfl
  intro i inv ih1
  obtain ⟨i0, i1, i2⟩ := inv
  refine WpG.g tabOK 8 rfl ?_
  refine WpG.caseD (t := 22) rfl (fun q22 => ?_) (fun q22 => ?_)
  ·refine WpG.g tabOK 9 rfl ?_
   refine WpG.indexR tabOK rfl rfl rfl rfl rfl rfl rfl rfl rfl r1 (by omega) (by omega) ?_
   rintro x3 hx3 b3 o3 _ ⟨rfl, k3⟩ hc3
   obtain rfl : x3 = (nth (pathD tree a) i) := hx3
   refine WpG.y rfl rfl rfl rfl (RunY.loadH tabOK hc3 hH2 rfl rfl rfl rfl) ?_
   refine WpG.callS rfl rfl rfl rfl rfl rfl (Hp.le.refl _) (rHas_calls r2 (nth (pathD tree a) i)) ?_
   refine WpG.g tabOK 1 rfl ?_
   refine WpG.caseB (t := 30) rfl (fun q30 => ?_) (fun q30 => ?_)
   ·refine WpG.g tabOK 5 rfl ?_
    refine WpG.indexR tabOK rfl rfl rfl rfl rfl rfl rfl rfl rfl r1 (by omega) (by omega) ?_
    rintro x4 hx4 b4 o4 _ ⟨rfl, k4⟩ hc4
    obtain rfl : x4 = (nth (pathD tree a) i) := hx4
    refine WpG.y rfl rfl rfl rfl (RunY.loadH tabOK hc4 hH2 rfl rfl rfl rfl) ?_
    refine WpG.g tabOK 2 rfl ?_
    exact WpG.ret tabOK (L' := []) (.tmp rfl .nil) .slnil ⟨congrArg (Value.int .i64) (by clear ih1; exact first_yes i2 i0 q22 q30), rfl⟩
   ·refine WpG.gw tabOK 6 24 rfl (wrk (x := i + 1) (by omega) (by omega)) ?_
    refine WpG.g tabOK 3 rfl ?_
    refine WpG.wk (ih1 (i + 1) ?_ ?_) rfl
    ·dsimp only
     omega
    ·
     clear ih1
     exact ⟨by omega, by omega, first_step i2 i0 q22 q30⟩
  ·refine WpG.g tabOK 6 rfl ?_
   exact WpG.ret tabOK (L' := []) (.tmp rfl .nil) .slnil ⟨congrArg (Value.int .i64) (by clear ih1; exact first_no i2 i0 q22), rfl⟩
end Go.Proofs.YtdjemlkllbhdlaaGreat
namespace Go.Proofs.YtdjemlkllbhdlaaGreat
open Go Go.RowKit
section
variable {S : List (List Int)} {tl : List Int}
open Classical in
noncomputable def domN (S : List (List Int)) (x : Int) : Nat := ((List.range S.length).filter fun (y : Nat) => decide (¬ RchN S 0 (y : Int) x)).length
theorem filter_lt {p q : Nat → Bool} : ∀ (l : List Nat) (a : Nat), a ∈ l → (∀ x ∈ l, q x = true → p x = true) → p a = true → q a = false → (l.filter q).length < (l.filter p).length
  | [], a, h, _, _, _ => by cases h
  | x :: l, a, h, hs, hp, hq => by
    have hle : ∀ l : List Nat, (∀ x ∈ l, q x = true → p x = true) → (l.filter q).length ≤ (l.filter p).length := fun l => by
      induction l with
      | nil => intro _; simp
      | cons y l ih =>
        intro h
        have h1 := ih fun z hz => h z (.tail _ hz)
        have h2 := h y (.head _)
        simp only [List.filter_cons]
        by_cases e : q y = true
        · rw [if_pos e, if_pos (h2 e)]; simp only [List.length_cons]; omega
        · rw [if_neg e]; split <;> (try simp only [List.length_cons]) <;> omega
    rcases List.mem_cons.1 h with e | h
    · subst e
      have h1 := hle l fun z hz => hs z (.tail _ hz)
      simp only [List.filter_cons, hp, if_true, hq, Bool.false_eq_true, if_false, List.length_cons]; omega
    · have h1 := filter_lt l a h (fun z hz => hs z (.tail _ hz)) hp hq
      have h2 := hs x (.head _)
      simp only [List.filter_cons]
      by_cases e : q x = true
      · rw [if_pos e, if_pos (h2 e)]; simp only [List.length_cons]; omega
      · rw [if_neg e]; split <;> (try simp only [List.length_cons]) <;> omega
theorem domN_up (h : TreeP S 0 tl) {x : Int} (hx : RchN S 0 (-1) x) (h0 : x ≠ 0) : domN S (nth tl x) < domN S x := by
  obtain ⟨h1, h2, h3⟩ := h.up x hx h0
  have hr := h.range x hx
  unfold domN
  refine filter_lt _ x.toNat (List.mem_range.2 (by omega)) (fun y hy hq => ?_) ?_ ?_
  · simp only [decide_eq_true_eq] at hq ⊢
    intro hc
    by_cases e : (y : Int) = x
    · rw [e] at hc; exact hc.ne rfl
    · exact hq ((h3 y e).1 hc)
  · simp only [decide_eq_true_eq]
    rw [show ((x.toNat : Nat) : Int) = x from by omega]
    exact fun hc => hc.ne rfl
  · simp only [decide_eq_false_iff_not, Classical.not_not]
    rw [show ((x.toNat : Nat) : Int) = x from by omega]
    exact h2
theorem domN_pos {x : Int} (h0 : 0 ≤ x) (h1 : x < S.length) : 1 ≤ domN S x := by
  unfold domN
  refine List.length_pos_of_mem (a := x.toNat) (List.mem_filter.2 ⟨List.mem_range.2 (by omega), ?_⟩)
  simp only [decide_eq_true_eq]
  rw [show ((x.toNat : Nat) : Int) = x from by omega]
  exact fun hc => hc.ne rfl
theorem domN_le (x : Int) : domN S x ≤ S.length := by
  unfold domN
  exact Nat.le_trans (List.length_filter_le _ _) (by simp)
theorem depth_reach (h : TreeP S 0 tl) : ∀ (k : Nat) {x n : Int}, RchN S 0 (-1) x → domN S x ≤ k + 1 → 0 ≤ n → 0 ≤ depthF tl (k + 1) n x
  | k, x, n, hx, hk, hn => by
    have hr := h.range x hx
    have hl := h.len
    rw [depthF_succ, if_neg (by omega)]
    by_cases h0 : x = 0
    · rw [h0, h.top, if_pos rfl]; exact hn
    · obtain ⟨h1, h2, h3⟩ := h.up x hx h0
      have hr1 := h.range _ h1
      rw [if_neg (by omega)]
      have hd := domN_up h hx h0
      have hp := domN_pos (S := S) hr1.1 hr1.2
      match k, hk with
      | 0, hk => omega
      | k + 1, hk => exact depth_reach h k h1 (by omega) (by omega)
theorem depth_reached (h : TreeP S 0 tl) {x : Int} (hx : RchN S 0 (-1) x) : 0 ≤ depthD tl x := by
  have hr := h.range x hx
  have hl := h.len
  have hd := domN_le (S := S) x
  unfold depthD
  obtain ⟨k, hk⟩ : ∃ k, tl.length = k + 1 := ⟨tl.length - 1, by omega⟩
  rw [hk]; exact depth_reach h k hx (by omega) (Int.le_refl 0)
theorem depth_not (h : TreeP S 0 tl) {x : Int} (h0 : 0 ≤ x) (h1 : x < S.length) (hx : ¬ RchN S 0 (-1) x) : depthD tl x < 0 := by
  have hn := h.none_ x h0 h1 hx
  have hl := h.len
  unfold depthD
  obtain ⟨k, hk⟩ : ∃ k, tl.length = k + 1 := ⟨tl.length - 1, by omega⟩
  rw [hk, depthF_succ, if_neg (by omega), hn, if_neg (by decide)]
  cases k with
  | zero => simp [depthF]
  | succ k => rw [depthF_succ, if_pos (by omega)]; decide
theorem rightF_yes (tree : List Int) : ∀ (l : List Int) (a tops : Int), (∀ k : Int, 0 ≤ k → k < l.length → nth l k = -2 ∨ 0 ≤ depthD tree (a + k)) → tops + l.count (-1) = 1 → rightF tree l a tops = true
  | [], a, tops, _, h => by simpa [rightF] using h
  | x :: l, a, tops, hs, h => by
    simp only [rightF]
    have hx := hs 0 (by omega) (by simp)
    rw [if_neg (fun hc => by
      rcases hx with e | e
      · exact hc.1 e
      · rw [Int.add_zero] at e; omega)]
    refine rightF_yes tree l (a + 1) _ (fun k k0 k1 => ?_) ?_
    · have := hs (k + 1) (by omega) (by simp; omega)
      rw [show a + (k + 1) = a + 1 + k from by omega] at this
      have e : nth (x :: l) (k + 1) = nth l k := by unfold nth; rw [toNat_succ k0]; rfl
      rw [e] at this; exact this
    · rw [List.count_cons] at h
      by_cases e : x = -1
      · rw [if_pos e]; simp [e] at h; omega
      · rw [if_neg e]; simp [e] at h; omega
theorem tree_right (h : TreeP S 0 tl) (hS : 0 < S.length) : rightD tl = true := by
  have hl := h.len
  have ht := h.top
  unfold rightD
  refine rightF_yes tl tl 0 0 (fun k k0 k1 => ?_) ?_
  · rw [Int.zero_add]
    by_cases hx : RchN S 0 (-1) k
    · exact .inr (depth_reached h hx)
    · exact .inl (h.none_ k k0 (by omega) hx)
  · match tl, hl, ht, h with
    | [], hl, _, _ => simp at hl; omega
    | x :: l, hl, ht, h =>
      have hx : x = -1 := ht
      have : l.count (-1) = 0 := by
        rw [List.count_eq_zero]
        intro hm
        obtain ⟨j, hj, e⟩ := List.mem_iff_getElem.1 hm
        have e2 : nth (x :: l) ((j : Int) + 1) = -1 := by
          unfold nth; rw [toNat_succ (by omega)]
          show (x :: l).getD (j + 1) default = -1
          simp [hj, e]
        have hj2 : ((j : Int) + 1) < S.length := by simp at hl; omega
        by_cases hx : RchN S 0 (-1) ((j : Int) + 1)
        · have := h.range _ (h.up _ hx (by omega)).1; omega
        · have := h.none_ _ (by omega) hj2 hx; omega
      rw [List.count_cons, this, hx]; rfl
theorem reach_over (h : TreeP S 0 tl) {x : Int} (h0 : 0 ≤ x) (h1 : x < S.length) : overD tl x x = true ↔ RchN S 0 (-1) x := by
  have hr := tree_right h (by omega)
  constructor
  · intro ho
    unfold overD at ho
    simp only [Bool.and_eq_true] at ho
    have := in_two ho.1
    apply Classical.byContradiction
    intro hx
    have := depth_not h h0 h1 hx
    omega
  · intro hx
    have hd := depth_reached h hx
    have hi : inD tl [x, x] = true := by
      unfold inD; rw [hr]; simp; omega
    unfold overD meetD
    rw [if_pos hi, hi, meet_same]; simp
end
def mostD (lv : Int) : Int := if lv = 0 then 17 else if lv = 1 then 20 else 22
theorem of_bad_ {lv : Int} {o : OpD} (l0 : 0 ≤ lv) (l1 : lv ≤ 2) : ofOpD lv o = !(!mayO o || decide (o.kind > mostD lv) || (decide (lv < 2) && decide (o.lanes > 1))) := by
  unfold ofOpD mostD
  by_cases hm : mayO o = true
  · have hk := may_kind hm
    rw [hm]
    have : lv = 0 ∨ lv = 1 ∨ lv = 2 := by omega
    rcases this with rfl | rfl | rfl
    · by_cases a : o.lanes > 1 <;> by_cases b : o.kind > 17 <;> by_cases c : o.kind > 20 <;> simp [a, b, c] <;> omega
    · by_cases a : o.lanes > 1 <;> by_cases c : o.kind > 20 <;> simp [a, c]
    · simp; omega
  · have hm' : mayO o = false := by simpa using hm
    rw [hm']; simp
theorem of_t {lv : Int} {o : OpD} (l0 : 0 ≤ lv) (l1 : lv ≤ 2) (h : (!mayO o || decide (o.kind > mostD lv) || (decide (lv < 2) && decide (o.lanes > 1))) = true) : ofOpD lv o = false := by rw [of_bad_ l0 l1, h]; rfl
theorem of_f {lv : Int} {o : OpD} (l0 : 0 ≤ lv) (l1 : lv ≤ 2) (h : (!mayO o || decide (o.kind > mostD lv) || (decide (lv < 2) && decide (o.lanes > 1))) = false) : ofOpD lv o = true := by rw [of_bad_ l0 l1, h]; rfl
def typA (lv : Int) (b : BlockD) : Bool := b.phis.all (fun p => mayW p.bits) && b.ops.all (fun o => ofOpD lv o)
theorem typed_all (f : FuncD) (lv : Int) : typedD f lv = (mayW f.ret && (f.params.all mayW && f.blocks.all (typA lv))) := by
  unfold typedD
  rw [any_not]
  congr 3
  funext b
  unfold typedB typA
  rw [any_not, any_not]
theorem typ_p {lv : Int} {b : BlockD} (h : b.phis.all (fun p => mayW p.bits) = false) : typA lv b = false := by unfold typA; rw [h]; rfl
theorem typ_o {lv : Int} {b : BlockD} (h : b.ops.all (fun o => ofOpD lv o) = false) : typA lv b = false := by unfold typA; rw [h]; simp
theorem typ_y {lv : Int} {b : BlockD} (h1 : b.phis.all (fun p => mayW p.bits) = true) (h : b.ops.all (fun o => ofOpD lv o) = true) : typA lv b = true := by unfold typA; rw [h, h1]; rfl
theorem typed1 {f : FuncD} {lv : Int} (h : f.params.all mayW = false) : false = typedD f lv := by rw [typed_all, h]; simp
theorem typed2 {f : FuncD} {lv : Int} (h : f.blocks.all (typA lv) = false) : false = typedD f lv := by rw [typed_all, h]; simp
theorem typed3 {f : FuncD} {lv : Int} (h : f.params.all mayW = true) (h2 : f.blocks.all (typA lv) = true) : mayW f.ret = typedD f lv := by rw [typed_all, h, h2]; simp
def badB (bs : List Bool) (i : Int) (e : EndD) : Bool := !(nth bs i) || ((e.kind == 1 || e.kind == 3) && e.arg != 0)
theorem fitR_no {f : FuncD} {g : GraphD} {tl : List Int} {bs : List Bool} {i : Int} {r : Bool} (h : r = fitFrom g tl i (f.blocks.drop i.toNat)) (ht : TreeP g.succ 0 tl) (hx : RExact g.succ 0 (-1) bs) (hl : g.succ.length = f.blocks.length) (i0 : 0 ≤ i) (i1 : i < f.blocks.length) (hb : badB bs i (nth f.blocks i).en = true) : false = r := by
  refine (fit_no h i0 i1 rfl ?_).symm
  unfold badB at hb
  simp only [Bool.or_eq_true, Bool.not_eq_true'] at hb
  rcases hb with hb | hb
  · left
    cases ho : overD tl i i with
    | false => rfl
    | true =>
      have := (hx.2 i i0 (by omega)).2 ((reach_over ht i0 (by omega)).1 ho)
      rw [hb] at this; cases this
  · right; right
    unfold endFit; rw [hb]; rfl
theorem fitR_go {f : FuncD} {g : GraphD} {tl : List Int} {bs : List Bool} {i : Int} {r : Bool} (h : r = fitFrom g tl i (f.blocks.drop i.toNat)) (ht : TreeP g.succ 0 tl) (hx : RExact g.succ 0 (-1) bs) (hl : g.succ.length = f.blocks.length) (i0 : 0 ≤ i) (i1 : i < f.blocks.length) (hb : badB bs i (nth f.blocks i).en = false)
    (hp : (nth f.blocks i).phis.all (phiFit (nth g.pred i)) = true) : r = fitFrom g tl (i + 1) (f.blocks.drop (i + 1).toNat) := by
  unfold badB at hb
  simp only [Bool.or_eq_false_iff, Bool.not_eq_false'] at hb
  refine fit_go h i0 i1 rfl ((reach_over ht i0 (by omega)).2 ((hx.2 i i0 (by omega)).1 hb.1)) hp ?_
  unfold endFit; rw [hb.2]; rfl
def FitTo (f : FuncD) (m : Int) : Prop := ∀ x : Int, 0 ≤ x → x < m → RchN (ofD f).1.succ 0 (-1) x ∧ (nth f.blocks x).phis.all (phiFit (nth (ofD f).1.pred x)) = true
def FitAll (f : FuncD) : Prop := FitTo f f.blocks.length
theorem FitTo.zero {f : FuncD} : FitTo f 0 := fun x x0 x1 => by omega
theorem FitTo.step {f : FuncD} {bs : List Bool} {i : Int} (h : FitTo f i) (hx : RExact (ofD f).1.succ 0 (-1) bs) (hl : (ofD f).1.succ.length = f.blocks.length) (i0 : 0 ≤ i) (i1 : i < f.blocks.length) (hb : badB bs i (nth f.blocks i).en = false) (hp : (nth f.blocks i).phis.all (phiFit (nth (ofD f).1.pred i)) = true) : FitTo f (i + 1) := fun x x0 x1 => by
  by_cases e : x = i
  · subst e
    unfold badB at hb
    simp only [Bool.or_eq_false_iff, Bool.not_eq_false'] at hb
    exact ⟨(hx.2 x i0 (by omega)).1 hb.1, hp⟩
  · exact h x x0 (by omega)
theorem FitTo.all {f : FuncD} {i : Int} (h : FitTo f i) (hi : ¬ i < f.blocks.length) : FitAll f := fun x x0 x1 => h x x0 (by omega)
theorem phiR_no {pd : List Int} {p : PhiD} (h : (pd.length : Int) = 0 ∨ eqL p.frm pd = false ∨ (p.args.length : Int) ≠ pd.length) : phiFit pd p = false := by
  by_cases h2 : eqL p.frm pd = true
  · have e := eqL_eq.1 h2
    subst e
    rcases h with h | h | h
    · exact phiFit_no (.inl h)
    · exact phiFit_no (.inr (.inl h))
    · exact phiFit_no (.inr (.inr h))
  · exact phiFit_no (.inr (.inl (by simpa using h2)))
theorem phiR_yes {pd : List Int} {p : PhiD} (h : (pd.length : Int) ≠ 0) (h2 : eqL p.frm pd = true) (h3 : (p.args.length : Int) = pd.length) : phiFit pd p = true := by
  have e := eqL_eq.1 h2
  subst e
  exact phiFit_yes h h2 h3
theorem of_rows {f : FuncD} (h : (ofD f).2 = 0) : Rows (ofD f).1.succ ∧ (ofD f).1.succ.length = f.blocks.length ∧ (ofD f).1.pred.length = f.blocks.length ∧ 0 < f.blocks.length ∧ mayG (ofD f).1 = true := by
  obtain ⟨h1, h2, h3, h4, _⟩ := of_ok h
  have hr := makeOK_rows h2
  refine ⟨?_, ?_, ?_, ?_, h4⟩
  · rw [h3]; exact ⟨hr.2.1, hr.2.2⟩
  · rw [h3]; simp
  · rw [h3]; simp [predsD]
  · have := hr.1; rw [List.length_map] at this; omega
end Go.Proofs.YtdjemlkllbhdlaaGreat
namespace Go.Proofs.YtdjemlkllbhdlaaGreat
open Go Go.RowKit
theorem rTyped_calls {H : Hp} {f : FuncD} {cs_f : List Value} (rd_f : Rdc.rd H cs_f f) (lv : Int) (l0 : 0 ≤ lv) (l1 : lv ≤ 2) : CallG Tryz.prog 22 [.agg cs_f.toArray, .int .i64 lv] H [] (fun v _ L' => v = .bool (typedD f lv) ∧ L' = []) := by
 have rd_f' := rd_f; obtain ⟨A_f_0, c_f_0, A_f_2, c_f_2, rfl, u_f_0, r_f_0, u_f_2, r_f_2, k_f_0⟩ := rd_f
 have bf := r_f_2.1; have bp := r_f_0.1
 refine CallG.of Tryz.func22 rfl rfl rfl fun w0 => ?_
 refine WpG.g tabOK 2 rfl ?_
 refine WpG.box rfl rfl rfl rfl rfl (fun b1 => ?_)
 refine WpG.freezeBox (ci := 0) rfl (fun H2 hH2 hc2 => ?_)
 refine WpG.g tabOK 9 rfl ?_
 refine WpG.wk (WpG.ind1 (fun (a : Int) => ⟨(f.params.length - a).toNat, [(1, .int .i64 lv), (2, .pointer (some ⟨b1, 0, none⟩)), (5, .int .i64 a)], H2, [], 0 ≤ a ∧ a ≤ f.params.length ∧ f.params.all mayW = (f.params.drop a.toNat).all mayW⟩) ?_ 0 ⟨by omega, by omega, rfl⟩) rfl
 intro a inv ih1
 obtain ⟨a0, a1, a2⟩ := inv
 refine WpG.g tabOK 5 rfl ?_
 refine WpG.y rfl rfl rfl rfl (RunY.loadH tabOK (hc2.sub 0 1) (Hp.le.refl _) rfl rfl rfl rfl) ?_
 refine WpG.g tabOK 3 rfl ?_
 refine WpG.caseD (t := 15) rfl (fun q15 => ?_) (fun q15 => ?_)
 ·refine WpG.g tabOK 7 rfl ?_
  refine WpG.y rfl rfl rfl rfl (RunY.loadH tabOK (hc2.sub 0 1) (Hp.le.refl _) rfl rfl rfl rfl) ?_
  refine WpG.g tabOK 1 rfl ?_
  refine WpG.indexR tabOK rfl rfl rfl rfl rfl rfl rfl rfl rfl r_f_0 (by omega) (by omega) ?_
  rintro x3 hx3 b3 o3 _ ⟨rfl, k3⟩ hc3
  obtain rfl : x3 = (nth f.params a) := hx3
  refine WpG.y rfl rfl rfl rfl (RunY.loadH tabOK hc3 hH2 rfl rfl rfl rfl) ?_
  refine WpG.callS rfl rfl rfl rfl rfl rfl (Hp.le.refl _) (rMayW_calls (nth f.params a)) ?_
  refine WpG.g tabOK 2 rfl ?_
  refine WpG.caseBn (t := 24) rfl (fun q24 => ?_) (fun q24 => ?_)
  ·refine WpG.g tabOK 5 rfl ?_
   exact WpG.ret tabOK (L' := []) (.tmp rfl .nil) .slnil ⟨congrArg Value.bool (by clear ih1; exact typed1 (all_no a2 a0 q15 rfl q24)), rfl⟩
  ·refine WpG.gw tabOK 6 17 rfl (wrk (x := a + 1) (by omega) (by omega)) ?_
   refine WpG.g tabOK 3 rfl ?_
   refine WpG.wk (ih1 (a + 1) ?_ ?_) rfl
   ·dsimp only
    omega
   ·
    clear ih1
    exact ⟨by omega, by omega, all_step a2 a0 q15 rfl q24⟩
 ·refine WpG.g tabOK 9 rfl ?_
  refine WpG.wk (WpG.ind1 (fun (i : Int) => ⟨(f.blocks.length - i).toNat, [(1, .int .i64 lv), (2, .pointer (some ⟨b1, 0, none⟩)), (6, .int .i64 i)], H2, [], 0 ≤ i ∧ i ≤ f.blocks.length ∧ f.blocks.all (typA lv) = (f.blocks.drop i.toNat).all (typA lv)⟩) ?_ 0 ⟨by omega, by omega, rfl⟩) rfl
  intro i inv ih2
  obtain ⟨i0, i1, i2⟩ := inv
  refine WpG.g tabOK 5 rfl ?_
  refine WpG.y rfl rfl rfl rfl (RunY.loadH tabOK (hc2.sub 2 1) (Hp.le.refl _) rfl rfl rfl rfl) ?_
  refine WpG.g tabOK 3 rfl ?_
  refine WpG.caseD (t := 29) rfl (fun q29 => ?_) (fun q29 => ?_)
  ·refine WpG.g tabOK 11 rfl ?_
   refine WpG.wk (WpG.ind1 (fun (j : Int) => ⟨((nth f.blocks i).phis.length - j).toNat, [(1, .int .i64 lv), (2, .pointer (some ⟨b1, 0, none⟩)), (6, .int .i64 i), (7, .int .i64 j)], H2, [], 0 ≤ j ∧ j ≤ (nth f.blocks i).phis.length ∧ (nth f.blocks i).phis.all (fun p => mayW p.bits) = ((nth f.blocks i).phis.drop j.toNat).all (fun p => mayW p.bits)⟩) ?_ 0 ⟨by omega, by omega, rfl⟩) rfl
   intro j inv ih3
   obtain ⟨j0, j1, j2⟩ := inv
   refine WpG.g tabOK 5 rfl ?_
   refine WpG.y rfl rfl rfl rfl (RunY.loadH tabOK (hc2.sub 2 1) (Hp.le.refl _) rfl rfl rfl rfl) ?_
   refine WpG.g tabOK 1 rfl ?_
   refine WpG.indexR tabOK rfl rfl rfl rfl rfl rfl rfl rfl rfl r_f_2 (by omega) (by omega) ?_
   rintro x4 hx4 b4 o4 cs4 rd4 hc4
   have rd4' := rd4; obtain ⟨A4_0, c4_0, A4_1, c4_1, A4_4, c4_4, rfl, u4_0, r4_0, u4_1, r4_1, u4_4, r4_4, k4_0, k4_1⟩ := rd4
   have bz4_0 := r4_0.1
   have bz4_1 := r4_1.1
   have bz4_4 := r4_4.1
   obtain rfl : x4 = (nth f.blocks i) := hx4
   refine WpG.g tabOK 1 rfl ?_
   refine WpG.y rfl rfl rfl rfl (RunY.loadH tabOK (hc4.sub 0 1) hH2 rfl rfl rfl rfl) ?_
   refine WpG.g tabOK 3 rfl ?_
   refine WpG.caseD (t := 40) rfl (fun q40 => ?_) (fun q40 => ?_)
   ·refine WpG.g tabOK 7 rfl ?_
    refine WpG.y rfl rfl rfl rfl (RunY.loadH tabOK (hc2.sub 2 1) (Hp.le.refl _) rfl rfl rfl rfl) ?_
    refine WpG.g tabOK 1 rfl ?_
    refine WpG.indexR tabOK rfl rfl rfl rfl rfl rfl rfl rfl rfl r_f_2 (by omega) (by omega) ?_
    rintro x5 hx5 b5 o5 cs5 rd5 hc5
    have rd5' := rd5; obtain ⟨A5_0, c5_0, A5_1, c5_1, A5_4, c5_4, rfl, u5_0, r5_0, u5_1, r5_1, u5_4, r5_4, k5_0, k5_1⟩ := rd5
    have bz5_0 := r5_0.1
    have bz5_1 := r5_1.1
    have bz5_4 := r5_4.1
    obtain rfl : x5 = (nth f.blocks i) := hx5
    refine WpG.g tabOK 1 rfl ?_
    refine WpG.y rfl rfl rfl rfl (RunY.loadH tabOK (hc5.sub 0 1) hH2 rfl rfl rfl rfl) ?_
    refine WpG.g tabOK 1 rfl ?_
    refine WpG.indexR tabOK rfl rfl rfl rfl rfl rfl rfl rfl rfl r5_0 (by omega) (by omega) ?_
    rintro x6 hx6 b6 o6 cs6 rd6 hc6
    have rd6' := rd6; obtain ⟨A6_2, c6_2, A6_3, c6_3, rfl, u6_2, r6_2, u6_3, r6_3, k6_0, k6_1⟩ := rd6
    have bz6_2 := r6_2.1
    have bz6_3 := r6_3.1
    obtain rfl : x6 = (nth ((nth f.blocks i).phis) j) := hx6
    refine WpG.g tabOK 1 rfl ?_
    refine WpG.y rfl rfl rfl rfl (RunY.loadH tabOK (hc6.sub 0 1) hH2 rfl rfl rfl rfl) ?_
    refine WpG.callS rfl rfl rfl rfl rfl rfl (Hp.le.refl _) (rMayW_calls ((nth ((nth f.blocks i).phis) j).bits)) ?_
    refine WpG.g tabOK 2 rfl ?_
    refine WpG.caseBn (t := 54) rfl (fun q54 => ?_) (fun q54 => ?_)
    ·refine WpG.g tabOK 5 rfl ?_
     exact WpG.ret tabOK (L' := []) (.tmp rfl .nil) .slnil ⟨congrArg Value.bool (by clear ih1 ih2 ih3; exact typed2 (all_no i2 i0 q29 rfl (typ_p (all_no j2 j0 q40 rfl q54)))), rfl⟩
    ·refine WpG.gw tabOK 6 42 rfl (wrk (x := j + 1) (by omega) (by omega)) ?_
     refine WpG.g tabOK 3 rfl ?_
     refine WpG.wk (ih3 (j + 1) ?_ ?_) rfl
     ·dsimp only
      omega
     ·
      clear ih1 ih2 ih3
      exact ⟨by omega, by omega, all_step j2 j0 q40 rfl q54⟩
   ·refine WpG.g tabOK 8 rfl ?_
    refine WpG.wk (WpG.ind1 (fun (k : Int) => ⟨((nth f.blocks i).ops.length - k).toNat, [(1, .int .i64 lv), (2, .pointer (some ⟨b1, 0, none⟩)), (6, .int .i64 i), (8, .int .i64 k)], H2, [], 0 ≤ k ∧ k ≤ (nth f.blocks i).ops.length ∧ (nth f.blocks i).ops.all (fun o => ofOpD lv o) = ((nth f.blocks i).ops.drop k.toNat).all (fun o => ofOpD lv o)⟩) ?_ 0 ⟨by omega, by omega, rfl⟩) rfl
    intro k inv ih4
    obtain ⟨k0, k1, k2⟩ := inv
    refine WpG.g tabOK 5 rfl ?_
    refine WpG.y rfl rfl rfl rfl (RunY.loadH tabOK (hc2.sub 2 1) (Hp.le.refl _) rfl rfl rfl rfl) ?_
    refine WpG.g tabOK 1 rfl ?_
    refine WpG.indexR tabOK rfl rfl rfl rfl rfl rfl rfl rfl rfl r_f_2 (by omega) (by omega) ?_
    rintro x7 hx7 b7 o7 cs7 rd7 hc7
    have rd7' := rd7; obtain ⟨A7_0, c7_0, A7_1, c7_1, A7_4, c7_4, rfl, u7_0, r7_0, u7_1, r7_1, u7_4, r7_4, k7_0, k7_1⟩ := rd7
    have bz7_0 := r7_0.1
    have bz7_1 := r7_1.1
    have bz7_4 := r7_4.1
    obtain rfl : x7 = (nth f.blocks i) := hx7
    refine WpG.g tabOK 1 rfl ?_
    refine WpG.y rfl rfl rfl rfl (RunY.loadH tabOK (hc7.sub 1 1) hH2 rfl rfl rfl rfl) ?_
    refine WpG.g tabOK 3 rfl ?_
    refine WpG.caseD (t := 63) rfl (fun q63 => ?_) (fun q63 => ?_)
    ·refine WpG.g tabOK 7 rfl ?_
     refine WpG.y rfl rfl rfl rfl (RunY.loadH tabOK (hc2.sub 2 1) (Hp.le.refl _) rfl rfl rfl rfl) ?_
     refine WpG.g tabOK 1 rfl ?_
     refine WpG.indexR tabOK rfl rfl rfl rfl rfl rfl rfl rfl rfl r_f_2 (by omega) (by omega) ?_
     rintro x8 hx8 b8 o8 cs8 rd8 hc8
     have rd8' := rd8; obtain ⟨A8_0, c8_0, A8_1, c8_1, A8_4, c8_4, rfl, u8_0, r8_0, u8_1, r8_1, u8_4, r8_4, k8_0, k8_1⟩ := rd8
     have bz8_0 := r8_0.1
     have bz8_1 := r8_1.1
     have bz8_4 := r8_4.1
     obtain rfl : x8 = (nth f.blocks i) := hx8
     refine WpG.g tabOK 1 rfl ?_
     refine WpG.y rfl rfl rfl rfl (RunY.loadH tabOK (hc8.sub 1 1) hH2 rfl rfl rfl rfl) ?_
     refine WpG.g tabOK 1 rfl ?_
     refine WpG.indexR tabOK rfl rfl rfl rfl rfl rfl rfl rfl rfl r8_1 (by omega) (by omega) ?_
     rintro x9 hx9 b9 o9 cs9 rd9 hc9
     have rd9' := rd9; obtain ⟨A9_4, c9_4, rfl, u9_4, r9_4, k9_0, k9_1, k9_2, k9_3, k9_4⟩ := rd9
     have bz9_4 := r9_4.1
     obtain rfl : x9 = (nth ((nth f.blocks i).ops) k) := hx9
     refine WpG.y rfl rfl rfl rfl (RunY.loadH tabOK hc9 hH2 rfl rfl rfl rfl) ?_
     refine WpG.alloc tabOK rfl rfl rfl rfl rfl (fun b10 => ?_)
     refine WpG.storeBox (ci := 0) (cs' := [.int .i64 ((nth ((nth f.blocks i).ops) k).kind), .int .i64 ((nth ((nth f.blocks i).ops) k).bits), .int .i64 ((nth ((nth f.blocks i).ops) k).lanes), .int .i64 ((nth ((nth f.blocks i).ops) k).dst), .slice A9_4 ((nth ((nth f.blocks i).ops) k).args.length) c9_4, .int .u64 ((nth ((nth f.blocks i).ops) k).imm)]) tabOK rfl rfl rfl rfl rfl rfl rfl rfl rfl ?_
     refine WpG.freezeBox (ci := 0) rfl (fun H11 hH11 hc11 => ?_)
     refine WpG.g tabOK 11 rfl ?_
     apply WpG.joinP (True) (G := [(1, .int .i64 lv), (2, .pointer (some ⟨b1, 0, none⟩)), (6, .int .i64 i), (8, .int .i64 k), (9, .pointer (some ⟨b10, 0, none⟩)), (10, .int .i64 (if lv = 1 then 20 else 22))])
     ·intro nx12
      refine WpG.caseE (t := 76) rfl (fun q76 => ?_) (fun q76 => ?_)
      ·refine WpG.g tabOK 4 rfl ?_
       exact (nx12 (trivial)).weak ⟨rfl, rfl, rfl, rfl, rfl, (congrArg (fun x => some (Value.int .i64 x)) (if_pos q76).symm), trivial⟩
      ·refine WpG.g tabOK 2 rfl ?_
       exact (nx12 (trivial)).weak ⟨rfl, rfl, rfl, rfl, rfl, (congrArg (fun x => some (Value.int .i64 x)) (if_neg q76).symm), trivial⟩
     intro _
     refine WpG.g tabOK 6 rfl ?_
     apply WpG.joinP (True) (G := [(1, .int .i64 lv), (2, .pointer (some ⟨b1, 0, none⟩)), (6, .int .i64 i), (8, .int .i64 k), (9, .pointer (some ⟨b10, 0, none⟩)), (10, .int .i64 (mostD lv))])
     ·intro nx13
      refine WpG.caseE (t := 78) rfl (fun q78 => ?_) (fun q78 => ?_)
      ·refine WpG.g tabOK 4 rfl ?_
       exact (nx13 (trivial)).weak ⟨rfl, rfl, rfl, rfl, rfl, (congrArg (fun x => some (Value.int .i64 x)) (if_pos q78).symm), trivial⟩
      ·refine WpG.g tabOK 2 rfl ?_
       exact (nx13 (trivial)).weak ⟨rfl, rfl, rfl, rfl, rfl, (congrArg (fun x => some (Value.int .i64 x)) (if_neg q78).symm), trivial⟩
     intro _
     refine WpG.g tabOK 1 rfl ?_
     apply WpG.join (G := [(1, .int .i64 lv), (2, .pointer (some ⟨b1, 0, none⟩)), (6, .int .i64 i), (8, .int .i64 k), (96, .bool (((!(mayO (nth ((nth f.blocks i).ops) k))) || (decide (((nth ((nth f.blocks i).ops) k).kind) > (mostD lv)))) || ((decide (lv < 2)) && (decide (((nth ((nth f.blocks i).ops) k).lanes) > 1)))))])
     ·intro nx14
      refine WpG.g tabOK 1 rfl ?_
      refine WpG.y rfl rfl rfl rfl (RunY.loadH tabOK hc11 (Hp.le.refl _) rfl rfl rfl rfl) ?_
      refine WpG.callS rfl rfl rfl rfl rfl rfl (Hp.le.refl _) (rMayO_calls (Rdc.mono (hH2.trans hH11) rd9')) ?_
      refine WpG.g tabOK 2 rfl ?_
      refine WpG.caseBn (t := 82) rfl (fun q82 => ?_) (fun q82 => ?_)
      ·refine WpG.g tabOK 15 rfl ?_
       exact nx14.weak ⟨rfl, rfl, rfl, rfl, bq (by simp [q82]), trivial⟩
      ·refine WpG.g tabOK 1 rfl ?_
       refine WpG.y rfl rfl rfl rfl (RunY.loadH tabOK (hc11.sub 0 1) (Hp.le.refl _) rfl rfl rfl rfl) ?_
       refine WpG.g tabOK 4 rfl ?_
       refine WpG.caseD (t := 88) rfl (fun q88 => ?_) (fun q88 => ?_)
       ·refine WpG.g tabOK 9 rfl ?_
        exact nx14.weak ⟨rfl, rfl, rfl, rfl, bq (by simp [q82, q88]), trivial⟩
       ·refine WpG.g tabOK 3 rfl ?_
        refine WpG.caseD (t := 91) rfl (fun q91 => ?_) (fun q91 => ?_)
        ·refine WpG.g tabOK 1 rfl ?_
         refine WpG.y rfl rfl rfl rfl (RunY.loadH tabOK (hc11.sub 2 1) (Hp.le.refl _) rfl rfl rfl rfl) ?_
         refine WpG.g tabOK 4 rfl ?_
         exact nx14.weak ⟨rfl, rfl, rfl, rfl, bq (by simp [q82, q88, q91]), trivial⟩
        ·refine WpG.g tabOK 6 rfl ?_
         exact nx14.weak ⟨rfl, rfl, rfl, rfl, bq (by simp [q82, q88, q91]), trivial⟩
     refine WpG.caseB (t := 96) rfl (fun q96 => ?_) (fun q96 => ?_)
     ·refine WpG.g tabOK 5 rfl ?_
      exact WpG.ret tabOK (L' := []) (.tmp rfl .nil) .slnil ⟨congrArg Value.bool (by clear ih1 ih2 ih3 ih4; exact typed2 (all_no i2 i0 q29 rfl (typ_o (all_no k2 k0 q63 rfl (of_t l0 l1 q96))))), rfl⟩
     ·refine WpG.gw tabOK 6 65 rfl (wrk (x := k + 1) (by omega) (by omega)) ?_
      refine WpG.g tabOK 3 rfl ?_
      refine WpG.lessH hH2 hH11 ?_
      refine WpG.wk (ih4 (k + 1) ?_ ?_) rfl
      ·dsimp only
       omega
      ·
       clear ih1 ih2 ih3 ih4
       exact ⟨by omega, by omega, all_step k2 k0 q63 rfl (of_f l0 l1 q96)⟩
    ·refine WpG.gw tabOK 6 31 rfl (wrk (x := i + 1) (by omega) (by omega)) ?_
     refine WpG.g tabOK 3 rfl ?_
     refine WpG.wk (ih2 (i + 1) ?_ ?_) rfl
     ·dsimp only
      omega
     ·
      clear ih1 ih2 ih3 ih4
      exact ⟨by omega, by omega, all_step i2 i0 q29 rfl (typ_y (all_end j2 j0 q40) (all_end k2 k0 q63))⟩
  ·refine WpG.g tabOK 5 rfl ?_
   refine WpG.y rfl rfl rfl rfl (RunY.loadH tabOK (hc2.sub 1 1) (Hp.le.refl _) rfl rfl rfl rfl) ?_
   refine WpG.callS rfl rfl rfl rfl rfl rfl (Hp.le.refl _) (rMayW_calls f.ret) ?_
   refine WpG.g tabOK 2 rfl ?_
   exact WpG.ret tabOK (L' := []) (.tmp rfl .nil) .slnil ⟨congrArg Value.bool (by clear ih1 ih2; exact typed3 (all_end a2 a0 q15) (all_end i2 i0 q29)), rfl⟩
set_option maxHeartbeats 1000000 in
theorem rShapeF_calls {H : Hp} {f : FuncD} {cs_f : List Value} (rd_f : Rdc.rd H cs_f f) : CallG Tryz.prog 21 [.agg cs_f.toArray] H [] (fun v H' L' => ∃ b, v = .bool b ∧ ((ofD f).2 ≠ 0 → b = false) ∧ ((ofD f).2 = 0 → ∀ tl, TreeP (ofD f).1.succ 0 tl → b = shapeW f tl) ∧ (b = true → FitAll f) ∧ L' = []) := by
 have rd_f' := rd_f; obtain ⟨A_f_0, c_f_0, A_f_2, c_f_2, rfl, u_f_0, r_f_0, u_f_2, r_f_2, k_f_0⟩ := rd_f
 have bf := r_f_2.1
 refine CallG.of Tryz.func21 rfl rfl rfl fun w0 => ?_
 refine WpG.g tabOK 2 rfl ?_
 refine WpG.box rfl rfl rfl rfl rfl (fun b1 => ?_)
 refine WpG.freezeBox (ci := 0) rfl (fun H2 hH2 hc2 => ?_)
 refine WpG.g tabOK 4 rfl ?_
 refine WpG.y rfl rfl rfl rfl (RunY.loadH tabOK hc2 (Hp.le.refl _) rfl rfl rfl rfl) ?_
 refine WpG.call0 rfl rfl rfl rfl rfl rfl (rOf_calls (Rdc.mono hH2 rd_f')) ?_
 rintro _ H3 _ hH3 ⟨A3, c3, B3, d3, rfl, ua3, ra3, ub3, rb3, rfl⟩
 refine WpG.g tabOK 3 rfl ?_
 refine WpG.alloc tabOK rfl rfl rfl rfl rfl (fun b4 => ?_)
 refine WpG.storeBox (ci := 0) (cs' := [.slice A3 ((ofD f).1.succ.length) c3, .slice B3 ((ofD f).1.pred.length) d3]) tabOK rfl rfl rfl rfl rfl rfl rfl rfl rfl ?_
 refine WpG.freezeBox (ci := 0) rfl (fun H5 hH5 hc5 => ?_)
 refine WpG.g tabOK 8 rfl ?_
 refine WpG.caseN (t := 15) rfl (fun q15 => ?_) (fun q15 => ?_)
 ·refine WpG.g tabOK 5 rfl ?_
  exact WpG.ret tabOK (L' := []) (.tmp rfl .nil) .slnil ⟨_, rfl, fun _ => rfl, fun h => absurd h q15, (fun h => by cases h), rfl⟩
 ·refine WpG.g tabOK 4 rfl ?_
  refine WpG.y rfl rfl rfl rfl (RunY.loadH tabOK hc5 (Hp.le.refl _) rfl rfl rfl rfl) ?_
  have hrw := of_rows q15
  refine WpG.call0 rfl rfl rfl rfl rfl rfl (rReach_calls (Rdc.mono hH5 ⟨_, _, _, _, rfl, ua3, ra3, ub3, rb3⟩) 0 (-1) hrw.1 (by omega) (by have := hrw.2.1; have := hrw.2.2.2.1; omega)) ?_
  rintro _ H6 _ hH6 ⟨A6, c6, bs, hx, rfl, u6, r6, rfl⟩
  have hl := hx.1
  have hl2 := hrw.2.1; have hl3 := hrw.2.2.1
  refine WpG.g tabOK 9 rfl ?_
  refine WpG.wk (WpG.ind1 (fun (i : Int) => ⟨(f.blocks.length - i).toNat, [(1, .pointer (some ⟨b1, 0, none⟩)), (3, .pointer (some ⟨b4, 0, none⟩)), (5, .slice A6 bs.length c6), (6, .int .i64 i)], H6, [], 0 ≤ i ∧ i ≤ f.blocks.length ∧ (∀ tl, TreeP (ofD f).1.succ 0 tl → shapeW f tl = fitFrom (ofD f).1 tl i (f.blocks.drop i.toNat)) ∧ FitTo f i⟩) ?_ 0 ⟨by omega, by omega, fun tl _ => rfl, FitTo.zero⟩) rfl
  intro i inv ih1
  obtain ⟨i0, i1, i2, i3⟩ := inv
  refine WpG.g tabOK 5 rfl ?_
  refine WpG.y rfl rfl rfl rfl (RunY.loadH tabOK (hc2.sub 2 1) ((hH3.trans hH5).trans hH6) rfl rfl rfl rfl) ?_
  refine WpG.g tabOK 3 rfl ?_
  refine WpG.caseD (t := 22) rfl (fun q22 => ?_) (fun q22 => ?_)
  ·refine WpG.g tabOK 7 rfl ?_
   refine WpG.y rfl rfl rfl rfl (RunY.loadH tabOK (hc2.sub 2 1) ((hH3.trans hH5).trans hH6) rfl rfl rfl rfl) ?_
   refine WpG.g tabOK 1 rfl ?_
   refine WpG.indexR tabOK rfl rfl rfl rfl rfl rfl rfl rfl rfl r_f_2 (by omega) (by omega) ?_
   rintro x7 hx7 b7 o7 cs7 rd7 hc7
   have rd7' := rd7; obtain ⟨A7_0, c7_0, A7_1, c7_1, A7_4, c7_4, rfl, u7_0, r7_0, u7_1, r7_1, u7_4, r7_4, k7_0, k7_1⟩ := rd7
   have bz7_0 := r7_0.1
   have bz7_1 := r7_1.1
   have bz7_4 := r7_4.1
   obtain rfl : x7 = (nth f.blocks i) := hx7
   refine WpG.y rfl rfl rfl rfl (RunY.loadH tabOK hc7 (((hH2.trans hH3).trans hH5).trans hH6) rfl rfl rfl rfl) ?_
   refine WpG.alloc tabOK rfl rfl rfl rfl rfl (fun b8 => ?_)
   refine WpG.storeBox (ci := 0) (cs' := [.slice A7_0 ((nth f.blocks i).phis.length) c7_0, .slice A7_1 ((nth f.blocks i).ops.length) c7_1, .int .i64 ((nth f.blocks i).en.kind), .int .i64 ((nth f.blocks i).en.arg), .slice A7_4 ((nth f.blocks i).en.to.length) c7_4]) tabOK rfl rfl rfl rfl rfl rfl rfl rfl rfl ?_
   refine WpG.freezeBox (ci := 0) rfl (fun H9 hH9 hc9 => ?_)
   refine WpG.g tabOK 3 rfl ?_
   apply WpG.join (G := [(1, .pointer (some ⟨b1, 0, none⟩)), (3, .pointer (some ⟨b4, 0, none⟩)), (5, .slice A6 bs.length c6), (6, .int .i64 i), (7, .pointer (some ⟨b8, 0, none⟩)), (52, .bool ((!(nth bs i)) || (((((nth f.blocks i).en.kind) == 1) || (((nth f.blocks i).en.kind) == 3)) && (((nth f.blocks i).en.arg) != 0))))])
   ·intro nx10
    refine WpG.g tabOK 1 rfl ?_
    refine WpG.g tabOK 2 rfl ?_
    refine WpG.indexR tabOK rfl rfl rfl rfl rfl rfl rfl rfl rfl r6 (by omega) (by omega) ?_
    rintro x11 hx11 b11 o11 _ rfl hc11
    obtain rfl : x11 = (nth bs i) := hx11
    refine WpG.y rfl rfl rfl rfl (RunY.loadH tabOK hc11 hH9 rfl rfl rfl rfl) ?_
    refine WpG.g tabOK 2 rfl ?_
    refine WpG.caseBn (t := 35) rfl (fun q35 => ?_) (fun q35 => ?_)
    ·refine WpG.g tabOK 18 rfl ?_
     exact nx10.weak ⟨rfl, rfl, rfl, rfl, rfl, bq (by simp [q35]), trivial⟩
    ·refine WpG.g tabOK 2 rfl ?_
     refine WpG.y rfl rfl rfl rfl (RunY.loadH tabOK (hc9.sub 2 1) (Hp.le.refl _) rfl rfl rfl rfl) ?_
     refine WpG.g tabOK 2 rfl ?_
     refine WpG.caseE (t := 40) rfl (fun q40 => ?_) (fun q40 => ?_)
     ·refine WpG.g tabOK 8 rfl ?_
      refine WpG.y rfl rfl rfl rfl (RunY.loadH tabOK (hc9.sub 3 1) (Hp.le.refl _) rfl rfl rfl rfl) ?_
      refine WpG.g tabOK 4 rfl ?_
      exact nx10.weak ⟨rfl, rfl, rfl, rfl, rfl, bq (by simp [q35, q40]), trivial⟩
     ·refine WpG.g tabOK 2 rfl ?_
      refine WpG.y rfl rfl rfl rfl (RunY.loadH tabOK (hc9.sub 2 1) (Hp.le.refl _) rfl rfl rfl rfl) ?_
      refine WpG.g tabOK 3 rfl ?_
      refine WpG.caseE (t := 46) rfl (fun q46 => ?_) (fun q46 => ?_)
      ·refine WpG.g tabOK 2 rfl ?_
       refine WpG.y rfl rfl rfl rfl (RunY.loadH tabOK (hc9.sub 3 1) (Hp.le.refl _) rfl rfl rfl rfl) ?_
       refine WpG.g tabOK 4 rfl ?_
       exact nx10.weak ⟨rfl, rfl, rfl, rfl, rfl, bq (by simp [q35, q40, nb q40, q46]), trivial⟩
      ·refine WpG.g tabOK 7 rfl ?_
       exact nx10.weak ⟨rfl, rfl, rfl, rfl, rfl, bq (by simp [q35, q40, nb q40, q46, nb q46]), trivial⟩
   refine WpG.caseB (t := 52) rfl (fun q52 => ?_) (fun q52 => ?_)
   ·refine WpG.g tabOK 5 rfl ?_
    exact WpG.ret tabOK (L' := []) (.tmp rfl .nil) .slnil ⟨_, rfl, fun h => absurd q15 h, fun _ tl ht => fitR_no (i2 tl ht) ht hx hl2 i0 q22 q52, (fun h => by cases h), rfl⟩
   ·refine WpG.g tabOK 8 rfl ?_
    refine WpG.wk (WpG.ind1 (fun (j : Int) => ⟨((nth f.blocks i).phis.length - j).toNat, [(1, .pointer (some ⟨b1, 0, none⟩)), (3, .pointer (some ⟨b4, 0, none⟩)), (5, .slice A6 bs.length c6), (6, .int .i64 i), (7, .pointer (some ⟨b8, 0, none⟩)), (8, .int .i64 j)], H9, [], 0 ≤ j ∧ j ≤ (nth f.blocks i).phis.length ∧ (nth f.blocks i).phis.all (phiFit (nth (ofD f).1.pred i)) = ((nth f.blocks i).phis.drop j.toNat).all (phiFit (nth (ofD f).1.pred i))⟩) ?_ 0 ⟨by omega, by omega, rfl⟩) rfl
    intro j inv ih2
    obtain ⟨j0, j1, j2⟩ := inv
    refine WpG.g tabOK 5 rfl ?_
    refine WpG.y rfl rfl rfl rfl (RunY.loadH tabOK (hc9.sub 0 1) (Hp.le.refl _) rfl rfl rfl rfl) ?_
    refine WpG.g tabOK 3 rfl ?_
    refine WpG.caseD (t := 57) rfl (fun q57 => ?_) (fun q57 => ?_)
    ·refine WpG.g tabOK 5 rfl ?_
     refine WpG.draw 38 [] mixed (by kernel_rfl) ?_
     refine WpD.g (listed' := lst 38 5) tabOK [0, 2] (by kernel_rfl) rfl ((((hH2.trans hH3).trans hH5).trans hH6).trans hH9) (Hp.le.refl _) .slnil ?_
     refine WpD.y (i := 1) (fuel := 35) (listed' := lst 38 7) (by kernel_rfl) rfl rfl rfl rfl ((((hH2.trans hH3).trans hH5).trans hH6).trans hH9) (Hp.le.refl _) .slnil (RunY.loadH tabOK (hc5.sub 1 1) (hH6.trans hH9) rfl rfl rfl rfl) ?_
     refine WpD.indexR (i := 3) (fuel := 34) (listed' := lst 38 15) tabOK (by kernel_rfl) rfl rfl rfl rfl rfl rfl rfl rfl rfl ((((hH2.trans hH3).trans hH5).trans hH6).trans hH9) (Hp.le.refl _) .slnil rb3 (by omega) (by omega) ?_
     rintro x12 hx12 b12 o12 _ ⟨A12, c12, rfl, u12, r12⟩ hc12
     have bz12 := r12.1
     obtain rfl : x12 = (nth ((ofD f).1.pred) i) := hx12
     refine WpD.y (i := 4) (fuel := 33) (listed' := lst 38 31) (by kernel_rfl) rfl rfl rfl rfl ((((hH2.trans hH3).trans hH5).trans hH6).trans hH9) (Hp.le.refl _) .slnil (RunY.loadH tabOK hc12 ((hH5.trans hH6).trans hH9) rfl rfl rfl rfl) ?_
     refine WpD.g (listed' := lst 38 255) tabOK [5, 6, 7] (by kernel_rfl) rfl ((((hH2.trans hH3).trans hH5).trans hH6).trans hH9) (Hp.le.refl _) .slnil ?_
     refine WpD.caseE (t := 67) rfl (fun q67 => ?_) (fun q67 => ?_)
     ·refine WpD.g (listed' := lst 38 274877906943) tabOK [8, 9, 10, 11, 12, 13, 14, 15, 16, 17, 18, 19, 20, 21, 22, 23, 24, 25, 26, 27, 28, 29, 30, 31, 32, 33, 34, 35, 36, 37] (by kernel_rfl) rfl ((((hH2.trans hH3).trans hH5).trans hH6).trans hH9) (Hp.le.refl _) .slnil ?_
      refine WpD.done (by kernel_rfl) ?_
      refine WpG.g tabOK 5 rfl ?_
      exact WpG.ret tabOK (L' := []) (.tmp rfl .nil) .slnil ⟨_, rfl, fun h => absurd q15 h, fun _ tl ht => (fit_no (i2 tl ht) i0 q22 rfl (.inr (.inl (all_no j2 j0 q57 rfl (phiR_no (.inl q67)))))).symm, (fun h => by cases h), rfl⟩
     ·refine WpD.g (listed' := lst 38 83455) tabOK [8, 10, 14, 16] (by kernel_rfl) rfl ((((hH2.trans hH3).trans hH5).trans hH6).trans hH9) (Hp.le.refl _) .slnil ?_
      refine WpD.y (i := 9) (fuel := 25) (listed' := lst 38 83967) (by kernel_rfl) rfl rfl rfl rfl ((((hH2.trans hH3).trans hH5).trans hH6).trans hH9) (Hp.le.refl _) .slnil (RunY.loadH tabOK (hc9.sub 0 1) (Hp.le.refl _) rfl rfl rfl rfl) ?_
      refine WpD.indexR (i := 11) (fuel := 24) (listed' := lst 38 86015) tabOK (by kernel_rfl) rfl rfl rfl rfl rfl rfl rfl rfl rfl ((((hH2.trans hH3).trans hH5).trans hH6).trans hH9) (Hp.le.refl _) .slnil r7_0 (by omega) (by omega) ?_
      rintro x13 hx13 b13 o13 cs13 rd13 hc13
      have rd13' := rd13; obtain ⟨A13_2, c13_2, A13_3, c13_3, rfl, u13_2, r13_2, u13_3, r13_3, k13_0, k13_1⟩ := rd13
      have bz13_2 := r13_2.1
      have bz13_3 := r13_3.1
      obtain rfl : x13 = (nth ((nth f.blocks i).phis) j) := hx13
      refine WpD.g (listed' := lst 38 90111) tabOK [12] (by kernel_rfl) rfl ((((hH2.trans hH3).trans hH5).trans hH6).trans hH9) (Hp.le.refl _) .slnil ?_
      refine WpD.y (i := 13) (fuel := 22) (listed' := lst 38 98303) (by kernel_rfl) rfl rfl rfl rfl ((((hH2.trans hH3).trans hH5).trans hH6).trans hH9) (Hp.le.refl _) .slnil (RunY.loadH tabOK (hc13.sub 2 1) ((((hH2.trans hH3).trans hH5).trans hH6).trans hH9) rfl rfl rfl rfl) ?_
      refine WpD.y (i := 15) (fuel := 21) (listed' := lst 38 131071) (by kernel_rfl) rfl rfl rfl rfl ((((hH2.trans hH3).trans hH5).trans hH6).trans hH9) (Hp.le.refl _) .slnil (RunY.loadH tabOK (hc5.sub 1 1) (hH6.trans hH9) rfl rfl rfl rfl) ?_
      refine WpD.indexR (i := 17) (fuel := 20) (listed' := lst 38 262143) tabOK (by kernel_rfl) rfl rfl rfl rfl rfl rfl rfl rfl rfl ((((hH2.trans hH3).trans hH5).trans hH6).trans hH9) (Hp.le.refl _) .slnil rb3 (by omega) (by omega) ?_
      rintro x14 hx14 b14 o14 _ ⟨A14, c14, rfl, u14, r14⟩ hc14
      have bz14 := r14.1
      obtain rfl : x14 = (nth ((ofD f).1.pred) i) := hx14
      refine WpD.y (i := 18) (fuel := 19) (listed' := lst 38 524287) (by kernel_rfl) rfl rfl rfl rfl ((((hH2.trans hH3).trans hH5).trans hH6).trans hH9) (Hp.le.refl _) .slnil (RunY.loadH tabOK hc14 ((hH5.trans hH6).trans hH9) rfl rfl rfl rfl) ?_
      refine WpD.callS (i := 19) (fuel := 18) (listed' := lst 38 1048575) (by kernel_rfl) rfl rfl rfl rfl rfl rfl (Hp.le.refl _) (rInts_calls (r13_2.mono ((((hH2.trans hH3).trans hH5).trans hH6).trans hH9)) (r14.mono ((hH5.trans hH6).trans hH9))) ((((hH2.trans hH3).trans hH5).trans hH6).trans hH9) (Hp.le.refl _) .slnil ?_
      refine WpD.g (listed' := lst 38 8388607) tabOK [20, 21, 22] (by kernel_rfl) rfl ((((hH2.trans hH3).trans hH5).trans hH6).trans hH9) (Hp.le.refl _) .slnil ?_
      refine WpD.caseBn (t := 82) rfl (fun q82 => ?_) (fun q82 => ?_)
      ·refine WpD.g (listed' := lst 38 274877906943) tabOK [23, 24, 25, 26, 27, 28, 29, 30, 31, 32, 33, 34, 35, 36, 37] (by kernel_rfl) rfl ((((hH2.trans hH3).trans hH5).trans hH6).trans hH9) (Hp.le.refl _) .slnil ?_
       refine WpD.done (by kernel_rfl) ?_
       refine WpG.g tabOK 5 rfl ?_
       exact WpG.ret tabOK (L' := []) (.tmp rfl .nil) .slnil ⟨_, rfl, fun h => absurd q15 h, fun _ tl ht => (fit_no (i2 tl ht) i0 q22 rfl (.inr (.inl (all_no j2 j0 q57 rfl (phiR_no (.inr (.inl q82))))))).symm, (fun h => by cases h), rfl⟩
      ·refine WpD.g (listed' := lst 38 5419040767) tabOK [23, 25, 30, 32] (by kernel_rfl) rfl ((((hH2.trans hH3).trans hH5).trans hH6).trans hH9) (Hp.le.refl _) .slnil ?_
       refine WpD.y (i := 24) (fuel := 10) (listed' := lst 38 5435817983) (by kernel_rfl) rfl rfl rfl rfl ((((hH2.trans hH3).trans hH5).trans hH6).trans hH9) (Hp.le.refl _) .slnil (RunY.loadH tabOK (hc9.sub 0 1) (Hp.le.refl _) rfl rfl rfl rfl) ?_
       refine WpD.indexR (i := 26) (fuel := 9) (listed' := lst 38 5502926847) tabOK (by kernel_rfl) rfl rfl rfl rfl rfl rfl rfl rfl rfl ((((hH2.trans hH3).trans hH5).trans hH6).trans hH9) (Hp.le.refl _) .slnil r7_0 (by omega) (by omega) ?_
       rintro x15 hx15 b15 o15 cs15 rd15 hc15
       have rd15' := rd15; obtain ⟨A15_2, c15_2, A15_3, c15_3, rfl, u15_2, r15_2, u15_3, r15_3, k15_0, k15_1⟩ := rd15
       have bz15_2 := r15_2.1
       have bz15_3 := r15_3.1
       obtain rfl : x15 = (nth ((nth f.blocks i).phis) j) := hx15
       refine WpD.g (listed' := lst 38 5637144575) tabOK [27] (by kernel_rfl) rfl ((((hH2.trans hH3).trans hH5).trans hH6).trans hH9) (Hp.le.refl _) .slnil ?_
       refine WpD.y (i := 28) (fuel := 7) (listed' := lst 38 5905580031) (by kernel_rfl) rfl rfl rfl rfl ((((hH2.trans hH3).trans hH5).trans hH6).trans hH9) (Hp.le.refl _) .slnil (RunY.loadH tabOK (hc15.sub 3 1) ((((hH2.trans hH3).trans hH5).trans hH6).trans hH9) rfl rfl rfl rfl) ?_
       refine WpD.g (listed' := lst 38 6442450943) tabOK [29] (by kernel_rfl) rfl ((((hH2.trans hH3).trans hH5).trans hH6).trans hH9) (Hp.le.refl _) .slnil ?_
       refine WpD.y (i := 31) (fuel := 5) (listed' := lst 38 8589934591) (by kernel_rfl) rfl rfl rfl rfl ((((hH2.trans hH3).trans hH5).trans hH6).trans hH9) (Hp.le.refl _) .slnil (RunY.loadH tabOK (hc5.sub 1 1) (hH6.trans hH9) rfl rfl rfl rfl) ?_
       refine WpD.indexR (i := 33) (fuel := 4) (listed' := lst 38 17179869183) tabOK (by kernel_rfl) rfl rfl rfl rfl rfl rfl rfl rfl rfl ((((hH2.trans hH3).trans hH5).trans hH6).trans hH9) (Hp.le.refl _) .slnil rb3 (by omega) (by omega) ?_
       rintro x16 hx16 b16 o16 _ ⟨A16, c16, rfl, u16, r16⟩ hc16
       have bz16 := r16.1
       obtain rfl : x16 = (nth ((ofD f).1.pred) i) := hx16
       refine WpD.y (i := 34) (fuel := 3) (listed' := lst 38 34359738367) (by kernel_rfl) rfl rfl rfl rfl ((((hH2.trans hH3).trans hH5).trans hH6).trans hH9) (Hp.le.refl _) .slnil (RunY.loadH tabOK hc16 ((hH5.trans hH6).trans hH9) rfl rfl rfl rfl) ?_
       refine WpD.g (listed' := lst 38 274877906943) tabOK [35, 36, 37] (by kernel_rfl) rfl ((((hH2.trans hH3).trans hH5).trans hH6).trans hH9) (Hp.le.refl _) .slnil ?_
       refine WpD.done (by kernel_rfl) ?_
       refine WpG.caseN (t := 97) rfl (fun q97 => ?_) (fun q97 => ?_)
       ·refine WpG.g tabOK 5 rfl ?_
        exact WpG.ret tabOK (L' := []) (.tmp rfl .nil) .slnil ⟨_, rfl, fun h => absurd q15 h, fun _ tl ht => (fit_no (i2 tl ht) i0 q22 rfl (.inr (.inl (all_no j2 j0 q57 rfl (phiR_no (.inr (.inr q97))))))).symm, (fun h => by cases h), rfl⟩
       ·refine WpG.gw tabOK 6 59 rfl (wrk (x := j + 1) (by omega) (by omega)) ?_
        refine WpG.g tabOK 3 rfl ?_
        refine WpG.wk (ih2 (j + 1) ?_ ?_) rfl
        ·dsimp only
         omega
        ·
         clear ih1 ih2
         exact ⟨by omega, by omega, all_step j2 j0 q57 rfl (phiR_yes (by omega) (by assumption) (by omega))⟩
    ·refine WpG.gw tabOK 6 24 rfl (wrk (x := i + 1) (by omega) (by omega)) ?_
     refine WpG.g tabOK 3 rfl ?_
     refine WpG.lessH (((hH2.trans hH3).trans hH5).trans hH6) hH9 ?_
     refine WpG.wk (ih1 (i + 1) ?_ ?_) rfl
     ·dsimp only
      omega
     ·
      clear ih1 ih2
      exact ⟨by omega, by omega, fun tl ht => fitR_go (i2 tl ht) ht hx hl2 i0 q22 q52 (all_end j2 j0 q57), i3.step hx hl2 i0 q22 q52 (all_end j2 j0 q57)⟩
  ·refine WpG.g tabOK 6 rfl ?_
   exact WpG.ret tabOK (L' := []) (.tmp rfl .nil) .slnil ⟨_, rfl, fun h => absurd q15 h, fun _ tl ht => by rw [i2 tl ht, drop_end i0 q22]; rfl, (fun _ => i3.all q22), rfl⟩
end Go.Proofs.YtdjemlkllbhdlaaGreat
namespace Go.Proofs.YtdjemlkllbhdlaaGreat
open Go Go.RowKit
structure DefR where
  v : Int
  blk : Int
  pos : Int
  bits : Int
  lanes : Int
  deriving Inhabited
def IR (d : DefR) : Prop := I64 d.v ∧ I64 d.blk ∧ I64 d.pos ∧ I64 d.bits ∧ I64 d.lanes
instance : Rdc DefR where
  sz := 5
  rd _ vs x := vs = [.int .i64 x.v, .int .i64 x.blk, .int .i64 x.pos, .int .i64 x.bits, .int .i64 x.lanes] ∧ I64 x.v ∧ I64 x.blk ∧ I64 x.pos ∧ I64 x.bits ∧ I64 x.lanes
  len h := by rw [h.1]; rfl
  mono _ h := h
  one h := by rw [h.1]; rfl
def flatR (l : List DefR) : List Value := l.flatMap fun x => [.int .i64 x.v, .int .i64 x.blk, .int .i64 x.pos, .int .i64 x.bits, .int .i64 x.lanes]
theorem flatR_snoc (l : List DefR) (x : DefR) : flatR (l ++ [x]) = flatR l ++ [.int .i64 x.v, .int .i64 x.blk, .int .i64 x.pos, .int .i64 x.bits, .int .i64 x.lanes] := by simp [flatR]
def AllR (l : List DefR) : Prop := ∀ d ∈ l, IR d
theorem AllR_nil : AllR [] := fun d h => by cases h
theorem AllR_snoc {l : List DefR} {x : DefR} (h : AllR l) (hx : IR x) : AllR (l ++ [x]) := fun d hd => (List.mem_append.1 hd).elim (h d) fun h => by rw [List.mem_singleton.1 h]; exact hx
theorem RdL_defs {H : Hp} : ∀ (l : List DefR), AllR l → RdL H (flatR l) l
  | [], _ => rfl
  | x :: l, h => ⟨[.int .i64 x.v, .int .i64 x.blk, .int .i64 x.pos, .int .i64 x.bits, .int .i64 x.lanes], flatR l, rfl, ⟨rfl, h x (.head _)⟩, RdL_defs l fun d hd => h d (.tail _ hd)⟩
theorem i64s {x : Int} (h0 : 0 ≤ x) (h1 : x ≤ 9223372036854775807) : I64 x := ⟨by omega, by omega⟩
theorem I64_1 : I64 1 := ⟨by decide, by decide⟩
theorem I64_0 : I64 0 := ⟨by decide, by decide⟩
theorem I64_m : I64 (-1) := ⟨by decide, by decide⟩
theorem I64_k : I64 1000 := ⟨by decide, by decide⟩
theorem le_app {α : Type} {a b c : List α} (h : a = b ++ c) : b.length ≤ a.length := by rw [h, List.length_append]; omega
def parR : Int → List Int → List DefR
  | _, [] => []
  | i, b :: l => ⟨i + 1, -1, 0, b, 1⟩ :: parR (i + 1) l
def toR (p : PutD) : DefR := ⟨p.v, p.d.blk, p.d.pos, p.d.bits, p.d.lanes⟩
def defsR (f : FuncD) : List DefR := parR 0 f.params ++ (allPuts 0 f.blocks).map toR
theorem parR_step {r out T : List DefR} {ps : List Int} {a : Int} (h : r = out ++ (parR a (ps.drop a.toNat) ++ T)) (h0 : 0 ≤ a) (h1 : a < ps.length) : r = (out ++ [⟨a + 1, -1, 0, nth ps a, 1⟩]) ++ (parR (a + 1) (ps.drop (a + 1).toNat) ++ T) := by
  rw [h, drop_nth h0 h1, toNat_succ h0, List.append_assoc]; rfl
theorem parR_end {r out T : List DefR} {ps : List Int} {a : Int} (h : r = out ++ (parR a (ps.drop a.toNat) ++ T)) (h0 : 0 ≤ a) (h1 : ¬ a < ps.length) : r = out ++ T := by
  rw [h, drop_end h0 h1]; rfl
theorem allR_in {r out : List DefR} {bs : List BlockD} {i : Int} (h : r = out ++ (allPuts i (bs.drop i.toNat)).map toR) (h0 : 0 ≤ i) (h1 : i < bs.length) :
    r = out ++ ((phiPuts i ((nth bs i).phis.drop (0 : Int).toNat)).map toR ++ ((opsPuts i 0 (nth bs i).ops).map toR ++ (allPuts (i + 1) (bs.drop (i + 1).toNat)).map toR)) := by
  rw [h, drop_nth h0 h1, toNat_succ h0]
  show out ++ List.map toR (phiPuts i (nth bs i).phis ++ (opsPuts i 0 (nth bs i).ops ++ allPuts (i + 1) _)) = _
  rw [List.map_append, List.map_append]; rfl
theorem phiR_step {r out T : List DefR} {i j : Int} {ps : List PhiD} (h : r = out ++ ((phiPuts i (ps.drop j.toNat)).map toR ++ T)) (h0 : 0 ≤ j) (h1 : j < ps.length) : r = (out ++ [⟨(nth ps j).dst, i, -1, (nth ps j).bits, 1⟩]) ++ ((phiPuts i (ps.drop (j + 1).toNat)).map toR ++ T) := by
  rw [h, drop_nth h0 h1, toNat_succ h0, List.append_assoc]; rfl
theorem phiR_end {r out T : List DefR} {i j : Int} {ps : List PhiD} (h : r = out ++ ((phiPuts i (ps.drop j.toNat)).map toR ++ T)) (h0 : 0 ≤ j) (h1 : ¬ j < ps.length) : r = out ++ T := by
  rw [h, drop_end h0 h1]; rfl
theorem opR_yes {r out T : List DefR} {i k : Int} {os : List OpD} (h : r = out ++ ((opsPuts i k (os.drop k.toNat)).map toR ++ T)) (h0 : 0 ≤ k) (h1 : k < os.length) (hg : (givesF (nth os k)).1 > 0) :
    r = (out ++ [⟨(nth os k).dst, i, k, (givesF (nth os k)).1, (givesF (nth os k)).2⟩]) ++ ((opsPuts i (k + 1) (os.drop (k + 1).toNat)).map toR ++ T) := by
  rw [h, drop_nth h0 h1, toNat_succ h0, List.append_assoc]
  show out ++ (List.map toR ((if (givesF (nth os k)).1 > 0 then _ else _) ++ _) ++ T) = _
  rw [if_pos hg]; rfl
theorem opR_no {r out T : List DefR} {i k : Int} {os : List OpD} (h : r = out ++ ((opsPuts i k (os.drop k.toNat)).map toR ++ T)) (h0 : 0 ≤ k) (h1 : k < os.length) (hg : ¬ (givesF (nth os k)).1 > 0) :
    r = out ++ ((opsPuts i (k + 1) (os.drop (k + 1).toNat)).map toR ++ T) := by
  rw [h, drop_nth h0 h1, toNat_succ h0]
  show out ++ (List.map toR ((if (givesF (nth os k)).1 > 0 then _ else _) ++ _) ++ T) = _
  rw [if_neg hg]; rfl
theorem opR_end {r out T : List DefR} {i k : Int} {os : List OpD} (h : r = out ++ ((opsPuts i k (os.drop k.toNat)).map toR ++ T)) (h0 : 0 ≤ k) (h1 : ¬ k < os.length) : r = out ++ T := by
  rw [h, drop_end h0 h1]; rfl
theorem all_done {r out : List DefR} {bs : List BlockD} {i : Int} (h : r = out ++ (allPuts i (bs.drop i.toNat)).map toR) (h0 : 0 ≤ i) (h1 : ¬ i < bs.length) : out = r := by
  rw [h, drop_end h0 h1]; simp [allPuts]
theorem gives_I64 {o : OpD} (h1 : I64 o.bits) (h2 : I64 o.lanes) : I64 (givesF o).1 ∧ I64 (givesF o).2 := by
  have e : I64 1 := ⟨by decide, by decide⟩
  have z : I64 0 := ⟨by decide, by decide⟩
  unfold givesF
  repeat' split
  · exact ⟨z, z⟩
  · exact ⟨e, e⟩
  · exact ⟨h1, e⟩
  · exact ⟨h1, h2⟩
theorem rows_ret {H : Hp} {A : Option Addr} {n c : Nat} {l l' : List DefR} (e : l = l') (hn : n = l.length) (hc : n ≤ c) (r : RdS H A l) : ∃ A' c', Value.slice A n c = .slice A' l'.length c' ∧ l'.length ≤ c' ∧ RdS H A' l' ∧ ([] : List Chunk) = [] := by
  subst e; subst hn; exact ⟨A, c, rfl, hc, r, rfl⟩
def toU (a : AskD) : DefR := ⟨a.v, a.bl, if a.pos = 1048576 then 1000 else a.pos, a.s1, a.s2⟩
def usesR (f : FuncD) : List DefR := (asksF f).map toU
abbrev rest2 (ret i : Int) (b : BlockD) (T : List AskD) : List DefR := ((opsAsks i 0 b.ops ++ (endAsks ret i b.en ++ T))).map toU
theorem useR_in {r out : List DefR} {ret : Int} {bs : List BlockD} {i : Int} (h : r = out ++ (allAsks ret i (bs.drop i.toNat)).map toU) (h0 : 0 ≤ i) (h1 : i < bs.length) :
    r = out ++ ((((nth bs i).phis.drop (0 : Int).toNat).flatMap phiAsks).map toU ++ rest2 ret i (nth bs i) (allAsks ret (i + 1) (bs.drop (i + 1).toNat))) := by
  rw [h, drop_nth h0 h1, toNat_succ h0]
  show out ++ List.map toU (((nth bs i).phis.flatMap phiAsks ++ (opsAsks i 0 (nth bs i).ops ++ endAsks ret i (nth bs i).en)) ++ allAsks ret (i + 1) _) = _
  unfold rest2
  rw [List.append_assoc, List.append_assoc, List.map_append]; rfl
theorem useP_in {r out T : List DefR} {ps : List PhiD} {j : Int} (h : r = out ++ (((ps.drop j.toNat).flatMap phiAsks).map toU ++ T)) (h0 : 0 ≤ j) (h1 : j < ps.length) :
    r = out ++ (((phiAsks (nth ps j)).drop (0 : Int).toNat).map toU ++ (((ps.drop (j + 1).toNat).flatMap phiAsks).map toU ++ T)) := by
  rw [h, drop_nth h0 h1, toNat_succ h0, List.flatMap_cons, List.map_append, List.append_assoc]; rfl
theorem useA_step {r out T : List DefR} {p : PhiD} {q : Int} (h : r = out ++ (((phiAsks p).drop q.toNat).map toU ++ T)) (h0 : 0 ≤ q) (h1 : q < p.args.length) (h2 : q < p.frm.length) :
    r = (out ++ [⟨nth p.args q, nth p.frm q, 1000, p.bits, 1⟩]) ++ (((phiAsks p).drop (q + 1).toNat).map toU ++ T) := by
  unfold phiAsks at h ⊢
  rw [h, zipA_drop _ h0 h1 h2, List.append_assoc]; rfl
theorem useA_end {r out T : List DefR} {p : PhiD} {q : Int} (h : r = out ++ (((phiAsks p).drop q.toNat).map toU ++ T)) (hl : p.args.length = p.frm.length) (h0 : 0 ≤ q) (h1 : ¬ q < p.args.length) : r = out ++ T := by
  rw [h, List.drop_eq_nil_of_le (by unfold phiAsks; rw [zipA_len _ _ _ (by omega)]; omega)]; rfl
theorem useP_end {r out T : List DefR} {ps : List PhiD} {j : Int} (h : r = out ++ (((ps.drop j.toNat).flatMap phiAsks).map toU ++ T)) (h0 : 0 ≤ j) (h1 : ¬ j < ps.length) : r = out ++ T := by
  rw [h, drop_end h0 h1]; rfl
theorem rest2_eq (ret i : Int) (b : BlockD) (T : List AskD) : rest2 ret i b T = (opsAsks i 0 (b.ops.drop (0 : Int).toNat)).map toU ++ (endAsks ret i b.en ++ T).map toU := by unfold rest2; rw [List.map_append]; rfl
theorem useO_in {r out T : List DefR} {os : List OpD} {i k : Int} (h : r = out ++ ((opsAsks i k (os.drop k.toNat)).map toU ++ T)) (h0 : 0 ≤ k) (h1 : k < os.length) :
    r = out ++ (((opAsks i k (nth os k)).drop (0 : Int).toNat).map toU ++ ((opsAsks i (k + 1) (os.drop (k + 1).toNat)).map toU ++ T)) := by
  rw [h, drop_nth h0 h1, toNat_succ h0]
  show out ++ (List.map toU (opAsks i k (nth os k) ++ opsAsks i (k + 1) _) ++ T) = _
  rw [List.map_append, List.append_assoc]; rfl
theorem useT_step {r out T : List DefR} {o : OpD} {i k q : Int} (h : r = out ++ (((opAsks i k o).drop q.toNat).map toU ++ T)) (hk : k < 1048576) (h0 : 0 ≤ q) (h1 : q < o.args.length) (h2 : q < (takesF o).length) :
    r = (out ++ [⟨nth o.args q, i, k, (nth (takesF o) q).1, (nth (takesF o) q).2⟩]) ++ (((opAsks i k o).drop (q + 1).toNat).map toU ++ T) := by
  unfold opAsks at h ⊢
  rw [h, zipA_drop _ h0 h1 h2, List.append_assoc]
  show out ++ (toU ⟨nth o.args q, (nth (takesF o) q).1, (nth (takesF o) q).2, i, k⟩ :: _) = _
  unfold toU
  simp only [show ¬ k = 1048576 from by omega, if_false]; rfl
theorem takesR_le (o : OpD) : (takesF o).length ≤ o.args.length := by
  unfold takesF; split
  · rename_i h; rw [may_len h]; exact Nat.le_refl _
  · simp
theorem useT_end {r out T : List DefR} {o : OpD} {i k q : Int} (h : r = out ++ (((opAsks i k o).drop q.toNat).map toU ++ T)) (h0 : 0 ≤ q) (h1 : ¬ q < (takesF o).length) : r = out ++ T := by
  rw [h, List.drop_eq_nil_of_le (by unfold opAsks; rw [zipA_len' _ _ _ (takesR_le o)]; omega)]; rfl
theorem useO_end {r out T : List DefR} {os : List OpD} {i k : Int} (h : r = out ++ ((opsAsks i k (os.drop k.toNat)).map toU ++ T)) (h0 : 0 ≤ k) (h1 : ¬ k < os.length) : r = out ++ T := by
  rw [h, drop_end h0 h1]; rfl
theorem useE_0 {r out : List DefR} {T : List AskD} {ret i : Int} {e : EndD} (h : r = out ++ (endAsks ret i e ++ T).map toU) (hr : ret ≠ 0) (hk : e.kind = 0) : r = (out ++ [⟨e.arg, i, 1000, ret, 1⟩]) ++ T.map toU := by
  rw [h]; unfold endAsks endBits; rw [if_pos hk, if_neg hr, List.append_assoc]; rfl
theorem useE_2 {r out : List DefR} {T : List AskD} {ret i : Int} {e : EndD} (h : r = out ++ (endAsks ret i e ++ T).map toU) (hk : e.kind = 2) : r = (out ++ [⟨e.arg, i, 1000, 1, 1⟩]) ++ T.map toU := by
  rw [h]; unfold endAsks endBits; rw [if_neg (show ¬ e.kind = 0 by omega), if_pos hk, if_neg (show ¬ (1 : Int) = 0 by decide), List.append_assoc]; rfl
theorem useE_n {r out : List DefR} {T : List AskD} {ret i : Int} {e : EndD} (h : r = out ++ (endAsks ret i e ++ T).map toU) (h0 : e.kind ≠ 0) (h2 : e.kind ≠ 2) : r = out ++ T.map toU := by
  rw [h]; unfold endAsks endBits; rw [if_neg h0, if_neg h2, if_pos rfl]; rfl
theorem useR_done {r out : List DefR} {ret : Int} {bs : List BlockD} {i : Int} (h : r = out ++ (allAsks ret i (bs.drop i.toNat)).map toU) (h0 : 0 ≤ i) (h1 : ¬ i < bs.length) : out = r := by
  rw [h, drop_end h0 h1]; simp [allAsks]
def findR (l : List DefR) (v : Int) : Int := idxFrom (fun d => d.v == v) l 0
end Go.Proofs.YtdjemlkllbhdlaaGreat
namespace Go.Proofs.YtdjemlkllbhdlaaGreat
open Go Go.RowKit
set_option maxHeartbeats 1000000 in
theorem rDefs_calls {H : Hp} {f : FuncD} {cs_f : List Value} (rd_f : Rdc.rd H cs_f f) (hb : (defsR f).length ≤ 2147483000) : CallG Tryz.prog 15 [.agg cs_f.toArray] H [] (fun v H' L' => ∃ A c, v = .slice A (defsR f).length c ∧ (defsR f).length ≤ c ∧ RdS H' A (defsR f) ∧ L' = []) := by
 have rd_f' := rd_f; obtain ⟨A_f_0, c_f_0, A_f_2, c_f_2, rfl, u_f_0, r_f_0, u_f_2, r_f_2, k_f_0⟩ := rd_f
 have bf := r_f_2.1; have bp := r_f_0.1
 refine CallG.of Tryz.func15 rfl rfl rfl fun w0 => ?_
 refine WpG.g tabOK 2 rfl ?_
 refine WpG.box rfl rfl rfl rfl rfl (fun b1 => ?_)
 refine WpG.freezeBox (ci := 0) rfl (fun H2 hH2 hc2 => ?_)
 refine WpG.g tabOK 13 rfl ?_
 refine WpG.ownNil 37 5 ?_
 refine WpG.wk (WpG.ind5 (fun (a : Int) (A5 : Option Addr) (n5 : Nat) (c5 : Nat) (l1 : List DefR) => ⟨(f.params.length - a).toNat, [(1, .pointer (some ⟨b1, 0, none⟩)), (3, .slice A5 n5 c5), (4, .int .i64 a)], H2, [Chunk.own 37 5 A5 c5 n5 (flatR l1)], 0 ≤ a ∧ a ≤ f.params.length ∧ (defsR f = l1 ++ (parR a (f.params.drop a.toNat) ++ (allPuts 0 f.blocks).map toR)) ∧ n5 = l1.length ∧ AllR l1⟩) ?_ 0 none 0 0 ([] : List DefR) ⟨by omega, by omega, rfl, rfl, AllR_nil⟩) rfl
 intro a A5 n5 c5 l1 inv ih1
 obtain ⟨a0, a1, a2, a3, a4⟩ := inv
 have hle := le_app a2
 refine WpG.g tabOK 5 rfl ?_
 refine WpG.y rfl rfl rfl rfl (RunY.loadH tabOK (hc2.sub 0 1) (Hp.le.refl _) rfl rfl rfl rfl) ?_
 refine WpG.g tabOK 3 rfl ?_
 refine WpG.caseD (t := 15) rfl (fun q15 => ?_) (fun q15 => ?_)
 ·refine WpG.gw tabOK 8 20 rfl (wrk (x := a + 1) (by omega) (by omega)) ?_
  refine WpG.g tabOK 1 rfl ?_
  refine WpG.y rfl rfl rfl rfl (RunY.loadH tabOK (hc2.sub 0 1) (Hp.le.refl _) rfl rfl rfl rfl) ?_
  refine WpG.g tabOK 1 rfl ?_
  refine WpG.indexR tabOK rfl rfl rfl rfl rfl rfl rfl rfl rfl r_f_0 (by omega) (by omega) ?_
  rintro x3 hx3 b3 o3 _ ⟨rfl, k3⟩ hc3
  obtain rfl : x3 = (nth f.params a) := hx3
  refine WpG.y rfl rfl rfl rfl (RunY.loadH tabOK hc3 hH2 rfl rfl rfl rfl) ?_
  refine WpG.g tabOK 2 rfl ?_
  refine WpG.buildSlice (xs := [.int .i64 (a + 1), .int .i64 (-1), .int .i64 0, .int .i64 (nth f.params a), .int .i64 1]) tabOK rfl rfl rfl rfl rfl rfl rfl rfl rfl rfl (fun b4 => ?_)
  refine WpG.append (ci := 1) tabOK rfl rfl rfl rfl rfl rfl rfl rfl rfl rfl rfl rfl (Src.own (ci := 0) rfl) (by omega) (fun A6 c7 => ?_)
  refine WpG.dropL (L' := [Chunk.own 37 5 A6 c7 (n5 + 1) ((flatR l1) ++ [.int .i64 (a + 1), .int .i64 (-1), .int .i64 0, .int .i64 (nth f.params a), .int .i64 1])]) (.cons _ (.cons_cons _ .slnil)) ?_
  refine WpG.setL (L' := [Chunk.own 37 5 A6 c7 (n5 + 1) (flatR (l1 ++ [(⟨a + 1, (-1), 0, (nth f.params a), 1⟩ : DefR)]))]) (by rw [flatR_snoc]) ?_
  refine WpG.gw tabOK 6 17 rfl (wrk (x := a + 1) (by omega) (by omega)) ?_
  refine WpG.g tabOK 3 rfl ?_
  refine WpG.wk (ih1 (a + 1) A6 (n5 + 1) c7 (l1 ++ [(⟨a + 1, (-1), 0, (nth f.params a), 1⟩ : DefR)]) ?_ ?_) rfl
  ·dsimp only
   omega
  ·
   clear ih1
   exact ⟨by omega, by omega, parR_step a2 a0 q15, by rw [List.length_append, ← a3]; rfl, AllR_snoc a4 ⟨i64s (x := a + 1) (by omega) (by omega), I64_m, I64_0, k3, I64_1⟩⟩
 ·refine WpG.g tabOK 9 rfl ?_
  refine WpG.wk (WpG.ind5 (fun (i : Int) (A6 : Option Addr) (n6 : Nat) (c6 : Nat) (l2 : List DefR) => ⟨(f.blocks.length - i).toNat, [(1, .pointer (some ⟨b1, 0, none⟩)), (3, .slice A6 n6 c6), (5, .int .i64 i)], H2, [Chunk.own 37 5 A6 c6 n6 (flatR l2)], 0 ≤ i ∧ i ≤ f.blocks.length ∧ (defsR f = l2 ++ (allPuts i (f.blocks.drop i.toNat)).map toR) ∧ n6 = l2.length ∧ AllR l2⟩) ?_ 0 A5 n5 c5 l1 ⟨by omega, by omega, parR_end a2 a0 q15, a3, a4⟩) rfl
  intro i A6 n6 c6 l2 inv ih2
  obtain ⟨i0, i1, b2, b3, b4⟩ := inv
  refine WpG.g tabOK 5 rfl ?_
  refine WpG.y rfl rfl rfl rfl (RunY.loadH tabOK (hc2.sub 2 1) (Hp.le.refl _) rfl rfl rfl rfl) ?_
  refine WpG.g tabOK 3 rfl ?_
  refine WpG.caseD (t := 34) rfl (fun q34 => ?_) (fun q34 => ?_)
  ·refine WpG.g tabOK 7 rfl ?_
   refine WpG.y rfl rfl rfl rfl (RunY.loadH tabOK (hc2.sub 2 1) (Hp.le.refl _) rfl rfl rfl rfl) ?_
   refine WpG.g tabOK 1 rfl ?_
   refine WpG.indexR tabOK rfl rfl rfl rfl rfl rfl rfl rfl rfl r_f_2 (by omega) (by omega) ?_
   rintro x8 hx8 b8 o8 cs8 rd8 hc8
   have rd8' := rd8; obtain ⟨A8_0, c8_0, A8_1, c8_1, A8_4, c8_4, rfl, u8_0, r8_0, u8_1, r8_1, u8_4, r8_4, k8_0, k8_1⟩ := rd8
   have bz8_0 := r8_0.1
   have bz8_1 := r8_1.1
   have bz8_4 := r8_4.1
   obtain rfl : x8 = (nth f.blocks i) := hx8
   refine WpG.y rfl rfl rfl rfl (RunY.loadH tabOK hc8 hH2 rfl rfl rfl rfl) ?_
   refine WpG.alloc tabOK rfl rfl rfl rfl rfl (fun b9 => ?_)
   refine WpG.storeBox (ci := 0) (cs' := [.slice A8_0 ((nth f.blocks i).phis.length) c8_0, .slice A8_1 ((nth f.blocks i).ops.length) c8_1, .int .i64 ((nth f.blocks i).en.kind), .int .i64 ((nth f.blocks i).en.arg), .slice A8_4 ((nth f.blocks i).en.to.length) c8_4]) tabOK rfl rfl rfl rfl rfl rfl rfl rfl rfl ?_
   refine WpG.freezeBox (ci := 0) rfl (fun H10 hH10 hc10 => ?_)
   refine WpG.g tabOK 8 rfl ?_
   refine WpG.wk (WpG.ind5 (fun (j : Int) (A7 : Option Addr) (n7 : Nat) (c7 : Nat) (l3 : List DefR) => ⟨((nth f.blocks i).phis.length - j).toNat, [(1, .pointer (some ⟨b1, 0, none⟩)), (3, .slice A7 n7 c7), (5, .int .i64 i), (6, .pointer (some ⟨b9, 0, none⟩)), (7, .int .i64 j)], H10, [Chunk.own 37 5 A7 c7 n7 (flatR l3)], 0 ≤ j ∧ j ≤ (nth f.blocks i).phis.length ∧ (defsR f = l3 ++ ((phiPuts i ((nth f.blocks i).phis.drop j.toNat)).map toR ++ ((opsPuts i 0 (nth f.blocks i).ops).map toR ++ (allPuts (i + 1) (f.blocks.drop (i + 1).toNat)).map toR))) ∧ n7 = l3.length ∧ AllR l3⟩) ?_ 0 A6 n6 c6 l2 ⟨by omega, by omega, allR_in b2 i0 q34, b3, b4⟩) rfl
   intro j A7 n7 c7 l3 inv ih3
   obtain ⟨j0, j1, d2, d3, d4⟩ := inv
   have hle := le_app d2
   refine WpG.g tabOK 5 rfl ?_
   refine WpG.y rfl rfl rfl rfl (RunY.loadH tabOK (hc10.sub 0 1) (Hp.le.refl _) rfl rfl rfl rfl) ?_
   refine WpG.g tabOK 3 rfl ?_
   refine WpG.caseD (t := 46) rfl (fun q46 => ?_) (fun q46 => ?_)
   ·refine WpG.g tabOK 4 rfl ?_
    refine WpG.draw 19 [] mixed (by kernel_rfl) ?_
    refine WpD.g (listed' := lst 19 1419) tabOK [0, 1, 3, 7, 8, 10] (by kernel_rfl) rfl (hH2.trans hH10) (Hp.le.refl _) (.cons _ .slnil) ?_
    refine WpD.y (i := 2) (fuel := 12) (listed' := lst 19 1423) (by kernel_rfl) rfl rfl rfl rfl (hH2.trans hH10) (Hp.le.refl _) (.cons _ .slnil) (RunY.loadH tabOK (hc10.sub 0 1) (Hp.le.refl _) rfl rfl rfl rfl) ?_
    refine WpD.indexR (i := 4) (fuel := 11) (listed' := lst 19 1439) tabOK (by kernel_rfl) rfl rfl rfl rfl rfl rfl rfl rfl rfl (hH2.trans hH10) (Hp.le.refl _) (.cons _ .slnil) r8_0 (by omega) (by omega) ?_
    rintro x11 hx11 b11 o11 cs11 rd11 hc11
    have rd11' := rd11; obtain ⟨A11_2, c11_2, A11_3, c11_3, rfl, u11_2, r11_2, u11_3, r11_3, k11_0, k11_1⟩ := rd11
    have bz11_2 := r11_2.1
    have bz11_3 := r11_3.1
    obtain rfl : x11 = (nth ((nth f.blocks i).phis) j) := hx11
    refine WpD.g (listed' := lst 19 1471) tabOK [5] (by kernel_rfl) rfl (hH2.trans hH10) (Hp.le.refl _) (.cons _ .slnil) ?_
    refine WpD.y (i := 6) (fuel := 9) (listed' := lst 19 1535) (by kernel_rfl) rfl rfl rfl rfl (hH2.trans hH10) (Hp.le.refl _) (.cons _ .slnil) (RunY.loadH tabOK (hc11.sub 1 1) (hH2.trans hH10) rfl rfl rfl rfl) ?_
    refine WpD.y (i := 9) (fuel := 8) (listed' := lst 19 2047) (by kernel_rfl) rfl rfl rfl rfl (hH2.trans hH10) (Hp.le.refl _) (.cons _ .slnil) (RunY.loadH tabOK (hc10.sub 0 1) (Hp.le.refl _) rfl rfl rfl rfl) ?_
    refine WpD.indexR (i := 11) (fuel := 7) (listed' := lst 19 4095) tabOK (by kernel_rfl) rfl rfl rfl rfl rfl rfl rfl rfl rfl (hH2.trans hH10) (Hp.le.refl _) (.cons _ .slnil) r8_0 (by omega) (by omega) ?_
    rintro x12 hx12 b12 o12 cs12 rd12 hc12
    have rd12' := rd12; obtain ⟨A12_2, c12_2, A12_3, c12_3, rfl, u12_2, r12_2, u12_3, r12_3, k12_0, k12_1⟩ := rd12
    have bz12_2 := r12_2.1
    have bz12_3 := r12_3.1
    obtain rfl : x12 = (nth ((nth f.blocks i).phis) j) := hx12
    refine WpD.g (listed' := lst 19 8191) tabOK [12] (by kernel_rfl) rfl (hH2.trans hH10) (Hp.le.refl _) (.cons _ .slnil) ?_
    refine WpD.y (i := 13) (fuel := 5) (listed' := lst 19 16383) (by kernel_rfl) rfl rfl rfl rfl (hH2.trans hH10) (Hp.le.refl _) (.cons _ .slnil) (RunY.loadH tabOK (hc12.sub 0 1) (hH2.trans hH10) rfl rfl rfl rfl) ?_
    refine WpD.g (listed' := lst 19 65535) tabOK [14, 15] (by kernel_rfl) rfl (hH2.trans hH10) (Hp.le.refl _) (.cons _ .slnil) ?_
    refine WpD.f (i := 16) (fuel := 2) (listed' := lst 19 131071) (by kernel_rfl) (hH2.trans hH10) (OpG.buildSlice (xs := [.int .i64 ((nth ((nth f.blocks i).phis) j).dst), .int .i64 i, .int .i64 (-1), .int .i64 ((nth ((nth f.blocks i).phis) j).bits), .int .i64 1]) tabOK rfl rfl rfl rfl rfl rfl rfl rfl rfl rfl) ?_
    rintro F1 H1 L1 ⟨b13, eF, eH, eL⟩
    subst eF; subst eL; rw [eH]; clear eH H1
    refine ⟨(Hp.le.refl _), (.cons _ (.cons _ .slnil)), ?_⟩
    change WpD _ _ _ _ _ _ _ _ _ _ _ _ _ _ [Chunk.own 37 5 (some ⟨b13, 0, none⟩) 1 1 [.int .i64 ((nth ((nth f.blocks i).phis) j).dst), .int .i64 i, .int .i64 (-1), .int .i64 ((nth ((nth f.blocks i).phis) j).bits), .int .i64 1], Chunk.own 37 5 A7 c7 n7 (flatR l3)]
    refine WpD.f (i := 17) (fuel := 1) (listed' := lst 19 262143) (by kernel_rfl) (hH2.trans hH10) (OpG.append (ci := 1) tabOK rfl rfl rfl rfl rfl rfl rfl rfl rfl rfl rfl rfl (Src.own (ci := 0) rfl) (by omega)) ?_
    rintro F1 H1 L1 ⟨A15, c16, eF, eH, eL⟩
    subst eF; subst eL; rw [eH]; clear eH H1
    refine ⟨(Hp.le.refl _), (.cons _ (.cons _ .slnil)), ?_⟩
    change WpD _ _ _ _ _ _ _ _ _ _ _ _ _ _ [Chunk.own 37 5 (some ⟨b13, 0, none⟩) 1 1 [.int .i64 ((nth ((nth f.blocks i).phis) j).dst), .int .i64 i, .int .i64 (-1), .int .i64 ((nth ((nth f.blocks i).phis) j).bits), .int .i64 1], Chunk.own 37 5 A15 c16 (n7 + 1) ((flatR l3) ++ [.int .i64 ((nth ((nth f.blocks i).phis) j).dst), .int .i64 i, .int .i64 (-1), .int .i64 ((nth ((nth f.blocks i).phis) j).bits), .int .i64 1])]
    refine WpD.setL (L' := [Chunk.own 37 5 (some ⟨b13, 0, none⟩) 1 1 [.int .i64 ((nth ((nth f.blocks i).phis) j).dst), .int .i64 i, .int .i64 (-1), .int .i64 ((nth ((nth f.blocks i).phis) j).bits), .int .i64 1], Chunk.own 37 5 A15 c16 (n7 + 1) (flatR (l3 ++ [(⟨(nth ((nth f.blocks i).phis) j).dst, i, (-1), (nth ((nth f.blocks i).phis) j).bits, 1⟩ : DefR)]))]) (by rw [flatR_snoc]) ?_
    refine WpD.g (listed' := lst 19 524287) tabOK [18] (by kernel_rfl) rfl (hH2.trans hH10) (Hp.le.refl _) (.cons _ (.cons _ .slnil)) ?_
    refine WpD.done (by kernel_rfl) ?_
    refine WpG.gw tabOK 4 48 rfl (wrk (x := j + 1) (by omega) (by omega)) ?_
    refine WpG.g tabOK 3 rfl ?_
    refine WpG.dropL (L' := [Chunk.own 37 5 A15 c16 (n7 + 1) (flatR (l3 ++ [(⟨(nth ((nth f.blocks i).phis) j).dst, i, (-1), (nth ((nth f.blocks i).phis) j).bits, 1⟩ : DefR)]))]) (.cons _ (.cons_cons _ .slnil)) ?_
    refine WpG.wk (ih3 (j + 1) A15 (n7 + 1) c16 (l3 ++ [(⟨(nth ((nth f.blocks i).phis) j).dst, i, (-1), (nth ((nth f.blocks i).phis) j).bits, 1⟩ : DefR)]) ?_ ?_) rfl
    ·dsimp only
     omega
    ·
     clear ih1 ih2 ih3
     exact ⟨by omega, by omega, phiR_step d2 j0 q46, by rw [List.length_append, ← d3]; rfl, AllR_snoc d4 ⟨k11_1, i64s (x := i) (by omega) (by omega), I64_m, k11_0, I64_1⟩⟩
   ·refine WpG.g tabOK 8 rfl ?_
    refine WpG.wk (WpG.ind5 (fun (k : Int) (A8 : Option Addr) (n8 : Nat) (c8 : Nat) (l4 : List DefR) => ⟨((nth f.blocks i).ops.length - k).toNat, [(1, .pointer (some ⟨b1, 0, none⟩)), (3, .slice A8 n8 c8), (5, .int .i64 i), (6, .pointer (some ⟨b9, 0, none⟩)), (8, .int .i64 k)], H10, [Chunk.own 37 5 A8 c8 n8 (flatR l4)], 0 ≤ k ∧ k ≤ (nth f.blocks i).ops.length ∧ (defsR f = l4 ++ ((opsPuts i k ((nth f.blocks i).ops.drop k.toNat)).map toR ++ (allPuts (i + 1) (f.blocks.drop (i + 1).toNat)).map toR)) ∧ n8 = l4.length ∧ AllR l4⟩) ?_ 0 A7 n7 c7 l3 ⟨by omega, by omega, phiR_end d2 j0 q46, d3, d4⟩) rfl
    intro k A8 n8 c8 l4 inv ih4
    obtain ⟨k0, k1, e2, e3, e4⟩ := inv
    have hle := le_app e2
    refine WpG.g tabOK 5 rfl ?_
    refine WpG.y rfl rfl rfl rfl (RunY.loadH tabOK (hc10.sub 1 1) (Hp.le.refl _) rfl rfl rfl rfl) ?_
    refine WpG.g tabOK 3 rfl ?_
    refine WpG.caseD (t := 71) rfl (fun q71 => ?_) (fun q71 => ?_)
    ·refine WpG.g tabOK 7 rfl ?_
     refine WpG.y rfl rfl rfl rfl (RunY.loadH tabOK (hc10.sub 1 1) (Hp.le.refl _) rfl rfl rfl rfl) ?_
     refine WpG.g tabOK 1 rfl ?_
     refine WpG.indexR tabOK rfl rfl rfl rfl rfl rfl rfl rfl rfl r8_1 (by omega) (by omega) ?_
     rintro x17 hx17 b17 o17 cs17 rd17 hc17
     have rd17' := rd17; obtain ⟨A17_4, c17_4, rfl, u17_4, r17_4, k17_0, k17_1, k17_2, k17_3, k17_4⟩ := rd17
     have bz17_4 := r17_4.1
     obtain rfl : x17 = (nth ((nth f.blocks i).ops) k) := hx17
     refine WpG.y rfl rfl rfl rfl (RunY.loadH tabOK hc17 (hH2.trans hH10) rfl rfl rfl rfl) ?_
     refine WpG.callS rfl rfl rfl rfl rfl rfl (Hp.le.refl _) (rGives_calls (Rdc.mono (hH2.trans hH10) rd17')) ?_
     refine WpG.g tabOK 11 rfl ?_
     refine WpG.caseD (t := 84) rfl (fun q84 => ?_) (fun q84 => ?_)
     ·refine WpG.g tabOK 4 rfl ?_
      refine WpG.y rfl rfl rfl rfl (RunY.loadH tabOK (hc10.sub 1 1) (Hp.le.refl _) rfl rfl rfl rfl) ?_
      refine WpG.g tabOK 1 rfl ?_
      refine WpG.indexR tabOK rfl rfl rfl rfl rfl rfl rfl rfl rfl r8_1 (by omega) (by omega) ?_
      rintro x18 hx18 b18 o18 cs18 rd18 hc18
      have rd18' := rd18; obtain ⟨A18_4, c18_4, rfl, u18_4, r18_4, k18_0, k18_1, k18_2, k18_3, k18_4⟩ := rd18
      have bz18_4 := r18_4.1
      obtain rfl : x18 = (nth ((nth f.blocks i).ops) k) := hx18
      refine WpG.g tabOK 1 rfl ?_
      refine WpG.y rfl rfl rfl rfl (RunY.loadH tabOK (hc18.sub 3 1) (hH2.trans hH10) rfl rfl rfl rfl) ?_
      refine WpG.g tabOK 6 rfl ?_
      refine WpG.buildSlice (xs := [.int .i64 ((nth ((nth f.blocks i).ops) k).dst), .int .i64 i, .int .i64 k, .int .i64 ((givesF (nth ((nth f.blocks i).ops) k)).1), .int .i64 ((givesF (nth ((nth f.blocks i).ops) k)).2)]) tabOK rfl rfl rfl rfl rfl rfl rfl rfl rfl rfl (fun b19 => ?_)
      refine WpG.append (ci := 1) tabOK rfl rfl rfl rfl rfl rfl rfl rfl rfl rfl rfl rfl (Src.own (ci := 0) rfl) (by omega) (fun A21 c22 => ?_)
      refine WpG.dropL (L' := [Chunk.own 37 5 A21 c22 (n8 + 1) ((flatR l4) ++ [.int .i64 ((nth ((nth f.blocks i).ops) k).dst), .int .i64 i, .int .i64 k, .int .i64 ((givesF (nth ((nth f.blocks i).ops) k)).1), .int .i64 ((givesF (nth ((nth f.blocks i).ops) k)).2)])]) (.cons _ (.cons_cons _ .slnil)) ?_
      refine WpG.setL (L' := [Chunk.own 37 5 A21 c22 (n8 + 1) (flatR (l4 ++ [(⟨(nth ((nth f.blocks i).ops) k).dst, i, k, (givesF (nth ((nth f.blocks i).ops) k)).1, (givesF (nth ((nth f.blocks i).ops) k)).2⟩ : DefR)]))]) (by rw [flatR_snoc]) ?_
      refine WpG.gw tabOK 6 73 rfl (wrk (x := k + 1) (by omega) (by omega)) ?_
      refine WpG.g tabOK 3 rfl ?_
      refine WpG.wk (ih4 (k + 1) A21 (n8 + 1) c22 (l4 ++ [(⟨(nth ((nth f.blocks i).ops) k).dst, i, k, (givesF (nth ((nth f.blocks i).ops) k)).1, (givesF (nth ((nth f.blocks i).ops) k)).2⟩ : DefR)]) ?_ ?_) rfl
      ·dsimp only
       omega
      ·
       clear ih1 ih2 ih3 ih4
       exact ⟨by omega, by omega, opR_yes e2 k0 q71 q84, by rw [List.length_append, ← e3]; rfl, AllR_snoc e4 ⟨k17_3, i64s (x := i) (by omega) (by omega), i64s (x := k) (by omega) (by omega), (gives_I64 k17_1 k17_2).1, (gives_I64 k17_1 k17_2).2⟩⟩
     ·refine WpG.gw tabOK 6 73 rfl (wrk (x := k + 1) (by omega) (by omega)) ?_
      refine WpG.g tabOK 3 rfl ?_
      refine WpG.wk (ih4 (k + 1) A8 n8 c8 l4 ?_ ?_) rfl
      ·dsimp only
       omega
      ·
       clear ih1 ih2 ih3 ih4
       exact ⟨by omega, by omega, opR_no e2 k0 q71 q84, e3, e4⟩
    ·refine WpG.gw tabOK 6 36 rfl (wrk (x := i + 1) (by omega) (by omega)) ?_
     refine WpG.g tabOK 3 rfl ?_
     refine WpG.lessH hH2 hH10 ?_
     refine WpG.wk (ih2 (i + 1) A8 n8 c8 l4 ?_ ?_) rfl
     ·dsimp only
      omega
     ·
      clear ih1 ih2 ih3 ih4
      exact ⟨by omega, by omega, opR_end e2 k0 q71, e3, e4⟩
  ·refine WpG.g tabOK 7 rfl ?_
   refine WpG.ownCap (ci := 0) rfl (fun uz23 => ?_)
   refine WpG.freezeOwn (ci := 0) rfl (fun H23 hH23 fz23 => ?_)
   have rz23 : RdS H23 A6 l2 := RdS.of_own (H := H2) (show RdL H2 (flatR l2) l2 from RdL_defs _ b4) (b3) (by have := le_app b2; omega) hH23 fz23
   exact WpG.ret tabOK (L' := []) (.tmp rfl .nil) .slnil (rows_ret (all_done b2 i0 q34) b3 uz23 rz23)
theorem rFind_calls {H : Hp} {A : Option Addr} {c : Nat} {l : List DefR} (hl : RdS H A l) (w : Int) : CallG Tryz.prog 24 [.slice A l.length c, .int .i64 w] H [] (fun v _ L' => v = .int .i64 (findR l w) ∧ L' = []) := by
 have bl := hl.1
 refine CallG.of Tryz.func24 rfl rfl rfl fun w0 => ?_
 refine WpG.g tabOK 11 rfl ?_
 refine WpG.wk (WpG.ind1 (fun (i : Int) => ⟨(l.length - i).toNat, [(0, .slice A l.length c), (1, .int .i64 w), (5, .int .i64 i)], H, [], 0 ≤ i ∧ i ≤ l.length ∧ findR l w = idxFrom (fun d => d.v == w) (l.drop i.toNat) i⟩) ?_ 0 ⟨by omega, by omega, rfl⟩) rfl
 intro i inv ih1
 obtain ⟨i0, i1, i2⟩ := inv
 refine WpG.g tabOK 8 rfl ?_
 refine WpG.caseD (t := 9) rfl (fun q9 => ?_) (fun q9 => ?_)
 ·refine WpG.g tabOK 8 rfl ?_
  refine WpG.indexR tabOK rfl rfl rfl rfl rfl rfl rfl rfl rfl hl (by omega) (by omega) ?_
  rintro x1 hx1 b1 o1 cs1 rd1 hc1
  have rd1' := rd1; obtain ⟨rfl, k1_0, k1_1, k1_2, k1_3, k1_4⟩ := rd1
  obtain rfl : x1 = (nth l i) := hx1
  refine WpG.g tabOK 1 rfl ?_
  refine WpG.y rfl rfl rfl rfl (RunY.loadH tabOK (hc1.sub 0 1) (Hp.le.refl _) rfl rfl rfl rfl) ?_
  refine WpG.g tabOK 3 rfl ?_
  refine WpG.caseE (t := 18) rfl (fun q18 => ?_) (fun q18 => ?_)
  ·refine WpG.g tabOK 6 rfl ?_
   exact WpG.ret tabOK (L' := []) (.tmp rfl .nil) .slnil ⟨congrArg (Value.int .i64) (by clear ih1; rw [i2, drop_nth i0 q9]; simp only [idxFrom]; rw [if_pos (by simp [q18])]), rfl⟩
  ·refine WpG.gw tabOK 6 11 rfl (wrk (x := i + 1) (by omega) (by omega)) ?_
   refine WpG.g tabOK 3 rfl ?_
   refine WpG.wk (ih1 (i + 1) ?_ ?_) rfl
   ·dsimp only
    omega
   ·
    clear ih1
    refine ⟨by omega, by omega, ?_⟩
    rw [i2, drop_nth i0 q9, toNat_succ i0]; simp only [idxFrom]; rw [if_neg (by simp [q18])]
 ·refine WpG.g tabOK 6 rfl ?_
  exact WpG.ret tabOK (L' := []) (.tmp rfl .nil) .slnil ⟨congrArg (Value.int .i64) (by clear ih1; rw [i2, drop_end i0 q9]; rfl), rfl⟩
end Go.Proofs.YtdjemlkllbhdlaaGreat
namespace Go.Proofs.YtdjemlkllbhdlaaGreat
open Go Go.RowKit
set_option maxHeartbeats 2000000 in
theorem rUses_calls {H : Hp} {f : FuncD} {cs_f : List Value} (rd_f : Rdc.rd H cs_f f) (hb : (usesR f).length ≤ 2147483000) (hr : f.ret ≠ 0) (hp : ∀ x ∈ f.blocks, ∀ p ∈ x.phis, p.args.length = p.frm.length) (hk : ∀ x ∈ f.blocks, x.ops.length ≤ 512) : CallG Tryz.prog 25 [.agg cs_f.toArray] H [] (fun v H' L' => ∃ A c, v = .slice A (usesR f).length c ∧ (usesR f).length ≤ c ∧ RdS H' A (usesR f) ∧ L' = []) := by
 have rd_f' := rd_f; obtain ⟨A_f_0, c_f_0, A_f_2, c_f_2, rfl, u_f_0, r_f_0, u_f_2, r_f_2, k_f_0⟩ := rd_f
 have bf := r_f_2.1
 refine CallG.of Tryz.func25 rfl rfl rfl fun w0 => ?_
 refine WpG.g tabOK 2 rfl ?_
 refine WpG.box rfl rfl rfl rfl rfl (fun b1 => ?_)
 refine WpG.freezeBox (ci := 0) rfl (fun H2 hH2 hc2 => ?_)
 refine WpG.g tabOK 13 rfl ?_
 refine WpG.ownNil 62 5 ?_
 refine WpG.wk (WpG.ind6 (fun (i : Int) (A1 : Option Addr) (n1 : Nat) (c1 : Nat) (l1 : List DefR) (G : Hp) => ⟨(f.blocks.length - i).toNat, [(1, .pointer (some ⟨b1, 0, none⟩)), (3, .slice A1 n1 c1), (4, .int .i64 i)], G, [Chunk.own 62 5 A1 c1 n1 (flatR l1)], 0 ≤ i ∧ i ≤ f.blocks.length ∧ (usesR f = l1 ++ (allAsks f.ret i (f.blocks.drop i.toNat)).map toU) ∧ n1 = l1.length ∧ AllR l1 ∧ H2.le G⟩) ?_ 0 none 0 0 ([] : List DefR) H2 ⟨by omega, by omega, rfl, rfl, AllR_nil, Hp.le.refl _⟩) rfl
 intro i A1 n1 c1 l1 G inv ih1
 obtain ⟨i0, i1, i2, i3, i4, i5⟩ := inv
 have hle := le_app i2
 refine WpG.g tabOK 5 rfl ?_
 refine WpG.y rfl rfl rfl rfl (RunY.loadH tabOK (hc2.sub 2 1) i5 rfl rfl rfl rfl) ?_
 refine WpG.g tabOK 3 rfl ?_
 refine WpG.caseD (t := 16) rfl (fun q16 => ?_) (fun q16 => ?_)
 ·refine WpG.g tabOK 7 rfl ?_
  refine WpG.y rfl rfl rfl rfl (RunY.loadH tabOK (hc2.sub 2 1) i5 rfl rfl rfl rfl) ?_
  refine WpG.g tabOK 1 rfl ?_
  refine WpG.indexR tabOK rfl rfl rfl rfl rfl rfl rfl rfl rfl r_f_2 (by omega) (by omega) ?_
  rintro x3 hx3 b3 o3 cs3 rd3 hc3
  have rd3' := rd3; obtain ⟨A3_0, c3_0, A3_1, c3_1, A3_4, c3_4, rfl, u3_0, r3_0, u3_1, r3_1, u3_4, r3_4, k3_0, k3_1⟩ := rd3
  have bz3_0 := r3_0.1
  have bz3_1 := r3_1.1
  have bz3_4 := r3_4.1
  obtain rfl : x3 = (nth f.blocks i) := hx3
  refine WpG.y rfl rfl rfl rfl (RunY.loadH tabOK hc3 (hH2.trans i5) rfl rfl rfl rfl) ?_
  refine WpG.alloc tabOK rfl rfl rfl rfl rfl (fun b4 => ?_)
  refine WpG.storeBox (ci := 0) (cs' := [.slice A3_0 ((nth f.blocks i).phis.length) c3_0, .slice A3_1 ((nth f.blocks i).ops.length) c3_1, .int .i64 ((nth f.blocks i).en.kind), .int .i64 ((nth f.blocks i).en.arg), .slice A3_4 ((nth f.blocks i).en.to.length) c3_4]) tabOK rfl rfl rfl rfl rfl rfl rfl rfl rfl ?_
  refine WpG.freezeBox (ci := 0) rfl (fun H5 hH5 hc5 => ?_)
  refine WpG.g tabOK 8 rfl ?_
  refine WpG.wk (WpG.ind6 (fun (j : Int) (A2 : Option Addr) (n2 : Nat) (c2 : Nat) (l2 : List DefR) (G2 : Hp) => ⟨((nth f.blocks i).phis.length - j).toNat, [(1, .pointer (some ⟨b1, 0, none⟩)), (3, .slice A2 n2 c2), (4, .int .i64 i), (5, .pointer (some ⟨b4, 0, none⟩)), (6, .int .i64 j)], G2, [Chunk.own 62 5 A2 c2 n2 (flatR l2)], 0 ≤ j ∧ j ≤ (nth f.blocks i).phis.length ∧ (usesR f = l2 ++ ((((nth f.blocks i).phis.drop j.toNat).flatMap phiAsks).map toU ++ rest2 f.ret i (nth f.blocks i) (allAsks f.ret (i + 1) (f.blocks.drop (i + 1).toNat)))) ∧ n2 = l2.length ∧ AllR l2 ∧ H5.le G2⟩) ?_ 0 A1 n1 c1 l1 H5 ⟨by omega, by omega, useR_in i2 i0 q16, i3, i4, Hp.le.refl _⟩) rfl
  intro j A2 n2 c2 l2 G2 inv ih2
  obtain ⟨j0, j1, j2, j3, j4, j5⟩ := inv
  refine WpG.g tabOK 5 rfl ?_
  refine WpG.y rfl rfl rfl rfl (RunY.loadH tabOK (hc5.sub 0 1) j5 rfl rfl rfl rfl) ?_
  refine WpG.g tabOK 3 rfl ?_
  refine WpG.caseD (t := 28) rfl (fun q28 => ?_) (fun q28 => ?_)
  ·refine WpG.g tabOK 7 rfl ?_
   refine WpG.y rfl rfl rfl rfl (RunY.loadH tabOK (hc5.sub 0 1) j5 rfl rfl rfl rfl) ?_
   refine WpG.g tabOK 1 rfl ?_
   refine WpG.indexR tabOK rfl rfl rfl rfl rfl rfl rfl rfl rfl r3_0 (by omega) (by omega) ?_
   rintro x6 hx6 b6 o6 cs6 rd6 hc6
   have rd6' := rd6; obtain ⟨A6_2, c6_2, A6_3, c6_3, rfl, u6_2, r6_2, u6_3, r6_3, k6_0, k6_1⟩ := rd6
   have bz6_2 := r6_2.1
   have bz6_3 := r6_3.1
   obtain rfl : x6 = (nth ((nth f.blocks i).phis) j) := hx6
   refine WpG.y rfl rfl rfl rfl (RunY.loadH tabOK hc6 (((hH2.trans i5).trans hH5).trans j5) rfl rfl rfl rfl) ?_
   refine WpG.alloc tabOK rfl rfl rfl rfl rfl (fun b7 => ?_)
   refine WpG.storeBox (ci := 0) (cs' := [.int .i64 ((nth ((nth f.blocks i).phis) j).bits), .int .i64 ((nth ((nth f.blocks i).phis) j).dst), .slice A6_2 ((nth ((nth f.blocks i).phis) j).frm.length) c6_2, .slice A6_3 ((nth ((nth f.blocks i).phis) j).args.length) c6_3]) tabOK rfl rfl rfl rfl rfl rfl rfl rfl rfl ?_
   refine WpG.freezeBox (ci := 0) rfl (fun H8 hH8 hc8 => ?_)
   refine WpG.g tabOK 7 rfl ?_
   refine WpG.wk (WpG.ind5 (fun (q : Int) (A3 : Option Addr) (n3 : Nat) (c3 : Nat) (l3 : List DefR) => ⟨((nth (nth f.blocks i).phis j).args.length - q).toNat, [(1, .pointer (some ⟨b1, 0, none⟩)), (3, .slice A3 n3 c3), (4, .int .i64 i), (5, .pointer (some ⟨b4, 0, none⟩)), (6, .int .i64 j), (7, .pointer (some ⟨b7, 0, none⟩)), (8, .int .i64 q)], H8, [Chunk.own 62 5 A3 c3 n3 (flatR l3)], 0 ≤ q ∧ q ≤ (nth (nth f.blocks i).phis j).args.length ∧ (usesR f = l3 ++ (((phiAsks (nth (nth f.blocks i).phis j)).drop q.toNat).map toU ++ ((((nth f.blocks i).phis.drop (j + 1).toNat).flatMap phiAsks).map toU ++ rest2 f.ret i (nth f.blocks i) (allAsks f.ret (i + 1) (f.blocks.drop (i + 1).toNat))))) ∧ n3 = l3.length ∧ AllR l3⟩) ?_ 0 A2 n2 c2 l2 ⟨by omega, by omega, useP_in j2 j0 q28, j3, j4⟩) rfl
   intro q A3 n3 c3 l3 inv ih3
   obtain ⟨d0, d1, d2, d3, d4⟩ := inv
   have hle := le_app d2
   refine WpG.g tabOK 5 rfl ?_
   refine WpG.y rfl rfl rfl rfl (RunY.loadH tabOK (hc8.sub 3 1) (Hp.le.refl _) rfl rfl rfl rfl) ?_
   refine WpG.g tabOK 3 rfl ?_
   refine WpG.caseD (t := 40) rfl (fun q40 => ?_) (fun q40 => ?_)
   ·have hq := hp _ (nth_mem i0 q16) _ (nth_mem j0 q28)
    refine WpG.g tabOK 4 rfl ?_
    refine WpG.draw 18 [] mixed (by kernel_rfl) ?_
    refine WpD.g (listed' := lst 18 2379) tabOK [0, 1, 3, 6, 8, 11] (by kernel_rfl) rfl ((((hH2.trans i5).trans hH5).trans j5).trans hH8) (Hp.le.refl _) (.cons _ .slnil) ?_
    refine WpD.y (i := 2) (fuel := 11) (listed' := lst 18 2383) (by kernel_rfl) rfl rfl rfl rfl ((((hH2.trans i5).trans hH5).trans j5).trans hH8) (Hp.le.refl _) (.cons _ .slnil) (RunY.loadH tabOK (hc8.sub 3 1) (Hp.le.refl _) rfl rfl rfl rfl) ?_
    refine WpD.indexR (i := 4) (fuel := 10) (listed' := lst 18 2399) tabOK (by kernel_rfl) rfl rfl rfl rfl rfl rfl rfl rfl rfl ((((hH2.trans i5).trans hH5).trans j5).trans hH8) (Hp.le.refl _) (.cons _ .slnil) r6_3 (by omega) (by omega) ?_
    rintro x9 hx9 b9 o9 _ ⟨rfl, k9⟩ hc9
    obtain rfl : x9 = (nth ((nth ((nth f.blocks i).phis) j).args) q) := hx9
    refine WpD.y (i := 5) (fuel := 9) (listed' := lst 18 2431) (by kernel_rfl) rfl rfl rfl rfl ((((hH2.trans i5).trans hH5).trans j5).trans hH8) (Hp.le.refl _) (.cons _ .slnil) (RunY.loadH tabOK hc9 ((((hH2.trans i5).trans hH5).trans j5).trans hH8) rfl rfl rfl rfl) ?_
    refine WpD.y (i := 7) (fuel := 8) (listed' := lst 18 2559) (by kernel_rfl) rfl rfl rfl rfl ((((hH2.trans i5).trans hH5).trans j5).trans hH8) (Hp.le.refl _) (.cons _ .slnil) (RunY.loadH tabOK (hc8.sub 2 1) (Hp.le.refl _) rfl rfl rfl rfl) ?_
    refine WpD.indexR (i := 9) (fuel := 7) (listed' := lst 18 3071) tabOK (by kernel_rfl) rfl rfl rfl rfl rfl rfl rfl rfl rfl ((((hH2.trans i5).trans hH5).trans j5).trans hH8) (Hp.le.refl _) (.cons _ .slnil) r6_2 (by omega) (by omega) ?_
    rintro x10 hx10 b10 o10 _ ⟨rfl, k10⟩ hc10
    obtain rfl : x10 = (nth ((nth ((nth f.blocks i).phis) j).frm) q) := hx10
    refine WpD.y (i := 10) (fuel := 6) (listed' := lst 18 4095) (by kernel_rfl) rfl rfl rfl rfl ((((hH2.trans i5).trans hH5).trans j5).trans hH8) (Hp.le.refl _) (.cons _ .slnil) (RunY.loadH tabOK hc10 ((((hH2.trans i5).trans hH5).trans j5).trans hH8) rfl rfl rfl rfl) ?_
    refine WpD.y (i := 12) (fuel := 5) (listed' := lst 18 8191) (by kernel_rfl) rfl rfl rfl rfl ((((hH2.trans i5).trans hH5).trans j5).trans hH8) (Hp.le.refl _) (.cons _ .slnil) (RunY.loadH tabOK (hc8.sub 0 1) (Hp.le.refl _) rfl rfl rfl rfl) ?_
    refine WpD.g (listed' := lst 18 32767) tabOK [13, 14] (by kernel_rfl) rfl ((((hH2.trans i5).trans hH5).trans j5).trans hH8) (Hp.le.refl _) (.cons _ .slnil) ?_
    refine WpD.f (i := 15) (fuel := 2) (listed' := lst 18 65535) (by kernel_rfl) ((((hH2.trans i5).trans hH5).trans j5).trans hH8) (OpG.buildSlice (xs := [.int .i64 (nth ((nth ((nth f.blocks i).phis) j).args) q), .int .i64 (nth ((nth ((nth f.blocks i).phis) j).frm) q), .int .i64 1000, .int .i64 ((nth ((nth f.blocks i).phis) j).bits), .int .i64 1]) tabOK rfl rfl rfl rfl rfl rfl rfl rfl rfl rfl) ?_
    rintro F1 H1 L1 ⟨b11, eF, eH, eL⟩
    subst eF; subst eL; rw [eH]; clear eH H1
    refine ⟨(Hp.le.refl _), (.cons _ (.cons _ .slnil)), ?_⟩
    change WpD _ _ _ _ _ _ _ _ _ _ _ _ _ _ [Chunk.own 62 5 (some ⟨b11, 0, none⟩) 1 1 [.int .i64 (nth ((nth ((nth f.blocks i).phis) j).args) q), .int .i64 (nth ((nth ((nth f.blocks i).phis) j).frm) q), .int .i64 1000, .int .i64 ((nth ((nth f.blocks i).phis) j).bits), .int .i64 1], Chunk.own 62 5 A3 c3 n3 (flatR l3)]
    refine WpD.f (i := 16) (fuel := 1) (listed' := lst 18 131071) (by kernel_rfl) ((((hH2.trans i5).trans hH5).trans j5).trans hH8) (OpG.append (ci := 1) tabOK rfl rfl rfl rfl rfl rfl rfl rfl rfl rfl rfl rfl (Src.own (ci := 0) rfl) (by omega)) ?_
    rintro F1 H1 L1 ⟨A13, c14, eF, eH, eL⟩
    subst eF; subst eL; rw [eH]; clear eH H1
    refine ⟨(Hp.le.refl _), (.cons _ (.cons _ .slnil)), ?_⟩
    change WpD _ _ _ _ _ _ _ _ _ _ _ _ _ _ [Chunk.own 62 5 (some ⟨b11, 0, none⟩) 1 1 [.int .i64 (nth ((nth ((nth f.blocks i).phis) j).args) q), .int .i64 (nth ((nth ((nth f.blocks i).phis) j).frm) q), .int .i64 1000, .int .i64 ((nth ((nth f.blocks i).phis) j).bits), .int .i64 1], Chunk.own 62 5 A13 c14 (n3 + 1) ((flatR l3) ++ [.int .i64 (nth ((nth ((nth f.blocks i).phis) j).args) q), .int .i64 (nth ((nth ((nth f.blocks i).phis) j).frm) q), .int .i64 1000, .int .i64 ((nth ((nth f.blocks i).phis) j).bits), .int .i64 1])]
    refine WpD.setL (L' := [Chunk.own 62 5 (some ⟨b11, 0, none⟩) 1 1 [.int .i64 (nth ((nth ((nth f.blocks i).phis) j).args) q), .int .i64 (nth ((nth ((nth f.blocks i).phis) j).frm) q), .int .i64 1000, .int .i64 ((nth ((nth f.blocks i).phis) j).bits), .int .i64 1], Chunk.own 62 5 A13 c14 (n3 + 1) (flatR (l3 ++ [(⟨(nth ((nth ((nth f.blocks i).phis) j).args) q), (nth ((nth ((nth f.blocks i).phis) j).frm) q), 1000, (nth ((nth f.blocks i).phis) j).bits, 1⟩ : DefR)]))]) (by rw [flatR_snoc]) ?_
    refine WpD.g (listed' := lst 18 262143) tabOK [17] (by kernel_rfl) rfl ((((hH2.trans i5).trans hH5).trans j5).trans hH8) (Hp.le.refl _) (.cons _ (.cons _ .slnil)) ?_
    refine WpD.done (by kernel_rfl) ?_
    refine WpG.gw tabOK 4 42 rfl (wrk (x := q + 1) (by omega) (by omega)) ?_
    refine WpG.g tabOK 3 rfl ?_
    refine WpG.dropL (L' := [Chunk.own 62 5 A13 c14 (n3 + 1) (flatR (l3 ++ [(⟨(nth ((nth ((nth f.blocks i).phis) j).args) q), (nth ((nth ((nth f.blocks i).phis) j).frm) q), 1000, (nth ((nth f.blocks i).phis) j).bits, 1⟩ : DefR)]))]) (.cons _ (.cons_cons _ .slnil)) ?_
    refine WpG.wk (ih3 (q + 1) A13 (n3 + 1) c14 (l3 ++ [(⟨(nth ((nth ((nth f.blocks i).phis) j).args) q), (nth ((nth ((nth f.blocks i).phis) j).frm) q), 1000, (nth ((nth f.blocks i).phis) j).bits, 1⟩ : DefR)]) ?_ ?_) rfl
    ·dsimp only
     omega
    ·
     clear ih1 ih2 ih3
     exact ⟨by omega, by omega, useA_step d2 d0 q40 (by omega), by rw [List.length_append, ← d3]; rfl, AllR_snoc d4 ⟨k9, k10, I64_k, k6_0, I64_1⟩⟩
   ·refine WpG.gw tabOK 6 30 rfl (wrk (x := j + 1) (by omega) (by omega)) ?_
    refine WpG.g tabOK 3 rfl ?_
    refine WpG.wk (ih2 (j + 1) A3 n3 c3 l3 H8 ?_ ?_) rfl
    ·dsimp only
     omega
    ·
     clear ih1 ih2 ih3
     exact ⟨by omega, by omega, useA_end d2 (hp _ (nth_mem i0 q16) _ (nth_mem j0 q28)) d0 q40, d3, d4, j5.trans hH8⟩
  ·refine WpG.g tabOK 9 rfl ?_
   refine WpG.wk (WpG.ind6 (fun (k : Int) (A4 : Option Addr) (n4 : Nat) (c4 : Nat) (l4 : List DefR) (G4 : Hp) => ⟨((nth f.blocks i).ops.length - k).toNat, [(1, .pointer (some ⟨b1, 0, none⟩)), (3, .slice A4 n4 c4), (4, .int .i64 i), (5, .pointer (some ⟨b4, 0, none⟩)), (9, .int .i64 k)], G4, [Chunk.own 62 5 A4 c4 n4 (flatR l4)], 0 ≤ k ∧ k ≤ (nth f.blocks i).ops.length ∧ (usesR f = l4 ++ ((opsAsks i k ((nth f.blocks i).ops.drop k.toNat)).map toU ++ (endAsks f.ret i (nth f.blocks i).en ++ (allAsks f.ret (i + 1) (f.blocks.drop (i + 1).toNat))).map toU)) ∧ n4 = l4.length ∧ AllR l4 ∧ G2.le G4⟩) ?_ 0 A2 n2 c2 l2 G2 ⟨by omega, by omega, by rw [← rest2_eq]; exact useP_end j2 j0 q28, j3, j4, Hp.le.refl _⟩) rfl
   intro k A4 n4 c4 l4 G4 inv ih4
   obtain ⟨k0, k1, k2, k3, k4, k5⟩ := inv
   have hle := le_app k2
   refine WpG.g tabOK 5 rfl ?_
   refine WpG.y rfl rfl rfl rfl (RunY.loadH tabOK (hc5.sub 1 1) (j5.trans k5) rfl rfl rfl rfl) ?_
   refine WpG.g tabOK 3 rfl ?_
   refine WpG.caseD (t := 64) rfl (fun q64 => ?_) (fun q64 => ?_)
   ·have hk5 := hk _ (nth_mem i0 q16)
    refine WpG.g tabOK 7 rfl ?_
    refine WpG.y rfl rfl rfl rfl (RunY.loadH tabOK (hc5.sub 1 1) (j5.trans k5) rfl rfl rfl rfl) ?_
    refine WpG.g tabOK 1 rfl ?_
    refine WpG.indexR tabOK rfl rfl rfl rfl rfl rfl rfl rfl rfl r3_1 (by omega) (by omega) ?_
    rintro x15 hx15 b15 o15 cs15 rd15 hc15
    have rd15' := rd15; obtain ⟨A15_4, c15_4, rfl, u15_4, r15_4, k15_0, k15_1, k15_2, k15_3, k15_4⟩ := rd15
    have bz15_4 := r15_4.1
    obtain rfl : x15 = (nth ((nth f.blocks i).ops) k) := hx15
    refine WpG.y rfl rfl rfl rfl (RunY.loadH tabOK hc15 ((((hH2.trans i5).trans hH5).trans j5).trans k5) rfl rfl rfl rfl) ?_
    refine WpG.call0 rfl rfl rfl rfl rfl rfl (rTakes_calls (Rdc.mono ((((hH2.trans i5).trans hH5).trans j5).trans k5) rd15')) ?_
    rintro _ H16 _ hH16 ⟨A16, c16, rfl, r16, rfl⟩
    refine WpG.g tabOK 8 rfl ?_
    refine WpG.wk (WpG.ind5 (fun (u : Int) (A5 : Option Addr) (n5 : Nat) (c5 : Nat) (l5 : List DefR) => ⟨((takesF (nth (nth f.blocks i).ops k)).length - u).toNat, [(1, .pointer (some ⟨b1, 0, none⟩)), (3, .slice A5 n5 c5), (4, .int .i64 i), (5, .pointer (some ⟨b4, 0, none⟩)), (9, .int .i64 k), (10, .slice A16 ((takesF (nth ((nth f.blocks i).ops) k)).length) c16), (11, .int .i64 u)], H16, [Chunk.own 62 5 A5 c5 n5 (flatR l5)], 0 ≤ u ∧ u ≤ (takesF (nth (nth f.blocks i).ops k)).length ∧ (usesR f = l5 ++ (((opAsks i k (nth (nth f.blocks i).ops k)).drop u.toNat).map toU ++ ((opsAsks i (k + 1) ((nth f.blocks i).ops.drop (k + 1).toNat)).map toU ++ (endAsks f.ret i (nth f.blocks i).en ++ (allAsks f.ret (i + 1) (f.blocks.drop (i + 1).toNat))).map toU))) ∧ n5 = l5.length ∧ AllR l5⟩) ?_ 0 A4 n4 c4 l4 ⟨by omega, by omega, useO_in k2 k0 q64, k3, k4⟩) rfl
    intro u A5 n5 c5 l5 inv ih5
    obtain ⟨e0, e1, e2, e3, e4⟩ := inv
    have hle := le_app e2
    refine WpG.g tabOK 8 rfl ?_
    refine WpG.caseD (t := 76) rfl (fun q76 => ?_) (fun q76 => ?_)
    ·have htl := takesR_le (nth (nth f.blocks i).ops k)
     refine WpG.g tabOK 4 rfl ?_
     refine WpG.draw 20 [] mixed (by kernel_rfl) ?_
     refine WpD.g (listed' := lst 20 15499) tabOK [0, 1, 3, 7, 10, 11, 12, 13] (by kernel_rfl) rfl (((((hH2.trans i5).trans hH5).trans j5).trans k5).trans hH16) (Hp.le.refl _) (.cons _ .slnil) ?_
     refine WpD.y (i := 2) (fuel := 11) (listed' := lst 20 15503) (by kernel_rfl) rfl rfl rfl rfl (((((hH2.trans i5).trans hH5).trans j5).trans k5).trans hH16) (Hp.le.refl _) (.cons _ .slnil) (RunY.loadH tabOK (hc5.sub 1 1) ((j5.trans k5).trans hH16) rfl rfl rfl rfl) ?_
     refine WpD.indexR (i := 4) (fuel := 10) (listed' := lst 20 15519) tabOK (by kernel_rfl) rfl rfl rfl rfl rfl rfl rfl rfl rfl (((((hH2.trans i5).trans hH5).trans j5).trans k5).trans hH16) (Hp.le.refl _) (.cons _ .slnil) r3_1 (by omega) (by omega) ?_
     rintro x17 hx17 b17 o17 cs17 rd17 hc17
     have rd17' := rd17; obtain ⟨A17_4, c17_4, rfl, u17_4, r17_4, k17_0, k17_1, k17_2, k17_3, k17_4⟩ := rd17
     have bz17_4 := r17_4.1
     obtain rfl : x17 = (nth ((nth f.blocks i).ops) k) := hx17
     refine WpD.g (listed' := lst 20 15551) tabOK [5] (by kernel_rfl) rfl (((((hH2.trans i5).trans hH5).trans j5).trans k5).trans hH16) (Hp.le.refl _) (.cons _ .slnil) ?_
     refine WpD.y (i := 6) (fuel := 8) (listed' := lst 20 15615) (by kernel_rfl) rfl rfl rfl rfl (((((hH2.trans i5).trans hH5).trans j5).trans k5).trans hH16) (Hp.le.refl _) (.cons _ .slnil) (RunY.loadH tabOK (hc17.sub 4 1) (((((hH2.trans i5).trans hH5).trans j5).trans k5).trans hH16) rfl rfl rfl rfl) ?_
     refine WpD.indexR (i := 8) (fuel := 7) (listed' := lst 20 15871) tabOK (by kernel_rfl) rfl rfl rfl rfl rfl rfl rfl rfl rfl (((((hH2.trans i5).trans hH5).trans j5).trans k5).trans hH16) (Hp.le.refl _) (.cons _ .slnil) r17_4 (by omega) (by omega) ?_
     rintro x18 hx18 b18 o18 _ ⟨rfl, k18⟩ hc18
     obtain rfl : x18 = (nth ((nth ((nth f.blocks i).ops) k).args) u) := hx18
     refine WpD.y (i := 9) (fuel := 6) (listed' := lst 20 16383) (by kernel_rfl) rfl rfl rfl rfl (((((hH2.trans i5).trans hH5).trans j5).trans k5).trans hH16) (Hp.le.refl _) (.cons _ .slnil) (RunY.loadH tabOK hc18 (((((hH2.trans i5).trans hH5).trans j5).trans k5).trans hH16) rfl rfl rfl rfl) ?_
     refine WpD.indexR (i := 14) (fuel := 5) (listed' := lst 20 32767) tabOK (by kernel_rfl) rfl rfl rfl rfl rfl rfl rfl rfl rfl (((((hH2.trans i5).trans hH5).trans j5).trans k5).trans hH16) (Hp.le.refl _) (.cons _ .slnil) r16 (by omega) (by omega) ?_
     rintro x19 hx19 b19 o19 cs19 rd19 hc19
     have rd19' := rd19; obtain ⟨rfl, k19_0, k19_1⟩ := rd19
     obtain rfl : x19 = (nth (takesF (nth ((nth f.blocks i).ops) k)) u) := hx19
     refine WpD.y (i := 15) (fuel := 4) (listed' := lst 20 65535) (by kernel_rfl) rfl rfl rfl rfl (((((hH2.trans i5).trans hH5).trans j5).trans k5).trans hH16) (Hp.le.refl _) (.cons _ .slnil) (RunY.loadH tabOK hc19 (Hp.le.refl _) rfl rfl rfl rfl) ?_
     refine WpD.g (listed' := lst 20 131071) tabOK [16] (by kernel_rfl) rfl (((((hH2.trans i5).trans hH5).trans j5).trans k5).trans hH16) (Hp.le.refl _) (.cons _ .slnil) ?_
     refine WpD.f (i := 17) (fuel := 2) (listed' := lst 20 262143) (by kernel_rfl) (((((hH2.trans i5).trans hH5).trans j5).trans k5).trans hH16) (OpG.buildSlice (xs := [.int .i64 (nth ((nth ((nth f.blocks i).ops) k).args) u), .int .i64 i, .int .i64 k, .int .i64 ((nth (takesF (nth ((nth f.blocks i).ops) k)) u).1), .int .i64 ((nth (takesF (nth ((nth f.blocks i).ops) k)) u).2)]) tabOK rfl rfl rfl rfl rfl rfl rfl rfl rfl rfl) ?_
     rintro F1 H1 L1 ⟨b20, eF, eH, eL⟩
     subst eF; subst eL; rw [eH]; clear eH H1
     refine ⟨(Hp.le.refl _), (.cons _ (.cons _ .slnil)), ?_⟩
     change WpD _ _ _ _ _ _ _ _ _ _ _ _ _ _ [Chunk.own 62 5 (some ⟨b20, 0, none⟩) 1 1 [.int .i64 (nth ((nth ((nth f.blocks i).ops) k).args) u), .int .i64 i, .int .i64 k, .int .i64 ((nth (takesF (nth ((nth f.blocks i).ops) k)) u).1), .int .i64 ((nth (takesF (nth ((nth f.blocks i).ops) k)) u).2)], Chunk.own 62 5 A5 c5 n5 (flatR l5)]
     refine WpD.f (i := 18) (fuel := 1) (listed' := lst 20 524287) (by kernel_rfl) (((((hH2.trans i5).trans hH5).trans j5).trans k5).trans hH16) (OpG.append (ci := 1) tabOK rfl rfl rfl rfl rfl rfl rfl rfl rfl rfl rfl rfl (Src.own (ci := 0) rfl) (by omega)) ?_
     rintro F1 H1 L1 ⟨A22, c23, eF, eH, eL⟩
     subst eF; subst eL; rw [eH]; clear eH H1
     refine ⟨(Hp.le.refl _), (.cons _ (.cons _ .slnil)), ?_⟩
     change WpD _ _ _ _ _ _ _ _ _ _ _ _ _ _ [Chunk.own 62 5 (some ⟨b20, 0, none⟩) 1 1 [.int .i64 (nth ((nth ((nth f.blocks i).ops) k).args) u), .int .i64 i, .int .i64 k, .int .i64 ((nth (takesF (nth ((nth f.blocks i).ops) k)) u).1), .int .i64 ((nth (takesF (nth ((nth f.blocks i).ops) k)) u).2)], Chunk.own 62 5 A22 c23 (n5 + 1) ((flatR l5) ++ [.int .i64 (nth ((nth ((nth f.blocks i).ops) k).args) u), .int .i64 i, .int .i64 k, .int .i64 ((nth (takesF (nth ((nth f.blocks i).ops) k)) u).1), .int .i64 ((nth (takesF (nth ((nth f.blocks i).ops) k)) u).2)])]
     refine WpD.setL (L' := [Chunk.own 62 5 (some ⟨b20, 0, none⟩) 1 1 [.int .i64 (nth ((nth ((nth f.blocks i).ops) k).args) u), .int .i64 i, .int .i64 k, .int .i64 ((nth (takesF (nth ((nth f.blocks i).ops) k)) u).1), .int .i64 ((nth (takesF (nth ((nth f.blocks i).ops) k)) u).2)], Chunk.own 62 5 A22 c23 (n5 + 1) (flatR (l5 ++ [(⟨(nth ((nth ((nth f.blocks i).ops) k).args) u), i, k, (nth (takesF (nth ((nth f.blocks i).ops) k)) u).1, (nth (takesF (nth ((nth f.blocks i).ops) k)) u).2⟩ : DefR)]))]) (by rw [flatR_snoc]) ?_
     refine WpD.g (listed' := lst 20 1048575) tabOK [19] (by kernel_rfl) rfl (((((hH2.trans i5).trans hH5).trans j5).trans k5).trans hH16) (Hp.le.refl _) (.cons _ (.cons _ .slnil)) ?_
     refine WpD.done (by kernel_rfl) ?_
     refine WpG.gw tabOK 4 78 rfl (wrk (x := u + 1) (by omega) (by omega)) ?_
     refine WpG.g tabOK 3 rfl ?_
     refine WpG.dropL (L' := [Chunk.own 62 5 A22 c23 (n5 + 1) (flatR (l5 ++ [(⟨(nth ((nth ((nth f.blocks i).ops) k).args) u), i, k, (nth (takesF (nth ((nth f.blocks i).ops) k)) u).1, (nth (takesF (nth ((nth f.blocks i).ops) k)) u).2⟩ : DefR)]))]) (.cons _ (.cons_cons _ .slnil)) ?_
     refine WpG.wk (ih5 (u + 1) A22 (n5 + 1) c23 (l5 ++ [(⟨(nth ((nth ((nth f.blocks i).ops) k).args) u), i, k, (nth (takesF (nth ((nth f.blocks i).ops) k)) u).1, (nth (takesF (nth ((nth f.blocks i).ops) k)) u).2⟩ : DefR)]) ?_ ?_) rfl
     ·dsimp only
      omega
     ·
      clear ih1 ih2 ih4 ih5
      exact ⟨by omega, by omega, useT_step e2 (by omega) e0 (by omega) q76, by rw [List.length_append, ← e3]; rfl, AllR_snoc e4 ⟨k18, i64s (x := i) (by omega) (by omega), i64s (x := k) (by omega) (by omega), k19_0, k19_1⟩⟩
    ·refine WpG.gw tabOK 6 66 rfl (wrk (x := k + 1) (by omega) (by omega)) ?_
     refine WpG.g tabOK 3 rfl ?_
     refine WpG.wk (ih4 (k + 1) A5 n5 c5 l5 H16 ?_ ?_) rfl
     ·dsimp only
      omega
     ·
      clear ih1 ih2 ih4 ih5
      exact ⟨by omega, by omega, useT_end e2 e0 q76, e3, e4, k5.trans hH16⟩
   ·refine WpG.g tabOK 7 rfl ?_
    refine WpG.y rfl rfl rfl rfl (RunY.loadH tabOK (hc5.sub 2 1) (j5.trans k5) rfl rfl rfl rfl) ?_
    refine WpG.g tabOK 2 rfl ?_
    refine WpG.caseE (t := 101) rfl (fun q101 => ?_) (fun q101 => ?_)
    ·refine WpG.g tabOK 5 rfl ?_
     refine WpG.y rfl rfl rfl rfl (RunY.loadH tabOK (hc5.sub 3 1) (j5.trans k5) rfl rfl rfl rfl) ?_
     refine WpG.g tabOK 2 rfl ?_
     refine WpG.y rfl rfl rfl rfl (RunY.loadH tabOK (hc2.sub 1 1) (((i5.trans hH5).trans j5).trans k5) rfl rfl rfl rfl) ?_
     refine WpG.g tabOK 2 rfl ?_
     refine WpG.buildSlice (xs := [.int .i64 ((nth f.blocks i).en.arg), .int .i64 i, .int .i64 1000, .int .i64 f.ret, .int .i64 1]) tabOK rfl rfl rfl rfl rfl rfl rfl rfl rfl rfl (fun b24 => ?_)
     refine WpG.append (ci := 1) tabOK rfl rfl rfl rfl rfl rfl rfl rfl rfl rfl rfl rfl (Src.own (ci := 0) rfl) (by omega) (fun A26 c27 => ?_)
     refine WpG.dropL (L' := [Chunk.own 62 5 A26 c27 (n4 + 1) ((flatR l4) ++ [.int .i64 ((nth f.blocks i).en.arg), .int .i64 i, .int .i64 1000, .int .i64 f.ret, .int .i64 1])]) (.cons _ (.cons_cons _ .slnil)) ?_
     refine WpG.setL (L' := [Chunk.own 62 5 A26 c27 (n4 + 1) (flatR (l4 ++ [(⟨(nth f.blocks i).en.arg, i, 1000, f.ret, 1⟩ : DefR)]))]) (by rw [flatR_snoc]) ?_
     refine WpG.g tabOK 6 rfl ?_
     refine WpG.y rfl rfl rfl rfl (RunY.loadH tabOK (hc5.sub 2 1) (j5.trans k5) rfl rfl rfl rfl) ?_
     refine WpG.g tabOK 2 rfl ?_
     refine WpG.caseE (t := 116) rfl (fun q116 => ?_) (fun q116 => ?_)
     ·exfalso; omega
     ·refine WpG.gw tabOK 6 18 rfl (wrk (x := i + 1) (by omega) (by omega)) ?_
      refine WpG.g tabOK 3 rfl ?_
      refine WpG.wk (ih1 (i + 1) A26 (n4 + 1) c27 (l4 ++ [(⟨(nth f.blocks i).en.arg, i, 1000, f.ret, 1⟩ : DefR)]) G4 ?_ ?_) rfl
      ·dsimp only
       omega
      ·
       clear ih1 ih2 ih4
       exact ⟨by omega, by omega, useE_0 (useO_end k2 k0 q64) hr q101, by rw [List.length_append, ← k3]; rfl, AllR_snoc k4 ⟨k3_1, i64s (x := i) (by omega) (by omega), I64_k, k_f_0, I64_1⟩, i5.trans (hH5.trans (j5.trans k5))⟩
    ·refine WpG.g tabOK 6 rfl ?_
     refine WpG.y rfl rfl rfl rfl (RunY.loadH tabOK (hc5.sub 2 1) (j5.trans k5) rfl rfl rfl rfl) ?_
     refine WpG.g tabOK 2 rfl ?_
     refine WpG.caseE (t := 116) rfl (fun q116 => ?_) (fun q116 => ?_)
     ·refine WpG.g tabOK 5 rfl ?_
      refine WpG.y rfl rfl rfl rfl (RunY.loadH tabOK (hc5.sub 3 1) (j5.trans k5) rfl rfl rfl rfl) ?_
      refine WpG.g tabOK 3 rfl ?_
      refine WpG.buildSlice (xs := [.int .i64 ((nth f.blocks i).en.arg), .int .i64 i, .int .i64 1000, .int .i64 1, .int .i64 1]) tabOK rfl rfl rfl rfl rfl rfl rfl rfl rfl rfl (fun b28 => ?_)
      refine WpG.append (ci := 1) tabOK rfl rfl rfl rfl rfl rfl rfl rfl rfl rfl rfl rfl (Src.own (ci := 0) rfl) (by omega) (fun A30 c31 => ?_)
      refine WpG.dropL (L' := [Chunk.own 62 5 A30 c31 (n4 + 1) ((flatR l4) ++ [.int .i64 ((nth f.blocks i).en.arg), .int .i64 i, .int .i64 1000, .int .i64 1, .int .i64 1])]) (.cons _ (.cons_cons _ .slnil)) ?_
      refine WpG.setL (L' := [Chunk.own 62 5 A30 c31 (n4 + 1) (flatR (l4 ++ [(⟨(nth f.blocks i).en.arg, i, 1000, 1, 1⟩ : DefR)]))]) (by rw [flatR_snoc]) ?_
      refine WpG.gw tabOK 6 18 rfl (wrk (x := i + 1) (by omega) (by omega)) ?_
      refine WpG.g tabOK 3 rfl ?_
      refine WpG.wk (ih1 (i + 1) A30 (n4 + 1) c31 (l4 ++ [(⟨(nth f.blocks i).en.arg, i, 1000, 1, 1⟩ : DefR)]) G4 ?_ ?_) rfl
      ·dsimp only
       omega
      ·
       clear ih1 ih2 ih4
       exact ⟨by omega, by omega, useE_2 (useO_end k2 k0 q64) q116, by rw [List.length_append, ← k3]; rfl, AllR_snoc k4 ⟨k3_1, i64s (x := i) (by omega) (by omega), I64_k, I64_1, I64_1⟩, i5.trans (hH5.trans (j5.trans k5))⟩
     ·refine WpG.gw tabOK 6 18 rfl (wrk (x := i + 1) (by omega) (by omega)) ?_
      refine WpG.g tabOK 3 rfl ?_
      refine WpG.wk (ih1 (i + 1) A4 n4 c4 l4 G4 ?_ ?_) rfl
      ·dsimp only
       omega
      ·
       clear ih1 ih2 ih4
       exact ⟨by omega, by omega, useE_n (useO_end k2 k0 q64) q101 q116, k3, k4, i5.trans (hH5.trans (j5.trans k5))⟩
 ·refine WpG.g tabOK 7 rfl ?_
  refine WpG.ownCap (ci := 0) rfl (fun uz32 => ?_)
  refine WpG.freezeOwn (ci := 0) rfl (fun H32 hH32 fz32 => ?_)
  have rz32 : RdS H32 A1 l1 := RdS.of_own (H := G) (show RdL G (flatR l1) l1 from RdL_defs _ i4) (i3) (by have := le_app i2; omega) hH32 fz32
  exact WpG.ret tabOK (L' := []) (.tmp rfl .nil) .slnil (rows_ret (useR_done i2 i0 q16) i3 uz32 rz32)
end Go.Proofs.YtdjemlkllbhdlaaGreat
namespace Go.Proofs.YtdjemlkllbhdlaaGreat
open Go Go.RowKit
def toD (d : DefR) : DefD := ⟨d.blk, d.pos, d.bits, d.lanes⟩
def msR (l : List DefR) : List (Int × DefD) := l.map fun d => (d.v, toD d)
def vsR (l : List DefR) : List Int := l.map (·.v)
theorem msR_keys (l : List DefR) : keysOf (msR l) = vsR l := by simp [keysOf, msR, vsR]
theorem msR_snoc (l : List DefR) (d : DefR) : msR (l ++ [d]) = msR l ++ [(d.v, toD d)] := by simp [msR]
theorem mput_app {α : Type} {k : Int} (v : α) : ∀ {ms : List (Int × α)}, k ∉ keysOf ms → mput ms k v = ms ++ [(k, v)]
  | [], _ => rfl
  | (a, x) :: l, h => by
    simp only [keysOf, List.map_cons, List.mem_cons, not_or] at h
    simp only [mput, if_neg (Ne.symm h.1), List.cons_append]
    rw [mput_app v (ms := l) h.2]
theorem par_eq : ∀ (l : List Int) (pre : List DefR) (i : Int), (∀ d ∈ pre, d.v ≤ i) → parPuts (msR pre) i l = msR (pre ++ parR i l)
  | [], pre, i, _ => by simp [parPuts, parR]
  | b :: l, pre, i, h => by
    have hk : i + 1 ∉ keysOf (msR pre) := fun hm => by
      rw [msR_keys] at hm
      obtain ⟨d, hd, e⟩ := List.mem_map.1 hm
      have := h d hd; omega
    have e : mput (msR pre) (i + 1) ⟨-1, 0, b, 1⟩ = msR (pre ++ [⟨i + 1, -1, 0, b, 1⟩]) := by rw [mput_app _ hk, msR_snoc]; rfl
    show parPuts (mput (msR pre) (i + 1) ⟨-1, 0, b, 1⟩) (i + 1) l = _
    rw [e, par_eq l _ (i + 1) (fun d hd => ?_), List.append_assoc]
    · rfl
    · rcases List.mem_append.1 hd with hd | hd
      · have := h d hd; omega
      · rw [List.mem_singleton.1 hd]; exact Int.le_refl _
def PhiGood (l : List PutD) : Prop := ∀ p ∈ l, p.phi = true → 1 ≤ p.v ∧ p.v ≤ 1023
theorem put_some : ∀ (l : List PutD) (pre : List DefR) (ms : List (Int × DefD)), (vsR pre).Nodup → putAll (msR pre) l = some ms → ms = msR (pre ++ l.map toR) ∧ PhiGood l ∧ (vsR (pre ++ l.map toR)).Nodup
  | [], pre, ms, hn, h => by
    simp only [putAll, Option.some.injEq] at h
    rw [List.map_nil, List.append_nil]
    exact ⟨h.symm, (fun p hp => by cases hp), hn⟩
  | p :: l, pre, ms, hn, h => by
    simp only [putAll] at h
    split at h
    · cases h
    · rename_i hb
      have hk : p.v ∉ keysOf (msR pre) := fun hm => hb (.inr (by
        cases hg : mget (msR pre) p.v with
        | none => exact absurd hm (mget_none.1 hg)
        | some d => rfl))
      have e : mput (msR pre) p.v p.d = msR (pre ++ [toR p]) := by rw [mput_app _ hk, msR_snoc]; rfl
      rw [e] at h
      have hn' : (vsR (pre ++ [toR p])).Nodup := by
        rw [msR_keys] at hk
        unfold vsR at hk ⊢
        rw [List.map_append]
        refine List.nodup_append.2 ⟨hn, by simp, fun x hx y hy exy => ?_⟩
        simp at hy
        subst exy; subst hy; exact hk hx
      obtain ⟨h1, h2, h3⟩ := put_some l _ ms hn' h
      rw [List.append_assoc] at h1 h3
      refine ⟨h1, fun q hq hp => ?_, h3⟩
      rcases List.mem_cons.1 hq with rfl | hq
      · refine ⟨?_, ?_⟩ <;> (apply Classical.byContradiction; intro hc; exact hb (.inl ⟨hp, by omega⟩))
      · exact h2 q hq hp
theorem put_none : ∀ (l : List PutD) (pre : List DefR), PhiGood l → (vsR (pre ++ l.map toR)).Nodup → putAll (msR pre) l = some (msR (pre ++ l.map toR))
  | [], pre, _, _ => by rw [List.map_nil, List.append_nil]; rfl
  | p :: l, pre, hg, hn => by
    have hk : p.v ∉ keysOf (msR pre) := fun hm => by
      rw [msR_keys] at hm
      unfold vsR at hn hm
      rw [List.map_append] at hn
      exact (List.nodup_append.1 hn).2.2 _ hm p.v (by simp [toR]) rfl
    have e : mput (msR pre) p.v p.d = msR (pre ++ [toR p]) := by rw [mput_app _ hk, msR_snoc]; rfl
    have hb : ¬ ((p.phi = true ∧ (p.v < 1 ∨ p.v > 1023)) ∨ (mget (msR pre) p.v).isSome = true) := by
      rintro (⟨h1, h2⟩ | h1)
      · have := hg p (.head _) h1; omega
      · rw [mget_none.2 hk] at h1; cases h1
    simp only [putAll]
    rw [if_neg hb, e, put_none l (pre ++ [toR p]) (fun q hq => hg q (.tail _ hq)) (by rw [List.append_assoc]; exact hn), List.append_assoc]
    rfl
theorem parR_vs : ∀ (l : List Int) (i : Int), (∀ d ∈ parR i l, i + 1 ≤ d.v ∧ d.v ≤ i + l.length ∧ d.blk = -1 ∧ d.pos = 0) ∧ (vsR (parR i l)).Nodup
  | [], i => ⟨fun d h => (by cases h), by simp [parR, vsR]⟩
  | b :: l, i => by
    obtain ⟨h1, h2⟩ := parR_vs l (i + 1)
    refine ⟨fun d hd => ?_, ?_⟩
    · rcases List.mem_cons.1 hd with rfl | hd
      · simp; omega
      · have := h1 d hd; simp only [List.length_cons]; omega
    · show ((i + 1) :: vsR (parR (i + 1) l)).Nodup
      refine List.nodup_cons.2 ⟨fun hm => ?_, h2⟩
      obtain ⟨d, hd, e⟩ := List.mem_map.1 hm
      have := h1 d hd; omega
theorem defs_some {f : FuncD} {ms : List (Int × DefD)} (h : defsD f = some ms) : ms = msR (defsR f) ∧ PhiGood (allPuts 0 f.blocks) ∧ (vsR (defsR f)).Nodup := by
  unfold defsD at h
  have e := par_eq f.params [] 0 (fun d hd => by cases hd)
  rw [show ([] : List (Int × DefD)) = msR [] from rfl, e] at h
  exact put_some _ _ _ (parR_vs f.params 0).2 h
theorem defs_yes {f : FuncD} (h1 : PhiGood (allPuts 0 f.blocks)) (h2 : (vsR (defsR f)).Nodup) : defsD f = some (msR (defsR f)) := by
  unfold defsD
  have e := par_eq f.params [] 0 (fun d hd => by cases hd)
  rw [show ([] : List (Int × DefD)) = msR [] from rfl, e]
  exact put_none _ _ h1 h2
theorem opsPuts_ok (i : Int) : ∀ (l : List OpD) (k : Int), ∀ p ∈ opsPuts i k l, p.phi = false ∧ valueOK p.v = true ∧ p.d.blk = i ∧ k ≤ p.d.pos ∧ p.d.pos < k + l.length
  | [], _, p, h => by cases h
  | o :: l, k, p, h => by
    simp only [opsPuts] at h
    simp only [List.length_cons]
    rcases List.mem_append.1 h with h | h
    · split at h
      · rename_i hg
        simp only [List.mem_singleton] at h; subst h
        refine ⟨rfl, ?_, rfl, Int.le_refl _, by simp; omega⟩
        unfold givesF at hg
        by_cases hm : (!mayO o || storesK o.kind) = true
        · rw [if_pos hm] at hg; simp at hg
        · simp only [Bool.or_eq_true, Bool.not_eq_true', not_or, Bool.not_eq_false, Bool.not_eq_true] at hm
          have h1 := hm.1
          simp only [mayO, Bool.and_eq_true] at h1
          have h2 := h1.2.2.1
          rw [if_neg (by simp [hm.2])] at h2
          exact h2
      · cases h
    · have := opsPuts_ok i l (k + 1) p h
      exact ⟨this.1, this.2.1, this.2.2.1, by omega, by omega⟩
theorem allPuts_ok : ∀ (bs : List BlockD) (i : Int), (∀ x ∈ bs, x.ops.length ≤ 512) → ∀ p ∈ allPuts i bs, (p.phi = true ∨ valueOK p.v = true) ∧ i ≤ p.d.blk ∧ p.d.blk < i + bs.length ∧ -1 ≤ p.d.pos ∧ p.d.pos < 512
  | [], _, _, p, h => by cases h
  | b :: l, i, hb, p, h => by
    simp only [allPuts] at h
    simp only [List.length_cons]
    rcases List.mem_append.1 h with h | h
    · unfold phiPuts at h
      obtain ⟨q, _, rfl⟩ := List.mem_map.1 h
      exact ⟨.inl rfl, by simp, by simp; omega, by simp, by simp⟩
    · rcases List.mem_append.1 h with h | h
      · have h1 := opsPuts_ok i b.ops 0 p h
        have h2 := hb b (.head _)
        exact ⟨.inr h1.2.1, by omega, by omega, by omega, by omega⟩
      · have h1 := allPuts_ok l (i + 1) (fun x hx => hb x (.tail _ hx)) p h
        exact ⟨h1.1, by omega, by omega, by omega, by omega⟩
theorem defsR_ok {f : FuncD} (hp : f.params.length ≤ 16) (hb : ∀ x ∈ f.blocks, x.ops.length ≤ 512) (hg : PhiGood (allPuts 0 f.blocks)) : ∀ d ∈ defsR f, valueOK d.v = true := fun d hd => by
  unfold defsR at hd
  rcases List.mem_append.1 hd with hd | hd
  · have := (parR_vs f.params 0).1 d hd
    unfold valueOK; simp; omega
  · obtain ⟨p, hp, rfl⟩ := List.mem_map.1 hd
    have h1 := allPuts_ok f.blocks 0 hb p hp
    show valueOK p.v = true
    rcases h1.1 with h2 | h2
    · have := hg p hp h2; unfold valueOK; simp; omega
    · exact h2
theorem defsR_at {f : FuncD} (hb : ∀ x ∈ f.blocks, x.ops.length ≤ 512) : ∀ d ∈ defsR f, (d.blk = -1 ∨ (0 ≤ d.blk ∧ d.blk < f.blocks.length)) ∧ -1 ≤ d.pos ∧ d.pos < 512 := fun d hd => by
  unfold defsR at hd
  rcases List.mem_append.1 hd with hd | hd
  · have := (parR_vs f.params 0).1 d hd; omega
  · obtain ⟨p, hp, rfl⟩ := List.mem_map.1 hd
    have h1 := allPuts_ok f.blocks 0 hb p hp
    show (p.d.blk = -1 ∨ _) ∧ -1 ≤ p.d.pos ∧ p.d.pos < 512
    have : (toR p).blk = p.d.blk := rfl
    rw [this]
    omega
theorem idx_mget (w : Int) : ∀ (l : List DefR) (i : Int), 0 ≤ i → (idxFrom (fun d => d.v == w) l i = -1 ∧ mget (msR l) w = none) ∨ (i ≤ idxFrom (fun d => d.v == w) l i ∧ idxFrom (fun d => d.v == w) l i < i + l.length ∧ (nth l (idxFrom (fun d => d.v == w) l i - i)).v = w ∧ mget (msR l) w = some (toD (nth l (idxFrom (fun d => d.v == w) l i - i))))
  | [], i, _ => .inl ⟨rfl, rfl⟩
  | d :: l, i, h0 => by
    by_cases e : d.v = w
    · right
      have e1 : idxFrom (fun d => d.v == w) (d :: l) i = i := by simp [idxFrom, e]
      rw [e1, Int.sub_self]
      refine ⟨Int.le_refl _, by simp; omega, e, ?_⟩
      show mget ((d.v, toD d) :: msR l) w = some (toD d)
      simp [mget, e]
    · have e1 : idxFrom (fun d => d.v == w) (d :: l) i = idxFrom (fun d => d.v == w) l (i + 1) := by simp [idxFrom, e]
      have e2 : mget (msR (d :: l)) w = mget (msR l) w := by show mget ((d.v, toD d) :: msR l) w = _; simp [mget, e]
      rw [e1, e2]
      rcases idx_mget w l (i + 1) (by omega) with h | ⟨h1, h2, h3, h4⟩
      · exact .inl h
      · right
        have e3 : nth (d :: l) (idxFrom (fun d => d.v == w) l (i + 1) - i) = nth l (idxFrom (fun d => d.v == w) l (i + 1) - (i + 1)) := by
          unfold nth
          rw [show (idxFrom (fun d => d.v == w) l (i + 1) - i).toNat = (idxFrom (fun d => d.v == w) l (i + 1) - (i + 1)).toNat + 1 from by omega]; rfl
        rw [e3]
        exact ⟨by omega, by simp only [List.length_cons]; omega, h3, h4⟩
theorem find_no {l : List DefR} {w : Int} (h : findR l w < 0) : mget (msR l) w = none := by
  unfold findR at h
  rcases idx_mget w l 0 (Int.le_refl 0) with h1 | h1
  · exact h1.2
  · omega
theorem find_yes {l : List DefR} {w : Int} (h : ¬ findR l w < 0) : 0 ≤ findR l w ∧ findR l w < l.length ∧ (nth l (findR l w)).v = w ∧ mget (msR l) w = some (toD (nth l (findR l w))) := by
  unfold findR at h ⊢
  rcases idx_mget w l 0 (Int.le_refl 0) with h1 | h1
  · omega
  · rw [Int.sub_zero] at h1
    exact ⟨h1.1, by omega, h1.2.2⟩
theorem nth_nat {α : Type} [Inhabited α] {l : List α} {i : Nat} (h : i < l.length) : nth l (i : Int) = l[i] := by
  unfold nth
  rw [show ((i : Int)).toNat = i from by omega]; simp [h]
def DOK (l : List DefR) (n : Int) : Prop := ∀ x : Int, 0 ≤ x → x < n → valueOK (nth l x).v = true ∧ findR l (nth l x).v = x
theorem DOK.zero {l : List DefR} : DOK l 0 := fun x x0 x1 => by omega
theorem DOK.step {l : List DefR} {i : Int} (h : DOK l i) (hb : (!(valueOK (nth l i).v) || !(findR l (nth l i).v == i)) = false) : DOK l (i + 1) := fun x x0 x1 => by
  simp only [Bool.or_eq_false_iff, Bool.not_eq_false', beq_iff_eq] at hb
  by_cases e : x = i
  · subst e; exact hb
  · exact h x x0 (by omega)
theorem DOK.nodup {l : List DefR} (h : DOK l l.length) : (vsR l).Nodup := by
  unfold vsR
  rw [List.Nodup, List.pairwise_iff_getElem]
  intro i j hi hj hij e
  simp only [List.length_map] at hi hj
  simp only [List.getElem_map] at e
  have h1 := (h i (by omega) (by omega)).2
  have h2 := (h j (by omega) (by omega)).2
  rw [nth_nat hi] at h1
  rw [nth_nat hj] at h2
  rw [e, h2] at h1
  omega
theorem DOK.good {f : FuncD} (h : DOK (defsR f) (defsR f).length) : PhiGood (allPuts 0 f.blocks) := fun p hp _ => by
  have hm : toR p ∈ defsR f := by unfold defsR; exact List.mem_append_right _ (List.mem_map.2 ⟨p, hp, rfl⟩)
  obtain ⟨j, hj, e⟩ := List.mem_iff_getElem.1 hm
  have := (h j (by omega) (by omega)).1
  rw [nth_nat hj, e] at this
  unfold valueOK at this
  simp at this
  exact this
theorem DOK.defs {f : FuncD} {i : Int} (h : DOK (defsR f) i) (h1 : ¬ i < (defsR f).length) : defsD f = some (msR (defsR f)) := by
  have h' : DOK (defsR f) (defsR f).length := fun x x0 x1 => h x x0 (by omega)
  exact defs_yes h'.good h'.nodup
theorem DOK.none_ {f : FuncD} {i : Int} (hp : f.params.length ≤ 16) (hb : ∀ x ∈ f.blocks, x.ops.length ≤ 512) (h0 : 0 ≤ i) (h1 : i < (defsR f).length) (hq : (!(valueOK (nth (defsR f) i).v) || !(findR (defsR f) (nth (defsR f) i).v == i)) = true) : defsD f = none := by
  cases hd : defsD f with
  | none => rfl
  | some ms =>
    exfalso
    obtain ⟨-, h2, h3⟩ := defs_some hd
    have hv := defsR_ok hp hb h2 _ (nth_mem h0 h1)
    rw [hv] at hq
    simp only [Bool.not_true, Bool.false_or, Bool.not_eq_true', beq_eq_false_iff_ne, ne_eq] at hq
    have hy : ¬ findR (defsR f) (nth (defsR f) i).v < 0 := fun hn => by
      have := find_no hn
      rw [mget_none, msR_keys] at this
      exact this (List.mem_map.2 ⟨_, nth_mem h0 h1, rfl⟩)
    obtain ⟨a1, a2, a3, -⟩ := find_yes hy
    refine hq ?_
    have e : (vsR (defsR f))[(findR (defsR f) (nth (defsR f) i).v).toNat]? = (vsR (defsR f))[i.toNat]? := by
      unfold vsR
      rw [List.getElem?_map, List.getElem?_map, nth_get a1 a2, nth_get h0 h1, Option.map_some, Option.map_some, a3]
    have hlen : i.toNat < (vsR (defsR f)).length := by unfold vsR; rw [List.length_map]; omega
    have := (List.getElem?_inj (by unfold vsR; rw [List.length_map]; omega) h3).1 e
    omega
theorem nth_uses {f : FuncD} {i : Int} (h0 : 0 ≤ i) (h1 : i < (usesR f).length) : nth (usesR f) i = toU (nth (asksF f) i) ∧ i < (asksF f).length := by
  have hl : (usesR f).length = (asksF f).length := by simp [usesR]
  have h2 : i < (asksF f).length := by omega
  refine ⟨?_, h2⟩
  have e := nth_get h0 h1
  unfold usesR at e
  rw [List.getElem?_map, nth_get h0 h2, Option.map_some, Option.some.injEq] at e
  exact e.symm
theorem uses_len (f : FuncD) : (usesR f).length = (asksF f).length := by simp [usesR]
theorem first_go {ask : AskF} {l : List AskD} {i r : Int} (h : r = firstA ask (l.drop i.toNat)) (h0 : 0 ≤ i) (h1 : i < l.length) (h2 : ask (nth l i).v (nth l i).s1 (nth l i).s2 (nth l i).bl (nth l i).pos = 0) : r = firstA ask (l.drop (i + 1).toNat) := by
  rw [drop_nth h0 h1] at h
  rw [toNat_succ h0]; exact firstA_no h h2
theorem first_at {ask : AskF} {l : List AskD} {i r c : Int} (h : r = firstA ask (l.drop i.toNat)) (h0 : 0 ≤ i) (h1 : i < l.length) (h2 : ask (nth l i).v (nth l i).s1 (nth l i).s2 (nth l i).bl (nth l i).pos = c) (hc : c ≠ 0) : r = c := by
  rw [drop_nth h0 h1] at h
  rw [firstA_yes h (by rw [h2]; exact hc), h2]
theorem first_end {ask : AskF} {l : List AskD} {i r : Int} (h : r = firstA ask (l.drop i.toNat)) (h0 : 0 ≤ i) (h1 : ¬ i < l.length) : r = 0 := by
  rw [h, drop_end h0 h1]; rfl
section
variable {f : FuncD} {i : Int}
abbrev foundAll (f : FuncD) (n : Int) : Prop := ∀ x : Int, 0 ≤ x → x < n → ¬ findR (defsR f) (nth (usesR f) x).v < 0
theorem found_step (h : foundAll f i) (hq : ¬ findR (defsR f) (nth (usesR f) i).v < 0) : foundAll f (i + 1) := fun x x0 x1 => by
  by_cases e : x = i
  · subst e; exact hq
  · exact h x x0 (by omega)
theorem found_end (h : foundAll f i) (h1 : ¬ i < (usesR f).length) : foundAll f (usesR f).length := fun x x0 x1 => h x x0 (by omega)
theorem def_yes {r : Int} (h : r = firstA (askDef (msR (defsR f))) ((asksF f).drop i.toNat)) (h0 : 0 ≤ i) (h1 : i < (usesR f).length) (hq : ¬ findR (defsR f) (nth (usesR f) i).v < 0) : r = firstA (askDef (msR (defsR f))) ((asksF f).drop (i + 1).toNat) := by
  obtain ⟨e, h2⟩ := nth_uses h0 h1
  refine first_go h h0 h2 ?_
  rw [e] at hq
  have := (find_yes hq).2.2.2
  have e2 : (toU (nth (asksF f) i)).v = (nth (asksF f) i).v := rfl
  rw [e2] at this
  unfold askDef; rw [this]; rfl
theorem def_no {r : Int} (h : r = firstA (askDef (msR (defsR f))) ((asksF f).drop i.toNat)) (h0 : 0 ≤ i) (h1 : i < (usesR f).length) (hq : findR (defsR f) (nth (usesR f) i).v < 0) : r = 7 := by
  obtain ⟨e, h2⟩ := nth_uses h0 h1
  refine first_at h h0 h2 ?_ (by decide)
  rw [e] at hq
  have := find_no hq
  have e2 : (toU (nth (asksF f) i)).v = (nth (asksF f) i).v := rfl
  rw [e2] at this
  unfold askDef; rw [this]; rfl
theorem mget_found {w : Int} (hq : ¬ findR (defsR f) w < 0) : (mget (msR (defsR f)) w).getD ⟨0, 0, 0, 0⟩ = toD (nth (defsR f) (findR (defsR f) w)) := by rw [(find_yes hq).2.2.2]; rfl
theorem shp_eq (h0 : 0 ≤ i) (h1 : i < (usesR f).length) (hq : ¬ findR (defsR f) (nth (usesR f) i).v < 0) : askShape (msR (defsR f)) (nth (asksF f) i).v (nth (asksF f) i).s1 (nth (asksF f) i).s2 (nth (asksF f) i).bl (nth (asksF f) i).pos =
    if (!(decide ((nth (defsR f) (findR (defsR f) (nth (usesR f) i).v)).bits = (nth (usesR f) i).bits) && decide ((nth (defsR f) (findR (defsR f) (nth (usesR f) i).v)).lanes = (nth (usesR f) i).lanes))) = true then 6 else 0 := by
  obtain ⟨e, h2⟩ := nth_uses h0 h1
  rw [e] at hq ⊢
  have hm := mget_found hq
  have e2 : (toU (nth (asksF f) i)).v = (nth (asksF f) i).v := rfl
  rw [e2] at hm ⊢
  unfold askShape
  rw [hm]
  show (if (nth (defsR f) _).bits = (nth (asksF f) i).s1 ∧ (nth (defsR f) _).lanes = (nth (asksF f) i).s2 then (0 : Int) else 6) = if (!(decide ((nth (defsR f) _).bits = (nth (asksF f) i).s1) && decide ((nth (defsR f) _).lanes = (nth (asksF f) i).s2))) = true then 6 else 0
  by_cases a : (nth (defsR f) (findR (defsR f) (nth (asksF f) i).v)).bits = (nth (asksF f) i).s1 <;> by_cases b : (nth (defsR f) (findR (defsR f) (nth (asksF f) i).v)).lanes = (nth (asksF f) i).s2 <;> simp [a, b]
theorem shp_yes {r : Int} (h : r = firstA (askShape (msR (defsR f))) ((asksF f).drop i.toNat)) (h0 : 0 ≤ i) (h1 : i < (usesR f).length) (hf : ¬ findR (defsR f) (nth (usesR f) i).v < 0)
    (hq : (!(decide ((nth (defsR f) (findR (defsR f) (nth (usesR f) i).v)).bits = (nth (usesR f) i).bits) && decide ((nth (defsR f) (findR (defsR f) (nth (usesR f) i).v)).lanes = (nth (usesR f) i).lanes))) = false) : r = firstA (askShape (msR (defsR f))) ((asksF f).drop (i + 1).toNat) := by
  refine first_go h h0 (nth_uses h0 h1).2 ?_
  rw [shp_eq h0 h1 hf, hq]; rfl
theorem shp_no {r : Int} (h : r = firstA (askShape (msR (defsR f))) ((asksF f).drop i.toNat)) (h0 : 0 ≤ i) (h1 : i < (usesR f).length) (hf : ¬ findR (defsR f) (nth (usesR f) i).v < 0)
    (hq : (!(decide ((nth (defsR f) (findR (defsR f) (nth (usesR f) i).v)).bits = (nth (usesR f) i).bits) && decide ((nth (defsR f) (findR (defsR f) (nth (usesR f) i).v)).lanes = (nth (usesR f) i).lanes))) = true) : r = 6 := by
  refine first_at h h0 (nth_uses h0 h1).2 ?_ (by decide)
  rw [shp_eq h0 h1 hf, hq]; rfl
end
structure Bnd (f : FuncD) : Prop where
  b0 : 1 ≤ f.blocks.length
  b1 : f.blocks.length ≤ 64
  p1 : f.params.length ≤ 16
  sz : sizeF f ≤ 512
  ok : ∀ b ∈ f.blocks, blockOK b = true
theorem bnd_of {f : FuncD} (h : mayF f = true) : Bnd f := by
  simp only [mayF, Bool.and_eq_true, Bool.not_eq_true', decide_eq_false_iff_not] at h
  exact ⟨by omega, by omega, by omega, by omega, fun b hb => List.all_eq_true.1 h.2.2.2.2.2.2 b hb⟩
theorem sum_mem {α : Type} (g : α → Int) : ∀ (l : List α), (∀ x ∈ l, 0 ≤ g x) → 0 ≤ (l.map g).sum ∧ ∀ x ∈ l, g x ≤ (l.map g).sum
  | [], _ => ⟨by simp, fun x h => by cases h⟩
  | a :: l, h => by
    obtain ⟨h1, h2⟩ := sum_mem g l fun x hx => h x (.tail _ hx)
    have h0 := h a (.head _)
    simp only [List.map_cons, List.sum_cons]
    refine ⟨by omega, fun x hx => ?_⟩
    rcases List.mem_cons.1 hx with rfl | hx
    · omega
    · have := h2 x hx; omega
theorem Bnd.ops {f : FuncD} (h : Bnd f) : ∀ x ∈ f.blocks, x.ops.length ≤ 512 := fun x hx => by
  have h1 := (sum_mem blockSz f.blocks fun y _ => by unfold blockSz; omega).2 x hx
  have h2 := h.sz
  unfold sizeF at h2
  have h3 : (x.ops.length : Int) ≤ blockSz x := by unfold blockSz; omega
  have := h.b0
  omega
theorem opsPuts_len (i : Int) : ∀ (l : List OpD) (k : Int), (opsPuts i k l).length ≤ l.length
  | [], _ => Nat.le_refl _
  | o :: l, k => by
    have := opsPuts_len i l (k + 1)
    simp only [opsPuts, List.length_append, List.length_cons]
    split <;> simp <;> omega
theorem allPuts_len : ∀ (bs : List BlockD) (i : Int), ((allPuts i bs).length : Int) ≤ (bs.map blockSz).sum
  | [], _ => by simp [allPuts]
  | b :: l, i => by
    have h1 := allPuts_len l (i + 1)
    have h2 := opsPuts_len i b.ops 0
    simp only [allPuts, List.length_append, List.map_cons, List.sum_cons, phiPuts, List.length_map]
    unfold blockSz
    unfold blockSz at h1
    omega
theorem parR_len : ∀ (l : List Int) (i : Int), (parR i l).length = l.length
  | [], _ => rfl
  | _ :: l, i => by simp [parR, parR_len l]
theorem Bnd.defs {f : FuncD} (h : Bnd f) : (defsR f).length ≤ 2147483000 := by
  have h1 := allPuts_len f.blocks 0
  have h2 := h.sz
  have h3 := h.p1
  unfold sizeF at h2
  unfold defsR
  rw [List.length_append, parR_len, List.length_map]
  omega
theorem opsAsks_len (i : Int) : ∀ (l : List OpD) (k : Int), (∀ o ∈ l, o.args.length ≤ 64) → (opsAsks i k l).length ≤ 64 * l.length
  | [], _, _ => Nat.le_refl _
  | o :: l, k, h => by
    have h1 := opsAsks_len i l (k + 1) fun x hx => h x (.tail _ hx)
    have h2 := h o (.head _)
    have h3 := takes_le o
    have h4 : (opAsks i k o).length = (takesF o).length := zipA_len' _ _ _ h3
    simp only [opsAsks, List.length_append, List.length_cons]
    omega
theorem phiAsks_len : ∀ (l : List PhiD), (∀ p ∈ l, p.args.length ≤ 64) → (l.flatMap phiAsks).length ≤ 64 * l.length
  | [], _ => Nat.le_refl _
  | p :: l, h => by
    have h1 := phiAsks_len l fun x hx => h x (.tail _ hx)
    have h2 := h p (.head _)
    have h3 : (phiAsks p).length ≤ p.args.length := by
      unfold phiAsks
      rcases Nat.le_total p.args.length p.frm.length with hh | hh
      · rw [zipA_len _ _ _ hh]; exact Nat.le_refl _
      · rw [zipA_len' _ _ _ hh]; exact hh
    simp only [List.flatMap_cons, List.length_append, List.length_cons]
    omega
theorem allAsks_len (ret : Int) : ∀ (bs : List BlockD) (i : Int), (∀ b ∈ bs, blockOK b = true) → ((allAsks ret i bs).length : Int) ≤ 64 * (bs.map blockSz).sum + bs.length
  | [], _, _ => by simp [allAsks]
  | b :: l, i, h => by
    have h1 := allAsks_len ret l (i + 1) fun x hx => h x (.tail _ hx)
    have hb := h b (.head _)
    unfold blockOK at hb
    simp only [Bool.and_eq_true] at hb
    have h2 := opsAsks_len i b.ops 0 fun o ho => by
      have := List.all_eq_true.1 hb.2.1 o ho
      simp only [opOK, Bool.and_eq_true, List.all_cons, listOK, decide_eq_true_eq] at this
      exact this.2.1.1
    have h3 := phiAsks_len b.phis fun p hp => by
      have := List.all_eq_true.1 hb.1 p hp
      simp only [phiOK, Bool.and_eq_true, List.all_cons, listOK, decide_eq_true_eq] at this
      exact this.2.2.1.1
    have h4 : (endAsks ret i b.en).length ≤ 1 := by unfold endAsks; split <;> simp
    simp only [allAsks, blkAsks, List.length_append, List.map_cons, List.sum_cons, List.length_cons]
    unfold blockSz
    unfold blockSz at h1
    omega
theorem Bnd.uses {f : FuncD} (h : Bnd f) : (usesR f).length ≤ 2147483000 := by
  have h1 := allAsks_len f.ret f.blocks 0 h.ok
  have h2 := h.sz
  have h3 := h.b1
  unfold sizeF at h2
  rw [uses_len]
  unfold asksF
  omega
theorem typed_ret {f : FuncD} {lv : Int} (h : typedD f lv = true) : f.ret ≠ 0 := by
  unfold typedD at h
  simp only [Bool.and_eq_true] at h
  rcases mayW_cases h.1 with h | h | h | h | h <;> omega
theorem fit_phis {f : FuncD} (h : FitAll f) : ∀ x ∈ f.blocks, ∀ p ∈ x.phis, p.args.length = p.frm.length := fun x hx p hp => by
  obtain ⟨j, hj, e⟩ := List.mem_iff_getElem.1 hx
  have h1 := (h j (by omega) (by omega)).2
  rw [nth_nat hj, e] at h1
  have h2 := List.all_eq_true.1 h1 p hp
  unfold phiFit at h2
  simp only [Bool.and_eq_true, beq_iff_eq] at h2
  omega
theorem edges_rng : ∀ (s : List (List Int)) (i : Int), ∀ e ∈ edgesFrom i s, i ≤ e.1 ∧ e.1 < i + s.length
  | [], _, e, h => by cases h
  | r :: s, i, e, h => by
    simp only [edgesFrom] at h
    simp only [List.length_cons]
    rcases List.mem_append.1 h with h | h
    · obtain ⟨t, _, rfl⟩ := List.mem_map.1 h; simp; omega
    · have := edges_rng s (i + 1) e h; omega
theorem preds_rng {s : List (List Int)} {x t : Int} (h : t ∈ nth (predsD s) x) : 0 ≤ t ∧ t < s.length := by
  unfold nth predsD at h
  rw [List.getD_eq_getElem?_getD, List.getElem?_map] at h
  cases hr : (List.range s.length)[x.toNat]? with
  | none => rw [hr] at h; simp at h; cases h
  | some n =>
    rw [hr] at h
    simp only [Option.map_some, Option.getD_some, predsOf] at h
    obtain ⟨e, he, rfl⟩ := List.mem_map.1 h
    have := edges_rng s 0 e (List.mem_filter.1 he).1
    omega
theorem zipA_mem {α β γ : Type} (g : α → β → γ) : ∀ (l : List α) (m : List β) (z : γ), z ∈ zipA g l m → ∃ a ∈ l, ∃ b ∈ m, z = g a b
  | [], _, z, h => by simp [zipA] at h
  | _ :: _, [], z, h => by simp [zipA] at h
  | a :: l, b :: m, z, h => by
    simp only [zipA] at h
    rcases List.mem_cons.1 h with rfl | h
    · exact ⟨a, .head _, b, .head _, rfl⟩
    · obtain ⟨a', ha, b', hb, e⟩ := zipA_mem g l m z h
      exact ⟨a', .tail _ ha, b', .tail _ hb, e⟩
theorem opsAsks_at (i : Int) : ∀ (l : List OpD) (k : Int), ∀ a ∈ opsAsks i k l, a.bl = i
  | [], _, a, h => by cases h
  | o :: l, k, a, h => by
    simp only [opsAsks] at h
    rcases List.mem_append.1 h with h | h
    · obtain ⟨_, _, _, _, rfl⟩ := zipA_mem _ _ _ _ h; rfl
    · exact opsAsks_at i l (k + 1) a h
theorem allAsks_at (ret : Int) (n : Int) : ∀ (bs : List BlockD) (i : Int), 0 ≤ i → i + bs.length ≤ n → (∀ x ∈ bs, ∀ p ∈ x.phis, ∀ t ∈ p.frm, 0 ≤ t ∧ t < n) → ∀ a ∈ allAsks ret i bs, 0 ≤ a.bl ∧ a.bl < n
  | [], _, _, _, _, a, h => by cases h
  | b :: l, i, h0, hn, hp, a, h => by
    simp only [allAsks, blkAsks] at h
    simp only [List.length_cons] at hn
    rcases List.mem_append.1 h with h | h
    · rcases List.mem_append.1 h with h | h
      · obtain ⟨p, hpm, ha⟩ := List.mem_flatMap.1 h
        obtain ⟨_, _, t, ht, rfl⟩ := zipA_mem _ _ _ _ ha
        exact hp b (.head _) p hpm t ht
      · rcases List.mem_append.1 h with h | h
        · have := opsAsks_at i b.ops 0 a h; omega
        · unfold endAsks at h
          split at h
          · cases h
          · rw [List.mem_singleton.1 h]; exact ⟨h0, by show i < n; omega⟩
    · exact allAsks_at ret n l (i + 1) (by omega) (by omega) (fun x hx => hp x (.tail _ hx)) a h
theorem asks_bl {f : FuncD} (hof : (ofD f).2 = 0) (h : FitAll f) : ∀ a ∈ asksF f, 0 ≤ a.bl ∧ a.bl < f.blocks.length := by
  refine allAsks_at f.ret f.blocks.length f.blocks 0 (by omega) (by omega) fun x hx p hp t ht => ?_
  obtain ⟨j, hj, e⟩ := List.mem_iff_getElem.1 hx
  have h1 := (h j (by omega) (by omega)).2
  rw [nth_nat hj, e] at h1
  have h2 := List.all_eq_true.1 h1 p hp
  unfold phiFit at h2
  simp only [Bool.and_eq_true] at h2
  have h3 := eqL_eq.1 h2.2.1
  rw [h3] at ht
  obtain ⟨_, _, h4, _⟩ := of_ok hof
  rw [h4] at ht
  have := preds_rng ht
  rw [List.length_map] at this
  exact this
theorem fit_in {f : FuncD} {tl : List Int} (hof : (ofD f).2 = 0) (h : FitAll f) (ht : TreeP (ofD f).1.succ 0 tl) {a b : Int} (a0 : 0 ≤ a) (a1 : a < f.blocks.length) (b0 : 0 ≤ b) (b1 : b < f.blocks.length) : inD tl [a, b] = true := by
  have hr := of_rows hof
  have h1 := tree_right ht (by omega)
  have h2 := depth_reached ht (h a a0 a1).1
  have h3 := depth_reached ht (h b b0 b1).1
  unfold inD
  rw [h1]
  simp; omega
theorem place_eq {f : FuncD} {tl : List Int} {i : Int} (hB : Bnd f) (hof : (ofD f).2 = 0) (h : FitAll f) (ht : TreeP (ofD f).1.succ 0 tl) (h0 : 0 ≤ i) (h1 : i < (usesR f).length) (hf : ¬ findR (defsR f) (nth (usesR f) i).v < 0) {d u : DefR} (hd : d = nth (defsR f) (findR (defsR f) (nth (usesR f) i).v)) (hu : u = nth (usesR f) i) :
    askPlace (msR (defsR f)) tl (nth (asksF f) i).v (nth (asksF f) i).s1 (nth (asksF f) i).s2 (nth (asksF f) i).bl (nth (asksF f) i).pos =
      if (decide (d.blk < 0) || ((d.blk == u.blk) && decide (d.pos < u.pos))) = true then 0 else if ((d.blk == u.blk) || !(meetR tl d.blk u.blk == d.blk)) = true then 7 else 0 := by
  obtain ⟨e, h2⟩ := nth_uses h0 h1
  have hm := mget_found hf
  have hw : (nth (usesR f) i).v = (nth (asksF f) i).v := by rw [e]; rfl
  rw [hw] at hm hd
  rw [hw] at hf
  have hdm := (defsR_at hB.ops) d (by rw [hd]; exact nth_mem (find_yes hf).1 (find_yes hf).2.1)
  have hbl := asks_bl hof h _ (nth_mem h0 h2)
  unfold askPlace
  rw [hm, ← hd]
  have eu : u.blk = (nth (asksF f) i).bl := by rw [hu, e]; rfl
  have ep : (d.pos < u.pos) ↔ (d.pos < (nth (asksF f) i).pos) := by
    have e2 : u.pos = if (nth (asksF f) i).pos = 1048576 then 1000 else (nth (asksF f) i).pos := by rw [hu, e]; rfl
    rw [e2]
    split
    · rename_i h9; rw [h9]; omega
    · exact Iff.rfl
  unfold placeOK
  show (if (decide (d.blk < 0) || (decide (d.blk = _) && decide (d.pos < _)) || (!decide (d.blk = _) && overD tl d.blk _)) = true then (0 : Int) else 7) = _
  rw [eu]
  by_cases c1 : d.blk < 0
  · simp [c1]
  · by_cases c2 : d.blk = (nth (asksF f) i).bl
    · by_cases c3 : d.pos < (nth (asksF f) i).pos
      · simp [c1, c2, c3, ep.2 c3]
      · have c3' : ¬ d.pos < u.pos := fun hc => c3 (ep.1 hc)
        simp [c1, c2, c3, c3']
    · have hin := fit_in hof h ht (a := d.blk) (b := (nth (asksF f) i).bl) (by omega) (by omega) hbl.1 hbl.2
      rw [overR hin]
      by_cases c4 : overD tl d.blk (nth (asksF f) i).bl = true
      · simp [c1, c2, c4]
      · simp [c1, c2, c4]
theorem plc_go {f : FuncD} {tl : List Int} {i r : Int} (hr : r = firstA (askPlace (msR (defsR f)) tl) ((asksF f).drop i.toNat)) (hB : Bnd f) (hof : (ofD f).2 = 0) (h : FitAll f) (ht : TreeP (ofD f).1.succ 0 tl) (h0 : 0 ≤ i) (h1 : i < (usesR f).length) (hf : ¬ findR (defsR f) (nth (usesR f) i).v < 0) {d u : DefR} (hd : d = nth (defsR f) (findR (defsR f) (nth (usesR f) i).v)) (hu : u = nth (usesR f) i)
    (hq : (decide (d.blk < 0) || ((d.blk == u.blk) && decide (d.pos < u.pos))) = true ∨ ((d.blk == u.blk) || !(meetR tl d.blk u.blk == d.blk)) = false) : r = firstA (askPlace (msR (defsR f)) tl) ((asksF f).drop (i + 1).toNat) := by
  refine first_go hr h0 (nth_uses h0 h1).2 ?_
  rw [place_eq hB hof h ht h0 h1 hf hd hu]
  rcases hq with hq | hq
  · rw [if_pos hq]
  · rw [hq]; simp
theorem plc_no {f : FuncD} {tl : List Int} {i r : Int} (hr : r = firstA (askPlace (msR (defsR f)) tl) ((asksF f).drop i.toNat)) (hB : Bnd f) (hof : (ofD f).2 = 0) (h : FitAll f) (ht : TreeP (ofD f).1.succ 0 tl) (h0 : 0 ≤ i) (h1 : i < (usesR f).length) (hf : ¬ findR (defsR f) (nth (usesR f) i).v < 0) {d u : DefR} (hd : d = nth (defsR f) (findR (defsR f) (nth (usesR f) i).v)) (hu : u = nth (usesR f) i)
    (hq : (decide (d.blk < 0) || ((d.blk == u.blk) && decide (d.pos < u.pos))) = false) (hq2 : ((d.blk == u.blk) || !(meetR tl d.blk u.blk == d.blk)) = true) : r = 7 := by
  refine first_at hr h0 (nth_uses h0 h1).2 ?_ (by decide)
  rw [place_eq hB hof h ht h0 h1 hf hd hu, hq, hq2]; rfl
def RefIs (f : FuncD) (lv e : Int) : Prop := ((lv < 0 ∨ lv > 2) → e = 1) ∧ (¬ (lv < 0 ∨ lv > 2) → ∀ tl, TreeGood f tl → e = codeOf f lv tl)
theorem RefIs.same {f : FuncD} {lv e e' : Int} (h : RefIs f lv e) (h' : CheckIs f lv e') : e' = e := by
  unfold CheckIs at h'
  by_cases hl : lv < 0 ∨ lv > 2
  · rw [if_pos hl] at h'; rw [h', h.1 hl]
  · rw [if_neg hl] at h'
    obtain ⟨tl, ht, rfl⟩ := h'
    exact (h.2 hl tl ht).symm
section
variable {f : FuncD} {lv : Int}
theorem ref1 (h : lv < 0 ∨ lv > 2) : RefIs f lv 1 := ⟨fun _ => rfl, fun h2 => absurd h h2⟩
theorem ref4 (hl : ¬ (lv < 0 ∨ lv > 2)) (h : mayF f = false) : RefIs f lv 4 := ⟨fun h2 => absurd h2 hl, fun _ tl ht => by unfold codeOf; rw [if_pos h]⟩
theorem ref5 (hl : ¬ (lv < 0 ∨ lv > 2)) (h : mayF f = true) {b : Bool} (h2 : (ofD f).2 ≠ 0 → b = false) (h3 : (ofD f).2 = 0 → ∀ tl, TreeP (ofD f).1.succ 0 tl → b = shapeW f tl) (hb : b = false) : RefIs f lv 5 := ⟨fun h2 => absurd h2 hl, fun _ tl ht => by
  unfold codeOf
  rw [if_neg (by rw [h]; simp)]
  by_cases ho : (ofD f).2 = 0
  · rw [if_neg (by simp [ho]), if_pos (by rw [← h3 ho tl (ht h ho)]; exact hb)]
  · rw [if_pos ho]⟩
theorem of0 {b : Bool} (h2 : (ofD f).2 ≠ 0 → b = false) (hb : b = true) : (ofD f).2 = 0 := Classical.byContradiction fun hc => by rw [h2 hc] at hb; cases hb
variable (hl : ¬ (lv < 0 ∨ lv > 2)) (h : mayF f = true) (ho : (ofD f).2 = 0) (h3 : ∀ tl, TreeP (ofD f).1.succ 0 tl → shapeW f tl = true)
include hl h ho h3
theorem ref6 (h4 : typedD f lv = false) : RefIs f lv 6 := ⟨fun h2 => absurd h2 hl, fun _ tl ht => by
  unfold codeOf; rw [if_neg (by rw [h]; simp), if_neg (by simp [ho]), if_neg (by simp [h3 tl (ht h ho)]), if_pos h4]⟩
theorem ref7 (h4 : typedD f lv = true) (h5 : defsD f = none) : RefIs f lv 7 := ⟨fun h2 => absurd h2 hl, fun _ tl ht => by
  unfold codeOf; rw [if_neg (by rw [h]; simp), if_neg (by simp [ho]), if_neg (by simp [h3 tl (ht h ho)]), if_neg (by simp [h4]), h5]⟩
theorem ref_ms {e : Int} (h4 : typedD f lv = true) (h5 : defsD f = some (msR (defsR f))) (he : ∀ tl, TreeP (ofD f).1.succ 0 tl → e = if firstA (askDef (msR (defsR f))) (asksF f) ≠ 0 then firstA (askDef (msR (defsR f))) (asksF f) else if firstA (askShape (msR (defsR f))) (asksF f) ≠ 0 then firstA (askShape (msR (defsR f))) (asksF f) else firstA (askPlace (msR (defsR f)) tl) (asksF f)) : RefIs f lv e := ⟨fun h2 => absurd h2 hl, fun _ tl ht => by
  unfold codeOf; rw [if_neg (by rw [h]; simp), if_neg (by simp [ho]), if_neg (by simp [h3 tl (ht h ho)]), if_neg (by simp [h4]), h5]
  exact he tl (ht h ho)⟩
theorem ref_d (h4 : typedD f lv = true) (h5 : defsD f = some (msR (defsR f))) (h6 : firstA (askDef (msR (defsR f))) (asksF f) = 7) : RefIs f lv 7 := ref_ms hl h ho h3 h4 h5 fun tl ht => by rw [h6]; rfl
theorem ref_s (h4 : typedD f lv = true) (h5 : defsD f = some (msR (defsR f))) (h6 : firstA (askDef (msR (defsR f))) (asksF f) = 0) (h7 : firstA (askShape (msR (defsR f))) (asksF f) = 6) : RefIs f lv 6 := ref_ms hl h ho h3 h4 h5 fun tl ht => by rw [h6, h7]; rfl
theorem ref_p {e : Int} (h4 : typedD f lv = true) (h5 : defsD f = some (msR (defsR f))) (h6 : firstA (askDef (msR (defsR f))) (asksF f) = 0) (h7 : firstA (askShape (msR (defsR f))) (asksF f) = 0) (h8 : ∀ tl, TreeP (ofD f).1.succ 0 tl → firstA (askPlace (msR (defsR f)) tl) (asksF f) = e) : RefIs f lv e := ref_ms hl h ho h3 h4 h5 fun tl ht => by rw [h6, h7, h8 tl ht]; rfl
end
end Go.Proofs.YtdjemlkllbhdlaaGreat
namespace Go.Proofs.YtdjemlkllbhdlaaGreat
open Go Go.RowKit
set_option maxHeartbeats 1000000 in
theorem rCheck_calls {H : Hp} {f : FuncD} {cs_f : List Value} (rd_f : Rdc.rd H cs_f f) (lv : Int) : CallG Tryz.prog 11 [.agg cs_f.toArray, .int .i64 lv] H [] (fun v H' L' => ∃ e, v = .int .i64 e ∧ RefIs f lv e ∧ L' = []) := by
 have rd_f' := rd_f; obtain ⟨A_f_0, c_f_0, A_f_2, c_f_2, rfl, u_f_0, r_f_0, u_f_2, r_f_2, k_f_0⟩ := rd_f
 have bf := r_f_2.1
 refine CallG.of Tryz.func11 rfl rfl rfl fun w0 => ?_
 refine WpG.g tabOK 2 rfl ?_
 refine WpG.box rfl rfl rfl rfl rfl (fun b1 => ?_)
 refine WpG.freezeBox (ci := 0) rfl (fun H2 hH2 hc2 => ?_)
 refine WpG.g tabOK 4 rfl ?_
 apply WpG.join (G := [(1, .int .i64 lv), (2, .pointer (some ⟨b1, 0, none⟩)), (21, .bool ((decide (lv < 0)) || (decide (lv > 2))))])
 ·intro nx3
  refine WpG.g tabOK 1 rfl ?_
  refine WpG.g tabOK 3 rfl ?_
  refine WpG.caseD (t := 18) rfl (fun q18 => ?_) (fun q18 => ?_)
  ·refine WpG.g tabOK 4 rfl ?_
   exact nx3.weak ⟨rfl, rfl, bq (by first | (simp [q18]; done) | (rw [Bool.eq_iff_iff]; simp only [Bool.or_eq_true, Bool.and_eq_true, decide_eq_true_eq, beq_iff_eq]; omega)), trivial⟩
  ·refine WpG.g tabOK 4 rfl ?_
   exact nx3.weak ⟨rfl, rfl, bq (by first | (simp [q18]; done) | (rw [Bool.eq_iff_iff]; simp only [Bool.or_eq_true, Bool.and_eq_true, decide_eq_true_eq, beq_iff_eq]; omega)), trivial⟩
 refine WpG.caseB (t := 21) rfl (fun q21 => ?_) (fun q21 => ?_)
 ·refine WpG.g tabOK 5 rfl ?_
  exact WpG.ret tabOK (L' := []) (.tmp rfl .nil) .slnil ⟨_, rfl, ref1 (by simpa using q21), rfl⟩
 ·have hl : ¬ (lv < 0 ∨ lv > 2) := by simpa using q21
  refine WpG.g tabOK 5 rfl ?_
  refine WpG.y rfl rfl rfl rfl (RunY.loadH tabOK hc2 (Hp.le.refl _) rfl rfl rfl rfl) ?_
  refine WpG.callS rfl rfl rfl rfl rfl rfl (Hp.le.refl _) (rMayF_calls (Rdc.mono hH2 rd_f')) ?_
  refine WpG.g tabOK 2 rfl ?_
  refine WpG.caseBn (t := 24) rfl (fun q24 => ?_) (fun q24 => ?_)
  ·refine WpG.g tabOK 5 rfl ?_
   exact WpG.ret tabOK (L' := []) (.tmp rfl .nil) .slnil ⟨_, rfl, ref4 hl q24, rfl⟩
  ·have hB := bnd_of q24; have hbd := hB.defs; have hbu := hB.uses
   refine WpG.g tabOK 5 rfl ?_
   refine WpG.y rfl rfl rfl rfl (RunY.loadH tabOK hc2 (Hp.le.refl _) rfl rfl rfl rfl) ?_
   refine WpG.call0 rfl rfl rfl rfl rfl rfl (rShapeF_calls (Rdc.mono hH2 rd_f')) ?_
   rintro _ H4 _ hH4 ⟨bS, rfl, hs1, hs2, hs3, rfl⟩
   refine WpG.g tabOK 2 rfl ?_
   refine WpG.caseBn (t := 27) rfl (fun q27 => ?_) (fun q27 => ?_)
   ·refine WpG.g tabOK 5 rfl ?_
    exact WpG.ret tabOK (L' := []) (.tmp rfl .nil) .slnil ⟨_, rfl, ref5 hl q24 hs1 hs2 q27, rfl⟩
   ·have hof := of0 hs1 q27; have hfa := hs3 q27; have hsw : ∀ tl, TreeP (ofD f).1.succ 0 tl → shapeW f tl = true := fun tl ht => by rw [← hs2 hof tl ht]; exact q27
    refine WpG.g tabOK 5 rfl ?_
    refine WpG.y rfl rfl rfl rfl (RunY.loadH tabOK hc2 hH4 rfl rfl rfl rfl) ?_
    refine WpG.g tabOK 1 rfl ?_
    refine WpG.callS rfl rfl rfl rfl rfl rfl (Hp.le.refl _) (rTyped_calls (Rdc.mono (hH2.trans hH4) rd_f') lv (by omega) (by omega)) ?_
    refine WpG.g tabOK 2 rfl ?_
    refine WpG.caseBn (t := 31) rfl (fun q31 => ?_) (fun q31 => ?_)
    ·refine WpG.g tabOK 5 rfl ?_
     exact WpG.ret tabOK (L' := []) (.tmp rfl .nil) .slnil ⟨_, rfl, ref6 hl q24 hof hsw q31, rfl⟩
    ·refine WpG.g tabOK 4 rfl ?_
     refine WpG.y rfl rfl rfl rfl (RunY.loadH tabOK hc2 hH4 rfl rfl rfl rfl) ?_
     refine WpG.call0 rfl rfl rfl rfl rfl rfl (rDefs_calls (Rdc.mono (hH2.trans hH4) rd_f') hB.defs) ?_
     rintro _ H5 _ hH5 ⟨A5, c5, rfl, u5, r5, rfl⟩
     refine WpG.g tabOK 9 rfl ?_
     refine WpG.wk (WpG.ind1 (fun (i : Int) => ⟨((defsR f).length - i).toNat, [(2, .pointer (some ⟨b1, 0, none⟩)), (5, .slice A5 ((defsR f).length) c5), (6, .int .i64 i)], H5, [], 0 ≤ i ∧ i ≤ (defsR f).length ∧ DOK (defsR f) i⟩) ?_ 0 ⟨by omega, by omega, DOK.zero⟩) rfl
     intro i inv ih1
     obtain ⟨i0, i1, i2⟩ := inv
     refine WpG.g tabOK 8 rfl ?_
     refine WpG.caseD (t := 37) rfl (fun q37 => ?_) (fun q37 => ?_)
     ·refine WpG.g tabOK 5 rfl ?_
      apply WpG.join (G := [(2, .pointer (some ⟨b1, 0, none⟩)), (5, .slice A5 ((defsR f).length) c5), (6, .int .i64 i), (57, .bool ((!(valueOK ((nth (defsR f) i).v))) || ((findR (defsR f) ((nth (defsR f) i).v)) != i)))])
      ·intro nx6
       refine WpG.g tabOK 1 rfl ?_
       refine WpG.g tabOK 2 rfl ?_
       refine WpG.indexR tabOK rfl rfl rfl rfl rfl rfl rfl rfl rfl r5 (by omega) (by omega) ?_
       rintro x7 hx7 b7 o7 cs7 rd7 hc7
       have rd7' := rd7; obtain ⟨rfl, k7_0, k7_1, k7_2, k7_3, k7_4⟩ := rd7
       obtain rfl : x7 = (nth (defsR f) i) := hx7
       refine WpG.g tabOK 1 rfl ?_
       refine WpG.y rfl rfl rfl rfl (RunY.loadH tabOK (hc7.sub 0 1) (Hp.le.refl _) rfl rfl rfl rfl) ?_
       refine WpG.callS rfl rfl rfl rfl rfl rfl (Hp.le.refl _) (rvalue_calls ((nth (defsR f) i).v)) ?_
       refine WpG.g tabOK 2 rfl ?_
       refine WpG.caseBn (t := 47) rfl (fun q47 => ?_) (fun q47 => ?_)
       ·refine WpG.g tabOK 11 rfl ?_
        exact nx6.weak ⟨rfl, rfl, rfl, bq (by first | (simp [q47]; done) | (rw [Bool.eq_iff_iff]; simp only [Bool.or_eq_true, Bool.and_eq_true, decide_eq_true_eq, beq_iff_eq]; omega)), trivial⟩
       ·refine WpG.g tabOK 3 rfl ?_
        refine WpG.indexR tabOK rfl rfl rfl rfl rfl rfl rfl rfl rfl r5 (by omega) (by omega) ?_
        rintro x8 hx8 b8 o8 cs8 rd8 hc8
        have rd8' := rd8; obtain ⟨rfl, k8_0, k8_1, k8_2, k8_3, k8_4⟩ := rd8
        obtain rfl : x8 = (nth (defsR f) i) := hx8
        refine WpG.g tabOK 1 rfl ?_
        refine WpG.y rfl rfl rfl rfl (RunY.loadH tabOK (hc8.sub 0 1) (Hp.le.refl _) rfl rfl rfl rfl) ?_
        refine WpG.callS rfl rfl rfl rfl rfl rfl (Hp.le.refl _) (rFind_calls r5 ((nth (defsR f) i).v)) ?_
        refine WpG.g tabOK 4 rfl ?_
        exact nx6.weak ⟨rfl, rfl, rfl, bq (by first | (simp [q47]; done) | (rw [Bool.eq_iff_iff]; simp only [Bool.or_eq_true, Bool.and_eq_true, decide_eq_true_eq, beq_iff_eq]; omega)), trivial⟩
      refine WpG.caseB (t := 57) rfl (fun q57 => ?_) (fun q57 => ?_)
      ·refine WpG.g tabOK 5 rfl ?_
       exact WpG.ret tabOK (L' := []) (.tmp rfl .nil) .slnil ⟨_, rfl, ref7 hl q24 hof hsw q31 (DOK.none_ hB.p1 hB.ops i0 q37 q57), rfl⟩
      ·refine WpG.gw tabOK 6 39 rfl (wrk (x := i + 1) (by omega) (by omega)) ?_
       refine WpG.g tabOK 3 rfl ?_
       refine WpG.wk (ih1 (i + 1) ?_ ?_) rfl
       ·dsimp only
        omega
       ·
        clear ih1
        exact ⟨by omega, by omega, i2.step q57⟩
     ·have hds := i2.defs q37
      refine WpG.g tabOK 4 rfl ?_
      refine WpG.y rfl rfl rfl rfl (RunY.loadH tabOK hc2 (hH4.trans hH5) rfl rfl rfl rfl) ?_
      refine WpG.call0 rfl rfl rfl rfl rfl rfl (rUses_calls (Rdc.mono ((hH2.trans hH4).trans hH5) rd_f') hB.uses (typed_ret q31) (fit_phis hfa) hB.ops) ?_
      rintro _ H9 _ hH9 ⟨A9, c9, rfl, u9, r9, rfl⟩
      refine WpG.g tabOK 9 rfl ?_
      refine WpG.wk (WpG.ind1 (fun (j : Int) => ⟨((usesR f).length - j).toNat, [(2, .pointer (some ⟨b1, 0, none⟩)), (5, .slice A5 ((defsR f).length) c5), (7, .slice A9 ((usesR f).length) c9), (8, .int .i64 j)], H9, [], 0 ≤ j ∧ j ≤ (usesR f).length ∧ (firstA (askDef (msR (defsR f))) (asksF f) = firstA (askDef (msR (defsR f))) ((asksF f).drop j.toNat)) ∧ foundAll f j⟩) ?_ 0 ⟨by omega, by omega, rfl, fun x x0 x1 => by exfalso; omega⟩) rfl
      intro j inv ih2
      obtain ⟨j0, j1, j2, j3⟩ := inv
      refine WpG.g tabOK 8 rfl ?_
      refine WpG.caseD (t := 63) rfl (fun q63 => ?_) (fun q63 => ?_)
      ·refine WpG.g tabOK 9 rfl ?_
       refine WpG.indexR tabOK rfl rfl rfl rfl rfl rfl rfl rfl rfl r9 (by omega) (by omega) ?_
       rintro x10 hx10 b10 o10 cs10 rd10 hc10
       have rd10' := rd10; obtain ⟨rfl, k10_0, k10_1, k10_2, k10_3, k10_4⟩ := rd10
       obtain rfl : x10 = (nth (usesR f) j) := hx10
       refine WpG.g tabOK 1 rfl ?_
       refine WpG.y rfl rfl rfl rfl (RunY.loadH tabOK (hc10.sub 0 1) (Hp.le.refl _) rfl rfl rfl rfl) ?_
       refine WpG.callS rfl rfl rfl rfl rfl rfl (Hp.le.refl _) (rFind_calls (r5.mono hH9) ((nth (usesR f) j).v)) ?_
       refine WpG.g tabOK 2 rfl ?_
       refine WpG.caseD (t := 73) rfl (fun q73 => ?_) (fun q73 => ?_)
       ·refine WpG.g tabOK 5 rfl ?_
        exact WpG.ret tabOK (L' := []) (.tmp rfl .nil) .slnil ⟨_, rfl, ref_d hl q24 hof hsw q31 hds (def_no j2 j0 q63 q73), rfl⟩
       ·refine WpG.gw tabOK 6 65 rfl (wrk (x := j + 1) (by omega) (by omega)) ?_
        refine WpG.g tabOK 3 rfl ?_
        refine WpG.wk (ih2 (j + 1) ?_ ?_) rfl
        ·dsimp only
         omega
        ·
         clear ih1 ih2
         exact ⟨by omega, by omega, def_yes j2 j0 q63 q73, found_step j3 q73⟩
      ·have hfd := found_end j3 q63; have hdz := first_end j2 j0 (by rw [← uses_len]; exact q63)
       refine WpG.g tabOK 9 rfl ?_
       refine WpG.wk (WpG.ind1 (fun (k : Int) => ⟨((usesR f).length - k).toNat, [(2, .pointer (some ⟨b1, 0, none⟩)), (5, .slice A5 ((defsR f).length) c5), (7, .slice A9 ((usesR f).length) c9), (9, .int .i64 k)], H9, [], 0 ≤ k ∧ k ≤ (usesR f).length ∧ (firstA (askShape (msR (defsR f))) (asksF f) = firstA (askShape (msR (defsR f))) ((asksF f).drop k.toNat))⟩) ?_ 0 ⟨by omega, by omega, rfl⟩) rfl
       intro k inv ih3
       obtain ⟨k0, k1, k2⟩ := inv
       refine WpG.g tabOK 8 rfl ?_
       refine WpG.caseD (t := 77) rfl (fun q77 => ?_) (fun q77 => ?_)
       ·have hfy := find_yes (hfd k k0 q77)
        refine WpG.g tabOK 5 rfl ?_
        refine WpG.draw 17 [] mixed (by kernel_rfl) ?_
        refine WpD.g (listed' := lst 17 6159) tabOK [0, 1, 2, 3, 11, 12] (by kernel_rfl) rfl (((hH2.trans hH4).trans hH5).trans hH9) (Hp.le.refl _) .slnil ?_
        refine WpD.indexR (i := 4) (fuel := 10) (listed' := lst 17 6175) tabOK (by kernel_rfl) rfl rfl rfl rfl rfl rfl rfl rfl rfl (((hH2.trans hH4).trans hH5).trans hH9) (Hp.le.refl _) .slnil r9 (by omega) (by omega) ?_
        rintro x11 hx11 b11 o11 cs11 rd11 hc11
        have rd11' := rd11; obtain ⟨rfl, k11_0, k11_1, k11_2, k11_3, k11_4⟩ := rd11
        obtain rfl : x11 = (nth (usesR f) k) := hx11
        refine WpD.g (listed' := lst 17 6207) tabOK [5] (by kernel_rfl) rfl (((hH2.trans hH4).trans hH5).trans hH9) (Hp.le.refl _) .slnil ?_
        refine WpD.y (i := 6) (fuel := 8) (listed' := lst 17 6271) (by kernel_rfl) rfl rfl rfl rfl (((hH2.trans hH4).trans hH5).trans hH9) (Hp.le.refl _) .slnil (RunY.loadH tabOK (hc11.sub 0 1) (Hp.le.refl _) rfl rfl rfl rfl) ?_
        refine WpD.indexR (i := 13) (fuel := 7) (listed' := lst 17 14463) tabOK (by kernel_rfl) rfl rfl rfl rfl rfl rfl rfl rfl rfl (((hH2.trans hH4).trans hH5).trans hH9) (Hp.le.refl _) .slnil r9 (by omega) (by omega) ?_
        rintro x12 hx12 b12 o12 cs12 rd12 hc12
        have rd12' := rd12; obtain ⟨rfl, k12_0, k12_1, k12_2, k12_3, k12_4⟩ := rd12
        obtain rfl : x12 = (nth (usesR f) k) := hx12
        refine WpD.g (listed' := lst 17 30847) tabOK [14] (by kernel_rfl) rfl (((hH2.trans hH4).trans hH5).trans hH9) (Hp.le.refl _) .slnil ?_
        refine WpD.y (i := 15) (fuel := 5) (listed' := lst 17 63615) (by kernel_rfl) rfl rfl rfl rfl (((hH2.trans hH4).trans hH5).trans hH9) (Hp.le.refl _) .slnil (RunY.loadH tabOK (hc12.sub 3 2) (Hp.le.refl _) rfl rfl rfl rfl) ?_
        refine WpD.callS (i := 7) (fuel := 4) (listed' := lst 17 63743) (by kernel_rfl) rfl rfl rfl rfl rfl rfl (Hp.le.refl _) (rFind_calls (r5.mono hH9) ((nth (usesR f) k).v)) (((hH2.trans hH4).trans hH5).trans hH9) (Hp.le.refl _) .slnil ?_
        refine WpD.indexR (i := 8) (fuel := 3) (listed' := lst 17 63999) tabOK (by kernel_rfl) rfl rfl rfl rfl rfl rfl rfl rfl rfl (((hH2.trans hH4).trans hH5).trans hH9) (Hp.le.refl _) .slnil r5 (by omega) (by omega) ?_
        rintro x13 hx13 b13 o13 cs13 rd13 hc13
        have rd13' := rd13; obtain ⟨rfl, k13_0, k13_1, k13_2, k13_3, k13_4⟩ := rd13
        obtain rfl : x13 = (nth (defsR f) (findR (defsR f) ((nth (usesR f) k).v))) := hx13
        refine WpD.g (listed' := lst 17 64511) tabOK [9] (by kernel_rfl) rfl (((hH2.trans hH4).trans hH5).trans hH9) (Hp.le.refl _) .slnil ?_
        refine WpD.y (i := 10) (fuel := 1) (listed' := lst 17 65535) (by kernel_rfl) rfl rfl rfl rfl (((hH2.trans hH4).trans hH5).trans hH9) (Hp.le.refl _) .slnil (RunY.loadH tabOK (hc13.sub 3 2) hH9 rfl rfl rfl rfl) ?_
        refine WpD.y (i := 16) (fuel := 0) (listed' := lst 17 131071) (by kernel_rfl) rfl rfl rfl rfl (((hH2.trans hH4).trans hH5).trans hH9) (Hp.le.refl _) .slnil (RunY.nePair tabOK rfl rfl rfl rfl rfl rfl rfl (by kernel_rfl)) ?_
        refine WpD.done (by kernel_rfl) ?_
        refine WpG.caseBn (t := 96) rfl (fun q96 => ?_) (fun q96 => ?_)
        ·refine WpG.g tabOK 5 rfl ?_
         exact WpG.ret tabOK (L' := []) (.tmp rfl .nil) .slnil ⟨_, rfl, ref_s hl q24 hof hsw q31 hds hdz (shp_no k2 k0 q77 (hfd k k0 q77) (by rw [q96]; rfl)), rfl⟩
        ·refine WpG.gw tabOK 6 79 rfl (wrk (x := k + 1) (by omega) (by omega)) ?_
         refine WpG.g tabOK 3 rfl ?_
         refine WpG.wk (ih3 (k + 1) ?_ ?_) rfl
         ·dsimp only
          omega
         ·
          clear ih1 ih2 ih3
          exact ⟨by omega, by omega, shp_yes k2 k0 q77 (hfd k k0 q77) (by rw [q96]; rfl)⟩
       ·have hsz := first_end k2 k0 (by rw [← uses_len]; exact q77)
        refine WpG.g tabOK 4 rfl ?_
        refine WpG.y rfl rfl rfl rfl (RunY.loadH tabOK hc2 ((hH4.trans hH5).trans hH9) rfl rfl rfl rfl) ?_
        refine WpG.call0 rfl rfl rfl rfl rfl rfl (rOf_calls (Rdc.mono (((hH2.trans hH4).trans hH5).trans hH9) rd_f')) ?_
        rintro _ H14 _ hH14 ⟨A14, c14, B14, d14, rfl, ua14, ra14, ub14, rb14, rfl⟩
        refine WpG.g tabOK 3 rfl ?_
        refine WpG.alloc tabOK rfl rfl rfl rfl rfl (fun b15 => ?_)
        refine WpG.storeBox (ci := 0) (cs' := [.slice A14 ((ofD f).1.succ.length) c14, .slice B14 ((ofD f).1.pred.length) d14]) tabOK rfl rfl rfl rfl rfl rfl rfl rfl rfl ?_
        refine WpG.freezeBox (ci := 0) rfl (fun H16 hH16 hc16 => ?_)
        refine WpG.g tabOK 4 rfl ?_
        refine WpG.y rfl rfl rfl rfl (RunY.loadH tabOK hc16 (Hp.le.refl _) rfl rfl rfl rfl) ?_
        have hrw := of_rows hof
        refine WpG.call0 rfl rfl rfl rfl rfl rfl (rTree_calls (Rdc.mono hH16 ⟨_, _, _, _, rfl, ua14, ra14, ub14, rb14⟩) 0 hrw.2.2.2.2 hrw.1 (Int.le_refl 0) (by have := hrw.2.1; have := hrw.2.2.2.1; omega)) ?_
        rintro _ H17 _ hH17 ⟨At, ct, out, hol, hot, rfl, uout, rout, rfl⟩
        have h64 : out.length ≤ 64 := by have := hB.b1; have := hrw.2.1; omega
        refine WpG.g tabOK 9 rfl ?_
        refine WpG.wk (WpG.ind1 (fun (m : Int) => ⟨((usesR f).length - m).toNat, [(5, .slice A5 ((defsR f).length) c5), (7, .slice A9 ((usesR f).length) c9), (12, .slice At out.length ct), (13, .int .i64 m)], H17, [], 0 ≤ m ∧ m ≤ (usesR f).length ∧ ∀ tl, TreeP (ofD f).1.succ 0 tl → (firstA (askPlace (msR (defsR f)) tl) (asksF f) = firstA (askPlace (msR (defsR f)) tl) ((asksF f).drop m.toNat))⟩) ?_ 0 ⟨by omega, by omega, fun tl _ => rfl⟩) rfl
        intro m inv ih4
        obtain ⟨m0, m1, m2⟩ := inv
        refine WpG.g tabOK 8 rfl ?_
        refine WpG.caseD (t := 107) rfl (fun q107 => ?_) (fun q107 => ?_)
        ·have hfy := find_yes (hfd m m0 q107)
         refine WpG.g tabOK 8 rfl ?_
         refine WpG.indexR tabOK rfl rfl rfl rfl rfl rfl rfl rfl rfl r9 (by omega) (by omega) ?_
         rintro x18 hx18 b18 o18 cs18 rd18 hc18
         have rd18' := rd18; obtain ⟨rfl, k18_0, k18_1, k18_2, k18_3, k18_4⟩ := rd18
         obtain rfl : x18 = (nth (usesR f) m) := hx18
         refine WpG.y rfl rfl rfl rfl (RunY.loadH tabOK hc18 ((hH14.trans hH16).trans hH17) rfl rfl rfl rfl) ?_
         refine WpG.alloc tabOK rfl rfl rfl rfl rfl (fun b19 => ?_)
         refine WpG.storeBox (ci := 0) (cs' := [.int .i64 ((nth (usesR f) m).v), .int .i64 ((nth (usesR f) m).blk), .int .i64 ((nth (usesR f) m).pos), .int .i64 ((nth (usesR f) m).bits), .int .i64 ((nth (usesR f) m).lanes)]) tabOK rfl rfl rfl rfl rfl rfl rfl rfl rfl ?_
         refine WpG.freezeBox (ci := 0) rfl (fun H20 hH20 hc20 => ?_)
         refine WpG.g tabOK 6 rfl ?_
         refine WpG.y rfl rfl rfl rfl (RunY.loadH tabOK (hc20.sub 0 1) (Hp.le.refl _) rfl rfl rfl rfl) ?_
         refine WpG.callS rfl rfl rfl rfl rfl rfl (Hp.le.refl _) (rFind_calls (r5.mono ((((hH9.trans hH14).trans hH16).trans hH17).trans hH20)) ((nth (usesR f) m).v)) ?_
         refine WpG.indexR tabOK rfl rfl rfl rfl rfl rfl rfl rfl rfl r5 (by omega) (by omega) ?_
         rintro x21 hx21 b21 o21 cs21 rd21 hc21
         have rd21' := rd21; obtain ⟨rfl, k21_0, k21_1, k21_2, k21_3, k21_4⟩ := rd21
         obtain rfl : x21 = (nth (defsR f) (findR (defsR f) ((nth (usesR f) m).v))) := hx21
         refine WpG.y rfl rfl rfl rfl (RunY.loadH tabOK hc21 ((((hH9.trans hH14).trans hH16).trans hH17).trans hH20) rfl rfl rfl rfl) ?_
         refine WpG.alloc tabOK rfl rfl rfl rfl rfl (fun b22 => ?_)
         refine WpG.storeBox (ci := 0) (cs' := [.int .i64 ((nth (defsR f) (findR (defsR f) ((nth (usesR f) m).v))).v), .int .i64 ((nth (defsR f) (findR (defsR f) ((nth (usesR f) m).v))).blk), .int .i64 ((nth (defsR f) (findR (defsR f) ((nth (usesR f) m).v))).pos), .int .i64 ((nth (defsR f) (findR (defsR f) ((nth (usesR f) m).v))).bits), .int .i64 ((nth (defsR f) (findR (defsR f) ((nth (usesR f) m).v))).lanes)]) tabOK rfl rfl rfl rfl rfl rfl rfl rfl rfl ?_
         refine WpG.freezeBox (ci := 0) rfl (fun H23 hH23 hc23 => ?_)
         refine WpG.g tabOK 3 rfl ?_
         apply WpG.join (G := [(5, .slice A5 ((defsR f).length) c5), (7, .slice A9 ((usesR f).length) c9), (12, .slice At out.length ct), (13, .int .i64 m), (14, .pointer (some ⟨b19, 0, none⟩)), (15, .pointer (some ⟨b22, 0, none⟩)), (137, .bool ((decide (((nth (defsR f) (findR (defsR f) ((nth (usesR f) m).v))).blk) < 0)) || ((((nth (defsR f) (findR (defsR f) ((nth (usesR f) m).v))).blk) == ((nth (usesR f) m).blk)) && (decide (((nth (defsR f) (findR (defsR f) ((nth (usesR f) m).v))).pos) < ((nth (usesR f) m).pos))))))])
         ·intro nx24
          refine WpG.g tabOK 1 rfl ?_
          refine WpG.g tabOK 1 rfl ?_
          refine WpG.y rfl rfl rfl rfl (RunY.loadH tabOK (hc23.sub 1 1) (Hp.le.refl _) rfl rfl rfl rfl) ?_
          refine WpG.g tabOK 2 rfl ?_
          refine WpG.caseD (t := 124) rfl (fun q124 => ?_) (fun q124 => ?_)
          ·refine WpG.g tabOK 14 rfl ?_
           exact nx24.weak ⟨rfl, rfl, rfl, rfl, rfl, rfl, bq (by first | (simp [q124]; done) | (rw [Bool.eq_iff_iff]; simp only [Bool.or_eq_true, Bool.and_eq_true, decide_eq_true_eq, beq_iff_eq]; omega)), trivial⟩
          ·refine WpG.g tabOK 1 rfl ?_
           refine WpG.y rfl rfl rfl rfl (RunY.loadH tabOK (hc23.sub 1 1) (Hp.le.refl _) rfl rfl rfl rfl) ?_
           refine WpG.g tabOK 1 rfl ?_
           refine WpG.y rfl rfl rfl rfl (RunY.loadH tabOK (hc20.sub 1 1) hH23 rfl rfl rfl rfl) ?_
           refine WpG.g tabOK 2 rfl ?_
           refine WpG.caseE (t := 130) rfl (fun q130 => ?_) (fun q130 => ?_)
           ·refine WpG.g tabOK 1 rfl ?_
            refine WpG.y rfl rfl rfl rfl (RunY.loadH tabOK (hc23.sub 2 1) (Hp.le.refl _) rfl rfl rfl rfl) ?_
            refine WpG.g tabOK 1 rfl ?_
            refine WpG.y rfl rfl rfl rfl (RunY.loadH tabOK (hc20.sub 2 1) hH23 rfl rfl rfl rfl) ?_
            refine WpG.g tabOK 4 rfl ?_
            exact nx24.weak ⟨rfl, rfl, rfl, rfl, rfl, rfl, bq (by first | (simp [q124, q130]; done) | (rw [Bool.eq_iff_iff]; simp only [Bool.or_eq_true, Bool.and_eq_true, decide_eq_true_eq, beq_iff_eq]; omega)), trivial⟩
           ·refine WpG.g tabOK 8 rfl ?_
            exact nx24.weak ⟨rfl, rfl, rfl, rfl, rfl, rfl, bq (by first | (simp [q124, q130, nb q130]; done) | (rw [Bool.eq_iff_iff]; simp only [Bool.or_eq_true, Bool.and_eq_true, decide_eq_true_eq, beq_iff_eq]; omega)), trivial⟩
         refine WpG.caseB (t := 137) rfl (fun q137 => ?_) (fun q137 => ?_)
         ·refine WpG.gw tabOK 5 109 rfl (wrk (x := m + 1) (by omega) (by omega)) ?_
          refine WpG.g tabOK 3 rfl ?_
          refine WpG.lessH ((((((hH2.trans hH4).trans hH5).trans hH9).trans hH14).trans hH16).trans hH17) (hH20.trans hH23) ?_
          refine WpG.wk (ih4 (m + 1) ?_ ?_) rfl
          ·dsimp only
           omega
          ·
           clear ih1 ih2 ih3 ih4
           exact ⟨by omega, by omega, fun tl ht => plc_go (m2 tl ht) hB hof hfa ht m0 q107 (hfd m m0 q107) rfl rfl (.inl q137)⟩
         ·refine WpG.g tabOK 3 rfl ?_
          refine WpG.draw 16 [] mixed (by kernel_rfl) ?_
          refine WpD.g (listed' := lst 16 5) tabOK [0, 2] (by kernel_rfl) rfl ((((((((hH2.trans hH4).trans hH5).trans hH9).trans hH14).trans hH16).trans hH17).trans hH20).trans hH23) (Hp.le.refl _) .slnil ?_
          refine WpD.y (i := 1) (fuel := 13) (listed' := lst 16 7) (by kernel_rfl) rfl rfl rfl rfl ((((((((hH2.trans hH4).trans hH5).trans hH9).trans hH14).trans hH16).trans hH17).trans hH20).trans hH23) (Hp.le.refl _) .slnil (RunY.loadH tabOK (hc23.sub 1 1) (Hp.le.refl _) rfl rfl rfl rfl) ?_
          refine WpD.y (i := 3) (fuel := 12) (listed' := lst 16 15) (by kernel_rfl) rfl rfl rfl rfl ((((((((hH2.trans hH4).trans hH5).trans hH9).trans hH14).trans hH16).trans hH17).trans hH20).trans hH23) (Hp.le.refl _) .slnil (RunY.loadH tabOK (hc20.sub 1 1) hH23 rfl rfl rfl rfl) ?_
          refine WpD.g (listed' := lst 16 63) tabOK [4, 5] (by kernel_rfl) rfl ((((((((hH2.trans hH4).trans hH5).trans hH9).trans hH14).trans hH16).trans hH17).trans hH20).trans hH23) (Hp.le.refl _) .slnil ?_
          refine WpD.caseE (t := 143) rfl (fun q143 => ?_) (fun q143 => ?_)
          ·refine WpD.g (listed' := lst 16 65535) tabOK [6, 7, 8, 9, 10, 11, 12, 13, 14, 15] (by kernel_rfl) rfl ((((((((hH2.trans hH4).trans hH5).trans hH9).trans hH14).trans hH16).trans hH17).trans hH20).trans hH23) (Hp.le.refl _) .slnil ?_
           refine WpD.done (by kernel_rfl) ?_
           refine WpG.g tabOK 5 rfl ?_
           exact WpG.ret tabOK (L' := []) (.tmp rfl .nil) .slnil ⟨_, rfl, ref_p hl q24 hof hsw q31 hds hdz hsz (fun tl ht => plc_no (m2 tl ht) hB hof hfa ht m0 q107 (hfd m m0 q107) rfl rfl q137 (by simp [q143])), rfl⟩
          ·refine WpD.g (listed' := lst 16 4863) tabOK [6, 7, 9, 12] (by kernel_rfl) rfl ((((((((hH2.trans hH4).trans hH5).trans hH9).trans hH14).trans hH16).trans hH17).trans hH20).trans hH23) (Hp.le.refl _) .slnil ?_
           refine WpD.y (i := 8) (fuel := 5) (listed' := lst 16 5119) (by kernel_rfl) rfl rfl rfl rfl ((((((((hH2.trans hH4).trans hH5).trans hH9).trans hH14).trans hH16).trans hH17).trans hH20).trans hH23) (Hp.le.refl _) .slnil (RunY.loadH tabOK (hc23.sub 1 1) (Hp.le.refl _) rfl rfl rfl rfl) ?_
           refine WpD.y (i := 10) (fuel := 4) (listed' := lst 16 6143) (by kernel_rfl) rfl rfl rfl rfl ((((((((hH2.trans hH4).trans hH5).trans hH9).trans hH14).trans hH16).trans hH17).trans hH20).trans hH23) (Hp.le.refl _) .slnil (RunY.loadH tabOK (hc20.sub 1 1) hH23 rfl rfl rfl rfl) ?_
           refine WpD.y (i := 13) (fuel := 3) (listed' := lst 16 14335) (by kernel_rfl) rfl rfl rfl rfl ((((((((hH2.trans hH4).trans hH5).trans hH9).trans hH14).trans hH16).trans hH17).trans hH20).trans hH23) (Hp.le.refl _) .slnil (RunY.loadH tabOK (hc23.sub 1 1) (Hp.le.refl _) rfl rfl rfl rfl) ?_
           refine WpD.callS (i := 11) (fuel := 2) (listed' := lst 16 16383) (by kernel_rfl) rfl rfl rfl rfl rfl rfl (Hp.le.refl _) (rMeet_calls (rout.mono (hH20.trans hH23)) h64 ((nth (defsR f) (findR (defsR f) ((nth (usesR f) m).v))).blk) ((nth (usesR f) m).blk)) ((((((((hH2.trans hH4).trans hH5).trans hH9).trans hH14).trans hH16).trans hH17).trans hH20).trans hH23) (Hp.le.refl _) .slnil ?_
           refine WpD.g (listed' := lst 16 65535) tabOK [14, 15] (by kernel_rfl) rfl ((((((((hH2.trans hH4).trans hH5).trans hH9).trans hH14).trans hH16).trans hH17).trans hH20).trans hH23) (Hp.le.refl _) .slnil ?_
           refine WpD.done (by kernel_rfl) ?_
           refine WpG.caseN (t := 153) rfl (fun q153 => ?_) (fun q153 => ?_)
           ·refine WpG.g tabOK 5 rfl ?_
            exact WpG.ret tabOK (L' := []) (.tmp rfl .nil) .slnil ⟨_, rfl, ref_p hl q24 hof hsw q31 hds hdz hsz (fun tl ht => plc_no (m2 tl ht) hB hof hfa ht m0 q107 (hfd m m0 q107) rfl rfl q137 (by have e := hot tl ht; subst e; simp [q153])), rfl⟩
           ·refine WpG.gw tabOK 6 109 rfl (wrk (x := m + 1) (by omega) (by omega)) ?_
            refine WpG.g tabOK 3 rfl ?_
            refine WpG.lessH ((((((hH2.trans hH4).trans hH5).trans hH9).trans hH14).trans hH16).trans hH17) (hH20.trans hH23) ?_
            refine WpG.wk (ih4 (m + 1) ?_ ?_) rfl
            ·dsimp only
             omega
            ·
             clear ih1 ih2 ih3 ih4
             exact ⟨by omega, by omega, fun tl ht => plc_go (m2 tl ht) hB hof hfa ht m0 q107 (hfd m m0 q107) rfl rfl (.inr (by have e := hot tl ht; subst e; simp [q143, q153]))⟩
        ·refine WpG.g tabOK 6 rfl ?_
         exact WpG.ret tabOK (L' := []) (.tmp rfl .nil) .slnil ⟨_, rfl, ref_p hl q24 hof hsw q31 hds hdz hsz (fun tl ht => first_end (m2 tl ht) m0 (by rw [← uses_len]; exact q107)), rfl⟩
end Go.Proofs.YtdjemlkllbhdlaaGreat
namespace Go.Proofs.YtdjemlkllbhdlaaGreat
open Go Go.RowKit
structure Right (f : FuncD) (lv : Int) (tl : List Int) : Prop where
  may : mayF f = true
  of_ : (ofD f).2 = 0
  tree : TreeP (ofD f).1.succ 0 tl
  shape : shapeW f tl = true
  typ : typedD f lv = true
  defs : defsD f = some (msR (defsR f))
  good : PhiGood (allPuts 0 f.blocks)
  nodup : (vsR (defsR f)).Nodup
  ask : firstA (askDef (msR (defsR f))) (asksF f) = 0
  shp : firstA (askShape (msR (defsR f))) (asksF f) = 0
  plc : firstA (askPlace (msR (defsR f)) tl) (asksF f) = 0
end Go.Proofs.YtdjemlkllbhdlaaGreat
namespace Go.Proofs.YtdjemlkllbhdlaaGreat
open Go Go.RowKit
def fB (bits ret kind arg : Int) : FuncD := ⟨[bits], ret, [⟨[], [], ⟨kind, arg, []⟩⟩]⟩
theorem ofB {bits ret kind arg : Int} (hk : kind = 0 ∨ kind = 3) : ofD (fB bits ret kind arg) = (⟨[[]], [[]]⟩, 0) := of_one hk
theorem fB_may {bits ret kind arg : Int} (hb : 0 ≤ bits) (hb2 : bits ≤ 1073741824) (hr : 0 ≤ ret) (hr2 : ret ≤ 1073741824) (hk : kind = 0 ∨ kind = 3) (ha : arg = 0 ∨ arg = 1) : mayF (fB bits ret kind arg) = true := by
  have e1 : numOK bits = true := by unfold numOK; simp; omega
  have e2 : numOK ret = true := by unfold numOK; simp; omega
  unfold mayF fB
  simp only [List.all_cons, List.all_nil, e1, e2]
  rcases hk with rfl | rfl <;> rcases ha with rfl | rfl <;> rfl
theorem fB_shape {bits ret kind arg : Int} (hk : kind = 0 ∨ kind = 3) (ha : kind = 3 → arg = 0) : shapeW (fB bits ret kind arg) [-1] = true := by
  unfold shapeW
  rw [ofB hk]
  unfold fB
  rcases hk with rfl | rfl
  · show (overD [-1] 0 0 && (true && endFit ⟨0, arg, []⟩) && true) = true
    have : endFit ⟨0, arg, []⟩ = true := endFit_yes (.inl ⟨(fun h => by cases h), (fun h => by cases h)⟩)
    rw [this]; decide
  · have := ha rfl
    subst this
    show (overD [-1] 0 0 && (true && endFit ⟨3, 0, []⟩) && true) = true
    decide
theorem fB_typed {bits ret kind arg : Int} : typedD (fB bits ret kind arg) 0 = (mayW ret && mayW bits) := by
  rw [typed_all]
  unfold fB typA
  simp
theorem codeB {bits ret kind arg : Int} (hb : 0 ≤ bits) (hb2 : bits ≤ 1073741824) (hr : 0 ≤ ret) (hr2 : ret ≤ 1073741824) (hk : kind = 0 ∧ arg = 1 ∨ kind = 3 ∧ arg = 0) :
    CodeIs (fB bits ret kind arg) 0 (if (mayW ret && mayW bits) = true ∧ (kind = 0 → bits = ret) then 0 else 6) := by
  have hk' : kind = 0 ∨ kind = 3 := by omega
  refine ⟨[-1], good_one (ofB hk'), Eq.symm ?_⟩
  unfold codeOf
  rw [if_neg (by rw [fB_may hb hb2 hr hr2 hk' (by omega)]; simp), if_neg (by rw [ofB hk']; simp), if_neg (by rw [fB_shape hk' (by omega)]; simp), fB_typed]
  by_cases hm : (mayW ret && mayW bits) = true
  · rw [if_neg (by simp [hm])]
    have hm' := hm
    simp only [Bool.and_eq_true] at hm'
    have hr0 : ret ≠ 0 := by rcases mayW_cases hm'.1 with h | h | h | h | h <;> omega
    have hd : defsD (fB bits ret kind arg) = some [(1, ⟨-1, 0, bits, 1⟩)] := rfl
    rw [hd]
    rcases hk with ⟨rfl, rfl⟩ | ⟨rfl, rfl⟩
    · have ha : asksF (fB bits ret 0 1) = [⟨1, ret, 1, 0, 1048576⟩] := by
        unfold asksF fB allAsks blkAsks endAsks endBits
        simp [hr0, opsAsks, allAsks]
      rw [ha]
      by_cases e : bits = ret
      · rw [if_pos ⟨hm, fun _ => e⟩]
        simp [firstA, askDef, askShape, askPlace, mget, placeOK, e]
      · rw [if_neg (fun h => e (h.2 rfl))]
        simp [firstA, askDef, askShape, mget, e]
    · have ha : asksF (fB bits ret 3 0) = [] := by
        unfold asksF fB allAsks blkAsks endAsks endBits
        simp [opsAsks, allAsks]
      rw [ha, if_pos ⟨hm, fun h => by omega⟩]
      simp [firstA]
  · rw [if_pos (by simpa using hm), if_neg (fun h => hm h.1)]
theorem retB {bits ret e : Int} (hb : ¬ bits < 0) (hb2 : ¬ bits > 1073741824) (hr : ¬ ret < 0) (hr2 : ¬ ret > 1073741824) (h : CheckIs (fB bits ret 0 1) 0 e) : e = if (mayW ret && mayW bits) = true ∧ bits = ret then 0 else 6 := by
  have := (check_at h (by decide) (by decide)).same (codeB (by omega) (by omega) (by omega) (by omega) (.inl ⟨rfl, rfl⟩))
  simpa using this
theorem trapB {bits ret e : Int} (hb : ¬ bits < 0) (hb2 : ¬ bits > 1073741824) (hr : ¬ ret < 0) (hr2 : ¬ ret > 1073741824) (h : CheckIs (fB bits ret 3 0) 0 e) : e = if (mayW ret && mayW bits) = true then 0 else 6 := by
  have := (check_at h (by decide) (by decide)).same (codeB (by omega) (by omega) (by omega) (by omega) (.inr ⟨rfl, rfl⟩))
  simpa using this
end Go.Proofs.YtdjemlkllbhdlaaGreat
namespace Go.Proofs.YtdjemlkllbhdlaaGreat
open Go Go.RowKit
theorem CheckRet_calls {H : Hp} (bits : Int) (hb : I64 bits) (ret : Int) (hr : I64 ret) : CallG Tryz.prog 7 [.int .i64 bits, .int .i64 ret] H [] (fun v _ L' => v = .bool (true) ∧ L' = []) := by
 refine CallG.of Tryz.func7 rfl rfl rfl fun w0 => ?_
 refine WpG.g tabOK 7 rfl ?_
 refine WpG.callS rfl rfl rfl rfl rfl rfl (Hp.le.refl _) (awake_calls) ?_
 refine WpG.g tabOK 7 rfl ?_
 refine WpG.buildSlice (xs := [.int .i64 bits]) tabOK rfl rfl rfl rfl rfl rfl rfl rfl rfl rfl (fun b1 => ?_)
 refine WpG.ownCap (ci := 0) rfl (fun uz3 => ?_)
 refine WpG.freezeOwn (ci := 0) rfl (fun H3 hH3 fz3 => ?_)
 have rz3 : RdS H3 (some ⟨b1, 0, none⟩) [bits] := RdS.of_own (H := H) (show RdL H [.int .i64 bits] [bits] from RdL_ints [bits] ⟨hb, trivial⟩) (rfl) (by simp) hH3 fz3
 refine WpG.g tabOK 3 rfl ?_
 refine WpG.buildSlice (xs := [.slice none 0 0, .slice none 0 0, .int .i64 0, .int .i64 1, .slice none 0 0]) tabOK rfl rfl rfl rfl rfl rfl rfl rfl rfl rfl (fun b4 => ?_)
 refine WpG.ownCap (ci := 0) rfl (fun uz6 => ?_)
 refine WpG.freezeOwn (ci := 0) rfl (fun H6 hH6 fz6 => ?_)
 have rz6 : RdS H6 (some ⟨b4, 0, none⟩) ([⟨[], [], ⟨0, 1, []⟩⟩] : List BlockD) := RdS.of_own (H := H3) (show RdL H3 [.slice none 0 0, .slice none 0 0, .int .i64 0, .int .i64 1, .slice none 0 0] ([⟨[], [], ⟨0, 1, []⟩⟩] : List BlockD) from ⟨_, [], rfl, ⟨none, 0, none, 0, none, 0, rfl, Nat.le_refl 0, RdS.nil _ _, Nat.le_refl 0, RdS.nil _ _, Nat.le_refl 0, RdS.nil _ _, ⟨by decide, by decide⟩, ⟨by decide, by decide⟩⟩, rfl⟩) (rfl) (by simp) hH6 fz6
 refine WpG.g tabOK 1 rfl ?_
 refine WpG.alloc tabOK rfl rfl rfl rfl rfl (fun b7 => ?_)
 refine WpG.storeBox (ci := 0) (cs' := [.slice (some ⟨b1, 0, none⟩) 1 1, .int .i64 ret, .slice (some ⟨b4, 0, none⟩) 1 1]) tabOK rfl rfl rfl rfl rfl rfl rfl rfl rfl ?_
 refine WpG.freezeBox (ci := 0) rfl (fun H8 hH8 hc8 => ?_)
 refine WpG.g tabOK 4 rfl ?_
 refine WpG.buildSlice (xs := [.int .i64 bits]) tabOK rfl rfl rfl rfl rfl rfl rfl rfl rfl rfl (fun b9 => ?_)
 refine WpG.ownCap (ci := 0) rfl (fun uz11 => ?_)
 refine WpG.freezeOwn (ci := 0) rfl (fun H11 hH11 fz11 => ?_)
 have rz11 : RdS H11 (some ⟨b9, 0, none⟩) [bits] := RdS.of_own (H := H8) (show RdL H8 [.int .i64 bits] [bits] from RdL_ints [bits] ⟨hb, trivial⟩) (rfl) (by simp) hH11 fz11
 refine WpG.g tabOK 3 rfl ?_
 refine WpG.buildSlice (xs := [.slice none 0 0, .slice none 0 0, .int .i64 3, .int .i64 0, .slice none 0 0]) tabOK rfl rfl rfl rfl rfl rfl rfl rfl rfl rfl (fun b12 => ?_)
 refine WpG.ownCap (ci := 0) rfl (fun uz14 => ?_)
 refine WpG.freezeOwn (ci := 0) rfl (fun H14 hH14 fz14 => ?_)
 have rz14 : RdS H14 (some ⟨b12, 0, none⟩) ([⟨[], [], ⟨3, 0, []⟩⟩] : List BlockD) := RdS.of_own (H := H11) (show RdL H11 [.slice none 0 0, .slice none 0 0, .int .i64 3, .int .i64 0, .slice none 0 0] ([⟨[], [], ⟨3, 0, []⟩⟩] : List BlockD) from ⟨_, [], rfl, ⟨none, 0, none, 0, none, 0, rfl, Nat.le_refl 0, RdS.nil _ _, Nat.le_refl 0, RdS.nil _ _, Nat.le_refl 0, RdS.nil _ _, ⟨by decide, by decide⟩, ⟨by decide, by decide⟩⟩, rfl⟩) (rfl) (by simp) hH14 fz14
 refine WpG.g tabOK 1 rfl ?_
 refine WpG.alloc tabOK rfl rfl rfl rfl rfl (fun b15 => ?_)
 refine WpG.storeBox (ci := 0) (cs' := [.slice (some ⟨b9, 0, none⟩) 1 1, .int .i64 ret, .slice (some ⟨b12, 0, none⟩) 1 1]) tabOK rfl rfl rfl rfl rfl rfl rfl rfl rfl ?_
 refine WpG.freezeBox (ci := 0) rfl (fun H16 hH16 hc16 => ?_)
 refine WpG.g tabOK 3 rfl ?_
 apply WpG.join (G := [(0, .int .i64 bits), (1, .int .i64 ret), (5, .pointer (some ⟨b7, 0, none⟩)), (6, .pointer (some ⟨b15, 0, none⟩)), (39, .bool ((((decide (bits < 0)) || (decide (bits > 1073741824))) || (decide (ret < 0))) || (decide (ret > 1073741824))))])
 ·intro nx17
  refine WpG.g tabOK 1 rfl ?_
  refine WpG.g tabOK 3 rfl ?_
  refine WpG.caseD (t := 28) rfl (fun q28 => ?_) (fun q28 => ?_)
  ·refine WpG.g tabOK 12 rfl ?_
   exact nx17.weak ⟨rfl, rfl, rfl, rfl, bq (by simp [q28]), trivial⟩
  ·refine WpG.g tabOK 4 rfl ?_
   refine WpG.caseD (t := 32) rfl (fun q32 => ?_) (fun q32 => ?_)
   ·refine WpG.g tabOK 8 rfl ?_
    exact nx17.weak ⟨rfl, rfl, rfl, rfl, bq (by simp [q28, q32]), trivial⟩
   ·refine WpG.g tabOK 4 rfl ?_
    refine WpG.caseD (t := 36) rfl (fun q36 => ?_) (fun q36 => ?_)
    ·refine WpG.g tabOK 4 rfl ?_
     exact nx17.weak ⟨rfl, rfl, rfl, rfl, bq (by simp [q28, q32, q36]), trivial⟩
    ·refine WpG.g tabOK 4 rfl ?_
     exact nx17.weak ⟨rfl, rfl, rfl, rfl, bq (by simp [q28, q32, q36]), trivial⟩
 refine WpG.caseB (t := 39) rfl (fun q39 => ?_) (fun q39 => ?_)
 ·refine WpG.g tabOK 2 rfl ?_
  refine WpG.draw 6 [] mixed (by kernel_rfl) ?_
  refine WpD.y (i := 0) (fuel := 5) (listed' := lst 6 1) (by kernel_rfl) rfl rfl rfl rfl (((((hH3.trans hH6).trans hH8).trans hH11).trans hH14).trans hH16) (Hp.le.refl _) .slnil (RunY.loadH tabOK hc8 ((hH11.trans hH14).trans hH16) rfl rfl rfl rfl) ?_
  refine WpD.y (i := 2) (fuel := 4) (listed' := lst 6 5) (by kernel_rfl) rfl rfl rfl rfl (((((hH3.trans hH6).trans hH8).trans hH11).trans hH14).trans hH16) (Hp.le.refl _) .slnil (RunY.loadH tabOK hc8 ((hH11.trans hH14).trans hH16) rfl rfl rfl rfl) ?_
  refine WpD.f (i := 1) (fuel := 3) (listed' := lst 6 7) (by kernel_rfl) (((((hH3.trans hH6).trans hH8).trans hH11).trans hH14).trans hH16) (OpG.call (Lc := []) rfl rfl rfl rfl rfl rfl (.refl _) (Check_calls (f := fB bits ret 0 1) (Nat.le_refl 1) (rz3.mono ((((hH6.trans hH8).trans hH11).trans hH14).trans hH16)) (Nat.le_refl 1) (rz6.mono (((hH8.trans hH11).trans hH14).trans hH16)) hr 0)) ?_
  rintro _ H18 L1 ⟨_, _, rfl, hH18, ⟨e18, rfl, hc18, rfl⟩, eL⟩
  subst eL
  refine ⟨hH18, .slnil, ?_⟩
  change WpD _ _ _ _ _ _ _ _ _ _ _ _ _ _ []
  refine WpD.f (i := 3) (fuel := 2) (listed' := lst 6 15) (by kernel_rfl) (((((hH3.trans hH6).trans hH8).trans hH11).trans hH14).trans hH16) (OpG.call (Lc := []) rfl rfl rfl rfl rfl rfl (.refl _) (rCheck_calls (f := fB bits ret 0 1) ⟨_, _, _, _, rfl, Nat.le_refl 1, (rz3.mono (((((hH6.trans hH8).trans hH11).trans hH14).trans hH16).trans hH18)), Nat.le_refl 1, (rz6.mono ((((hH8.trans hH11).trans hH14).trans hH16).trans hH18)), hr⟩ 0)) ?_
  rintro _ H19 L1 ⟨_, _, rfl, hH19, ⟨e19, rfl, hr19, rfl⟩, eL⟩
  subst eL
  refine ⟨(hH18.trans hH19), .slnil, ?_⟩
  change WpD _ _ _ _ _ _ _ _ _ _ _ _ _ _ []
  refine WpD.g (listed' := lst 6 63) tabOK [4, 5] (by kernel_rfl) rfl (((((hH3.trans hH6).trans hH8).trans hH11).trans hH14).trans hH16) (hH18.trans hH19) .slnil ?_
  refine WpD.done (by kernel_rfl) ?_
  exact WpG.ret tabOK (L' := []) (.tmp rfl .nil) .slnil ⟨congrArg Value.bool (by have z := hr19.same hc18; simp [z]), rfl⟩
 ·have hr1 : ¬ bits < 0 := by simp at q39; omega
  have hr2 : ¬ bits > 1073741824 := by simp at q39; omega
  have hr3 : ¬ ret < 0 := by simp at q39; omega
  have hr4 : ¬ ret > 1073741824 := by simp at q39; omega
  refine WpG.g tabOK 4 rfl ?_
  refine WpG.y rfl rfl rfl rfl (RunY.loadH tabOK hc8 ((hH11.trans hH14).trans hH16) rfl rfl rfl rfl) ?_
  refine WpG.call0 rfl rfl rfl rfl rfl rfl (Check_calls (f := fB bits ret 0 1) (Nat.le_refl 1) (rz3.mono ((((hH6.trans hH8).trans hH11).trans hH14).trans hH16)) (Nat.le_refl 1) (rz6.mono (((hH8.trans hH11).trans hH14).trans hH16)) hr 0) ?_
  rintro _ H20 _ hH20 ⟨e20, rfl, hc20, rfl⟩
  have he := retB hr1 hr2 hr3 hr4 hc20
  refine WpG.g tabOK 4 rfl ?_
  refine WpG.y rfl rfl rfl rfl (RunY.loadH tabOK hc16 hH20 rfl rfl rfl rfl) ?_
  refine WpG.call0 rfl rfl rfl rfl rfl rfl (Check_calls (f := fB bits ret 3 0) (Nat.le_refl 1) (rz11.mono ((hH14.trans hH16).trans hH20)) (Nat.le_refl 1) (rz14.mono (hH16.trans hH20)) hr 0) ?_
  rintro _ H21 _ hH21 ⟨e21, rfl, hc21, rfl⟩
  have hh := trapB hr1 hr2 hr3 hr4 hc21
  refine WpG.g tabOK 3 rfl ?_
  apply WpG.join (G := [(0, .int .i64 bits), (1, .int .i64 ret), (7, .int .i64 e20), (8, .int .i64 e21), (9, .bool ((mayW bits) && (mayW ret)))])
  ·intro nx22
   refine WpG.g tabOK 1 rfl ?_
   refine WpG.g tabOK 1 rfl ?_
   refine WpG.callS rfl rfl rfl rfl rfl rfl (Hp.le.refl _) (rMayW_calls bits) ?_
   refine WpG.g tabOK 1 rfl ?_
   refine WpG.caseB (t := 51) rfl (fun q51 => ?_) (fun q51 => ?_)
   ·refine WpG.g tabOK 1 rfl ?_
    refine WpG.callS rfl rfl rfl rfl rfl rfl (Hp.le.refl _) (rMayW_calls ret) ?_
    refine WpG.g tabOK 3 rfl ?_
    exact nx22.weak ⟨rfl, rfl, rfl, rfl, bq (by simp [q51]), trivial⟩
   ·refine WpG.g tabOK 5 rfl ?_
    exact nx22.weak ⟨rfl, rfl, rfl, rfl, bq (by simp [q51]), trivial⟩
  refine WpG.g tabOK 1 rfl ?_
  apply WpG.join (G := [(4, .bool (((((e20 == 0) == (((mayW bits) && (mayW ret)) && (bits == ret))) && ((e20 == 0) || (e20 == 6))) && ((e21 == 0) == ((mayW bits) && (mayW ret)))) && (((mayW bits) && (mayW ret)) || (e21 == 6))))])
  ·intro nx23
   refine WpG.g tabOK 1 rfl ?_
   refine WpG.g tabOK 4 rfl ?_
   refine WpG.caseB (t := 58) rfl (fun q58 => ?_) (fun q58 => ?_)
   ·refine WpG.g tabOK 4 rfl ?_
    refine WpG.y rfl rfl rfl rfl (RunY.eqBool tabOK rfl rfl rfl rfl) ?_
    refine WpG.g tabOK 1 rfl ?_
    refine WpG.caseB (t := 64) rfl (fun q64 => ?_) (fun q64 => ?_)
    ·refine WpG.g tabOK 3 rfl ?_
     refine WpG.caseE (t := 67) rfl (fun q67 => ?_) (fun q67 => ?_)
     ·refine WpG.g tabOK 8 rfl ?_
      refine WpG.y rfl rfl rfl rfl (RunY.eqBool tabOK rfl rfl rfl rfl) ?_
      refine WpG.g tabOK 2 rfl ?_
      refine WpG.caseB (t := 78) rfl (fun q78 => ?_) (fun q78 => ?_)
      ·refine WpG.g tabOK 2 rfl ?_
       refine WpG.caseB (t := 80) rfl (fun q80 => ?_) (fun q80 => ?_)
       ·refine WpG.g tabOK 6 rfl ?_
        exact nx23.weak ⟨bq (by first | (simp [q58, q64, q67, q78, q80]; done) | (subst he; subst hh; by_cases a : mayW bits = true <;> by_cases b : mayW ret = true <;> by_cases c : bits = ret <;> simp_all)), trivial⟩
       ·refine WpG.g tabOK 6 rfl ?_
        exact nx23.weak ⟨bq (by first | (simp [q58, q64, q67, q78, q80]; done) | (subst he; subst hh; by_cases a : mayW bits = true <;> by_cases b : mayW ret = true <;> by_cases c : bits = ret <;> simp_all)), trivial⟩
      ·refine WpG.g tabOK 8 rfl ?_
       exact nx23.weak ⟨bq (by first | (simp [q58, q64, q67, q78]; done) | (subst he; subst hh; by_cases a : mayW bits = true <;> by_cases b : mayW ret = true <;> by_cases c : bits = ret <;> simp_all)), trivial⟩
     ·refine WpG.g tabOK 5 rfl ?_
      refine WpG.caseE (t := 72) rfl (fun q72 => ?_) (fun q72 => ?_)
      ·refine WpG.g tabOK 3 rfl ?_
       refine WpG.y rfl rfl rfl rfl (RunY.eqBool tabOK rfl rfl rfl rfl) ?_
       refine WpG.g tabOK 2 rfl ?_
       refine WpG.caseB (t := 78) rfl (fun q78 => ?_) (fun q78 => ?_)
       ·refine WpG.g tabOK 2 rfl ?_
        refine WpG.caseB (t := 80) rfl (fun q80 => ?_) (fun q80 => ?_)
        ·refine WpG.g tabOK 6 rfl ?_
         exact nx23.weak ⟨bq (by first | (simp [q58, q64, q67, nb q67, q72, q78, q80]; done) | (subst he; subst hh; by_cases a : mayW bits = true <;> by_cases b : mayW ret = true <;> by_cases c : bits = ret <;> simp_all)), trivial⟩
        ·refine WpG.g tabOK 6 rfl ?_
         exact nx23.weak ⟨bq (by first | (simp [q58, q64, q67, nb q67, q72, q78, q80]; done) | (subst he; subst hh; by_cases a : mayW bits = true <;> by_cases b : mayW ret = true <;> by_cases c : bits = ret <;> simp_all)), trivial⟩
       ·refine WpG.g tabOK 8 rfl ?_
        exact nx23.weak ⟨bq (by first | (simp [q58, q64, q67, nb q67, q72, q78]; done) | (subst he; subst hh; by_cases a : mayW bits = true <;> by_cases b : mayW ret = true <;> by_cases c : bits = ret <;> simp_all)), trivial⟩
      ·refine WpG.g tabOK 14 rfl ?_
       exact nx23.weak ⟨bq (by first | (simp [q58, q64, q67, nb q67, q72, nb q72]; done) | (subst he; subst hh; by_cases a : mayW bits = true <;> by_cases b : mayW ret = true <;> by_cases c : bits = ret <;> simp_all)), trivial⟩
    ·refine WpG.g tabOK 22 rfl ?_
     exact nx23.weak ⟨bq (by first | (simp [q58, q64]; done) | (subst he; subst hh; by_cases a : mayW bits = true <;> by_cases b : mayW ret = true <;> by_cases c : bits = ret <;> simp_all)), trivial⟩
   ·refine WpG.g tabOK 4 rfl ?_
    refine WpG.y rfl rfl rfl rfl (RunY.eqBool tabOK rfl rfl rfl rfl) ?_
    refine WpG.g tabOK 1 rfl ?_
    refine WpG.caseB (t := 64) rfl (fun q64 => ?_) (fun q64 => ?_)
    ·refine WpG.g tabOK 3 rfl ?_
     refine WpG.caseE (t := 67) rfl (fun q67 => ?_) (fun q67 => ?_)
     ·refine WpG.g tabOK 8 rfl ?_
      refine WpG.y rfl rfl rfl rfl (RunY.eqBool tabOK rfl rfl rfl rfl) ?_
      refine WpG.g tabOK 2 rfl ?_
      refine WpG.caseB (t := 78) rfl (fun q78 => ?_) (fun q78 => ?_)
      ·refine WpG.g tabOK 2 rfl ?_
       refine WpG.caseB (t := 80) rfl (fun q80 => ?_) (fun q80 => ?_)
       ·refine WpG.g tabOK 6 rfl ?_
        exact nx23.weak ⟨bq (by first | (simp [q58, q64, q67, q78, q80]; done) | (subst he; subst hh; by_cases a : mayW bits = true <;> by_cases b : mayW ret = true <;> by_cases c : bits = ret <;> simp_all)), trivial⟩
       ·refine WpG.g tabOK 6 rfl ?_
        exact nx23.weak ⟨bq (by first | (simp [q58, q64, q67, q78, q80]; done) | (subst he; subst hh; by_cases a : mayW bits = true <;> by_cases b : mayW ret = true <;> by_cases c : bits = ret <;> simp_all)), trivial⟩
      ·refine WpG.g tabOK 8 rfl ?_
       exact nx23.weak ⟨bq (by first | (simp [q58, q64, q67, q78]; done) | (subst he; subst hh; by_cases a : mayW bits = true <;> by_cases b : mayW ret = true <;> by_cases c : bits = ret <;> simp_all)), trivial⟩
     ·refine WpG.g tabOK 5 rfl ?_
      refine WpG.caseE (t := 72) rfl (fun q72 => ?_) (fun q72 => ?_)
      ·refine WpG.g tabOK 3 rfl ?_
       refine WpG.y rfl rfl rfl rfl (RunY.eqBool tabOK rfl rfl rfl rfl) ?_
       refine WpG.g tabOK 2 rfl ?_
       refine WpG.caseB (t := 78) rfl (fun q78 => ?_) (fun q78 => ?_)
       ·refine WpG.g tabOK 2 rfl ?_
        refine WpG.caseB (t := 80) rfl (fun q80 => ?_) (fun q80 => ?_)
        ·refine WpG.g tabOK 6 rfl ?_
         exact nx23.weak ⟨bq (by first | (simp [q58, q64, q67, nb q67, q72, q78, q80]; done) | (subst he; subst hh; by_cases a : mayW bits = true <;> by_cases b : mayW ret = true <;> by_cases c : bits = ret <;> simp_all)), trivial⟩
        ·refine WpG.g tabOK 6 rfl ?_
         exact nx23.weak ⟨bq (by first | (simp [q58, q64, q67, nb q67, q72, q78, q80]; done) | (subst he; subst hh; by_cases a : mayW bits = true <;> by_cases b : mayW ret = true <;> by_cases c : bits = ret <;> simp_all)), trivial⟩
       ·refine WpG.g tabOK 8 rfl ?_
        exact nx23.weak ⟨bq (by first | (simp [q58, q64, q67, nb q67, q72, q78]; done) | (subst he; subst hh; by_cases a : mayW bits = true <;> by_cases b : mayW ret = true <;> by_cases c : bits = ret <;> simp_all)), trivial⟩
      ·refine WpG.g tabOK 14 rfl ?_
       exact nx23.weak ⟨bq (by first | (simp [q58, q64, q67, nb q67, q72, nb q72]; done) | (subst he; subst hh; by_cases a : mayW bits = true <;> by_cases b : mayW ret = true <;> by_cases c : bits = ret <;> simp_all)), trivial⟩
    ·refine WpG.g tabOK 22 rfl ?_
     exact nx23.weak ⟨bq (by first | (simp [q58, q64]; done) | (subst he; subst hh; by_cases a : mayW bits = true <;> by_cases b : mayW ret = true <;> by_cases c : bits = ret <;> simp_all)), trivial⟩
  exact WpG.ret tabOK (L' := []) (.tmp rfl .nil) .slnil ⟨congrArg Value.bool (by subst he; subst hh; by_cases a : mayW bits = true <;> by_cases b : mayW ret = true <;> by_cases c : bits = ret <;> simp [a, b, c]), rfl⟩
end Go.Proofs.YtdjemlkllbhdlaaGreat
namespace Go.Proofs.YtdjemlkllbhdlaaGreat
open Go Go.RowKit Go.ChangeShapes Go.WideShapes Go.ChangeAt
set_option maxRecDepth 100000 in
theorem checkRet_lifted (os : Os) (started : os.Started) (HH : Type) (enc : TypeId × Value → HH) :
    ReturnsInHanded {} Tryz.checked os 7 .any (Rows.checkRetSpec.pre6 enc Tryz.prog Tryz.f7 Rows.checkRetRow.domain false) (Rows.checkRetSpec.post enc Tryz.prog Tryz.f7 false true false false) := by
  refine returnsInHanded_of_change_sized (C := Tryz.checked) own started (by kernel_rfl) Tryz.func7
    (ChangeSpec.witness6 (enc := enc) (C := Tryz.checked) false ⟨#[], #[.int .i64 0, .int .i64 0], []⟩ 8 (by kernel_rfl) (by kernel_rfl) (by kernel_rfl) (by kernel_rfl)) ?_
  intro W base args ds gs before hval0 hW _ hsz _
  have hW' := hW
  obtain ⟨p, q, hA0, hV, rfl, _, _⟩ := hW
  have hval : ∀ (j : Nat) t v, Tryz.f7.params[j]? = some t → args[j]? = some v → Value.okWide Tryz.prog W .any base t v := hval0
  have hA : DataW.TrodAll enc Tryz.prog W 0 (fun _ => true) true Tryz.f7.params.toList args.toList ds p := hA0
  rw [Tryz.params7] at hA hval
  obtain ⟨v0, v1, d0, d1, p0, p1, rfl, rfl, rfl, h0, h1⟩ := trodAll_two hA
  obtain ⟨rfl, rfl⟩ := trodVars_none hV
  obtain ⟨a0, rfl, rfl, rfl, wa0⟩ := open_int Tryz.underlying3 (hval 0 3 v0 rfl rfl) h0
  obtain ⟨a1, rfl, rfl, rfl, wa1⟩ := open_int Tryz.underlying3 (hval 1 3 v1 rfl rfl) h1
  refine (law_calls (CheckRet_calls a0 (wf64 wa0) a1 (wf64 wa1))).mono fun e W' ⟨he, hb⟩ => ?_
  exact ⟨_, he, post_true hW' rfl laidOut (by kernel_rfl) Tryz.underlying4 rfl rfl hb⟩
theorem checkRet : Rows.CheckRetSaid :=
  OpenClaim.holds_of_wide 7 Tryz.f7 rfl rfl rfl rfl rfl rfl rfl ⟨rfl, rfl, rfl, rfl, rfl⟩ rfl rfl rfl rfl rfl (by kernel_rfl) Tryz.func7 (by kernel_rfl)
    (of_decide_eq_true (by kernel_rfl)) (by unfold Func.isWrapper; first | (rw [if_pos (by decide +kernel)]; kernel_rfl) | (rw [if_neg (by decide +kernel)]; exact ⟨rfl, rfl⟩))
    (fun os started HH enc _ => checkRet_lifted os started HH enc)
end Go.Proofs.YtdjemlkllbhdlaaGreat
