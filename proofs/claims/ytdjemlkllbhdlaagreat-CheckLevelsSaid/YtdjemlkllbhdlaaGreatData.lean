/- The program's data as Lean's, and what it is that a value, in memory that stays, reads as such. -/
import Derived.Test.YtdjemlkllbhdlaaGreatOwn
namespace Go.Proofs.YtdjemlkllbhdlaaGreat
open Go Go.RowKit

def I64 (x : Int) : Prop := -9223372036854775808 ≤ x ∧ x ≤ 9223372036854775807
def U64 (x : Int) : Prop := 0 ≤ x ∧ x ≤ 18446744073709551615
theorem I64.wrap {x : Int} (h : I64 x) : IntKind.i64.wrap x = x := by
  unfold I64 at h
  rw [IntKind.wrap_i64]
  omega

class Rdc (α : Type) where
  sz : Nat
  rd : Hp → List Value → α → Prop
  len : ∀ {H vs x}, rd H vs x → vs.length = sz
  mono : ∀ {H H' vs x}, H.le H' → rd H vs x → rd H' vs x
  one : ∀ {H vs x}, rd H vs x → vs.all (fun u => u.oneCell') = true

def RdS {α : Type} [Rdc α] (H : Hp) (A : Option Addr) (xs : List α) : Prop :=
  xs.length ≤ 140737488355328 ∧ (xs = [] ∨ ∃ b o, A = some ⟨b, o, none⟩ ∧ ∀ (i : Nat) x, xs[i]? = some x → ∃ cs, Rdc.rd H cs x ∧ HCells H b (o + i * Rdc.sz α) cs)
theorem RdS.mono {α : Type} [Rdc α] {H H' : Hp} {A : Option Addr} {xs : List α} (hH : H.le H') (h : RdS H A xs) : RdS H' A xs :=
  ⟨h.1, h.2.imp id fun ⟨b, o, e, k⟩ => ⟨b, o, e, fun i x hx => let ⟨cs, h1, h2⟩ := k i x hx; ⟨cs, Rdc.mono hH h1, h2.mono hH⟩⟩⟩
theorem RdS.nil {α : Type} [Rdc α] (H : Hp) (A : Option Addr) : RdS H A ([] : List α) := ⟨by simp, .inl rfl⟩

instance : Rdc Int where
  sz := 1
  rd _ vs x := vs = [.int .i64 x] ∧ I64 x
  len h := by rw [h.1]; rfl
  mono _ h := h
  one h := by rw [h.1]; rfl
instance {α : Type} [Rdc α] : Rdc (List α) where
  sz := 1
  rd H vs xs := ∃ A c, vs = [.slice A xs.length c] ∧ xs.length ≤ c ∧ RdS H A xs
  len h := by obtain ⟨A, c, rfl, _⟩ := h; rfl
  mono hH h := by obtain ⟨A, c, e, h1, h2⟩ := h; exact ⟨A, c, e, h1, h2.mono hH⟩
  one h := by obtain ⟨A, c, rfl, _⟩ := h; rfl
instance : Rdc Bool where
  sz := 1
  rd _ vs x := vs = [.bool x]
  len h := by rw [h]; rfl
  mono _ h := h
  one h := by rw [h]; rfl

structure OpD where
  kind : Int
  bits : Int
  lanes : Int
  dst : Int
  args : List Int
  imm : Int
  deriving Inhabited, DecidableEq
structure PhiD where
  bits : Int
  dst : Int
  frm : List Int
  args : List Int
  deriving Inhabited, DecidableEq
structure EndD where
  kind : Int
  arg : Int
  to : List Int
  deriving Inhabited, DecidableEq
structure BlockD where
  phis : List PhiD
  ops : List OpD
  en : EndD
  deriving Inhabited, DecidableEq
structure FuncD where
  params : List Int
  ret : Int
  blocks : List BlockD
  deriving Inhabited, DecidableEq
structure GraphD where
  succ : List (List Int)
  pred : List (List Int)
  deriving Inhabited, DecidableEq

instance : Rdc OpD where
  sz := 6
  rd H vs x := ∃ A c, vs = [.int .i64 x.kind, .int .i64 x.bits, .int .i64 x.lanes, .int .i64 x.dst, .slice A x.args.length c, .int .u64 x.imm] ∧ x.args.length ≤ c ∧ RdS H A x.args ∧
    I64 x.kind ∧ I64 x.bits ∧ I64 x.lanes ∧ I64 x.dst ∧ U64 x.imm
  len h := by obtain ⟨A, c, rfl, _⟩ := h; rfl
  mono hH h := by obtain ⟨A, c, e, h1, h2, h3⟩ := h; exact ⟨A, c, e, h1, h2.mono hH, h3⟩
  one h := by obtain ⟨A, c, rfl, _⟩ := h; rfl
instance : Rdc PhiD where
  sz := 4
  rd H vs x := ∃ A c A' c', vs = [.int .i64 x.bits, .int .i64 x.dst, .slice A x.frm.length c, .slice A' x.args.length c'] ∧ x.frm.length ≤ c ∧ RdS H A x.frm ∧ x.args.length ≤ c' ∧ RdS H A' x.args ∧ I64 x.bits ∧ I64 x.dst
  len h := by obtain ⟨A, c, A', c', rfl, _⟩ := h; rfl
  mono hH h := by obtain ⟨A, c, A', c', e, h1, h2, h3, h4, h5⟩ := h; exact ⟨A, c, A', c', e, h1, h2.mono hH, h3, h4.mono hH, h5⟩
  one h := by obtain ⟨A, c, A', c', rfl, _⟩ := h; rfl
instance : Rdc EndD where
  sz := 3
  rd H vs x := ∃ A c, vs = [.int .i64 x.kind, .int .i64 x.arg, .slice A x.to.length c] ∧ x.to.length ≤ c ∧ RdS H A x.to ∧ I64 x.kind ∧ I64 x.arg
  len h := by obtain ⟨A, c, rfl, _⟩ := h; rfl
  mono hH h := by obtain ⟨A, c, e, h1, h2, h3⟩ := h; exact ⟨A, c, e, h1, h2.mono hH, h3⟩
  one h := by obtain ⟨A, c, rfl, _⟩ := h; rfl
instance : Rdc BlockD where
  sz := 5
  rd H vs x := ∃ A c A' c' A'' c'', vs = [.slice A x.phis.length c, .slice A' x.ops.length c', .int .i64 x.en.kind, .int .i64 x.en.arg, .slice A'' x.en.to.length c''] ∧
    x.phis.length ≤ c ∧ RdS H A x.phis ∧ x.ops.length ≤ c' ∧ RdS H A' x.ops ∧ x.en.to.length ≤ c'' ∧ RdS H A'' x.en.to ∧ I64 x.en.kind ∧ I64 x.en.arg
  len h := by obtain ⟨A, c, A', c', A'', c'', rfl, _⟩ := h; rfl
  mono hH h := by obtain ⟨A, c, A', c', A'', c'', e, h1, h2, h3, h4, h5, h6, h7⟩ := h; exact ⟨A, c, A', c', A'', c'', e, h1, h2.mono hH, h3, h4.mono hH, h5, h6.mono hH, h7⟩
  one h := by obtain ⟨A, c, A', c', A'', c'', rfl, _⟩ := h; rfl
instance : Rdc FuncD where
  sz := 3
  rd H vs x := ∃ A c A' c', vs = [.slice A x.params.length c, .int .i64 x.ret, .slice A' x.blocks.length c'] ∧ x.params.length ≤ c ∧ RdS H A x.params ∧ x.blocks.length ≤ c' ∧ RdS H A' x.blocks ∧ I64 x.ret
  len h := by obtain ⟨A, c, A', c', rfl, _⟩ := h; rfl
  mono hH h := by obtain ⟨A, c, A', c', e, h1, h2, h3, h4, h5⟩ := h; exact ⟨A, c, A', c', e, h1, h2.mono hH, h3, h4.mono hH, h5⟩
  one h := by obtain ⟨A, c, A', c', rfl, _⟩ := h; rfl
instance : Rdc GraphD where
  sz := 2
  rd H vs x := ∃ A c A' c', vs = [.slice A x.succ.length c, .slice A' x.pred.length c'] ∧ x.succ.length ≤ c ∧ RdS H A x.succ ∧ x.pred.length ≤ c' ∧ RdS H A' x.pred
  len h := by obtain ⟨A, c, A', c', rfl, _⟩ := h; rfl
  mono hH h := by obtain ⟨A, c, A', c', e, h1, h2, h3, h4⟩ := h; exact ⟨A, c, A', c', e, h1, h2.mono hH, h3, h4.mono hH⟩
  one h := by obtain ⟨A, c, A', c', rfl, _⟩ := h; rfl

/-- The element at a place. -/
def nth {α : Type} [Inhabited α] (xs : List α) (i : Int) : α := xs.getD i.toNat default
theorem nth_get {α : Type} [Inhabited α] {xs : List α} {i : Int} (h0 : 0 ≤ i) (h1 : i < xs.length) : xs[i.toNat]? = some (nth xs i) := by
  have : i.toNat < xs.length := by omega
  simp [nth, List.getD_eq_getElem?_getD, List.getElem?_eq_getElem this]
theorem drop_nth {α : Type} [Inhabited α] {xs : List α} {i : Int} (h0 : 0 ≤ i) (h1 : i < xs.length) : xs.drop i.toNat = nth xs i :: xs.drop (i.toNat + 1) := by
  have h : i.toNat < xs.length := by omega
  rw [List.drop_eq_getElem_cons h]
  have := nth_get h0 h1
  rw [List.getElem?_eq_getElem h] at this
  simp only [Option.some.injEq] at this
  rw [this]
theorem nth_mem {α : Type} [Inhabited α] {xs : List α} {i : Int} (h0 : 0 ≤ i) (h1 : i < xs.length) : nth xs i ∈ xs := List.mem_of_getElem? (nth_get h0 h1)

/-- What lies at an element's address. -/
theorem RdS.at_ {α : Type} [Inhabited α] [Rdc α] {H : Hp} {A : Option Addr} {xs : List α} (h : RdS H A xs) {i : Int} (h0 : 0 ≤ i) (h1 : i < xs.length) :
    ∃ b o, A = some ⟨b, o, none⟩ ∧ ∃ cs, Rdc.rd H cs (nth xs i) ∧ HCells H b (o + i.toNat * Rdc.sz α) cs := by
  rcases h.2 with rfl | ⟨b, o, e, k⟩
  · simp at h1; omega
  · exact ⟨b, o, e, k i.toNat _ (nth_get h0 h1)⟩
theorem HCells.sub {H : Hp} {b o : Nat} {cs : List Value} (h : HCells H b o cs) (m n : Nat) : HCells H b (o + m) ((cs.drop m).take n) := fun j u hu => by
  rw [List.getElem?_take] at hu
  split at hu
  · rw [List.getElem?_drop] at hu
    have := h _ u hu
    rwa [← Nat.add_assoc] at this
  · cases hu

/-- What a row of the call's own holds, as a list. -/
def RdL {α : Type} [Rdc α] (H : Hp) : List Value → List α → Prop
  | vs, [] => vs = []
  | vs, x :: xs => ∃ v vs', vs = v ++ vs' ∧ Rdc.rd H v x ∧ RdL H vs' xs
theorem RdL.mono {α : Type} [Rdc α] {H H' : Hp} (hH : H.le H') : ∀ {xs : List α} {vs : List Value}, RdL H vs xs → RdL H' vs xs
  | [], _, h => h
  | _ :: _, _, ⟨v, vs', e, h1, h2⟩ => ⟨v, vs', e, Rdc.mono hH h1, RdL.mono hH h2⟩
theorem RdL.snoc {α : Type} [Rdc α] {H : Hp} : ∀ {xs : List α} {vs : List Value} {x : α} {v : List Value}, RdL H vs xs → Rdc.rd H v x → RdL H (vs ++ v) (xs ++ [x])
  | [], _, _, v, h, hv => by rw [show _ = [] from h]; exact ⟨v, [], by simp, hv, rfl⟩
  | _ :: _, _, _, _, ⟨u, vs', e, h1, h2⟩, hv => ⟨u, _, by rw [e, List.append_assoc], h1, RdL.snoc h2 hv⟩
theorem RdL.append {α : Type} [Rdc α] {H : Hp} : ∀ {xs ys : List α} {vs ws : List Value}, RdL H vs xs → RdL H ws ys → RdL H (vs ++ ws) (xs ++ ys)
  | [], _, _, _, h, hv => by rw [show _ = [] from h]; exact hv
  | _ :: _, _, _, _, ⟨u, vs', e, h1, h2⟩, hv => ⟨u, _, by rw [e, List.append_assoc], h1, RdL.append h2 hv⟩
theorem RdL.len {α : Type} [Rdc α] {H : Hp} : ∀ {xs : List α} {vs : List Value}, RdL H vs xs → vs.length = xs.length * Rdc.sz α
  | [], _, h => by rw [show _ = [] from h]; simp
  | x :: xs, _, ⟨u, vs', e, h1, h2⟩ => by
    rw [e, List.length_append, Rdc.len h1, RdL.len h2, List.length_cons, Nat.succ_mul, Nat.add_comm]
theorem RdL.one {α : Type} [Rdc α] {H : Hp} : ∀ {xs : List α} {vs : List Value}, RdL H vs xs → vs.all (fun u => u.oneCell') = true
  | [], _, h => by rw [show _ = [] from h]; rfl
  | _ :: _, _, ⟨u, vs', e, h1, h2⟩ => by rw [e, List.all_append, Rdc.one h1, RdL.one h2]; rfl
theorem RdL.at_ {α : Type} [Rdc α] {H : Hp} : ∀ {xs : List α} {vs : List Value}, RdL H vs xs → ∀ (i : Nat) x, xs[i]? = some x → ∃ cs, Rdc.rd H cs x ∧ ∀ (j : Nat) u, cs[j]? = some u → vs[i * Rdc.sz α + j]? = some u
  | [], _, _, i, x, hx => by simp at hx
  | y :: xs, _, ⟨u, vs', e, h1, h2⟩, i, x, hx => by
    cases i with
    | zero =>
      simp at hx; subst hx
      refine ⟨u, h1, fun j w hw => ?_⟩
      rw [e, Nat.zero_mul, Nat.zero_add, List.getElem?_append_left (List.getElem?_eq_some_iff.1 hw).1]
      exact hw
    | succ i =>
      simp at hx
      obtain ⟨cs, k1, k2⟩ := RdL.at_ h2 i x hx
      refine ⟨cs, k1, fun j w hw => ?_⟩
      rw [e, List.getElem?_append_right (by rw [Rdc.len h1, Nat.succ_mul]; omega), Rdc.len h1]
      have := k2 j w hw
      rw [show (i + 1) * Rdc.sz α + j - Rdc.sz α = i * Rdc.sz α + j from by rw [Nat.succ_mul]; omega]
      exact this
/-- A row that stays reads as the list that it held. -/
theorem RdS.of_own {α : Type} [Rdc α] {H : Hp} {A : Option Addr} {n : Nat} {vs : List Value} {xs : List α} (h : RdL H vs xs) (hn : n = xs.length) (hl : xs.length ≤ 140737488355328) {H' : Hp} (hH : H.le H')
    (hA : (A = none ∧ n = 0) ∨ ∃ b, A = some ⟨b, 0, none⟩ ∧ HCells H' b 0 vs) : RdS H' A xs := by
  refine ⟨hl, ?_⟩
  rcases hA with ⟨rfl, h0⟩ | ⟨b, rfl, hc⟩
  · exact .inl (List.eq_nil_of_length_eq_zero (by omega))
  · refine .inr ⟨b, 0, rfl, fun i x hx => ?_⟩
    obtain ⟨cs, k1, k2⟩ := h.at_ i x hx
    exact ⟨cs, Rdc.mono hH k1, fun j u hu => by have := hc _ u (k2 j u hu); simpa [Nat.add_assoc] using this⟩
end Go.Proofs.YtdjemlkllbhdlaaGreat
