/- What is asked of each argument of a function; what a function defines. -/
import Derived.Test.YtdjemlkllbhdlaaGreatT13
namespace Go.Proofs.YtdjemlkllbhdlaaGreat
open Go Go.RowKit
section
variable {P : Program} {T : List TRow} {fn : Func} {w0 : World} {H0 : Hp} {X : List Nat} {k : List Item} {F : Fk} {H : Hp} {L : List Chunk} {R : Ending → World → Prop} {Hs : Hp} {Ls : List Chunk} {ops : Array Oper} {fuel : Nat} {listed : Array Bool} {ty : TypeId} {pos : String} {af : Array Edge} {g : Option (Nat × Bool)} {dst : Option Nat}
/-- What only reads, where it comes alone. -/
theorem OpG.y {i d : Nat} {o : Oper} {v : Value} (ho : ops[i]? = some o) (hw : wantk ops F o.guard = some true) (hd : o.dst = some d) (hn : Nat.blt d fn.ntmps = true) (hr : RunY P fn w0 H0 X F H L o v) :
    OpG P fn w0 H0 X ops i F H L fun F' H' L' => F' = (d, v) :: F ∧ H' = H ∧ L' = L := ⟨o, ho, hw, fun a w ha hs =>
  .value (hr a w ha hs) ⟨_, _, _, ⟨rfl, rfl, rfl⟩, by rw [hd]; exact ha.put (by simpa [Nat.blt_eq] using hn) _, hs⟩⟩
theorem WpD.dropL {L' : List Chunk} (hL : L'.Sublist L) (h : WpD P fn w0 H0 X k R Hs Ls ops fuel listed F H L') : WpD P fn w0 H0 X k R Hs Ls ops fuel listed F H L := fun a w ha hs => h a w ha (hs.drop hL)
end
structure AskD where
  v : Int
  s1 : Int
  s2 : Int
  bl : Int
  pos : Int
  deriving Inhabited, DecidableEq
def zipA {α β γ : Type} (f : α → β → γ) : List α → List β → List γ
  | a :: l, b :: m => f a b :: zipA f l m
  | _, _ => []
theorem zipA_len {α β γ : Type} (f : α → β → γ) : ∀ (l : List α) (m : List β), l.length ≤ m.length → (zipA f l m).length = l.length
  | [], [], _ => rfl
  | [], _ :: _, _ => rfl
  | _ :: _, [], h => by simp at h
  | a :: l, b :: m, h => by simp only [zipA, List.length_cons, zipA_len f l m (by simpa using h)]
theorem zipA_len' {α β γ : Type} (f : α → β → γ) : ∀ (l : List α) (m : List β), m.length ≤ l.length → (zipA f l m).length = m.length
  | [], [], _ => rfl
  | _ :: _, [], _ => rfl
  | [], _ :: _, h => by simp at h
  | a :: l, b :: m, h => by simp only [zipA, List.length_cons, zipA_len' f l m (by simpa using h)]
theorem zipA_drop {α β γ : Type} [Inhabited α] [Inhabited β] (f : α → β → γ) {l : List α} {m : List β} {k : Int} (h0 : 0 ≤ k) (h1 : k < l.length) (h2 : k < m.length) : (zipA f l m).drop k.toNat = f (nth l k) (nth m k) :: (zipA f l m).drop (k + 1).toNat := by
  have key : ∀ (n : Nat) (l : List α) (m : List β), n < l.length → n < m.length → (zipA f l m).drop n = f (l.getD n default) (m.getD n default) :: (zipA f l m).drop (n + 1) := by
    intro n
    induction n with
    | zero =>
      intro l m hl hm
      match l, m, hl, hm with
      | a :: l, b :: m, _, _ => rfl
      | [], _, hl, _ => simp at hl
      | _ :: _, [], _, hm => simp at hm
    | succ n ih =>
      intro l m hl hm
      match l, m, hl, hm with
      | a :: l, b :: m, hl, hm => simpa [zipA] using ih l m (by simpa using hl) (by simpa using hm)
      | [], _, hl, _ => simp at hl
      | _ :: _, [], _, hm => simp at hm
  rw [toNat_succ h0]
  exact key k.toNat l m (by omega) (by omega)
def phiAsks (p : PhiD) : List AskD := zipA (fun v fr => ⟨v, p.bits, 1, fr, 1048576⟩) p.args p.frm
def opAsks (i k : Int) (o : OpD) : List AskD := zipA (fun v s => ⟨v, s.1, s.2, i, k⟩) o.args (takesF o)
def opsAsks (i : Int) : Int → List OpD → List AskD
  | _, [] => []
  | k, o :: l => opAsks i k o ++ opsAsks i (k + 1) l
def endBits (ret kind : Int) : Int := if kind = 0 then ret else if kind = 2 then 1 else 0
def endAsks (ret i : Int) (e : EndD) : List AskD := if endBits ret e.kind = 0 then [] else [⟨e.arg, endBits ret e.kind, 1, i, 1048576⟩]
def blkAsks (ret i : Int) (b : BlockD) : List AskD := b.phis.flatMap phiAsks ++ (opsAsks i 0 b.ops ++ endAsks ret i b.en)
def allAsks (ret : Int) : Int → List BlockD → List AskD
  | _, [] => []
  | i, b :: l => blkAsks ret i b ++ allAsks ret (i + 1) l
def asksF (f : FuncD) : List AskD := allAsks f.ret 0 f.blocks
abbrev AskF := Int → Int → Int → Int → Int → Int
def firstA (ask : AskF) : List AskD → Int
  | [] => 0
  | a :: l => if ask a.v a.s1 a.s2 a.bl a.pos ≠ 0 then ask a.v a.s1 a.s2 a.bl a.pos else firstA ask l
theorem firstA_no {ask : AskF} {a : AskD} {l : List AskD} {r : Int} (h : r = firstA ask (a :: l)) (h2 : ask a.v a.s1 a.s2 a.bl a.pos = 0) : r = firstA ask l := by rw [h]; simp only [firstA, h2]; rw [if_neg (by simp)]
theorem firstA_yes {ask : AskF} {a : AskD} {l : List AskD} {r : Int} (h : r = firstA ask (a :: l)) (h2 : ask a.v a.s1 a.s2 a.bl a.pos ≠ 0) : r = ask a.v a.s1 a.s2 a.bl a.pos := by rw [h]; simp only [firstA]; rw [if_pos h2]

def askDef (ms : List (Int × DefD)) : AskF := fun v _ _ _ _ => if (mget ms v).isSome then 0 else 7
def askShape (ms : List (Int × DefD)) : AskF := fun v s1 s2 _ _ => if ((mget ms v).getD ⟨0, 0, 0, 0⟩).bits = s1 ∧ ((mget ms v).getD ⟨0, 0, 0, 0⟩).lanes = s2 then 0 else 6
def placeOK (tl : List Int) (d : DefD) (bl pos : Int) : Bool := decide (d.blk < 0) || (decide (d.blk = bl) && decide (d.pos < pos)) || (!decide (d.blk = bl) && overD tl d.blk bl)
def askPlace (ms : List (Int × DefD)) (tl : List Int) : AskF := fun v _ _ bl pos => if placeOK tl ((mget ms v).getD ⟨0, 0, 0, 0⟩) bl pos then 0 else 7

/-! ### What is defined, one behind the other -/
structure PutD where
  phi : Bool
  v : Int
  d : DefD
  deriving Inhabited
/-- Each is put; what is wrong: none. -/
def putAll : List (Int × DefD) → List PutD → Option (List (Int × DefD))
  | ms, [] => some ms
  | ms, p :: l => if (p.phi = true ∧ (p.v < 1 ∨ p.v > 1023)) ∨ (mget ms p.v).isSome = true then none else putAll (mput ms p.v p.d) l
def parPuts : List (Int × DefD) → Int → List Int → List (Int × DefD)
  | ms, _, [] => ms
  | ms, i, b :: l => parPuts (mput ms (i + 1) ⟨-1, 0, b, 1⟩) (i + 1) l
def phiPuts (i : Int) (l : List PhiD) : List PutD := l.map fun p => ⟨true, p.dst, ⟨i, -1, p.bits, 1⟩⟩
def opsPuts (i : Int) : Int → List OpD → List PutD
  | _, [] => []
  | k, o :: l => (if (givesF o).1 > 0 then [⟨false, o.dst, ⟨i, k, (givesF o).1, (givesF o).2⟩⟩] else []) ++ opsPuts i (k + 1) l
def allPuts : Int → List BlockD → List PutD
  | _, [] => []
  | i, b :: l => phiPuts i b.phis ++ (opsPuts i 0 b.ops ++ allPuts (i + 1) l)
def defsD (f : FuncD) : Option (List (Int × DefD)) := putAll (parPuts [] 0 f.params) (allPuts 0 f.blocks)
theorem put_bad {ms : List (Int × DefD)} {p : PutD} {l : List PutD} {r : Option (List (Int × DefD))} (h : r = putAll ms (p :: l)) (h2 : (p.phi = true ∧ (p.v < 1 ∨ p.v > 1023)) ∨ (mget ms p.v).isSome = true) : r = none := by rw [h]; simp only [putAll]; rw [if_pos h2]
theorem put_ok {ms : List (Int × DefD)} {p : PutD} {l : List PutD} {r : Option (List (Int × DefD))} (h : r = putAll ms (p :: l)) (h2 : ¬ ((p.phi = true ∧ (p.v < 1 ∨ p.v > 1023)) ∨ (mget ms p.v).isSome = true)) : r = putAll (mput ms p.v p.d) l := by rw [h]; simp only [putAll]; rw [if_neg h2]
/-- All that may be met by number is small. -/
def Small64 (ms : List (Int × DefD)) : Prop := ∀ v, I64 ((mget ms v).getD ⟨0, 0, 0, 0⟩).blk
theorem end_map1 (ret k : Int) : (mget (mput (mput ([] : List (Int × Int)) 0 ret) 2 1) k).getD 0 = endBits ret k := by
  unfold endBits
  by_cases h0 : k = 0
  · subst h0; simp [mput, mget]
  · by_cases h2 : k = 2
    · subst h2; simp [mput, mget]
    · simp [mput, mget, Ne.symm h0, Ne.symm h2, h0, h2]
theorem end_map2 (ret k : Int) : (mget (mput (mput ([] : List (Int × Int)) 2 1) 0 ret) k).getD 0 = endBits ret k := by
  unfold endBits
  by_cases h0 : k = 0
  · subst h0; simp [mput, mget]
  · by_cases h2 : k = 2
    · subst h2; simp [mput, mget]
    · simp [mput, mget, Ne.symm h0, Ne.symm h2, h0, h2]
theorem takes_le (o : OpD) : (takesF o).length ≤ o.args.length := by
  unfold takesF
  by_cases h : mayO o = true
  · rw [if_pos h]
    simp only [mayO, Bool.and_eq_true, beq_iff_eq] at h
    omega
  · rw [if_neg h]; simp
theorem asks_step {ret i : Int} {bs : List BlockD} {x : BlockD} (h0 : 0 ≤ i) (h1 : i < bs.length) (hx : x = nth bs i) :
    allAsks ret i (bs.drop i.toNat) = x.phis.flatMap phiAsks ++ (opsAsks i 0 x.ops ++ (endAsks ret i x.en ++ allAsks ret (i + 1) (bs.drop (i + 1).toNat))) := by
  rw [drop_nth h0 h1, ← hx, toNat_succ h0]; simp only [allAsks, blkAsks, List.append_assoc]
theorem phis_step {l : List PhiD} {j : Int} {x : PhiD} (h0 : 0 ≤ j) (h1 : j < l.length) (hx : x = nth l j) : (l.drop j.toNat).flatMap phiAsks = phiAsks x ++ (l.drop (j + 1).toNat).flatMap phiAsks := by
  rw [drop_nth h0 h1, ← hx, toNat_succ h0]; rfl
theorem ops_step {i : Int} {l : List OpD} {m : Int} {x : OpD} (h0 : 0 ≤ m) (h1 : m < l.length) (hx : x = nth l m) : opsAsks i m (l.drop m.toNat) = opAsks i m x ++ opsAsks i (m + 1) (l.drop (m + 1).toNat) := by
  rw [drop_nth h0 h1, ← hx, toNat_succ h0]; rfl
theorem phi_ask {p : PhiD} {k : Int} {v fr : Int} (hl : p.args.length = p.frm.length) (h0 : 0 ≤ k) (h1 : k < p.args.length) (hv : v = nth p.args k) (hf : fr = nth p.frm k) : (phiAsks p).drop k.toNat = ⟨v, p.bits, 1, fr, 1048576⟩ :: (phiAsks p).drop (k + 1).toNat := by
  rw [hv, hf]; exact zipA_drop _ h0 h1 (by omega)
theorem phi_end {p : PhiD} {k : Int} (hl : p.args.length = p.frm.length) (h0 : 0 ≤ k) (h1 : ¬ k < p.args.length) : (phiAsks p).drop k.toNat = [] := by
  apply List.drop_eq_nil_of_le
  have := zipA_len (fun v fr => (⟨v, p.bits, 1, fr, 1048576⟩ : AskD)) p.args p.frm (by omega)
  unfold phiAsks; omega
theorem op_ask {i m : Int} {o : OpD} {k : Int} {v : Int} {s : Int × Int} (h0 : 0 ≤ k) (h1 : k < (takesF o).length) (hv : v = nth o.args k) (hs : s = nth (takesF o) k) : (opAsks i m o).drop k.toNat = ⟨v, s.1, s.2, i, m⟩ :: (opAsks i m o).drop (k + 1).toNat := by
  rw [hv, hs]; exact zipA_drop _ h0 (by have := takes_le o; omega) h1
theorem op_end {i m : Int} {o : OpD} {k : Int} (h0 : 0 ≤ k) (h1 : ¬ k < (takesF o).length) : (opAsks i m o).drop k.toNat = [] := by
  apply List.drop_eq_nil_of_le
  have := zipA_len' (fun v s => (⟨v, s.1, s.2, i, m⟩ : AskD)) o.args (takesF o) (takes_le o)
  unfold opAsks; omega
theorem perm_two {α : Type} {L : List α} {i j : Nat} {c d : α} (h : L[i]? = some c) (h2 : (L.eraseIdx i)[j]? = some d) : L.Perm ([c, d] ++ (L.eraseIdx i).eraseIdx j) := (perm_at h).trans ((perm_at h2).cons c)
theorem par_step {ms : List (Int × DefD)} {l : List Int} {i : Int} {x : Int} (h0 : 0 ≤ i) (h1 : i < l.length) (hx : x = nth l i) : parPuts ms i (l.drop i.toNat) = parPuts (mput ms (i + 1) ⟨-1, 0, x, 1⟩) (i + 1) (l.drop (i + 1).toNat) := by
  rw [drop_nth h0 h1, ← hx, toNat_succ h0]; rfl
theorem allPuts_step {i : Int} {bs : List BlockD} {x : BlockD} (h0 : 0 ≤ i) (h1 : i < bs.length) (hx : x = nth bs i) : allPuts i (bs.drop i.toNat) = phiPuts i x.phis ++ (opsPuts i 0 x.ops ++ allPuts (i + 1) (bs.drop (i + 1).toNat)) := by
  rw [drop_nth h0 h1, ← hx, toNat_succ h0]; rfl
theorem phiPuts_step {i : Int} {l : List PhiD} {j : Int} {x : PhiD} (h0 : 0 ≤ j) (h1 : j < l.length) (hx : x = nth l j) : phiPuts i (l.drop j.toNat) = ⟨true, x.dst, ⟨i, -1, x.bits, 1⟩⟩ :: phiPuts i (l.drop (j + 1).toNat) := by
  rw [drop_nth h0 h1, ← hx, toNat_succ h0]; rfl
theorem opsPuts_step {i : Int} {l : List OpD} {k : Int} {x : OpD} (h0 : 0 ≤ k) (h1 : k < l.length) (hx : x = nth l k) : opsPuts i k (l.drop k.toNat) = (if (givesF x).1 > 0 then [⟨false, x.dst, ⟨i, k, (givesF x).1, (givesF x).2⟩⟩] else []) ++ opsPuts i (k + 1) (l.drop (k + 1).toNat) := by
  rw [drop_nth h0 h1, ← hx, toNat_succ h0]; rfl
theorem phi_ok {ms : List (Int × DefD)} {v : Int} {d : DefD} {T : List PutD} {r : Option (List (Int × DefD))} (h : r = putAll ms (⟨true, v, d⟩ :: T)) (h1 : ¬ v < 1) (h2 : ¬ v > 1023) (h3 : (!(mget ms v).isSome) = true) : r = putAll (mput ms v d) T :=
  put_ok h (by
    rintro (⟨-, h⟩ | h)
    · rcases h with h | h
      · exact h1 h
      · exact h2 h
    · have h' : (mget ms v).isSome = true := h
      rw [h'] at h3; cases h3)
theorem phi_bad {ms : List (Int × DefD)} {v : Int} {d : DefD} {T : List PutD} {r : Option (List (Int × DefD))} (h : r = putAll ms (⟨true, v, d⟩ :: T)) (h1 : v < 1 ∨ v > 1023 ∨ (!(mget ms v).isSome) = false) : r = none :=
  put_bad h (by
    rcases h1 with h1 | h1 | h1
    · exact .inl ⟨rfl, .inl h1⟩
    · exact .inl ⟨rfl, .inr h1⟩
    · exact .inr (by simpa using h1))
theorem op_ok {ms : List (Int × DefD)} {v : Int} {d : DefD} {T : List PutD} {r : Option (List (Int × DefD))} (h : r = putAll ms (⟨false, v, d⟩ :: T)) (h3 : (!(mget ms v).isSome) = true) : r = putAll (mput ms v d) T :=
  put_ok h (by
    rintro (⟨h, -⟩ | h)
    · cases h
    · have h' : (mget ms v).isSome = true := h
      rw [h'] at h3; cases h3)
theorem op_bad {ms : List (Int × DefD)} {v : Int} {d : DefD} {T : List PutD} {r : Option (List (Int × DefD))} (h : r = putAll ms (⟨false, v, d⟩ :: T)) (h1 : (!(mget ms v).isSome) = false) : r = none :=
  put_bad h (.inr (by simpa using h1))
end Go.Proofs.YtdjemlkllbhdlaaGreat
