import PyProof.Rows.All
import Wide.All
import OpenK.AllK
import Wide.FinOn
import PySem.Challenge.RW_xw0328_01
open PySem PySem.W PyProof.Rows
set_option Elab.async false
namespace Mine

/-- a mark in the context: this draw is being walked -/
def TakeMark : Prop := True

/-- what a draw leaves: an int from nought to below top; the source's two ints, the second in bounds -/
def TakePost (h₀ : Heap) (L : Addr) (m : Str → Option Value) (pre post : List (Addr × Obj)) (l : Addr) (n : Nat) (top : Int) (s : Shared) (v : Value) (s' : Shared) : Prop :=
  ∃ (r a b : Int) (t ta tb : Tok) (h : Heap) (tk : Nat), v = .int r t ∧ s' = { s with heap := h, toks := tk } ∧ (0 ≤ r ∧ r < top) ∧ (0 ≤ b ∧ b < 2147483647) ∧ Fr h₀ L h m ∧ News h₀ L h (pre ++ (l, listOf #[.int a ta, .int b tb] n) :: post)

theorem take_cut {prog : Program} {w : World} {A : Around} {E Q : Value → Shared → Prop} {s : Shared} {h₀ : Heap} {L l : Addr} {m : Str → Option Value} {pre post : List (Addr × Obj)} {n : Nat} {top a b : Int} {ta tb tt : Tok}
    (F0 : Fr h₀ L s.heap m) (N0 : News h₀ L s.heap (pre ++ (l, listOf #[.int a ta, .int b tb] n) :: post)) (hb0 : 0 ≤ b ∧ b < 2147483647)
    (hc : TakeMark → wpAny (model prog w) A (call (.ref 119) [.ref l, .int top tt]) (TakePost h₀ L m pre post l n top s) E s)
    (hk : ∀ (r a b : Int) (t ta tb : Tok) (h : Heap) (tk : Nat), 0 ≤ r → r < top → 0 ≤ b → b < 2147483647 → Fr h₀ L h m → News h₀ L h (pre ++ (l, listOf #[.int a ta, .int b tb] n) :: post) → Q (.int r t) { s with heap := h, toks := tk }) :
    wpAny (model prog w) A (call (.ref 119) [.ref l, .int top tt]) Q E s := by
  refine wpAny_mono (hc trivial) (fun v s₂ hq => ?_) fun _ _ h => h
  obtain ⟨r, a, b, t, ta, tb, h, tk, rfl, rfl, ⟨h1, h2⟩, ⟨h3, h4⟩, F, N⟩ := hq
  exact hk r a b t ta tb h tk h1 h2 h3 h4 F N

theorem take_end {h₀ h : Heap} {L l : Addr} {m : Str → Option Value} {pre post news' : List (Addr × Obj)} {n : Nat} {top r a b : Int} {t ta tb : Tok} {s s' : Shared} {tk : Nat}
    (hs : s' = { s with heap := h, toks := tk }) (hr : 0 ≤ r ∧ r < top) (hb : 0 ≤ b ∧ b < 2147483647) (F : Fr h₀ L h m) (N : News h₀ L h news') (hn : ∀ p ∈ pre ++ (l, listOf #[.int a ta, .int b tb] n) :: post, p ∈ news') :
    TakePost h₀ L m pre post l n top s (.int r t) s' :=
  ⟨r, a, b, t, ta, tb, h, tk, rfl, hs, hr, hb, F, fun p hp => N p (hn p hp)⟩

theorem fm_in (x : Int) {k : Int} (hk : 0 < k) : 0 ≤ x.fmod k ∧ x.fmod k < k :=
  ⟨Int.fmod_nonneg_of_pos x hk, Int.fmod_lt_of_pos x hk⟩

def PoolMark : Prop := True

/-- what the pool hands back: a new list of two ints, the second in bounds -/
def PoolPost (h₀ : Heap) (L : Addr) (m : Str → Option Value) (led : List (Addr × Obj)) (s : Shared) (v : Value) (s' : Shared) : Prop :=
  ∃ (l : Addr) (a b : Int) (ta tb : Tok) (n : Nat) (h : Heap) (tk : Nat), v = .ref l ∧ s' = { s with heap := h, toks := tk } ∧ (0 ≤ b ∧ b < 2147483647) ∧ AllLt l led ∧ Fr h₀ L h m ∧ News h₀ L h ((l, listOf #[.int a ta, .int b tb] n) :: led)

theorem pool_cut {prog : Program} {w : World} {A : Around} {E Q : Value → Shared → Prop} {s : Shared} {h₀ : Heap} {L sc : Addr} {m : Str → Option Value} {led : List (Addr × Obj)} {k : Int} {tt : Tok}
    (F0 : Fr h₀ L s.heap m) (N0 : News h₀ L s.heap led)
    (hc : PoolMark → wpAny (model prog w) A (call (.ref 112) [.ref sc, .int k tt]) (PoolPost h₀ L m led s) E s)
    (hk : ∀ (l : Addr) (a b : Int) (ta tb : Tok) (n : Nat) (h : Heap) (tk : Nat), 0 ≤ b → b < 2147483647 → AllLt l led → Fr h₀ L h m → News h₀ L h ((l, listOf #[.int a ta, .int b tb] n) :: led) → Q (.ref l) { s with heap := h, toks := tk }) :
    wpAny (model prog w) A (call (.ref 112) [.ref sc, .int k tt]) Q E s := by
  refine wpAny_mono (hc trivial) (fun v s₂ hq => ?_) fun _ _ h => h
  obtain ⟨l, a, b, ta, tb, n, h, tk, rfl, rfl, ⟨h3, h4⟩, hl, F, N⟩ := hq
  exact hk l a b ta tb n h tk h3 h4 hl F N

theorem pool_end {h₀ h : Heap} {L l : Addr} {m : Str → Option Value} {led news' : List (Addr × Obj)} {n : Nat} {a b : Int} {ta tb : Tok} {s s' : Shared} {tk : Nat}
    (hs : s' = { s with heap := h, toks := tk }) (hb : 0 ≤ b ∧ b < 2147483647) (hl : AllLt l led) (F : Fr h₀ L h m) (N : News h₀ L h news') (hn : ∀ p ∈ (l, listOf #[.int a ta, .int b tb] n) :: led, p ∈ news') :
    PoolPost h₀ L m led s (.ref l) s' :=
  ⟨l, a, b, ta, tb, n, h, tk, rfl, hs, hb, hl, F, fun p hp => N p (hn p hp)⟩

theorem mul_sq (x z d : Int) : IntMulOk ([x, z.fmod 2147483647].getD (Int.toNat 1) d) ([x, z.fmod 2147483647].getD (Int.toNat 1) d) := by
  show IntMulOk (z.fmod 2147483647) (z.fmod 2147483647)
  have h := fm_in z (k := 2147483647) (by decide)
  exact PySem.IntMulOk.of_right (PySem.intBits_le_64 (by omega) (by omega))

/-- the source between two draws -/
def Src (ns : List Int) : Prop := ∃ a b : Int, ns = [a, b] ∧ 0 ≤ b ∧ b < 2147483647
theorem Src.mk {a b : Int} (h0 : 0 ≤ b) (h1 : b < 2147483647) : Src [a, b] := ⟨a, b, rfl, h0, h1⟩

theorem Src.out {ns : List Int} (h : Src ns) : ∃ a b : Int, ns = [a, b] ∧ 0 ≤ b ∧ b < 2147483647 := h

theorem ints_two {vs : List Value} {a b : Int} (h : IntsAre vs [a, b]) : ∃ ta tb : Tok, vs = [.int a ta, .int b tb] := by
  cases h with
  | cons x t h =>
    cases h with
    | cons y u h =>
      cases h
      exact ⟨_, _, rfl⟩

def ManyMark : Prop := True

/-- how many whole segments, one at least -/
def manyOf (size mss : Int) : Int := if size.fdiv mss > 1 then size.fdiv mss else 1

def ManyPost (h₀ : Heap) (L : Addr) (m : Str → Option Value) (led : List (Addr × Obj)) (size mss : Int) (s : Shared) (v : Value) (s' : Shared) : Prop :=
  ∃ (t : Tok) (h : Heap) (tk : Nat), v = .int (manyOf size mss) t ∧ s' = { s with heap := h, toks := tk } ∧ Fr h₀ L h m ∧ News h₀ L h led

theorem many_cut {prog : Program} {w : World} {A : Around} {E Q : Value → Shared → Prop} {s : Shared} {h₀ : Heap} {L f : Addr} {m : Str → Option Value} {led : List (Addr × Obj)} {size mss : Int} {t1 t2 : Tok}
    (F0 : Fr h₀ L s.heap m) (N0 : News h₀ L s.heap led)
    (hc : ManyMark → wpAny (model prog w) A (call (.ref f) [.int size t1, .int mss t2]) (ManyPost h₀ L m led size mss s) E s)
    (hk : ∀ (t : Tok) (h : Heap) (tk : Nat), Fr h₀ L h m → News h₀ L h led → Q (.int (manyOf size mss) t) { s with heap := h, toks := tk }) :
    wpAny (model prog w) A (call (.ref f) [.int size t1, .int mss t2]) Q E s := by
  refine wpAny_mono (hc trivial) (fun v s₂ hq => ?_) fun _ _ h => h
  obtain ⟨t, h, tk, rfl, rfl, F, N⟩ := hq
  exact hk t h tk F N

theorem many_end {h₀ h : Heap} {L : Addr} {m : Str → Option Value} {led news' : List (Addr × Obj)} {size mss x : Int} {t : Tok} {s s' : Shared} {tk : Nat}
    (hs : s' = { s with heap := h, toks := tk }) (hx : x = manyOf size mss) (F : Fr h₀ L h m) (N : News h₀ L h news') (hn : ∀ p ∈ led, p ∈ news') :
    ManyPost h₀ L m led size mss s (.int x t) s' := by
  subst hx
  exact ⟨t, h, tk, rfl, hs, F, fun p hp => N p (hn p hp)⟩

/-- what holds between two turns of the counting -/
def Counted (size mss many left : Int) : Prop := left + many * mss = size ∧ 0 ≤ many ∧ 0 ≤ left
theorem Counted.start {size mss : Int} (h : 0 ≤ size) : Counted size mss 0 size := ⟨by omega, by omega, h⟩
theorem Counted.more {size mss many left : Int} (h : Counted size mss many left) (hl : mss ≤ left) : Counted size mss (many + 1) (left - mss) := by
  obtain ⟨h1, h2, h3⟩ := h
  refine ⟨?_, by omega, by omega⟩
  rw [Int.add_mul, Int.one_mul]
  omega
theorem Counted.fdiv {size mss many left : Int} (h : Counted size mss many left) (hm : 1 ≤ mss) (hl : ¬ mss ≤ left) : size.fdiv mss = many := by
  obtain ⟨h1, h2, h3⟩ := h
  have e : size = left + many * mss := h1.symm
  have hp : (0 : Int) < mss := by omega
  rw [e, Int.fdiv_eq_ediv_of_nonneg _ (by omega), Int.add_mul_ediv_right _ _ (by omega), Int.ediv_eq_zero_of_lt h3 (by omega)]
  omega
theorem Counted.many {size mss many left : Int} (h : Counted size mss many left) (hm : 1 ≤ mss) (hl : ¬ mss ≤ left) (h0 : 0 < many) : many = manyOf size mss := by
  rw [manyOf, h.fdiv hm hl]
  split <;> omega
theorem Counted.none {size mss many left : Int} (h : Counted size mss many left) (hm : 1 ≤ mss) (hl : ¬ mss ≤ left) (h0 : ¬ 0 < many) : 1 = manyOf size mss := by
  rw [manyOf, h.fdiv hm hl]
  split <;> omega

/-- the window behind a told size stays within its bounds -/
theorem told_in {size mss later : Int} (h0 : 0 ≤ size) (h1 : size ≤ 40 * mss) (hm : 1 ≤ mss) (hl : 1 ≤ later) :
    0 ≤ (if size.fdiv mss > 1 then size.fdiv mss else 1) * later ∧ (if size.fdiv mss > 1 then size.fdiv mss else 1) * later ≤ 40 * later := by
  have hq : size.fdiv mss ≤ 40 := by
    rw [Int.fdiv_eq_ediv_of_nonneg _ (by omega)]
    exact Int.le_of_lt_add_one (Int.ediv_lt_of_lt_mul (by omega) (by omega))
  have hM : 0 ≤ (if size.fdiv mss > 1 then size.fdiv mss else 1) ∧ (if size.fdiv mss > 1 then size.fdiv mss else 1) ≤ 40 := by
    split <;> omega
  exact ⟨Int.mul_nonneg hM.1 (by omega), Int.mul_le_mul_of_nonneg_right hM.2 (by omega)⟩
theorem told_lo {size mss later : Int} (h0 : 0 ≤ size) (h1 : size ≤ 40 * mss) (hm : 1 ≤ mss) (hl : 1 ≤ later) : 0 ≤ (if size.fdiv mss > 1 then size.fdiv mss else 1) * later := (told_in h0 h1 hm hl).1
theorem told_hi {size mss later : Int} (h0 : 0 ≤ size) (h1 : size ≤ 40 * mss) (hm : 1 ≤ mss) (hl : 1 ≤ later) : (if size.fdiv mss > 1 then size.fdiv mss else 1) * later ≤ 40 * later := (told_in h0 h1 hm hl).2
theorem in_of_fr {K : Frag} {h₀ h : Heap} {L : Addr} {m : Str → Option Value} (F : Fr h₀ L h m) (X : K.In h₀) : K.In h := X.keeps F.keep
theorem told_is (size mss later : Int) : (if size.fdiv mss > 1 then size.fdiv mss else 1) * later = later * manyOf size mss := by
  rw [manyOf]
  exact Int.mul_comm _ _
theorem ints_pair {a b : Int} {ta tb : Tok} : IntsAre [.int a ta, .int b tb] [a, b] := .cons _ _ (.cons _ _ .nil)
theorem half (x : Int) : x.fdiv 2 = x / 2 := Int.fdiv_eq_ediv_of_nonneg x (by decide)
end Mine

local macro_rules | `(tactic| walk_at "call ref") => `(tactic| (
  (with_reducible show wpAny _ _ (call (Value.ref 119) [Value.ref _, Value.int _ _]) _ _ _);
  (fail_if_success (with_reducible (rename Mine.TakeMark => tM9)));
  (rename Fr _ _ _ _ => tF'); (rename News _ _ _ _ => tN');
  (first
    | (with_unfolding_all refine' Mine.take_cut (pre := []) tF' tN' ?tb ?_ ?_)
    | (with_unfolding_all refine' Mine.take_cut (pre := [_, _]) tF' tN' ?tb ?_ ?_));
  (case tb => exact ⟨by assumption, by assumption⟩);
  intro tM';
  rotate_left;
  (try clear tF' tN');
  intro r9 a9 b9 t9 ta9 tb9 h9 tk9 hr9 hr9' hb9 hb9' F9 N9;
  (try simp only [List.nil_append, List.cons_append] at N9);
  (try k_fold);
  walk_say "A DRAW"))
local macro_rules | `(tactic| walk_at "TakePost") => `(tactic| (
  (refine' Mine.take_end ?hs ?hr ?hb ?hF ?hN ?hn);
  (case hs => with_unfolding_all rfl);
  (case hF => k_asm);
  (case hN => k_asm);
  (case hn => kst_inAny);
  (case hr => exact Mine.fm_in _ (by decide));
  (case hb => first | exact ⟨by assumption, by assumption⟩ | exact Mine.fm_in _ (by decide))))
local macro_rules | `(tactic| walk_at "call ref") => `(tactic| (
  (with_reducible show wpAny _ _ (call (Value.ref 112) [Value.ref _, Value.int _ _]) _ _ _);
  (fail_if_success (with_reducible (rename Mine.PoolMark => tM9)));
  (rename Fr _ _ _ _ => tF'); (rename News _ _ _ _ => tN');
  (with_unfolding_all refine' Mine.pool_cut tF' tN' ?_ ?_);
  intro tM';
  rotate_left;
  (try clear tF' tN');
  intro l9 a9 b9 ta9 tb9 n9 h9 tk9 hb9 hb9' hl9 F9 N9;
  (try simp only [AllLt, and_true] at hl9);
  (try k_fold);
  walk_say "THE POOL"))
local macro_rules | `(tactic| walk_at "PoolPost") => `(tactic| (
  (refine' Mine.pool_end ?hs ?hb ?hl ?hF ?hN ?hn);
  (case hs => with_unfolding_all rfl);
  (case hF => k_asm);
  (case hN => k_asm);
  (case hn => kst_inAny);
  (case hb => exact Mine.fm_in _ (by decide));
  (case hl => ((simp only [AllLt, and_true]); omega))))
local macro_rules | `(tactic| mul_fits) => `(tactic| exact Mine.mul_sq _ _ _)
local macro_rules | `(tactic| walk_at "call ref") => `(tactic| (
  (with_reducible show wpAny _ _ (call (Value.ref _) [Value.int _ _, Value.int _ _]) _ _ _);
  (fail_if_success (with_reducible (rename Mine.ManyMark => tM9)));
  (rename Fr _ _ _ _ => tF'); (rename News _ _ _ _ => tN');
  (with_unfolding_all refine' Mine.many_cut tF' tN' ?_ ?_);
  intro tM';
  rotate_left;
  (try clear tF' tN');
  intro t9 h9 tk9 F9 N9;
  (try k_fold);
  walk_say "MANY"))
local macro_rules | `(tactic| walk_at "ManyPost") => `(tactic| (
  (refine' Mine.many_end ?hs ?hx ?hF ?hN ?hn);
  (case hs => with_unfolding_all rfl);
  (case hF => k_asm);
  (case hN => k_asm);
  (case hn => kst_inAny);
  (case hx => ((rename Mine.Counted _ _ _ _ => hC); (try dsimp only at hC); first | exact hC.many (by omega) (by omega) (by omega) | exact hC.none (by omega) (by omega) (by omega)))))
local macro_rules | `(tactic| k_in) => `(tactic| with_reducible (first | assumption | (refine' Mine.in_of_fr ?kf ?kx; (case kf => assumption); (case kx => assumption))))
local macro_rules | `(tactic| walk_at "KswEnd") => `(tactic| ((rename News _ _ _ _ => nE'); (refine' ksw_end ⟨_, _, _, _⟩ ?kF nE' ?kn ?kf ?kk ?kr ?kp ?km); (case kF => assumption); (case kn => first | (exact fun p hp => hp) | kst_inAny); (case kf => exact True.intro); (case kk => kst_all); (case kr => ksw_same); (case kp => kst_p); (case km => ksw_less)))

local macro_rules | `(tactic| walk_at "InvEndN") => `(tactic| (k_dflt (
  (rename News _ _ _ _ => nE');
  (first
    | ((refine' kst_end ⟨_, _, _, _, _, _, _, _, _, _, _, _, _⟩ ?kF nE' ?kn ?ko ?ka ?kf ?kk ?kr ?kp); (case kF => assumption); (case kn => kst_inAny))
    | ((refine' kst_end ⟨_, _, _, _, _, _, _, _, _, _, _, _, _, _, _, _, _⟩ ?kF nE' ?kn ?ko ?ka ?kf ?kk ?kr ?kp); (case kF => assumption); (case kn => kst_inAny)));
  (case ko => first | kst_anyIn | (intro p hp; kst_mem));
  (case ka => rfl);
  (case kf => exact Mine.ints_pair);
  (case kk => kst_all);
  (case kr => kst_same);
  (case kp => kst_p))))

set_option maxRecDepth 100000 in
set_option maxHeartbeats 8000000 in
theorem PySem.Challenge.cw_xw0328_01_holds : PySem.Challenge.rw_xw0328_01.Holds := by
  k_with "exec For Name Call cons nil" => kpr_for
  k_with "exec While Compare cons nil" => (k_while_given ["size", "mss"] (fun size mss script many left => Mine.Counted size mss many left) (fun size mss script many left => left.toNat) "many" "left")
  k_with "state" => (k_dflt (first
    | (refine ⟨?_, ?_, ?_, ?_, ?_, ?_, ?_, Mine.Src.mk (by assumption) (by assumption)⟩ <;> first | omega | exact Mine.told_lo (by omega) (by omega) (by omega) (by omega) | exact Mine.told_hi (by omega) (by omega) (by omega) (by omega))
    | (refine ⟨?_, ?_, ?_, ?_, Mine.Src.mk (by assumption) (by assumption)⟩ <;> first | omega | (rw [Mine.half]; omega))
    | exact Mine.Counted.start (by omega)
    | exact Mine.Counted.more (by assumption) (by omega)))
  k_with "pyIter ref" => (k_dflt (
    (k_state_short (fun pre mss omss size thr gath dup rec caut src => omss = mss ∧ 1 ≤ mss ∧ mss ≤ 12 ∧ 0 ≤ size ∧ size ≤ 40 * mss ∧ 0 ≤ thr ∧ thr ≤ 40 ∧ Mine.Src src) "mss" "own.mss" "own.size" "own.threshold" "own.gathered" "own.duplicates" "own.is_recovering" "own.is_cautious" "source");
    (all_goals ((try (with_reducible (rename ∀ (b : PySem.Addr) (o : PySem.Obj), PySem.Heap.get? _ b = some o → PySem.Heap.get? _ b = some o => hA9)); clear hA9); (try (with_reducible (rename IsRange _ _ _ _ _ _ _ _ => hR9)); clear hR9); (rename Mine.Src _ => hS); (obtain ⟨a9, b9, hS9, hb9, hb9'⟩ := Mine.Src.out hS); clear hS; subst hS9; (rename IntsAre _ [_, _] => hI9); (obtain ⟨ta9, tb9, hI8⟩ := Mine.ints_two hI9); clear hI9; subst hI8; (rename @Eq Int _ _ => hE9); (subst hE9)))))
  k_with "pyIter ref" => (k_dflt (
    (k_state_given ["own.mss"] (fun mss pre size thr gath dup rec caut src => 0 ≤ size ∧ size ≤ 40 * mss ∧ 0 ≤ thr ∧ thr ≤ 40 ∧ Mine.Src src) "own.size" "own.threshold" "own.gathered" "own.duplicates" "own.is_recovering" "own.is_cautious" "source");
    (all_goals ((try (with_reducible (rename ∀ (b : PySem.Addr) (o : PySem.Obj), PySem.Heap.get? _ b = some o → PySem.Heap.get? _ b = some o => hA9)); clear hA9); (try (with_reducible (rename IsRange _ _ _ _ _ _ _ _ => hR9)); clear hR9); (rename Mine.Src _ => hS); (obtain ⟨a9, b9, hS9, hb9, hb9'⟩ := Mine.Src.out hS); clear hS; subst hS9; (rename IntsAre _ [_, _] => hI9); (obtain ⟨ta9, tb9, hI8⟩ := Mine.ints_two hI9); clear hI9; subst hI8))))
  k_with "end" => ((rename (_ : Int) ≠ _ => hne9); exact absurd (Mine.told_is _ _ _) hne9)
  open_k
