import PyProof.Rows.All
import Wide.All
import OpenK.AllK
import Wide.FinOn
import PySem.Challenge.RW_xm0781_01
open PySem PySem.W PyProof.Rows
set_option Elab.async false

/- 1. The plain law: what descaled reckons, and the bounds of a menu's items. -/
namespace Mine
/-- what descaled reckons, as the walk says it -/
def dsc (a b : Int) : Int := (a + 1 * 2 ^ (b - 1).toNat).fdiv (2 ^ b.toNat)
theorem two_pos (k : Nat) : (0 : Int) < 2 ^ k := Int.pow_pos (by decide)
theorem two_half {b : Int} (h : 1 ≤ b) : (2 : Int) ^ b.toNat = 2 * 2 ^ (b - 1).toNat := by
  have e : b.toNat = (b - 1).toNat + 1 := by omega
  rw [e, Int.pow_succ, Int.mul_comm]
theorem dsc_near {a b : Int} (h : 1 ≤ b) : 2 * dsc a b * 2 ^ b.toNat ≤ 2 * a + 2 ^ b.toNat ∧ 2 * a + 2 ^ b.toNat < 2 * (dsc a b + 1) * 2 ^ b.toNat := by
  have hp := two_pos b.toNat
  have e := two_half h
  have hd : dsc a b = (a + 2 ^ (b - 1).toNat) / 2 ^ b.toNat := by
    unfold dsc
    rw [Int.one_mul, Int.fdiv_eq_ediv_of_nonneg _ (Int.le_of_lt hp)]
  rw [hd]
  generalize (2 : Int) ^ (b - 1).toNat = g at e ⊢
  generalize (2 : Int) ^ b.toNat = p at e hp ⊢
  have h1 := Int.mul_ediv_add_emod (a + g) p
  have h2 := Int.emod_nonneg (a + g) (Int.ne_of_gt hp)
  have h3 := Int.emod_lt_of_pos (a + g) hp
  generalize (a + g) / p = q at h1 ⊢
  generalize (a + g) % p = r at h1 h2 h3
  have e1 : 2 * q * p = 2 * (p * q) := by rw [Int.mul_assoc, Int.mul_comm q p]
  have e2 : 2 * (q + 1) * p = 2 * (p * q) + 2 * p := by rw [Int.mul_assoc, Int.add_mul, Int.one_mul, Int.mul_add, Int.mul_comm q p]
  rw [e1, e2]
  omega
theorem dsc_up (a b c : Int) : dsc (a + c * 2 ^ b.toNat) b = dsc a b + c := by
  have hp := two_pos b.toNat
  unfold dsc
  rw [Int.fdiv_eq_ediv_of_nonneg _ (Int.le_of_lt hp), Int.fdiv_eq_ediv_of_nonneg _ (Int.le_of_lt hp)]
  rw [show a + c * 2 ^ b.toNat + 1 * 2 ^ (b - 1).toNat = a + 1 * 2 ^ (b - 1).toNat + c * 2 ^ b.toNat by omega]
  exact Int.add_mul_ediv_right _ _ (Int.ne_of_gt hp)
theorem dsc_down (a b c : Int) : dsc (a - c * 2 ^ b.toNat) b = dsc a b - c := by
  have h := dsc_up a b (-c)
  rw [Int.neg_mul] at h
  rw [Int.sub_eq_add_neg, h, Int.sub_eq_add_neg]
theorem dsc_facts {a b : Int} (h : 1 ≤ b) : 2 * dsc a b * 2 ^ b.toNat ≤ 2 * a + 2 ^ b.toNat ∧ 2 * a + 2 ^ b.toNat < 2 * (dsc a b + 1) * 2 ^ b.toNat ∧
    dsc (a + 3 * 2 ^ b.toNat) b = dsc a b + 3 ∧ dsc (a - 5 * 2 ^ b.toNat) b = dsc a b - 5 :=
  ⟨(dsc_near h).1, (dsc_near h).2, dsc_up a b 3, dsc_down a b 5⟩
/-- an item of a menu whose items lie within a bound -/
theorem getD_within {B : Int} : ∀ {xs : List Int} {i : Nat}, 0 ≤ B → (∀ x ∈ xs, -B ≤ x ∧ x ≤ B) → -B ≤ xs.getD i 0 ∧ xs.getD i 0 ≤ B
  | [], i, h0, _ => by simpa using h0
  | x :: r, 0, _, h => by simpa using h x (.head _)
  | x :: r, i + 1, h0, h => by simpa using getD_within (xs := r) (i := i) h0 fun y hy => h y (.tail _ hy)
theorem sign_within (i : Nat) : -1125899906842624 ≤ ([1, -1] : List Int).getD i 0 ∧ ([1, -1] : List Int).getD i 0 ≤ 1125899906842624 :=
  getD_within (by decide) (by decide)
theorem part_le {k : Int} (h1 : k ≤ 40) : (2 : Int) ^ k.toNat ≤ 1099511627776 := by
  have h : (2 : Int) ^ k.toNat ≤ 2 ^ 40 := by
    have hn : (2 : Nat) ^ k.toNat ≤ 2 ^ 40 := Nat.pow_le_pow_right (by decide) (by omega)
    have hc : (((2 : Nat) ^ k.toNat : Nat) : Int) ≤ ((2 ^ 40 : Nat) : Int) := Int.ofNat_le.mpr hn
    rw [Int.natCast_pow, Int.natCast_pow] at hc
    exact hc
  exact Int.le_trans h (by decide)
theorem menu_within {d k : Int} (i : Nat) (h1 : -70368744177664 ≤ d) (h2 : d ≤ 70368744177664) (h3 : k ≤ 40) :
    -1125899906842624 ≤ [d, d.fmod (4 * 2 ^ k.toNat), ((2 * d.fmod 8 + 1) * 2 ^ k.toNat).fdiv 2].getD i 0 ∧
    [d, d.fmod (4 * 2 ^ k.toNat), ((2 * d.fmod 8 + 1) * 2 ^ k.toNat).fdiv 2].getD i 0 ≤ 1125899906842624 := by
  have hp := two_pos k.toNat
  have hl := part_le h3
  generalize (2 : Int) ^ k.toNat = p at hp hl ⊢
  have a1 := Int.fmod_nonneg_of_pos d (show 0 < 4 * p by omega)
  have a2 := Int.fmod_lt_of_pos d (show 0 < 4 * p by omega)
  have b1 := Int.fmod_nonneg_of_pos d (show (0 : Int) < 8 by decide)
  have b2 := Int.fmod_lt_of_pos d (show (0 : Int) < 8 by decide)
  have c1 : 0 ≤ (2 * d.fmod 8 + 1) * p := Int.mul_nonneg (by omega) (by omega)
  have c2 : (2 * d.fmod 8 + 1) * p ≤ 15 * p := Int.mul_le_mul_of_nonneg_right (by omega) (by omega)
  have c3 : ((2 * d.fmod 8 + 1) * p).fdiv 2 = (2 * d.fmod 8 + 1) * p / 2 := Int.fdiv_eq_ediv_of_nonneg _ (by decide)
  refine getD_within (by decide) fun x hx => ?_
  simp only [List.mem_cons, List.not_mem_nil, or_false] at hx
  rcases hx with rfl | rfl | rfl
  · omega
  · omega
  · rw [c3]
    generalize (2 * d.fmod 8 + 1) * p = z at c1 c2
    omega
theorem rest_of {a t : Int} (h : 0 < t) : 0 ≤ a.fmod t ∧ a.fmod t < t := ⟨Int.fmod_nonneg_of_pos a h, Int.fmod_lt_of_pos a h⟩
theorem top46 : (2 : Int) ^ Int.toNat 46 - 1 = 70368744177663 := by decide
theorem half45 : (2 : Int) ^ Int.toNat 45 = 35184372088832 := by decide
theorem menu_of {x k : Int} (i : Nat) (h0 : 0 ≤ x) (h1 : x < 2 ^ Int.toNat 46 - 1) (h3 : k ≤ 40) :
    -1125899906842624 ≤ [x - 2 ^ Int.toNat 45 + 1, (x - 2 ^ Int.toNat 45 + 1).fmod (4 * 2 ^ k.toNat), ((2 * (x - 2 ^ Int.toNat 45 + 1).fmod 8 + 1) * 2 ^ k.toNat).fdiv 2].getD i 0 ∧
    [x - 2 ^ Int.toNat 45 + 1, (x - 2 ^ Int.toNat 45 + 1).fmod (4 * 2 ^ k.toNat), ((2 * (x - 2 ^ Int.toNat 45 + 1).fmod 8 + 1) * 2 ^ k.toNat).fdiv 2].getD i 0 ≤ 1125899906842624 := by
  rw [top46] at h1
  refine menu_within i ?_ ?_ h3
  · rw [half45]; omega
  · rw [half45]; omega

/- 2. The cuts: a call whose ways meet, by wpAny_mono. The loop's word is said of the list 'source'. -/
structure InTake : Prop where
  mk ::
structure InPool : Prop where
  mk ::
structure InOne : Prop where
  mk ::
structure InDsc : Prop where
  mk ::
def Word (xs : List Int) : Prop := ∃ x y : Int, xs = [x, y] ∧ 0 ≤ y ∧ y < 2147483647
theorem word0 {a b : Int} (h0 : 0 ≤ b) (h1 : b < 2147483647) : Word [a, b] := ⟨a, b, rfl, h0, h1⟩
theorem word2 {vs : List Value} {xs : List Int} (hw : Word xs) (hi : IntsAre vs xs) : ∃ (x y : Int) (t u : Tok), vs = [.int x t, .int y u] ∧ xs = [x, y] ∧ 0 ≤ y ∧ y < 2147483647 := by
  obtain ⟨x, y, rfl, h0, h1⟩ := hw
  cases hi with
  | cons x t hi =>
    cases hi with
    | cons y u hi =>
      cases hi
      exact ⟨x, y, t, u, rfl, rfl, h0, h1⟩
section
variable {M : Model} {A : Around} {E Q : Value → Shared → Prop} {s s' : Shared} {h₀ h : Heap} {L D l f : Addr} {m : Str → Option Value} {news : List (Addr × Obj)}
  {vs : List Value} {n : Nat} {led : List Value → List (Addr × Obj)} {top x a b y : Int} {t ta tb tt : Tok} {tk : Nat} {v : Value}
/-- how a call that turns the source alone comes back -/
def SrcEnd (P : Int → Prop) (h₀ : Heap) (L : Addr) (m : Str → Option Value) (led : List Value → List (Addr × Obj)) (s : Shared) (v : Value) (s' : Shared) : Prop :=
  ∃ (x : Int) (t : Tok) (a : Int) (ta : Tok) (b : Int) (tb : Tok) (h : Heap) (tk : Nat), v = .int x t ∧ s' = { s with heap := h, toks := tk } ∧
    P x ∧ (0 ≤ b ∧ b < 2147483647) ∧ Fr h₀ L h m ∧ News h₀ L h (led [.int a ta, .int b tb])
def TakeEnd (top : Int) := SrcEnd fun x => 0 ≤ x ∧ x < top
def OneEnd := SrcEnd fun x => -1125899906842624 ≤ x ∧ x ≤ 1125899906842624
theorem take_end (hv : v = .int (y.fmod top) t) (hs : s' = { s with heap := h, toks := tk }) (F : Fr h₀ L h m) (N : News h₀ L h (led [.int a ta, .int b tb]))
    (hp : 0 < top) (h3 : 0 ≤ b ∧ b < 2147483647) : TakeEnd top h₀ L m led s v s' := ⟨_, t, a, ta, b, tb, h, tk, hv, hs, rest_of hp, h3, F, N⟩
theorem one_end (hv : v = .int x t) (hs : s' = { s with heap := h, toks := tk }) (F : Fr h₀ L h m) (N : News h₀ L h (led [.int a ta, .int b tb]))
    (hp : -1125899906842624 ≤ x ∧ x ≤ 1125899906842624) (h3 : 0 ≤ b ∧ b < 2147483647) : OneEnd h₀ L m led s v s' := ⟨x, t, a, ta, b, tb, h, tk, hv, hs, hp, h3, F, N⟩
theorem take_cut (hF : Fr h₀ L s.heap m) (hN : News h₀ L s.heap news) (hU : ∀ us : List Value, Upd D (listOf vs.toArray n) (listOf us.toArray n) news (led us))
    (hc : InTake → wpAny M A (call (.ref f) [.ref D, .int top tt]) (fun v s₂ => TakeEnd top h₀ L m led s v s₂) E s)
    (hk : ∀ (x : Int) (t : Tok) (a : Int) (ta : Tok) (b : Int) (tb : Tok) (h : Heap) (tk : Nat), 0 ≤ x → x < top → 0 ≤ b → b < 2147483647 → Fr h₀ L h m → News h₀ L h (led [.int a ta, .int b tb]) → Q (.int x t) { s with heap := h, toks := tk }) :
    wpAny M A (call (.ref f) [.ref D, .int top tt]) Q E s := by
  refine wpAny_mono (hc ⟨⟩) (fun v s₂ hq => ?_) fun _ _ h => h
  obtain ⟨x, t, a, ta, b, tb, h, tk, hv, hs, h12, h34, F, N⟩ := hq
  subst hv
  subst hs
  exact hk x t a ta b tb h tk h12.1 h12.2 h34.1 h34.2 F N
theorem one_cut (hF : Fr h₀ L s.heap m) (hN : News h₀ L s.heap news) (hU : ∀ us : List Value, Upd D (listOf vs.toArray n) (listOf us.toArray n) news (led us))
    (hc : InOne → wpAny M A (call (.ref f) [.ref D, .ref l]) (fun v s₂ => OneEnd h₀ L m led s v s₂) E s)
    (hk : ∀ (x : Int) (t : Tok) (a : Int) (ta : Tok) (b : Int) (tb : Tok) (h : Heap) (tk : Nat), -1125899906842624 ≤ x → x ≤ 1125899906842624 → 0 ≤ b → b < 2147483647 → Fr h₀ L h m → News h₀ L h (led [.int a ta, .int b tb]) → Q (.int x t) { s with heap := h, toks := tk }) :
    wpAny M A (call (.ref f) [.ref D, .ref l]) Q E s := by
  refine wpAny_mono (hc ⟨⟩) (fun v s₂ hq => ?_) fun _ _ h => h
  obtain ⟨x, t, a, ta, b, tb, h, tk, hv, hs, h12, h34, F, N⟩ := hq
  subst hv
  subst hs
  exact hk x t a ta b tb h tk h12.1 h12.2 h34.1 h34.2 F N
def PoolEnd (h₀ : Heap) (L : Addr) (m : Str → Option Value) (news : List (Addr × Obj)) (s : Shared) (v : Value) (s' : Shared) : Prop :=
  ∃ (D : Addr) (n : Nat) (a : Int) (ta : Tok) (b : Int) (tb : Tok) (h : Heap) (tk : Nat), v = .ref D ∧ s' = { s with heap := h, toks := tk } ∧
    (0 ≤ b ∧ b < 2147483647) ∧ Fr h₀ L h m ∧ News h₀ L h ((D, listOf [.int a ta, .int b tb].toArray n) :: news)
theorem pool_end (hv : v = .ref D) (hs : s' = { s with heap := h, toks := tk }) (F : Fr h₀ L h m) (N : News h₀ L h ((D, listOf [.int a ta, .int (y.fmod 2147483647) tb].toArray n) :: news)) : PoolEnd h₀ L m news s v s' :=
  ⟨D, n, a, ta, _, tb, h, tk, hv, hs, rest_of (by decide), F, N⟩
theorem pool_cut {c : Sem Value} (hF : Fr h₀ L s.heap m) (hN : News h₀ L s.heap news) (hc : InPool → wpAny M A c (fun v s₂ => PoolEnd h₀ L m news s v s₂) E s)
    (hk : ∀ (D : Addr) (n : Nat) (a : Int) (ta : Tok) (b : Int) (tb : Tok) (h : Heap) (tk : Nat), 0 ≤ b → b < 2147483647 → Fr h₀ L h m → News h₀ L h ((D, listOf [.int a ta, .int b tb].toArray n) :: news) → Q (.ref D) { s with heap := h, toks := tk }) :
    wpAny M A c Q E s := by
  refine wpAny_mono (hc ⟨⟩) (fun v s₂ hq => ?_) fun _ _ h => h
  obtain ⟨D, n, a, ta, b, tb, h, tk, hv, hs, h34, F, N⟩ := hq
  subst hv
  subst hs
  exact hk D n a ta b tb h tk h34.1 h34.2 F N
open PySem.Builtin.Int (intBits)
theorem dsc_bits (ha : intBits a ≤ 9000000) (hb : b ≤ 40) : intBits (dsc a b) ≤ 20000000 := by
  unfold dsc
  rw [Int.one_mul]
  exact Nat.le_trans (bits_fdiv (bits_add ha (kbm_pow (b - 1) (by omega)))) (by decide)
def DscEnd (a b : Int) (h₀ : Heap) (L : Addr) (m : Str → Option Value) (news : List (Addr × Obj)) (s : Shared) (v : Value) (s' : Shared) : Prop :=
  ∃ (t : Tok) (h : Heap) (tk : Nat), v = .int (dsc a b) t ∧ s' = { s with heap := h, toks := tk } ∧ Fr h₀ L h m ∧ News h₀ L h news
theorem dsc_end (hv : v = .int (dsc a b) t) (hs : s' = { s with heap := h, toks := tk }) (F : Fr h₀ L h m) (N : News h₀ L h news) : DscEnd a b h₀ L m news s v s' := ⟨t, h, tk, hv, hs, F, N⟩
theorem dsc_cut (hF : Fr h₀ L s.heap m) (hN : News h₀ L s.heap news) (h1 : 1 ≤ b) (h2 : b ≤ 40) (ha : intBits a ≤ 9000000)
    (hc : InDsc → wpAny M A (call (.ref f) [.int a ta, .int b tb]) (fun v s₂ => DscEnd a b h₀ L m news s v s₂) E s)
    (hk : ∀ (t : Tok) (h : Heap) (tk : Nat), 2 * dsc a b * 2 ^ b.toNat ≤ 2 * a + 2 ^ b.toNat → 2 * a + 2 ^ b.toNat < 2 * (dsc a b + 1) * 2 ^ b.toNat →
      dsc (a + 3 * 2 ^ b.toNat) b = dsc a b + 3 → dsc (a - 5 * 2 ^ b.toNat) b = dsc a b - 5 → intBits (dsc a b) ≤ 20000000 → Fr h₀ L h m → News h₀ L h news → Q (.int (dsc a b) t) { s with heap := h, toks := tk }) :
    wpAny M A (call (.ref f) [.int a ta, .int b tb]) Q E s := by
  refine wpAny_mono (hc ⟨⟩) (fun v s₂ hq => ?_) fun _ _ h => h
  obtain ⟨t, h, tk, hv, hs, F, N⟩ := hq
  subst hv
  subst hs
  have hf := dsc_facts (a := a) h1
  exact hk t h tk hf.1 hf.2.1 hf.2.2.1 hf.2.2.2 (dsc_bits ha h2) F N
end
end Mine
open Mine

/- 3. The walk's own lines. 21: descaled, 28: the pool, 35: a draw, 42: one of a menu. -/
local macro_rules | `(tactic| walk_at "subscriptTail Name Constant ref int") => `(tactic| (k_here; (with_reducible show wpAny _ _ (subscriptTail _ _ (Value.ref _) (Value.int _ _)) _ _ _); (with_unfolding_all refine' item_litK ?k1 ?k2 ?k3 ?k4 ?_ ?k6; (case k1 => is_list); (case k2 => decide); (case k3 => decide); (case k4 => rfl); (case k6 => with_unfolding_all rfl); k_whole)))
local macro_rules | `(tactic| walk_at "call ref") => `(tactic| (k_here; (with_reducible show wpAny _ _ (call (Value.ref 28) [Value.ref _]) _ _ _); (fail_if_success (have : InPool := by assumption)); (rename Fr _ _ _ _ => cF'); (rename News _ _ _ _ => cN'); k_dflt (refine' pool_cut cF' cN' ?_ ?_); (focus (intro hMk')); rotate_left; (focus (intro pD' pn' pa' pta' pb' ptb' h' tk' pH1' pH2' F' N'; clear cF' cN')); rotate_right))
local macro_rules | `(tactic| walk_at "call ref") => `(tactic| (k_here; (with_reducible show wpAny _ _ (call (Value.ref 35) [Value.ref _, Value.int _ _]) _ _ _); (fail_if_success (have : InTake := by assumption)); (rename Fr _ _ _ _ => cF'); (rename News _ _ _ _ => cN'); k_dflt (refine' take_cut cF' cN' ?k1 ?_ ?_; (case k1 => (intro us'; k_upd))); (focus (intro hMk')); rotate_left; (focus (intro px' pt' pa' pta' pb' ptb' h' tk' pH1' pH2' pH3' pH4' F' N'; clear cF' cN')); rotate_right))
local macro_rules | `(tactic| walk_at "call ref") => `(tactic| (k_here; (with_reducible show wpAny _ _ (call (Value.ref 42) [Value.ref _, Value.ref _]) _ _ _); (fail_if_success (have : InOne := by assumption)); (rename Fr _ _ _ _ => cF'); (rename News _ _ _ _ => cN'); k_dflt (refine' one_cut cF' cN' ?k1 ?_ ?_; (case k1 => (intro us'; k_upd))); (focus (intro hMk')); rotate_left; (focus (intro px' pt' pa' pta' pb' ptb' h' tk' pH1' pH2' pH3' pH4' F' N'; clear cF' cN')); rotate_right))
local macro_rules | `(tactic| bits_by_make) => `(tactic| with_reducible assumption)
local macro_rules | `(tactic| walk_at "call ref") => `(tactic| (k_here; (with_reducible show wpAny _ _ (call (Value.ref 21) [Value.int _ _, Value.int _ _]) _ _ _); (fail_if_success (with_reducible show wpAny _ _ (call (Value.ref 21) [Value.int (-3) _, Value.int _ _]) _ _ _)); (fail_if_success (have : InDsc := by assumption)); (rename Fr _ _ _ _ => cF'); (rename News _ _ _ _ => cN'); (apply dsc_cut cF' cN'); (focus omega); (focus omega); (focus (refine' Nat.le_trans ?k4 ?k5; (case k4 => bits_by_make); (case k5 => decide))); (focus (intro hMk')); rotate_left; (focus (intro pt' h' tk' pH1' pH2' pH3' pH4' pH5' F' N'; clear cF' cN')); rotate_right))
local macro_rules | `(tactic| walk_at "PoolEnd") => `(tactic| (refine pool_end (by with_unfolding_all rfl) rfl (by k_asm) (by k_asm)))
local macro_rules | `(tactic| walk_at "TakeEnd") => `(tactic| (refine take_end (by with_unfolding_all rfl) rfl (by k_asm) (by k_asm) (by first | decide | omega) (by first | exact ⟨by assumption, by assumption⟩ | exact rest_of (by decide))))
local macro_rules | `(tactic| walk_at "OneEnd") => `(tactic| (refine one_end (by with_unfolding_all rfl) rfl (by k_asm) (by k_asm) (by first | exact sign_within _ | exact menu_of _ (by assumption) (by assumption) (by omega)) ⟨by assumption, by assumption⟩))
local macro_rules | `(tactic| walk_at "DscEnd") => `(tactic| (refine dsc_end (by with_unfolding_all rfl) rfl (by k_asm) (by k_asm)))
local macro_rules | `(tactic| walk_at "ite") => `(tactic| (k_here; (with_reducible refine ite_pos (decide_eq_true (by with_reducible assumption)) ?_); (refine wpAny_execs_nil ?_); (try dsimp only); k_gentoks))

set_option maxRecDepth 100000 in
set_option maxHeartbeats 8000000 in
theorem PySem.Challenge.cw_xm0781_01_holds : PySem.Challenge.rw_xm0781_01.Holds := by
  k_with "exec For Name Call cons nil" => kpr_for
  k_with "pyIter ref" => ((k_state_short (fun pre xs => Word xs) "source"); (all_goals ((rename Word _ => kI'); (rename IntsAre _ _ => kF'); (obtain ⟨x', y', t', u', e1', e2', b0', b1'⟩ := word2 kI' kF'); (subst e1'); (subst e2'); clear kI' kF')))
  k_with "state" => exact word0 (by assumption) (by assumption)
  open_k
