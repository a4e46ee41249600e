/- Lists of bytes that were handed out and lie untouched (Book), of its programs in the M-world. -/
import Derived.Test.YtoddkagehbcfjaaRingAlike
set_option linter.unusedVariables false
set_option linter.unusedSimpArgs false
namespace Go.Proofs.Ytoddkagehbcfjaa.Lx
open Go Go.Proofs Go.RowKit

--COMMON
theorem zip_row {α β γ : Type} {P : α → β → HP} {la : List α} {lb : List β} {i : Nat} {a : α} {b : β} {c : Cod γ} {sl : Sl} {xs : List γ} (h : la[i]? = some a) (h' : lb[i]? = some b) (r : Rdb (P a b) c sl xs) : Rdb (seps (zipH P la lb)) c sl xs := by
  intro k hk
  obtain ⟨h1, a1, l1⟩ := seps_nth hk (zipH_nth (P := P) h h')
  obtain ⟨r1, r2, r3⟩ := r h1 a1
  refine ⟨r1, r2, fun j x a hx ha => ?_⟩
  obtain ⟨sp, hp⟩ := r3 j x a hx ha
  exact ⟨sp, fun y v hv => by
    obtain ⟨q, hq⟩ := hp y v hv
    exact ⟨q, l1 _ _ _ hq⟩⟩
theorem eq_rep {α : Type} {l : List α} {n : Nat} {x : α} (hl : l.length = n) (h : ∀ q, q < n → l[q]? = some x) : l = List.replicate n x := by
  refine List.eq_replicate_iff.2 ⟨hl, fun y hy => ?_⟩
  obtain ⟨q, hq, rfl⟩ := List.mem_iff_getElem.1 hy
  have := h q (by omega)
  rw [List.getElem?_eq_getElem hq] at this
  exact Option.some.inj this
--END
abbrev cBk := cI .u8
def fullB : Sl → List Int → HP := fun sl xs => vec cBk sl xs []
def rdBk : Sl → List Int → HP := fun sl xs => rdS cBk false sl xs
def mkBk (i : Int) : Int := IntKind.wrap .u8 (IntKind.wrap .i64 (1 + (Int.tmod i 251)))
def OkBk (xs : List Int) : Prop := (∀ x ∈ xs, 0 ≤ x ∧ x ≤ 255) ∧ xs.length ≤ 1000000
def BkHs (ba : Addr) (L Z : Sl) (ls lsp zs zsp : List Sl) (xss yss : List (List Int)) : List HP :=
  [pts true ba (c_weirlaw3_Book.enc ⟨L, Z⟩), vec cL L ls lsp, vec cL Z zs zsp, seps (zipH fullB ls xss), seps (zipH rdBk zs yss)]
def BookP (b : Option Addr) (xss : List (List Int)) : HP := fun h => ∃ ba L Z ls lsp zs zsp, b = some ba ∧ ls.length = xss.length ∧ zs.length = xss.length ∧ (∀ xs ∈ xss, OkBk xs) ∧ seps (BkHs ba L Z ls lsp zs zsp xss xss) h
section
variable {W w : World} {R : List HP} {k : Option Addr} {ba : Addr} {L Z : Sl} {ls lsp zs zsp : List Sl} {xss yss : List (List Int)}
theorem Ss.openBk (s : Ss W (BookP k xss :: R) w) : ∃ ba L Z ls lsp zs zsp, k = some ba ∧ ls.length = xss.length ∧ zs.length = xss.length ∧ (∀ xs ∈ xss, OkBk xs) ∧ Ss W (BkHs ba L Z ls lsp zs zsp xss xss ++ R) w := by
  obtain ⟨hb, k, ⟨h1, h2, e, l1, l2, ⟨ba, L, Z, ls, lsp, zs, zsp, a1, a2, a3, a4, a5⟩, b⟩, hw⟩ := s
  exact ⟨ba, L, Z, ls, lsp, zs, zsp, a1, a2, a3, a4, Ss.split ⟨hb, k, ⟨h1, h2, e, l1, l2, a5, b⟩, hw⟩⟩
theorem Ss.closeBk (s : Ss W (BkHs ba L Z ls lsp zs zsp xss xss ++ R) w) (h1 : k = some ba) (h2 : ls.length = xss.length) (h3 : zs.length = xss.length) (h4 : ∀ xs ∈ xss, OkBk xs) : Ss W (BookP k xss :: R) w := s.group.first (fun h hh => ⟨ba, L, Z, ls, lsp, zs, zsp, h1, h2, h3, h4, hh⟩)
/-- a new book -/
theorem bk_new {b : Nat} (s : Ss W (pts true (pt b 0) (c_weirlaw3_Book.enc z_weirlaw3_Book) :: R) w) : Ss W (BookP (some (pt b 0)) [] :: R) w := by
  have s := (((((s.mk0 (A := vec cL Sl.nil [] []) vec_nil).mk0 (A := vec cL Sl.nil [] []) vec_nil).mk0 (A := seps (zipH fullB [] [])) trivial).mk0 (A := seps (zipH rdBk [] [])) trivial)).use [4, 3, 2, 1, 0] rfl
  exact Ss.closeBk (ba := pt b 0) (L := Sl.nil) (Z := Sl.nil) (ls := []) (lsp := []) (zs := []) (zsp := []) s rfl rfl rfl (by intro x h; cases h)
theorem bk_keep {b : Sl} {xs : List Int} (s : Ss W (fullB b xs :: BookP k xss :: R) w) (hx : OkBk xs) (hn : xss.length ≤ 1000000) : WP (weirlaw3_Book_Keep k b) w (fun _ w' => Ss W (BookP k (xss ++ [xs]) :: R) w') := by
  unfold weirlaw3_Book_Keep
  have hx1 := hx.2
  refine WP.appS s 0 rfl vec_rdb (by decide) (WP.appl0 s (by omega) (by decide) (fun r w sp s => ?_))
  have s := Ss.vec_freeze s
  obtain ⟨ba, L, Z, ls, lsp, zs, zsp, rfl, h1, h2, h3, s⟩ := (s.use [2] rfl).openBk
  have s : Ss W (BkHs ba L Z ls lsp zs zsp xss xss ++ (rdBk r xs :: fullB b xs :: R)) w := s
  refine WP.nilck (WP.ld s 0 rfl (o := 0) (by simp [Addr.add]) (At_weirlaw3_Book_L _) (WP.slot' s (fun _ w s => ?_)))
  refine WP.appl s 1 rfl (by simp only [List.length_cons, List.length_nil]; omega) (by decide) (fun L' w lsp' s => WP.nilck ?_)
  refine WP.st s 0 rfl (o := 0) (by simp [Addr.add]) (Up_weirlaw3_Book_L _ _) (fun w s => WP.nilck ?_)
  refine WP.ld s 0 rfl (o := 1) rfl (At_weirlaw3_Book_Was _) (WP.slot' s (fun _ w s => ?_))
  refine WP.appl s 2 rfl (by simp only [List.length_cons, List.length_nil]; omega) (by decide) (fun Z' w zsp' s => WP.nilck ?_)
  refine WP.st s 0 rfl (o := 1) rfl (Up_weirlaw3_Book_Was _ _) (fun w s => WP.ret ?_)
  have s : Ss W (fullB b xs :: rdBk r xs :: pts true ba (c_weirlaw3_Book.enc ⟨L', Z'⟩) :: vec cL L' (ls ++ [b]) lsp' :: vec cL Z' (zs ++ [r]) zsp' :: seps (zipH fullB ls xss) :: seps (zipH rdBk zs xss) :: R) w := s.use [6, 5] rfl
  have s := s.into 4 rfl (M := zipH fullB (ls ++ [b]) (xss ++ [xs])) (by
    rw [zipH_snoc h1]
    exact (List.perm_append_singleton _ _).symm)
  have s := s.into 4 rfl (M := zipH rdBk (zs ++ [r]) (xss ++ [xs])) (by
    rw [zipH_snoc h2]
    exact (List.perm_append_singleton _ _).symm)
  refine Ss.closeBk (ba := ba) (L := L') (Z := Z') (ls := ls ++ [b]) (lsp := lsp') (zs := zs ++ [r]) (zsp := zsp') s rfl (by simp [h1]) (by simp [h2]) (fun y hy => ?_)
  rcases List.mem_append.1 hy with hy | hy
  · exact h3 y hy
  · simp only [List.mem_singleton] at hy
    subst hy
    exact hx
theorem bk_untouched (s : Ss W (BookP k xss :: R) w) (hn : xss.length ≤ 1000000) : WP (weirlaw3_Book_Untouched k) w (fun y w' => y = true ∧ Ss W (BookP k xss :: R) w') := by
  unfold weirlaw3_Book_Untouched
  refine WP.loop (fun (i : Int) w' => 0 ≤ i ∧ i ≤ xss.length ∧ Ss W (BookP k xss :: R) w') (fun i _ => ((xss.length : Int) - i).toNat) ⟨by omega, by omega, s⟩ ?_
  clear s
  rintro i w ⟨i0, i1, s⟩
  unfold weirlaw3_Book_Untouched.L1
  obtain ⟨ba, L, Z, ls, lsp, zs, zsp, rfl, h1, h2, h3, s⟩ := s.openBk
  have hL := (s.vec_len (i := 1) rfl).1
  refine WP.nilck (WP.ld s 0 rfl (o := 0) (by simp [Addr.add]) (At_weirlaw3_Book_L _) ?_)
  rw [hL, h1]
  refine WP.ite (fun hi => WP.draw' s (fun w s => WP.nilck ?_)) (fun hi => WP.done ⟨rfl, s.closeBk rfl h1 h2 h3⟩)
  refine WP.ld s 0 rfl (o := 0) (by simp [Addr.add]) (At_weirlaw3_Book_L _) ?_
  have hl := List.getElem?_eq_getElem (show i.toNat < ls.length by omega)
  have hz := List.getElem?_eq_getElem (show i.toNat < zs.length by omega)
  have hxs := List.getElem?_eq_getElem (show i.toNat < xss.length by omega)
  have hok := h3 _ (List.mem_of_getElem? hxs)
  refine WP.rdx s 1 rfl vec_rdb i0 hl rfl (WP.nilck ?_)
  refine WP.ld s 0 rfl (o := 1) rfl (At_weirlaw3_Book_Was _) ?_
  refine WP.rdx s 2 rfl vec_rdb i0 hz rfl ?_
  refine WP.step (alike_wp s 3 rfl (zip_row hl hxs vec_rdb) 4 rfl (zip_row hz hxs rdS_rdb) hok.1 hok.1) ?_
  rintro _ w ⟨rfl, s⟩
  refine WP.ite (fun h => absurd (by simp) h) (fun _ => WP.next ?_)
  rw [wrap_i64 (by omega) (by omega)]
  exact ⟨⟨by omega, by omega, s.closeBk rfl h1 h2 h3⟩, by omega⟩
theorem bk_full {A : HP} {sl : Sl} {n : Nat} {x : Int} (s : Ss W R w) (i : Nat) (e : nth R i = some A) (r : Rdb A cBk sl (List.replicate n x)) (hn : n ≤ 100000000) : WP (weirlaw3_full sl x) w (fun y w' => y = true ∧ Ss W R w') := by
  unfold weirlaw3_full
  have hl := (s.rd_len e r).1
  rw [List.length_replicate] at hl
  refine WP.loop (fun (i : Int) w' => 0 ≤ i ∧ i ≤ n ∧ Ss W R w') (fun i _ => ((n : Int) - i).toNat) ⟨by omega, by omega, s⟩ ?_
  clear s
  rintro j w ⟨j0, j1, s⟩
  unfold weirlaw3_full.L1
  rw [hl]
  refine WP.ite (fun hj => ?_) (fun hj => WP.done ⟨rfl, s⟩)
  rw [← hl]
  refine WP.rdx s i e r j0 (x := x) (by rw [List.getElem?_replicate, if_pos (by omega)]) rfl ?_
  refine WP.ite (fun h => absurd rfl h) (fun _ => WP.next ?_)
  rw [wrap_i64 (by omega) (by omega)]
  exact ⟨⟨by omega, by omega, s⟩, by omega⟩
/-- those before q hold their mark alone -/
def Marked (q : Nat) (yss : List (List Int)) : Prop := ∀ (j : Nat) (ys : List Int), yss[j]? = some ys → ys.length ≤ 1000000 ∧ (j < q → ys = List.replicate ys.length (mkBk j))
/-- what is longer holds its mark alone -/
def More (q : Nat) (gss : List (List Int)) : Prop := gss.length = q ∧ ∀ (j : Nat) (g : List Int), gss[j]? = some g → g.length ≤ 100000000 ∧ g = List.replicate g.length (mkBk j)
theorem bk_K1 {V : Sl} {gs gsp : List Sl} {gss : List (List Int)} {n : Nat} (s : Ss W (BkHs ba L Z ls lsp zs zsp yss xss ++ vec cL V gs gsp :: seps (zipH rdBk gs gss) :: R) w) (hn : n ≤ 1000000) (h1 : ls.length = n) (hy : yss.length = n) (hm : Marked n yss) (hg : gs.length = n) (hG : More n gss) : WP (weirlaw3_Book_Settle.K1 (some ba) V) w (fun y w' => y = true ∧ Ss W R w') := by
  unfold weirlaw3_Book_Settle.K1
  refine WP.loop (fun (i : Int) w' => 0 ≤ i ∧ i ≤ n ∧ Ss W (BkHs ba L Z ls lsp zs zsp yss xss ++ vec cL V gs gsp :: seps (zipH rdBk gs gss) :: R) w') (fun i _ => ((n : Int) - i).toNat) ⟨by omega, by omega, s⟩ ?_
  clear s
  rintro i w ⟨i0, i1, s⟩
  unfold weirlaw3_Book_Settle.L1
  have hL := (s.vec_len (i := 1) rfl).1
  refine WP.nilck (WP.ld s 0 rfl (o := 0) (by simp [Addr.add]) (At_weirlaw3_Book_L _) ?_)
  rw [hL, h1]
  refine WP.ite (fun hi => WP.nilck ?_) (fun hi => WP.done ⟨rfl, s.weak (l := [_, _, _, _, _, _, _])⟩)
  refine WP.ld s 0 rfl (o := 0) (by simp [Addr.add]) (At_weirlaw3_Book_L _) ?_
  have hl := List.getElem?_eq_getElem (show i.toNat < ls.length by omega)
  have hxs := List.getElem?_eq_getElem (show i.toNat < yss.length by omega)
  have hgl := List.getElem?_eq_getElem (show i.toNat < gs.length by omega)
  have hgx := List.getElem?_eq_getElem (show i.toNat < gss.length by rw [hG.1]; omega)
  obtain ⟨q1, q2⟩ := hm _ _ hxs
  obtain ⟨q3, q4⟩ := hG.2 _ _ hgx
  have q2 := q2 (by omega)
  rw [show ((i.toNat : Nat) : Int) = i by omega] at q2 q4
  refine WP.rdx s 1 rfl vec_rdb i0 hl rfl ?_
  refine WP.step (bk_full (x := mkBk i) s 3 rfl (by
    have := zip_row (P := fullB) (c := cBk) hl hxs vec_rdb
    rw [q2] at this
    exact this) (by omega)) ?_
  rintro _ w ⟨rfl, s⟩
  refine WP.step (R := fun y w' => y = false ∧ Ss W (BkHs ba L Z ls lsp zs zsp yss xss ++ vec cL V gs gsp :: seps (zipH rdBk gs gss) :: R) w') (WP.ite (fun h => absurd rfl h) (fun _ => ?_)) ?_
  · refine WP.rdx s 5 rfl vec_rdb i0 hgl rfl ?_
    refine WP.step (bk_full (x := mkBk i) s 6 rfl (by
      have := zip_row (P := rdBk) (c := cBk) hgl hgx rdS_rdb
      rw [q4] at this
      exact this) (by omega)) ?_
    rintro _ w ⟨rfl, s⟩
    exact WP.ret ⟨rfl, s⟩
  rintro _ w ⟨rfl, s⟩
  refine WP.ite (fun h => by cases h) (fun _ => WP.next ?_)
  rw [wrap_i64 (by omega) (by omega)]
  exact ⟨⟨by omega, by omega, s⟩, by omega⟩
theorem bk_K2 {n : Nat} (s : Ss W (BkHs ba L Z ls lsp zs zsp yss xss ++ R) w) (hn : n ≤ 1000000) (h1 : ls.length = n) (hy : yss.length = n) (hm : Marked n yss) : WP (weirlaw3_Book_Settle.K2 (some ba)) w (fun y w' => y = true ∧ Ss W R w') := by
  unfold weirlaw3_Book_Settle.K2
  have s : Ss W (BkHs ba L Z ls lsp zs zsp yss xss ++ vec cL Sl.nil [] [] :: seps (zipH rdBk [] []) :: R) w := ((s.mk0 (A := seps (zipH rdBk [] [])) trivial).mk0 (A := vec cL Sl.nil [] []) vec_nil).use [2, 2, 2, 2, 2] rfl
  refine WP.loop (fun (x : Sl × Int) w' => 0 ≤ x.2 ∧ x.2 ≤ n ∧ ∃ gs gsp gss, gs.length = x.2.toNat ∧ More x.2.toNat gss ∧ Ss W (BkHs ba L Z ls lsp zs zsp yss xss ++ vec cL x.1 gs gsp :: seps (zipH rdBk gs gss) :: R) w') (fun x _ => ((n : Int) - x.2).toNat) ⟨by simp, by simp, [], [], [], by simp, ⟨by simp, fun j g h => by simp at h⟩, s⟩ ?_
  clear s
  rintro ⟨V, i⟩ w ⟨i0, i1, gs, gsp, gss, hg, hG, s⟩
  simp only at i0 i1 hg hG s
  show WP (weirlaw3_Book_Settle.L2 (some ba) V i) w _
  unfold weirlaw3_Book_Settle.L2
  have hL := (s.vec_len (i := 1) rfl).1
  refine WP.nilck (WP.ld s 0 rfl (o := 0) (by simp [Addr.add]) (At_weirlaw3_Book_L _) ?_)
  rw [hL, h1]
  refine WP.ite (fun hi => WP.nilck ?_) (fun hi => ?_)
  · refine WP.ld s 0 rfl (o := 0) (by simp [Addr.add]) (At_weirlaw3_Book_L _) ?_
    have hl := List.getElem?_eq_getElem (show i.toNat < ls.length by omega)
    have hxs := List.getElem?_eq_getElem (show i.toNat < yss.length by omega)
    obtain ⟨q1, q2⟩ := hm _ _ hxs
    have q2 := q2 (by omega)
    rw [show ((i.toNat : Nat) : Int) = i by omega] at q2
    have hrd : Rdb (seps (zipH fullB ls yss)) cBk ls[i.toNat] yss[i.toNat] := zip_row hl hxs vec_rdb
    have hcap : ls[i.toNat].cap = yss[i.toNat].length ∧ ls[i.toNat].len = yss[i.toNat].length := by
      have s2 := s.out 3 rfl (zipH_nth (P := fullB) hl hxs)
      have := s2.vec_len (i := 0) rfl
      exact ⟨this.2.1, this.1⟩
    generalize ls[i.toNat] = x79 at hl hrd hcap
    generalize yss[i.toNat] = ys at hxs hrd q1 q2 hcap
    refine WP.rdx s 1 rfl vec_rdb i0 hl rfl ?_
    refine WP.loop (fun (g : Sl) w' => (g = x79 ∧ Ss W (BkHs ba L Z ls lsp zs zsp yss xss ++ vec cL V gs gsp :: seps (zipH rdBk gs gss) :: R) w') ∨ ∃ q sp, ys.length < q ∧ q ≤ 2 * ys.length + 70 ∧ Ss W (vec cBk g (List.replicate q (mkBk i)) sp :: (BkHs ba L Z ls lsp zs zsp yss xss ++ vec cL V gs gsp :: seps (zipH rdBk gs gss) :: R)) w') (fun g _ => (2 * ys.length + 70) - g.len) (.inl ⟨rfl, s⟩) ?_
    clear s
    rintro g w s
    unfold weirlaw3_Book_Settle.L3
    rw [hcap.2, wrap_i64 (n := 2 * (ys.length : Int)) (by omega) (by omega), wrap_i64 (by omega) (by omega)]
    rcases s with ⟨rfl, s⟩ | ⟨q, sp, hq1, hq2, s⟩
    · refine WP.ite (fun _ => WP.slot' s (fun _ w s => ?_)) (fun h => absurd (by rw [hcap.2]; omega) h)
      refine WP.applR s 3 rfl hrd (by rw [hcap.1]; simp) (by simp only [List.length_cons, List.length_nil]; omega) (by decide) (by decide) (fun r w sp s => WP.next ⟨.inr ⟨ys.length + 1, sp, by omega, by omega, ?_⟩, ?_⟩)
      · have e : ys ++ [mkBk i] = List.replicate (ys.length + 1) (mkBk i) := by
          rw [List.replicate_succ', ← q2]
        rw [← e]
        exact s
      · have := (s.vec_len (i := 0) rfl).1
        simp only [List.length_append, List.length_cons, List.length_nil] at this
        omega
    · have hgl := (s.vec_len (i := 0) rfl).1
      rw [List.length_replicate] at hgl
      rw [hgl]
      refine WP.ite (fun hh => WP.slot' s (fun _ w s => ?_)) (fun hh => WP.slot' s (fun _ w s => ?_))
      · refine WP.appl s 0 rfl (by simp only [List.length_replicate, List.length_cons, List.length_nil]; omega) (by decide) (fun r w sp s => WP.next ⟨.inr ⟨q + 1, sp, by omega, by omega, ?_⟩, ?_⟩)
        · rw [List.replicate_succ']
          exact s
        · have := (s.vec_len (i := 0) rfl).1
          simp only [List.length_append, List.length_replicate, List.length_cons, List.length_nil] at this
          omega
      · have s := Ss.vec_freeze s
        have s : Ss W (rdBk g (List.replicate q (mkBk i)) :: (BkHs ba L Z ls lsp zs zsp yss xss ++ vec cL V gs gsp :: seps (zipH rdBk gs gss) :: R)) w := s
        have s := s.into 6 rfl (M := zipH rdBk (gs ++ [g]) (gss ++ [List.replicate q (mkBk i)])) (by
          rw [zipH_snoc (by rw [hg, hG.1])]
          exact (List.perm_append_singleton _ _).symm)
        refine WP.appl s 5 rfl (by simp only [List.length_cons, List.length_nil]; omega) (by decide) (fun V' w gsp' s => WP.done ?_)
        rw [wrap_i64 (by omega) (by omega)]
        show _ ∧ _
        refine ⟨⟨by simp only; omega, by simp only; omega, _, gsp', _, by simp; omega, ?_, s⟩, by simp only; omega⟩
        refine ⟨by rw [List.length_append, hG.1]; simp only [List.length_cons, List.length_nil]; omega, fun j y hj => ?_⟩
        by_cases e : j < gss.length
        · rw [List.getElem?_append_left e] at hj
          exact hG.2 j y hj
        · rw [List.getElem?_append_right (by omega)] at hj
          have hjl := (List.getElem?_eq_some_iff.1 hj).1
          simp only [List.length_cons, List.length_nil] at hjl
          have ej : j = gss.length := by omega
          subst ej
          simp only [Nat.sub_self, List.getElem?_cons_zero, Option.some.injEq] at hj
          subst hj
          rw [List.length_replicate, hG.1, show ((i.toNat : Nat) : Int) = i by omega]
          exact ⟨by omega, rfl⟩
  · have hin : i.toNat = n := by omega
    rw [hin] at hg hG
    exact WP.step (bk_K1 s hn h1 hy hm hg hG) (fun r w h => WP.done h)
theorem bk_settle (s : Ss W (BookP k xss :: R) w) (hn : xss.length ≤ 1000000) : WP (weirlaw3_Book_Settle k) w (fun y w' => y = true ∧ Ss W R w') := by
  unfold weirlaw3_Book_Settle
  refine WP.step (bk_untouched s hn) ?_
  rintro _ w ⟨rfl, s⟩
  refine WP.ite (fun h => absurd rfl h) (fun _ => ?_)
  obtain ⟨ba, L, Z, ls, lsp, zs, zsp, rfl, h1, h2, h3, s⟩ := s.openBk
  refine WP.loop (fun (i : Int) w' => 0 ≤ i ∧ i ≤ xss.length ∧ ∃ yss, yss.length = xss.length ∧ Marked i.toNat yss ∧ Ss W (BkHs ba L Z ls lsp zs zsp yss xss ++ R) w') (fun i _ => ((xss.length : Int) - i).toNat) ⟨by omega, by omega, xss, rfl, fun j ys hj => ⟨(h3 ys (List.mem_of_getElem? hj)).2, fun h => absurd h (by simp)⟩, s⟩ ?_
  clear s
  rintro i w ⟨i0, i1, yss, hy, hm, s⟩
  unfold weirlaw3_Book_Settle.L4
  have hL := (s.vec_len (i := 1) rfl).1
  refine WP.nilck (WP.ld s 0 rfl (o := 0) (by simp [Addr.add]) (At_weirlaw3_Book_L _) ?_)
  rw [hL, h1]
  refine WP.ite (fun hi => ?_) (fun hi => ?_)
  · have hl := List.getElem?_eq_getElem (show i.toNat < ls.length by omega)
    have hxs := List.getElem?_eq_getElem (show i.toNat < yss.length by omega)
    obtain ⟨q1, _⟩ := hm _ _ hxs
    generalize ls[i.toNat] = x79 at hl
    generalize yss[i.toNat] = ys0 at hxs q1
    refine WP.loop (fun (c : Int) w' => 0 ≤ c ∧ c ≤ ys0.length ∧ ∃ yss ys, yss.length = xss.length ∧ Marked i.toNat yss ∧ yss[i.toNat]? = some ys ∧ ys.length = ys0.length ∧ (∀ q : Nat, q < c.toNat → ys[q]? = some (mkBk i)) ∧ Ss W (BkHs ba L Z ls lsp zs zsp yss xss ++ R) w') (fun c _ => ((ys0.length : Int) - c).toNat) ⟨by omega, by omega, yss, ys0, hy, hm, hxs, rfl, fun q h => absurd h (by simp), s⟩ ?_
    clear s
    rintro c w ⟨c0, c1, yss, ys, hy, hm, hxs, hyl, hc, s⟩
    unfold weirlaw3_Book_Settle.L5
    refine WP.nilck (WP.ld s 0 rfl (o := 0) (by simp [Addr.add]) (At_weirlaw3_Book_L _) ?_)
    refine WP.rdx s 1 rfl vec_rdb i0 hl rfl ?_
    have hx79 : x79.len = ys.length := (s.rd_len (i := 3) rfl (zip_row (P := fullB) (c := cBk) hl hxs vec_rdb)).1
    rw [hx79, hyl]
    refine WP.ite (fun hc' => WP.nilck ?_) (fun hc' => WP.done ?_)
    · refine WP.ld s 0 rfl (o := 0) (by simp [Addr.add]) (At_weirlaw3_Book_L _) ?_
      refine WP.rdx s 1 rfl vec_rdb i0 hl rfl ?_
      have s := s.out 3 rfl (zipH_nth (P := fullB) hl hxs)
      refine WP.stx (l := ys) (sp := []) (c := cBk) s 0 rfl c0 (by omega) rfl (fun w s => WP.next ?_)
      have s : Ss W (fullB x79 (ys.set c.toNat (mkBk i)) :: (up (BkHs ba L Z ls lsp zs zsp yss xss ++ R) 3 (seps (wo (zipH fullB ls yss) i.toNat)))) w := s
      have s := Ss.back (B := fullB x79 (ys.set c.toNat (mkBk i))) s 3 rfl (zipH_nth (P := fullB) hl hxs)
      have hil := (List.getElem?_eq_some_iff.1 hl).1
      have hix := (List.getElem?_eq_some_iff.1 hxs).1
      rw [zipH_up hil hix, set_eq hl] at s
      rw [wrap_i64 (by omega) (by omega)]
      refine ⟨⟨by omega, by omega, yss.set i.toNat (ys.set c.toNat (mkBk i)), ys.set c.toNat (mkBk i), by rw [List.length_set]; exact hy, fun j y hj => ?_, List.getElem?_set_self hix, by rw [List.length_set]; exact hyl, fun q hq => ?_, s⟩, by omega⟩
      · by_cases e : j = i.toNat
        · subst e
          rw [List.getElem?_set_self hix] at hj
          cases hj
          exact ⟨by rw [List.length_set]; omega, fun h => by omega⟩
        · rw [List.getElem?_set_ne (fun h => e h.symm)] at hj
          exact hm j y hj
      · by_cases e : q = c.toNat
        · subst e
          exact List.getElem?_set_self (by omega)
        · rw [List.getElem?_set_ne (fun h => e h.symm)]
          exact hc q (by omega)
    · rw [wrap_i64 (by omega) (by omega)]
      show _ ∧ _
      refine ⟨⟨by omega, by omega, yss, hy, fun j y hj => ?_, s⟩, by omega⟩
      obtain ⟨z1, z2⟩ := hm j y hj
      refine ⟨z1, fun hj2 => ?_⟩
      by_cases e : j = i.toNat
      · subst e
        rw [hxs] at hj
        cases hj
        rw [show ((i.toNat : Nat) : Int) = i by omega]
        exact eq_rep rfl (fun q hq => hc q (by omega))
      · exact z2 (by omega)
  · have hin : i.toNat = xss.length := by omega
    rw [hin] at hm
    exact WP.step (bk_K2 s hn h1 hy hm) (fun r w h => WP.done h)
end
end Go.Proofs.Ytoddkagehbcfjaa.Lx
