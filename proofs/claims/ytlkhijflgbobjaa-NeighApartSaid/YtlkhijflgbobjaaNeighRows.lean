/- Lists that were handed out and lie untouched (weirlaw3's Ints, weirlaw15's Rows), of their programs in the M-world. -/
import Derived.Test.YtlkhijflgbobjaaLxZb
import Derived.Test.YtlkhijflgbobjaaNeighRefN
import Derived.Test.YtlkhijflgbobjaaNeighSameAll
import Derived.Test.YtlkhijflgbobjaaNeighSameAsks
set_option linter.unusedVariables false
set_option linter.unusedSimpArgs false
namespace Go.Proofs.Ytlkhijflgbobjaa.Lx
open Go Go.Proofs Go.RowKit
theorem nilck_some {β : Type} {a : Addr} {f : Addr → M β} : (nilck (some a) >>= f) = f a := rfl
theorem pure_done {β σ : Type} {b : β} : (pure b >>= fun b => pure (LS.done b) : M (LS σ β)) = pure (LS.done b) := rfl
section
variable {W w : World} {R Hs : List HP} {n b : Nat}
abbrev IntsP (b n : Nat) : HP := RowsP (cI .i64) (pt b 0) ((pt b 0).add 1) n
theorem ints_new (s : Ss W (pts true (pt b 0) (c_weirlaw3_Ints.enc z_weirlaw3_Ints) :: R) w) : Ss W (IntsP b 0 :: R) w :=
  rows_new (Ss.ptsplit (l := cL.enc Sl.nil) (m := cL.enc Sl.nil) s)
theorem ints_keep {a : Sl} {xs sp : List Int} (s : Ss W (vec (cI .i64) a xs sp :: IntsP b n :: R) w) (hx : xs.length ≤ 1000000) (hn : n ≤ 1000000) : WP (weirlaw3_Ints_Keep (some (pt b 0)) a) w (fun _ w' => Ss W (IntsP b (n + 1) :: R) w') := by
  have e : weirlaw3_Ints_Keep (some (pt b 0)) a = keepG (cI .i64) 3 8 0 43 (pt b 0) ((pt b 0).add 1) a := by
    unfold weirlaw3_Ints_Keep keepG
    simp only [nilck_some]
  rw [e]
  exact keepG_wp s hx hn (by decide) (by decide) (by decide)
theorem same_wp {A B : HP} {a b : Sl} {xs : List Int} (i j : Nat) (s : Ss W Hs w) (e : nth Hs i = some A) (r : Rdb A (cI .i64) a xs) (e2 : nth Hs j = some B) (r2 : Rdb B (cI .i64) b xs) (hl : xs.length ≤ 1000000) : WP (weirlaw3_same a b) w (fun y w' => y = true ∧ Ss W Hs w') := by
  unfold weirlaw3_same
  have h1 := (s.rd_len e r).1
  have h2 := (s.rd_len e2 r2).1
  refine WP.ite (fun h => absurd (by rw [h1, h2]) h) (fun _ => ?_)
  refine WP.loop (fun (i : Int) w' => 0 ≤ i ∧ i ≤ xs.length ∧ Ss W Hs w') (fun i _ => ((xs.length : Int) - i).toNat) ⟨by omega, by omega, s⟩ ?_
  clear s
  rintro k w ⟨k0, k1, s⟩
  unfold weirlaw3_same.L1
  refine WP.ite (fun hk => WP.draw' s (fun w s => ?_)) (fun hk => WP.done ⟨rfl, s⟩)
  rw [h1] at hk
  have hx := List.getElem?_eq_getElem (show k.toNat < xs.length by omega)
  refine WP.rdx s i e r k0 hx rfl (WP.rdx s j e2 r2 k0 hx rfl ?_)
  refine WP.ite (fun h => absurd rfl h) (fun _ => WP.next ?_)
  rw [wrap_i64 (by omega) (by omega)]
  exact ⟨⟨by omega, by omega, s⟩, by omega⟩
def mkI (i : Int) : Int := IntKind.wrap .i64 ((-1000) - i)
theorem only_wp {A : HP} {a : Sl} {k : Nat} (x : Int) (i : Nat) (s : Ss W Hs w) (e : nth Hs i = some A) (r : Rdb A (cI .i64) a (List.replicate k (mkI x))) (hk : k ≤ 100000000) : WP (weirlaw3_only a (mkI x)) w (fun y w' => y = true ∧ Ss W Hs w') := by
  unfold weirlaw3_only
  have hl := (s.rd_len e r).1
  rw [List.length_replicate] at hl
  refine WP.loop (fun (i : Int) w' => 0 ≤ i ∧ i ≤ k ∧ Ss W Hs w') (fun i _ => ((k : Int) - i).toNat) ⟨by omega, by omega, s⟩ ?_
  clear s
  rintro j w ⟨j0, j1, s⟩
  unfold weirlaw3_only.L1
  refine WP.ite (fun hj => ?_) (fun hj => WP.done ⟨rfl, s⟩)
  refine WP.rdx s i e r j0 (x := mkI x) (by rw [List.getElem?_replicate, if_pos (by omega)]) rfl ?_
  refine WP.ite (fun h => absurd rfl h) (fun _ => WP.next ?_)
  rw [wrap_i64 (by omega) (by omega)]
  exact ⟨⟨by omega, by omega, s⟩, by omega⟩
theorem ints_untouched (s : Ss W (IntsP b n :: R) w) (hn : n ≤ 1000000) : WP (weirlaw3_Ints_Untouched (some (pt b 0))) w (fun y w' => y = true ∧ Ss W (IntsP b n :: R) w') := by
  have e : weirlaw3_Ints_Untouched (some (pt b 0)) = loopM (fun s_ : Int => untG weirlaw3_same (pt b 0) ((pt b 0).add 1) (pure true) false s_) 0 := by
    unfold weirlaw3_Ints_Untouched weirlaw3_Ints_Untouched.L1 untG
    simp only [nilck_some, pure_done]
  rw [e]
  exact untG_wp s hn same_wp (fun w s => WP.ret ⟨rfl, s⟩)
theorem ints_settle (s : Ss W (IntsP b n :: R) w) (hn : n ≤ 1000000) : WP (weirlaw3_Ints_Settle (some (pt b 0))) w (fun y w' => y = true ∧ Ss W R w') := by
  unfold weirlaw3_Ints_Settle
  refine WP.step (ints_untouched s hn) ?_
  rintro _ w ⟨rfl, s⟩
  refine WP.ite (fun h => absurd rfl h) (fun _ => ?_)
  obtain ⟨L, l1, es, e1, e2, s⟩ := rows_marks s
  have e3 : (fun s_ : Int => weirlaw3_Ints_Settle.L4 (some (pt b 0)) s_) = fun s_ : Int => mark1G (cI .i64) 1 (pt b 0) mkI (weirlaw3_Ints_Settle.K2 (some (pt b 0))) s_ := by
    funext s_
    unfold weirlaw3_Ints_Settle.L4 weirlaw3_Ints_Settle.L5 mark1G mark2G mkI
    simp only [nilck_some]
  rw [e3]
  refine markG_wp s rfl hn e1 rfl e2 (fun w es f1 f2 f3 s => ?_)
  unfold weirlaw3_Ints_Settle.K2
  refine growG_wp s hn f1 f2 f3 (E := 3) (by_ := 8) (z := 0) (EL := 43) (K := fun V => weirlaw3_Ints_Settle.K1 (some (pt b 0)) V) (by decide) (by decide) (by decide) (fun w V gsp zs zg g1 g2 g3 g4 g5 s => ?_) (weirlaw3_Ints_Settle.L2 (some (pt b 0))) (.inr ?_)
  · unfold weirlaw3_Ints_Settle.K1
    have e4 : (fun s_ : Int => weirlaw3_Ints_Settle.L1 (some (pt b 0)) V s_) = fun s_ : Int => chkG weirlaw3_only mkI (pt b 0) (pure true) false V s_ := by
      funext s_
      unfold weirlaw3_Ints_Settle.L1 chkG mkI
      simp only [nilck_some, pure_done]
    rw [e4]
    exact chkG_wp s hn g1 g2 g3 g4 g5 only_wp (fun w s => WP.ret ⟨rfl, s⟩)
  · funext V s28
    unfold weirlaw3_Ints_Settle.L2 weirlaw3_Ints_Settle.L3 grow4G grow3G mkI
    simp only [nilck_some]
def mkN (i : Int) : api_Neighbour := (⟨IntKind.wrap .i64 ((-1000) - i), z_api_Neighbour.IP, z_api_Neighbour.Mac, z_api_Neighbour.State, z_api_Neighbour.Age, z_api_Neighbour.Tries, z_api_Neighbour.Waiting⟩ : api_Neighbour)
def mkA (i : Int) : api_Ask := (⟨IntKind.wrap .i64 ((-1000) - i), z_api_Ask.IP, z_api_Ask.Mac, z_api_Ask.Try⟩ : api_Ask)
theorem onlyN_wp {A : HP} {a : Sl} {k : Nat} (x : Int) (i : Nat) (s : Ss W Hs w) (e : nth Hs i = some A) (r : Rdb A cN a (List.replicate k (mkN x))) (hk : k ≤ 100000000) : WP (weirlaw15_onlyN a (mkI x)) w (fun y w' => y = true ∧ Ss W Hs w') := by
  unfold weirlaw15_onlyN
  have hl := (s.rd_len e r).1
  rw [List.length_replicate] at hl
  refine WP.loop (fun (i : Int) w' => 0 ≤ i ∧ i ≤ k ∧ Ss W Hs w') (fun i _ => ((k : Int) - i).toNat) ⟨by omega, by omega, s⟩ ?_
  clear s
  rintro j w ⟨j0, j1, s⟩
  unfold weirlaw15_onlyN.L1
  refine WP.ite (fun hj => ?_) (fun hj => WP.done ⟨rfl, s⟩)
  refine WP.rdx s i e r j0 (x := mkN x) (by rw [List.getElem?_replicate, if_pos (by omega)]) rfl ?_
  refine WP.ite (fun h => absurd rfl h) (fun _ => WP.next ?_)
  rw [wrap_i64 (by omega) (by omega)]
  exact ⟨⟨by omega, by omega, s⟩, by omega⟩
theorem onlyA_wp {A : HP} {a : Sl} {k : Nat} (x : Int) (i : Nat) (s : Ss W Hs w) (e : nth Hs i = some A) (r : Rdb A c_api_Ask a (List.replicate k (mkA x))) (hk : k ≤ 100000000) : WP (weirlaw15_onlyA a (mkI x)) w (fun y w' => y = true ∧ Ss W Hs w') := by
  unfold weirlaw15_onlyA
  have hl := (s.rd_len e r).1
  rw [List.length_replicate] at hl
  refine WP.loop (fun (i : Int) w' => 0 ≤ i ∧ i ≤ k ∧ Ss W Hs w') (fun i _ => ((k : Int) - i).toNat) ⟨by omega, by omega, s⟩ ?_
  clear s
  rintro j w ⟨j0, j1, s⟩
  unfold weirlaw15_onlyA.L1
  refine WP.ite (fun hj => ?_) (fun hj => WP.done ⟨rfl, s⟩)
  refine WP.rdx s i e r j0 (x := mkA x) (by rw [List.getElem?_replicate, if_pos (by omega)]) rfl ?_
  refine WP.ite (fun h => absurd rfl h) (fun _ => WP.next ?_)
  rw [wrap_i64 (by omega) (by omega)]
  exact ⟨⟨by omega, by omega, s⟩, by omega⟩
abbrev RowsN (b n : Nat) : HP := RowsP cN (pt b 0) ((pt b 0).add 1) n
abbrev RowsA (b n : Nat) : HP := RowsP c_api_Ask ((pt b 0).add 2) ((pt b 0).add 3) n
theorem rows15_new (s : Ss W (pts true (pt b 0) (c_weirlaw15_Rows.enc z_weirlaw15_Rows) :: R) w) : Ss W (RowsN b 0 :: RowsA b 0 :: R) w := by
  have s := Ss.ptsplit (l := cL.enc Sl.nil ++ cL.enc Sl.nil) (m := cL.enc Sl.nil ++ cL.enc Sl.nil) s
  have s := rows_new (c := cN) (Ss.ptsplit s)
  have s := rows_new (c := c_api_Ask) (Ss.ptsplit (s.use [1] (s := [_]) (r := _ :: R) rfl))
  exact s.use [1] (s := [_]) (r := _ :: R) rfl
theorem rows_keepN {q : Nat} {a : Sl} {xs sp : List api_Neighbour} (s : Ss W (vec cN a xs sp :: RowsN b n :: R) w) (hx : xs.length ≤ 1000000) (hn : n ≤ 1000000) : WP (weirlaw15_Rows_KeepN (some (pt b 0)) a) w (fun _ w' => Ss W (RowsN b (n + 1) :: R) w') := by
  have e : weirlaw15_Rows_KeepN (some (pt b 0)) a = keepG cN 77 72 z_api_Neighbour 68 (pt b 0) ((pt b 0).add 1) a := by
    unfold weirlaw15_Rows_KeepN keepG
    simp only [nilck_some]
  rw [e]
  exact keepG_wp s hx hn (by decide) (by decide) (by decide)
theorem rows_keepA {q : Nat} {a : Sl} {xs sp : List api_Ask} (s : Ss W (vec c_api_Ask a xs sp :: RowsA b n :: R) w) (hx : xs.length ≤ 1000000) (hn : n ≤ 1000000) : WP (weirlaw15_Rows_KeepA (some (pt b 0)) a) w (fun _ w' => Ss W (RowsA b (n + 1) :: R) w') := by
  have e : weirlaw15_Rows_KeepA (some (pt b 0)) a = keepG c_api_Ask 111 48 z_api_Ask 50 ((pt b 0).add 2) ((pt b 0).add 3) a := by
    unfold weirlaw15_Rows_KeepA keepG
    simp only [nilck_some]
  rw [e]
  exact keepG_wp s hx hn (by decide) (by decide) (by decide)
theorem sameN {A B : HP} {a b : Sl} {xs : List api_Neighbour} (i j : Nat) (s : Ss W Hs w) (e : nth Hs i = some A) (r : Rdb A cN a xs) (e2 : nth Hs j = some B) (r2 : Rdb B cN b xs) (hl : xs.length ≤ 1000000) : WP (weirlaw15_sameAll a b) w (fun y w' => y = true ∧ Ss W Hs w') :=
  (sameAll_wp s i e r j e2 r2 (by omega)).mono (fun y w h => ⟨by rw [h.1]; simp, h.2⟩)
theorem sameA {A B : HP} {a b : Sl} {xs : List api_Ask} (i j : Nat) (s : Ss W Hs w) (e : nth Hs i = some A) (r : Rdb A c_api_Ask a xs) (e2 : nth Hs j = some B) (r2 : Rdb B c_api_Ask b xs) (hl : xs.length ≤ 1000000) : WP (weirlaw15_sameAsks a b) w (fun y w' => y = true ∧ Ss W Hs w') :=
  (sameAsks_wp s i e r j e2 r2 (by omega)).mono (fun y w h => ⟨by rw [h.1]; simp, h.2⟩)
theorem rows_untouched {k : Nat} (s : Ss W (RowsN b n :: RowsA b k :: R) w) (hn : n ≤ 1000000) (hk : k ≤ 1000000) : WP (weirlaw15_Rows_Untouched (some (pt b 0))) w (fun y w' => y = true ∧ Ss W (RowsN b n :: RowsA b k :: R) w') := by
  have e : weirlaw15_Rows_Untouched (some (pt b 0)) = loopM (fun s_ : Int => untG weirlaw15_sameAll (pt b 0) ((pt b 0).add 1) (weirlaw15_Rows_Untouched.K1 (some (pt b 0))) false s_) 0 := by
    unfold weirlaw15_Rows_Untouched weirlaw15_Rows_Untouched.L2 untG
    simp only [nilck_some, pure_done]
  have e2 : weirlaw15_Rows_Untouched.K1 (some (pt b 0)) = loopM (fun s_ : Int => untG weirlaw15_sameAsks ((pt b 0).add 2) ((pt b 0).add 3) (pure true) false s_) 0 := by
    unfold weirlaw15_Rows_Untouched.K1 weirlaw15_Rows_Untouched.L1 untG
    simp only [nilck_some, pure_done]
  rw [e]
  refine untG_wp s hn sameN (fun w s => ?_)
  rw [e2]
  exact untG_wp (s.use [1] (s := [_]) (r := _ :: R) rfl) hk sameA (fun w s => WP.ret ⟨rfl, s.use [1] (s := [_]) (r := _ :: R) rfl⟩)
theorem rows_settle {k : Nat} (s : Ss W (RowsN b n :: RowsA b k :: R) w) (hn : n ≤ 1000000) (hk : k ≤ 1000000) : WP (weirlaw15_Rows_Settle (some (pt b 0))) w (fun y w' => y = true ∧ Ss W R w') := by
  unfold weirlaw15_Rows_Settle
  refine WP.step (rows_untouched s hn hk) ?_
  rintro _ w ⟨rfl, s⟩
  refine WP.ite (fun h => absurd rfl h) (fun _ => ?_)
  obtain ⟨L, l1, es, e1, e2, s⟩ := rows_marks s
  generalize hls : es.map Ls.s = ls at s
  have e3 : (fun s_ : Int => weirlaw15_Rows_Settle.L9 (some (pt b 0)) s_) = fun s_ : Int => mark1G cN 28 (pt b 0) mkN (weirlaw15_Rows_Settle.K5 (some (pt b 0))) s_ := by
    funext s_
    unfold weirlaw15_Rows_Settle.L9 weirlaw15_Rows_Settle.L10 mark1G mark2G mkN
    simp only [nilck_some]
  rw [e3]
  refine markG_wp s rfl hn e1 hls e2 (fun w es f1 f2 f3 s => ?_)
  have s := s.use [3] (s := [_]) (r := [_, _, _] ++ R) rfl
  obtain ⟨L', l1', es', e1', e2', s⟩ := rows_marks s
  generalize hls' : es'.map Ls.s = ls' at s
  unfold weirlaw15_Rows_Settle.K5
  have e4 : (fun s_ : Int => weirlaw15_Rows_Settle.L7 (some (pt b 0)) s_) = fun s_ : Int => mark1G c_api_Ask 25 ((pt b 0).add 2) mkA (weirlaw15_Rows_Settle.K4 (some (pt b 0))) s_ := by
    funext s_
    unfold weirlaw15_Rows_Settle.L7 weirlaw15_Rows_Settle.L8 mark1G mark2G mkA
    simp only [nilck_some]
  rw [e4]
  refine markG_wp s rfl hk e1' hls' e2' (fun w es' f1' f2' f3' s => ?_)
  have s : Ss W (MkHs cN (pt b 0) L ls l1 es ++ (MkHs c_api_Ask ((pt b 0).add 2) L' ls' l1' es' ++ R)) w := s.use [3, 3, 3, 0, 0, 0] (r := R) rfl
  unfold weirlaw15_Rows_Settle.K4
  refine growG_wp s hn f1 f2 f3 (E := 77) (by_ := 72) (z := z_api_Neighbour) (EL := 68) (K := fun V => weirlaw15_Rows_Settle.K3 (some (pt b 0)) V) (by decide) (by decide) (by decide) (fun w V gsp zs zg g1 g2 g3 g4 g5 s => ?_) (weirlaw15_Rows_Settle.L5 (some (pt b 0))) (.inl ?_)
  rotate_left
  · funext V s28
    unfold weirlaw15_Rows_Settle.L5 weirlaw15_Rows_Settle.L6 grow1G grow2G mkN
    simp only [nilck_some]
  have s : Ss W (MkHs c_api_Ask ((pt b 0).add 2) L' ls' l1' es' ++ (ChkHs cN (pt b 0) L ls l1 zs V gsp zg ++ R)) w := s.use [5, 5, 5, 0, 0, 0, 0, 0] (r := R) rfl
  unfold weirlaw15_Rows_Settle.K3
  refine growG_wp s hk f1' f2' f3' (E := 111) (by_ := 48) (z := z_api_Ask) (EL := 50) (K := fun V' => weirlaw15_Rows_Settle.K2 (some (pt b 0)) V V') (by decide) (by decide) (by decide) (fun w V' gsp' zs' zg' g1' g2' g3' g4' g5' s => ?_) (weirlaw15_Rows_Settle.L3 (some (pt b 0)) V) (.inl ?_)
  rotate_left
  · funext V s28
    unfold weirlaw15_Rows_Settle.L3 weirlaw15_Rows_Settle.L4 grow1G grow2G mkA
    simp only [nilck_some]
  have s : Ss W (ChkHs cN (pt b 0) L ls l1 zs V gsp zg ++ (ChkHs c_api_Ask ((pt b 0).add 2) L' ls' l1' zs' V' gsp' zg' ++ R)) w := s.use [5, 5, 5, 5, 5, 0, 0, 0, 0, 0] (r := R) rfl
  unfold weirlaw15_Rows_Settle.K2
  have e5 : (fun s_ : Int => weirlaw15_Rows_Settle.L2 (some (pt b 0)) V V' s_) = fun s_ : Int => chkG weirlaw15_onlyN mkI (pt b 0) (weirlaw15_Rows_Settle.K1 (some (pt b 0)) V') false V s_ := by
    funext s_
    unfold weirlaw15_Rows_Settle.L2 chkG mkI
    simp only [nilck_some]
  rw [e5]
  refine chkG_wp s hn g1 g2 g3 g4 g5 onlyN_wp (fun w s => ?_)
  unfold weirlaw15_Rows_Settle.K1
  have e6 : (fun s_ : Int => weirlaw15_Rows_Settle.L1 (some (pt b 0)) V' s_) = fun s_ : Int => chkG weirlaw15_onlyA mkI ((pt b 0).add 2) (pure true) false V' s_ := by
    funext s_
    unfold weirlaw15_Rows_Settle.L1 chkG mkI
    simp only [nilck_some, pure_done]
  rw [e6]
  exact chkG_wp s hk g1' g2' g3' g4' g5' onlyA_wp (fun w s => WP.ret ⟨rfl, s⟩)
end
end Go.Proofs.Ytlkhijflgbobjaa.Lx
