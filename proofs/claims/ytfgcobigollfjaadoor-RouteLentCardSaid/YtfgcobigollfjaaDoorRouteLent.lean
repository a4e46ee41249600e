
import Derived.Test.YtfgcobigollfjaaDoorRouteRef2
import Derived.Test.YtfgcobigollfjaaDoorRoutePlain2
import Derived.Test.YtfgcobigollfjaaDoorRouteSame
import Derived.Test.YtfgcobigollfjaaDoorLxSh
set_option linter.unusedVariables false
set_option linter.unusedSimpArgs false
namespace Go.Proofs.YtfgcobigollfjaaDoor.Lx
open Go Go.Proofs Go.RowKit
def meR (i : Int) : api_Route := ⟨z_api_Route.Prefix, IntKind.wrap .i64 ((-1) - i), z_api_Route.Via⟩
def atM : api_IP := ⟨4, (⟨[10, 9, 0, 0, 0, 0, 0, 0, 0, 0, 0, 0, 0, 0, 0, 0], rfl⟩ : (Vec Int 16))⟩
theorem fillR_id {L : List api_Route} (hs : ∀ x ∈ L, stat x) (nd : (L.map (·.Prefix)).Nodup) (hl : L.length ≤ 256) {i : Nat} (hi : i < L.length) : putR (L.take i) L[i] (addR (L.take i) L[i]) = L.take (i + 1) := by
 have h0 : addR (L.take i) L[i] = 0 := by
  refine addR_zero.2 ⟨hs _ (List.getElem_mem hi), ?_, by rw [List.length_take]; omega⟩
  cases hk : known (L.take i) L[i].Prefix with
  | false => rfl
  | true =>
   obtain ⟨x, hx, e⟩ := known_iff.1 hk
   obtain ⟨j, hj, rfl⟩ := List.getElem_of_mem hx
   rw [List.length_take] at hj
   rw [List.getElem_take] at e
   have e2 : (L.map (·.Prefix))[j]'(by rw [List.length_map]; omega) = (L.map (·.Prefix))[i]'(by rw [List.length_map]; omega) := by
    simp only [List.getElem_map]
    exact e
   have := (List.getElem_inj nd).1 e2
   omega
 rw [putR_fill, if_pos h0, List.take_add_one, List.getElem?_eq_getElem hi]
 rfl
section
variable {W w : World} {R : List HP} {n : Nat} {a1 : api_IP} {r5 r8 : Option Addr × Sl} {s12 r19 r20 : Sl}
theorem lentK2_wp {Q : Bool → World → Prop} {L V : Sl} {l1 gsp : List Sl} {zs zg : List (Sl × List api_Route)} (hn : n ≤ 1000) (e1 : zs.length = n) (e2 : zg.length = n) (hz : AllZ meR zs) (hg : AllZ meR zg)
  (s : Ss W ([vec cL V (zg.map (·.1)) gsp, Held cRt zg, vec cL L (zs.map (·.1)) l1, Held cRt zs] ++ R) w) (hk : ∀ w, Ss W R w → WP (weirlaw14_RouteLent.K1 a1 r5 r8 s12 r19) w Q) : WP (weirlaw14_RouteLent.K2 a1 r5 r8 s12 r19 L V) w Q := by
 unfold weirlaw14_RouteLent.K2
 refine WP.loopG (γ := Nat) (fun i (x : Int) w => x = (i : Int) ∧ i ≤ n ∧ Ss W ([vec cL V (zg.map (·.1)) gsp, Held cRt zg, vec cL L (zs.map (·.1)) l1, Held cRt zs] ++ R) w) (fun i _ => n - i) 0 ⟨rfl, by omega, s⟩ ?_
 clear s
 rintro i _ w ⟨rfl, hi, s⟩
 show WP (weirlaw14_RouteLent.L1 a1 r5 r8 s12 r19 L V (i : Int)) w _
 unfold weirlaw14_RouteLent.L1
 have hV := (s.vec_len (i := 0) rfl).1
 rw [List.length_map, e2] at hV
 refine WP.ite (fun h => ?_) (fun h => WP.step (hk w (s.weak (l := [_, _, _, _]))) (fun r w h => WP.done h))
 obtain ⟨p, hp⟩ : ∃ p, zs[i]? = some p := ⟨_, List.getElem?_eq_getElem (by rw [e1]; omega)⟩
 obtain ⟨g, hg'⟩ : ∃ p, zg[i]? = some p := ⟨_, List.getElem?_eq_getElem (by rw [e2]; omega)⟩
 obtain ⟨p1, p2⟩ := hz i p hp
 obtain ⟨g1, g2⟩ := hg i g hg'
 have rp : Rdb (Held cRt zs) cRt p.1 p.2 := Held.rdb (List.mem_of_getElem? hp)
 have rg : Rdb (Held cRt zg) cRt g.1 g.2 := Held.rdb (List.mem_of_getElem? hg')
 have hpx : (zs.map (·.1))[(i : Int).toNat]? = some p.1 := by rw [Int.toNat_natCast, List.getElem?_map, hp]; rfl
 have hgx : (zg.map (·.1))[(i : Int).toNat]? = some g.1 := by rw [Int.toNat_natCast, List.getElem?_map, hg']; rfl
 have hpl := (s.rd_len (i := 3) rfl rp).1
 have hgl := (s.rd_len (i := 1) rfl rg).1
 refine WP.loopG (γ := Nat) (fun k (x : Int) w => x = (k : Int) ∧ k ≤ g.2.length ∧ Ss W ([vec cL V (zg.map (·.1)) gsp, Held cRt zg, vec cL L (zs.map (·.1)) l1, Held cRt zs] ++ R) w) (fun k _ => g.2.length - k) 0 ⟨rfl, by omega, s⟩ ?_
 clear s
 rintro k _ w ⟨rfl, hk', s⟩
 show WP (weirlaw14_RouteLent.L2 L V (i : Int) (k : Int)) w _
 unfold weirlaw14_RouteLent.L2
 refine WP.rdx s 0 rfl vec_rdb (by omega) hgx rfl (WP.ite (fun h2 => ?_) (fun h2 => WP.done ⟨i + 1, ⟨by rw [wrap_i64 (by omega) (by omega)]; omega, by omega, s⟩, by omega⟩))
 have hgk : g.2[(k : Int).toNat]? = some (meR (i : Int)) := by
  rw [Int.toNat_natCast, g2]
  exact List.getElem?_replicate.trans (if_pos (by omega))
 refine WP.rdx s 0 rfl vec_rdb (by omega) hgx rfl (WP.rdx s 1 rfl rg (by omega) hgk rfl ?_)
 refine WP.step (R := fun y w' => y = false ∧ Ss W ([vec cL V (zg.map (·.1)) gsp, Held cRt zg, vec cL L (zs.map (·.1)) l1, Held cRt zs] ++ R) w') (WP.ite (fun h => absurd rfl h) (fun _ => WP.rdx s 2 rfl vec_rdb (by omega) hpx rfl ?_)) ?_
 ·refine WP.step (R := fun y w' => y = false ∧ Ss W ([vec cL V (zg.map (·.1)) gsp, Held cRt zg, vec cL L (zs.map (·.1)) l1, Held cRt zs] ++ R) w') (WP.ite (fun h3 => ?_) (fun h3 => WP.ret ⟨rfl, s⟩)) (fun y w h => WP.ret h)
  have hpk : p.2[(k : Int).toNat]? = some (meR (i : Int)) := by
   rw [Int.toNat_natCast, p2]
   exact List.getElem?_replicate.trans (if_pos (by omega))
  refine WP.rdx s 2 rfl vec_rdb (by omega) hpx rfl (WP.rdx s 3 rfl rp (by omega) hpk rfl (WP.ret ⟨?_, s⟩))
  show (!eqv (meR (i : Int)) (meR (i : Int))) = false
  rw [eqv_refl]
  rfl
 rintro _ w ⟨rfl, s⟩
 exact WP.ite (fun h => by cases h) (fun _ => WP.next ⟨k + 1, ⟨by rw [wrap_i64 (by omega) (by omega)]; omega, by omega, s⟩, by omega⟩)
theorem lentK3_wp {Q : Bool → World → Prop} {L : Sl} {l1 : List Sl} {es : List (Ls api_Route)} (hn : n ≤ 1000) (e1 : es.length = n) (hm : AllM meR n es)
  (s : Ss W ([vec cL L (es.map Ls.s) l1, seps (es.map (lsH cRt))] ++ R) w) (hk : ∀ w, Ss W R w → WP (weirlaw14_RouteLent.K1 a1 r5 r8 s12 r19) w Q) : WP (weirlaw14_RouteLent.K3 a1 r5 r8 s12 r19 L) w Q := by
 unfold weirlaw14_RouteLent.K3
 have s : Ss W ([vec cL Sl.nil [] [], Held cRt [], vec cL L (es.map Ls.s) l1, Held cRt ((es.take 0).map lsZ), seps ((es.drop 0).map (lsH cRt))] ++ R) w := by
  have s := ((s.mk0 (A := Held cRt []) (by intro p hp; cases hp)).mk0 (A := Held cRt []) (by intro p hp; cases hp)).mk0 (A := vec cL Sl.nil [] []) vec_nil
  exact s.use [0, 0, 1, 0] (r := _ :: R) rfl |>.perm (by simp)
 refine WP.loopG (γ := Nat × List Sl × List (Sl × List api_Route)) (fun g (x : Sl × Int) w => x.2 = (g.1 : Int) ∧ g.1 ≤ n ∧ g.2.2.length = g.1 ∧ AllZ meR g.2.2 ∧ Ss W ([vec cL x.1 (g.2.2.map (·.1)) g.2.1, Held cRt g.2.2, vec cL L (es.map Ls.s) l1, Held cRt ((es.take g.1).map lsZ), seps ((es.drop g.1).map (lsH cRt))] ++ R) w) (fun g _ => n - g.1) (0, [], []) ⟨rfl, by omega, rfl, fun j p hj => by simp at hj, s⟩ ?_
 clear s
 rintro ⟨i, gsp, zg⟩ ⟨V, _⟩ w ⟨rfl, hi, hg, hz, s⟩
 simp only at hi hg hz s
 show WP (weirlaw14_RouteLent.L3 a1 r5 r8 s12 r19 L V (i : Int)) w _
 unfold weirlaw14_RouteLent.L3
 have hL := (s.vec_len (i := 2) rfl).1
 rw [List.length_map, e1] at hL
 refine WP.ite (fun h => ?_) (fun h => ?_)
 rotate_left
 ·have hin : i = n := by omega
  rw [List.take_of_length_le (by omega)] at s
  have s : Ss W ([vec cL V (zg.map (·.1)) gsp, Held cRt zg, vec cL L ((es.map lsZ).map (·.1)) l1, Held cRt (es.map lsZ)] ++ R) w := by
   rw [List.map_map]
   exact (s.use [4] rfl).drop
  refine WP.step (lentK2_wp hn (by rw [List.length_map, e1]) (by omega) (fun j p hj => ?_) hz s hk) (fun r w h => WP.done h)
  rw [List.getElem?_map] at hj
  obtain ⟨e, he, rfl⟩ := Option.map_eq_some_iff.1 hj
  obtain ⟨f1, f2⟩ := hm j e he
  have hjl := (List.getElem?_eq_some_iff.1 he).1
  exact ⟨by show e.x.length ≤ _; omega, f2 (by omega)⟩
 have hlt : i < n := by omega
 obtain ⟨e, he⟩ : ∃ e, es[i]? = some e := ⟨_, List.getElem?_eq_getElem (by rw [e1]; exact hlt)⟩
 have hsl : (es.map Ls.s)[(i : Int).toNat]? = some e.s := by rw [Int.toNat_natCast, List.getElem?_map, he]; rfl
 obtain ⟨q1, q2⟩ := hm i e he
 have q2 := q2 hlt
 refine WP.rdx s 2 rfl vec_rdb (by omega) hsl rfl ?_
 have hd : es.drop i = e :: es.drop (i + 1) := by
  have hil : i < es.length := by omega
  rw [List.drop_eq_getElem_cons hil]
  rw [List.getElem?_eq_getElem hil] at he
  rw [Option.some.inj he]
 rw [hd] at s
 have s := s.out 4 rfl (j := 0) (A := lsH cRt e) rfl
 have s : Ss W (vec cRt e.s e.x e.sp :: (vec cL V (zg.map (·.1)) gsp :: Held cRt zg :: vec cL L (es.map Ls.s) l1 :: Held cRt ((es.take i).map lsZ) :: seps ((es.drop (i + 1)).map (lsH cRt)) :: R)) w := s
 have s := grow_begin s (meR (i : Int))
 refine WP.loopG (γ := Nat) (fun q (x : Sl × Int) w => x.2 = (q : Int) ∧ q ≤ 300 ∧ Ss W (GrowSt cRt e.s e.x x.1 (meR (i : Int)) q :: (vec cL V (zg.map (·.1)) gsp :: Held cRt zg :: vec cL L (es.map Ls.s) l1 :: Held cRt ((es.take i).map lsZ) :: seps ((es.drop (i + 1)).map (lsH cRt)) :: R)) w) (fun q _ => 300 - q) 0 ⟨rfl, by omega, s⟩ ?_
 clear s
 rintro q ⟨g, _⟩ w ⟨rfl, hq, s⟩
 simp only at hq s
 show WP (weirlaw14_RouteLent.L4 V (i : Int) g (q : Int)) w _
 unfold weirlaw14_RouteLent.L4
 refine WP.ite (fun h => WP.slot' s (fun _ w s => grow_step s (by omega) (by decide) (by decide) (fun r w s => WP.next ⟨q + 1, ⟨by simp only; rw [wrap_i64 (by omega) (by omega)]; simp, by omega, s⟩, by omega⟩))) (fun h => ?_)
 refine WP.slot' s (fun _ w s => WP.appl s 1 rfl (by simp only [List.length_cons, List.length_nil, List.length_map]; omega) (by decide) (fun V' w gsp' s => WP.done ?_))
 have s : Ss W (GrowSt cRt e.s e.x g (meR (i : Int)) q :: (vec cL V' (zg.map (·.1) ++ [g]) gsp' :: Held cRt zg :: vec cL L (es.map Ls.s) l1 :: Held cRt ((es.take i).map lsZ) :: seps ((es.drop (i + 1)).map (lsH cRt)) :: R)) w := s
 have s := grow_end s
 have s := s.dup (i := 0) rfl Ro.held
 have s := Held.less (y := [lsZ e]) s (fun p hp => by
  rw [List.mem_singleton] at hp
  subst hp
  exact List.mem_cons_self ..)
 have s := Held.less (y := [(g, e.x ++ List.replicate q (meR (i : Int)))]) (s.use [1] (s := [_]) (r := _ :: _ :: _ :: _ :: _ :: _ :: R) rfl) (fun p hp => by
  rw [List.mem_singleton] at hp
  subst hp
  simp)
 have s : Ss W (Held cRt zg :: Held cRt [(g, e.x ++ List.replicate q (meR (i : Int)))] :: (Held cRt [lsZ e] :: vec cL V' (zg.map (·.1) ++ [g]) gsp' :: vec cL L (es.map Ls.s) l1 :: Held cRt ((es.take i).map lsZ) :: seps ((es.drop (i + 1)).map (lsH cRt)) :: R)) w := s.use [3] rfl
 have s := Held.app s
 have s : Ss W (Held cRt ((es.take i).map lsZ) :: Held cRt [lsZ e] :: (Held cRt (zg ++ [(g, e.x ++ List.replicate q (meR (i : Int)))]) :: vec cL V' (zg.map (·.1) ++ [g]) gsp' :: vec cL L (es.map Ls.s) l1 :: seps ((es.drop (i + 1)).map (lsH cRt)) :: R)) w := s.use [4, 1] rfl
 have s := Held.app s
 have f1 : (es.take i).map lsZ ++ [lsZ e] = (es.take (i + 1)).map lsZ := by
  rw [List.take_add_one, he]
  simp
 have f2 : zg.map (·.1) ++ [g] = (zg ++ [(g, e.x ++ List.replicate q (meR (i : Int)))]).map (·.1) := by simp
 rw [f1, f2] at s
 have e3 : e.x ++ List.replicate q (meR (i : Int)) = List.replicate (e.x.length + q) (meR (i : Int)) := by
  rw [← List.replicate_append_replicate, ← q2]
 rw [e3] at s
 refine ⟨(i + 1, gsp', zg ++ [(g, List.replicate (e.x.length + q) (meR (i : Int)))]), ⟨by simp only; rw [wrap_i64 (by omega) (by omega)]; simp, by simp only; omega, by simp [hg], ?_, s.use [2, 1, 1, 0, 0] rfl⟩, by simp only; omega⟩
 have := AllZ.snoc (g := g) (k := e.x.length + q) hz (by omega)
 rw [hg] at this
 exact this
theorem lentK4_wp {Q : Bool → World → Prop} {L : Sl} {l1 : List Sl} {es : List (Ls api_Route)} (hn : n ≤ 1000) (e1 : es.length = n) (e3 : OkLs es)
  (s : Ss W ([vec cL L (es.map Ls.s) l1, seps (es.map (lsH cRt))] ++ R) w) (hk : ∀ w, Ss W R w → WP (weirlaw14_RouteLent.K1 a1 r5 r8 s12 r19) w Q) : WP (weirlaw14_RouteLent.K4 a1 r5 r8 s12 r19 L) w Q := by
 unfold weirlaw14_RouteLent.K4
 generalize e2 : es.map Ls.s = ls at s
 refine WP.loopG (γ := Nat × List (Ls api_Route)) (fun g (x : Int) w => x = (g.1 : Int) ∧ g.1 ≤ n ∧ g.2.length = n ∧ g.2.map Ls.s = ls ∧ AllM meR g.1 g.2 ∧ Ss W ([vec cL L ls l1, seps (g.2.map (lsH cRt))] ++ R) w) (fun g _ => n - g.1) (0, es) ⟨rfl, by omega, e1, e2, fun j e he => ⟨e3 e (List.mem_of_getElem? he), fun h => absurd h (by simp)⟩, s⟩ ?_
 clear s e1 e2 e3
 rintro ⟨i, es⟩ _ w ⟨rfl, hi, e1, e2, hm, s⟩
 simp only at hi e1 e2 hm s
 show WP (weirlaw14_RouteLent.L5 a1 r5 r8 s12 r19 L (i : Int)) w _
 unfold weirlaw14_RouteLent.L5
 have hls : ls.length = n := by rw [← e2, List.length_map, e1]
 have hL := (s.vec_len (i := 0) rfl).1
 rw [hls] at hL
 refine WP.ite (fun h => ?_) (fun h => ?_)
 rotate_left
 ·have : i = n := by omega
  subst this
  subst e2
  exact WP.step (lentK3_wp hn e1 hm s hk) (fun r w h => WP.done h)
 have hi : i < n := by omega
 obtain ⟨e, he⟩ : ∃ e, es[i]? = some e := ⟨_, List.getElem?_eq_getElem (by rw [e1]; exact hi)⟩
 have hsl : ls[(i : Int).toNat]? = some e.s := by rw [Int.toNat_natCast, ← e2, List.getElem?_map, he]; rfl
 have hel := (hm i e he).1
 refine WP.loopG (γ := Nat × List (Ls api_Route) × Ls api_Route) (fun g (x : Int) w => x = (g.1 : Int) ∧ g.1 ≤ e.x.length ∧ g.2.1.length = n ∧ g.2.1.map Ls.s = ls ∧ AllM meR i g.2.1 ∧ g.2.1[i]? = some g.2.2 ∧ g.2.2.s = e.s ∧ g.2.2.x.length = e.x.length ∧ (∀ q : Nat, q < g.1 → g.2.2.x[q]? = some (meR i)) ∧ Ss W ([vec cL L ls l1, seps (g.2.1.map (lsH cRt))] ++ R) w)
  (fun g _ => e.x.length - g.1) (0, es, e) ⟨rfl, by omega, e1, e2, hm, he, rfl, rfl, fun q h => absurd h (by simp), s⟩ ?_
 clear s hm e1 e2 he
 rintro ⟨k, es, d⟩ _ w ⟨rfl, hk', e1, e2, hm, hd, hds, hdl, hq, s⟩
 simp only at hk' e1 e2 hm hd hds hdl hq s
 show WP (weirlaw14_RouteLent.L6 L (i : Int) (k : Int)) w _
 unfold weirlaw14_RouteLent.L6
 have hdl2 := (s.rd_len (i := 1) rfl (mapH_rdb (P := lsH cRt) hd vec_rdb)).1
 rw [hds, hdl] at hdl2
 refine WP.rdx s 0 rfl vec_rdb (by omega) (x := e.s) hsl rfl ?_
 refine WP.ite (fun h => ?_) (fun h => ?_)
 ·refine WP.rdx s 0 rfl vec_rdb (by omega) (x := e.s) hsl rfl ?_
  have s := s.out 1 rfl (mapH_nth (P := lsH cRt) hd)
  rw [← hds]
  refine WP.stx (l := d.x) (sp := d.sp) (c := cRt) (x := meR (i : Int)) s 0 rfl (by omega) (by omega) rfl (fun w s => WP.next ?_)
  rw [Int.toNat_natCast] at s
  have s : Ss W (lsH cRt ⟨d.s, d.x.set k (meR i), d.sp⟩ :: (up ([vec cL L ls l1, seps (es.map (lsH cRt))] ++ R) 1 (seps (wo (es.map (lsH cRt)) i)))) w := s
  have s := Ss.back (B := lsH cRt ⟨d.s, d.x.set k (meR i), d.sp⟩) s 1 rfl (mapH_nth (P := lsH cRt) hd)
  have hil := (List.getElem?_eq_some_iff.1 hd).1
  rw [mapH_up hil] at s
  refine ⟨(k + 1, es.set i ⟨d.s, d.x.set k (meR i), d.sp⟩, ⟨d.s, d.x.set k (meR i), d.sp⟩), ⟨by rw [wrap_i64 (by omega) (by omega)]; simp, by simp only; omega, by simp only [List.length_set]; exact e1, ?_, fun j y hj => ?_, List.getElem?_set_self hil, rfl, by simp only [List.length_set]; exact hdl, fun q hq' => ?_, s⟩, by simp only; omega⟩
  ·show (es.set i ⟨d.s, d.x.set k (meR i), d.sp⟩).map Ls.s = ls
   rw [List.map_set, e2]
   refine set_eq ?_
   rw [Int.toNat_natCast] at hsl
   rw [hsl, hds]
  ·by_cases ej : j = i
   ·subst ej
    simp only at hj
    rw [List.getElem?_set_self hil] at hj
    cases hj
    exact ⟨by simp only [List.length_set]; omega, fun h => by omega⟩
   ·simp only at hj
    rw [List.getElem?_set_ne (fun h => ej h.symm)] at hj
    exact hm j y hj
  ·show (d.x.set k (meR i))[q]? = some (meR i)
   by_cases eq : q = k
   ·subst eq
    exact List.getElem?_set_self (by omega)
   ·rw [List.getElem?_set_ne (fun h => eq h.symm)]
    exact hq q (by simp only at hq'; omega)
 ·refine WP.done ?_
  refine ⟨(i + 1, es), ⟨by rw [wrap_i64 (by omega) (by omega)]; simp, by simp only; omega, e1, e2, fun j y hj => ?_, s⟩, by simp only; omega⟩
  obtain ⟨z1, z2⟩ := hm j y hj
  refine ⟨z1, fun hj2 => ?_⟩
  by_cases ej : j = i
  ·subst ej
   rw [hd] at hj
   cases hj
   exact eqrep rfl (fun q hq' => hq q (by omega))
  ·exact z2 (by simp only at hj2; omega)
end
end Go.Proofs.YtfgcobigollfjaaDoor.Lx
