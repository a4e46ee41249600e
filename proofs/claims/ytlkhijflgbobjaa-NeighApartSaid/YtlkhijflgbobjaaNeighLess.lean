/- The functions that compare neighbours' keys, of their programs in the M-world. -/
import Derived.Test.YtlkhijflgbobjaaNeighKey
set_option linter.unusedVariables false
set_option linter.unusedSimpArgs false
namespace Go.Proofs.Ytlkhijflgbobjaa.Lx
open Go Go.Proofs Go.RowKit
theorem vec_g {α : Type} {n : Nat} (v : Vec α n) {i : Nat} (z : α) (h : i < n) : v.l[i]? = some (v.g (i : Int) z) := by
  unfold Vec.g
  rw [Int.toNat_natCast, List.getD, List.getElem?_eq_getElem (by rw [v.h]; exact h)]
  rfl
section
variable {W w : World} {Hs : List HP}
structure KeyOk (k : neigh_key) : Prop where
  p0 : 0 ≤ k.port
  p1 : k.port ≤ 7
  v : k.ip.V = 4 ∨ k.ip.V = 6
  b : Bts k.ip.A.l
theorem arr_flat {n : Nat} (v : Vec Int n) : ((cI .u8).arr n).enc v = v.l.flatMap (cI .u8).enc := Cod.arr_enc _ _ _
theorem At_key_V (k : neigh_key) : At (c_neigh_key.enc k) (1 + 0) ((cI .i64).enc k.ip.V) := (At_neigh_key_ip k).trans (At_api_IP_V _)
theorem At_key_A (k : neigh_key) : At (c_neigh_key.enc k) (1 + 1) (((cI .u8).arr 16).enc k.ip.A) := (At_neigh_key_ip k).trans (At_api_IP_A _)
theorem less_wp (s : Ss W Hs w) {i : Nat} {A : HP} (e : nth Hs i = some A) {a b : Addr} {x y : neigh_key} (ha : Holds A a (c_neigh_key.enc x)) (hb : Holds A b (c_neigh_key.enc y)) (hx : KeyOk x) (hy : KeyOk y) :
    WP (neigh_less (some a) (some b)) w (fun r w' => decide (r < 0) = klt x y ∧ Ss W Hs w') := by
  have a0 : a.add 0 = a := by simp [Addr.add]
  have b0 : b.add 0 = b := by simp [Addr.add]
  unfold neigh_less
  have := hx.p0; have := hx.p1; have := hy.p0; have := hy.p1; have := hx.v; have := hy.v
  refine WP.draw' s (fun w s => WP.nilck (WP.ldh s i e (ha.at_ (At_neigh_key_port x)) a0.symm (WP.nilck (WP.ldh s i e (hb.at_ (At_neigh_key_port y)) b0.symm ?_))))
  unfold klt
  refine WP.ite (fun h => ?_) (fun h => ?_)
  · refine WP.draw' s (fun w s => WP.nilck (WP.ldh s i e (ha.at_ (At_neigh_key_port x)) a0.symm (WP.nilck (WP.ldh s i e (hb.at_ (At_neigh_key_port y)) b0.symm (WP.ret ⟨?_, s⟩)))))
    rw [if_neg h, wrap_i64 (by omega) (by omega)]
    exact decide_eq_decide.2 (by omega)
  rw [if_pos (by simpa using h)]
  unfold ilt
  refine WP.draw' s (fun w s => WP.nilck (WP.ldh s i e (ha.at_ (At_key_V x)) rfl (WP.nilck (WP.ldh s i e (hb.at_ (At_key_V y)) rfl ?_))))
  refine WP.ite (fun h => ?_) (fun h => ?_)
  · refine WP.draw' s (fun w s => WP.nilck (WP.ldh s i e (ha.at_ (At_key_V x)) rfl (WP.nilck (WP.ldh s i e (hb.at_ (At_key_V y)) rfl (WP.ret ⟨?_, s⟩)))))
    rw [if_neg h, wrap_i64 (by omega) (by omega)]
    exact decide_eq_decide.2 (by omega)
  rw [if_pos (by simpa using h)]
  have ra : Rdb A (cI .u8) ⟨some ((a.add 1).add 1), 16, 16⟩ x.ip.A.l := by
    have := (ha.at_ (At_key_A x))
    rw [arr_flat, ← add_add] at this
    have := this.rdb (k := 16)
    rwa [x.ip.A.h] at this
  have rb : Rdb A (cI .u8) ⟨some ((b.add 1).add 1), 16, 16⟩ y.ip.A.l := by
    have := (hb.at_ (At_key_A y))
    rw [arr_flat, ← add_add] at this
    have := this.rdb (k := 16)
    rwa [y.ip.A.h] at this
  refine WP.draw' s (fun w s => WP.nilck ?_)
  refine WP.bind ⟨⟨some ((a.add 1).add 1), 16, 16⟩, w, by simp [Lx.cut, Addr.add], WP.nilck ?_⟩
  refine WP.bind ⟨⟨some ((b.add 1).add 1), 16, 16⟩, w, by simp [Lx.cut, Addr.add], ?_⟩
  unfold bytes_Compare bcmp
  refine WP.step (R := fun r w' => decide (r < 0) = llt x.ip.A.l y.ip.A.l ∧ Ss W Hs w') ?_ (fun r w h => WP.ret h)
  refine WP.step (R := fun r w' => decide (r < 0) = llt x.ip.A.l y.ip.A.l ∧ Ss W Hs w') ?_ (fun r w h => WP.ret h)
  exact WP.toStr s i e ra (WP.toStr s i e rb (WP.ret ⟨cmp_llt hx.b hy.b (by rw [x.ip.A.h, y.ip.A.h]), s⟩))
end
end Go.Proofs.Ytlkhijflgbobjaa.Lx
