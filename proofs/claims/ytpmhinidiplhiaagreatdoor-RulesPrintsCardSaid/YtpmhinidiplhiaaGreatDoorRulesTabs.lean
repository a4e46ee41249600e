
import Derived.Test.YtpmhinidiplhiaaGreatDoorRulesStart
import Derived.Test.YtpmhinidiplhiaaGreatDoorLxSh
import Derived.Test.YtpmhinidiplhiaaGreatDoorLxQ
set_option linter.unusedVariables false
set_option linter.unusedSimpArgs false
namespace Go.Proofs.YtpmhinidiplhiaaGreatDoor.Lx
open Go Go.Proofs Go.RowKit
theorem Zt3 {l : List Int} (h : ∀ x ∈ l, (Lit.int .u8 x).wf = true) : Byt l := fun x hx => by
 have := h x hx
 simp [Lit.wf, IntKind.min, IntKind.max, IntKind.bits, IntKind.signed] at this
 exact this
theorem ZsR {k : IntKind} {a b : List Int} (h : a.map (fun x => (DataW.lit (.int k x) : DataW Unit)) = b.map fun x => DataW.lit (.int k x)) : a = b := by
 refine (List.map_inj_right (f := fun x => (DataW.lit (.int k x) : DataW Unit)) ?_).1 h
 intro x y e
 cases e
 rfl
theorem ZqV {k : IntKind} {n : Nat} {a b : Vec Int n} (h : (DataW.agg (a.l.map (fun x => DataW.lit (.int k x))) : DataW Unit) = DataW.agg (b.l.map fun x => DataW.lit (.int k x))) : a = b := by
 obtain ⟨a, ha⟩ := a
 obtain ⟨b, hb⟩ := b
 have : a = b := ZsR (DataW.agg.inj h)
 subst this
 rfl
def strD (l : List ByteArray) : DataW Unit := .slice (l.map fun s => .lit (.string s.data.toList)) []
theorem Zrz : (Rows.laid_weir_rules_acts : DataW Unit) = strD actB := by
 unfold Rows.laid_weir_rules_acts strD
 rw [show (actB.map fun s => (DataW.lit (.string s.data.toList) : DataW Unit)) = ([[112, 101, 114, 109, 105, 116], [100, 101, 110, 121], [114, 101, 106, 101, 99, 116]] : List (List UInt8)).map (fun l => .lit (.string l)) from by
  rw [show ([[112, 101, 114, 109, 105, 116], [100, 101, 110, 121], [114, 101, 106, 101, 99, 116]] : List (List UInt8)) = actB.map (fun s => s.data.toList) by decide +kernel, List.map_map]
  rfl]
 rfl
theorem Zqc : (Rows.laid_weir_rules_kinds : DataW Unit) = strD ZhE := by
 unfold Rows.laid_weir_rules_kinds strD
 rw [show (ZhE.map fun s => (DataW.lit (.string s.data.toList) : DataW Unit)) = ([[97, 114, 112], [105, 112, 52], [105, 112, 54]] : List (List UInt8)).map (fun l => .lit (.string l)) from by
  rw [show ([[97, 114, 112], [105, 112, 52], [105, 112, 54]] : List (List UInt8)) = ZhE.map (fun s => s.data.toList) by decide +kernel, List.map_map]
  rfl]
 rfl
theorem Zqd : (Rows.laid_weir_rules_flags : DataW Unit) = strD ZfC := by
 unfold Rows.laid_weir_rules_flags strD
 rw [show (ZfC.map fun s => (DataW.lit (.string s.data.toList) : DataW Unit)) = ([[102, 105, 110], [115, 121, 110], [114, 115, 116], [112, 115, 104], [97, 99, 107], [117, 114, 103], [101, 99, 101], [99, 119, 114]] : List (List UInt8)).map (fun l => .lit (.string l)) from by
  rw [show ([[102, 105, 110], [115, 121, 110], [114, 115, 116], [112, 115, 104], [97, 99, 107], [117, 114, 103], [101, 99, 101], [99, 119, 114]] : List (List UInt8)) = ZfC.map (fun s => s.data.toList) by decide +kernel, List.map_map]
  rfl]
 rfl
theorem Ss.nm {W : World} {Hs : List HP} {u : Sl} {g : Nat} {l : List ByteArray} (s : Ss W (pts false ⟨g, 0, none⟩ (cL.enc u) :: rdS cS false u l :: Hs) W) : Ss W (NmP g l :: Hs) W :=
 (Ss.group (l := [pts false ⟨g, 0, none⟩ (cL.enc u), rdS cS false u l]) s).first (fun h hh => ⟨u, trivial, hh⟩)
theorem Zul {W : World} (h : Laid W) : ∃ Hs, Ss W Hs W ∧ RTab Hs := by
 obtain ⟨u0, u1, u2, u3, u4, u5, _, ⟨d1, c1⟩, ⟨d2, c2⟩, ⟨d3, c3⟩, ⟨d4, c4⟩, ⟨d5, c5⟩⟩ := ZsX h
 obtain rfl : u1 = dbV := ZqV (d1.symm.trans (by rfl))
 obtain rfl : u2 = Ze7 := ZqV (d2.symm.trans (by rfl))
 have s0 : Ss W [] W := Ss.start W
 have s := (s0.tab (by decide) c1).tab (by decide) c2
 have s2 := Ss.group (l := [pts false ⟨5, 0, none⟩ (((cI .u64).arr 20).enc Ze7), pts false ⟨8, 0, none⟩ (((cI .u8).arr 64).enc dbV)]) s
 have s3 : Ss W (TabN :: _) W := s2.first (fun h hh => by
  obtain ⟨h1, h2, _, l1, l2, a, h3, h4, _, l3, _, b, _⟩ := hh
  exact ⟨⟨a.1, fun i x e => l1 _ _ _ (a.2 i x e)⟩, ⟨b.1, fun i x e => l2 _ _ _ (l3 _ _ _ (b.2 i x e))⟩⟩)
 have s4 := (s3.strs d3 Zqc c3).nm
 have s5 := (s4.strs d4 Zrz c4).nm
 have s6 := (s5.strs d5 Zqd c5).nm
 exact ⟨_, s6, ⟨3, rfl⟩, ⟨1, rfl⟩, ⟨2, rfl⟩, ⟨0, rfl⟩⟩
end Go.Proofs.YtpmhinidiplhiaaGreatDoor.Lx
