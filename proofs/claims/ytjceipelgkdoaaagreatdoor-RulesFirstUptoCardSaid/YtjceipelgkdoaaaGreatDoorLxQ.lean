/- What the claim's reader tells of the arguments of laws. Printed by lawgen.py. -/
import Derived.Test.YtjceipelgkdoaaaGreatDoorLxSh
import Derived.Test.YtjceipelgkdoaaaGreatDoorLxT
import Derived.Test.YtjceipelgkdoaaaGreatDoorRows
set_option linter.unusedVariables false
namespace Go.Proofs.YtjceipelgkdoaaaGreatDoor.Lx
open Go Go.Proofs
/-! Zgd -/
structure Zgd where
 TPID : Int
 PCP : Int
 DEI : Bool
 VID : Int
 deriving DecidableEq
def ZoP : Zgd := ⟨0, 0, false, 0⟩
instance : Inhabited Zgd := ⟨ZoP⟩
def Zev : Cod Zgd := ((cI .i64).pair ((cI .i64).pair (cB.pair (cI .i64)))).iso (fun x => (x.TPID, x.PCP, x.DEI, x.VID)) (fun p => ⟨p.1, p.2.1, p.2.2.1, p.2.2.2⟩) (fun _ => rfl) (fun _ => rfl)
theorem At_api_Tag_TPID (x : Zgd) : At (Zev.enc x) 0 ((cI .i64).enc x.TPID) := At.fst
theorem At_api_Tag_PCP (x : Zgd) : At (Zev.enc x) 1 ((cI .i64).enc x.PCP) := At.snd (At.fst)
theorem At_api_Tag_DEI (x : Zgd) : At (Zev.enc x) 2 (cB.enc x.DEI) := At.snd (At.snd (At.fst))
theorem ZkJ (x : Zgd) : At (Zev.enc x) 3 ((cI .i64).enc x.VID) := At.snd (At.snd (At.last))
/-! ZhR -/
structure ZhR where
 Kind : Int
 Data : Sl
 deriving DecidableEq
def ZoQ : ZhR := ⟨0, Sl.nil⟩
instance : Inhabited ZhR := ⟨ZoQ⟩
def ZfW : Cod ZhR := ((cI .i64).pair cL).iso (fun x => (x.Kind, x.Data)) (fun p => ⟨p.1, p.2⟩) (fun _ => rfl) (fun _ => rfl)
theorem At_api_Opt_Kind (x : ZhR) : At (ZfW.enc x) 0 ((cI .i64).enc x.Kind) := At.fst
theorem At_api_Opt_Data (x : ZhR) : At (ZfW.enc x) 1 (cL.enc x.Data) := At.last
/-! ZgW -/
structure ZgW where
 Kind : Int
 Opts : Sl
 Data : Sl
 deriving DecidableEq
def ZoR : ZgW := ⟨0, Sl.nil, Sl.nil⟩
instance : Inhabited ZgW := ⟨ZoR⟩
def ZgT : Cod ZgW := ((cI .i64).pair (cL.pair cL)).iso (fun x => (x.Kind, x.Opts, x.Data)) (fun p => ⟨p.1, p.2.1, p.2.2⟩) (fun _ => rfl) (fun _ => rfl)
theorem At_api_Ext_Kind (x : ZgW) : At (ZgT.enc x) 0 ((cI .i64).enc x.Kind) := At.fst
theorem At_api_Ext_Opts (x : ZgW) : At (ZgT.enc x) 1 (cL.enc x.Opts) := At.snd (At.fst)
theorem At_api_Ext_Data (x : ZgW) : At (ZgT.enc x) 2 (cL.enc x.Data) := At.snd (At.last)
def G28 (W : World) (u : Zbo) : Prop := ((Lit.int .i64 u.V).wf = true) ∧ (∀ x ∈ u.A.l, (Lit.int .u8 x).wf = true)
theorem Op28 : ZaP Tryz.prog 28 ZaX G28 := ZaP.mono (ZaP.iso (ZaP.struct Tryz.underlying28 (by kernel_rfl) (ZaY.cons (ZaP.int Tryz.underlying3) rfl (by kernel_rfl) (ZaY.one (ZaP.arr Tryz.underlying26 (by kernel_rfl) (by kernel_rfl) (ZaP.int Tryz.underlying5)) rfl (by kernel_rfl)))) _ _ _ _) (fun W u g => g)
def G91 (W : World) (u : Zab) : Prop := (G28 W u.IP) ∧ ((Lit.int .i64 u.Len).wf = true)
theorem Op91 : ZaP Tryz.prog 91 Zaw G91 := ZaP.mono (ZaP.iso (ZaP.struct Tryz.underlying91 (by kernel_rfl) (ZaY.cons Op28 rfl (by kernel_rfl) (ZaY.one (ZaP.int Tryz.underlying3) rfl (by kernel_rfl)))) _ _ _ _) (fun W u g => g)
def G93 (W : World) (u : Zaz) : Prop := ((Lit.int .i64 u.Lo).wf = true) ∧ ((Lit.int .i64 u.Hi).wf = true)
theorem Op93 : ZaP Tryz.prog 93 ZaV G93 := ZaP.mono (ZaP.iso (ZaP.struct Tryz.underlying93 (by kernel_rfl) (ZaY.cons (ZaP.int Tryz.underlying3) rfl (by kernel_rfl) (ZaY.one (ZaP.int Tryz.underlying3) rfl (by kernel_rfl)))) _ _ _ _) (fun W u g => g)
def G61 (W : World) (u : Zaj) : Prop := (True) ∧ (GSl Zaw (Tryz.prog.bytesOf 91) (fun W u => G91 W u) W u.Nets) ∧ (GSl ZaV (Tryz.prog.bytesOf 93) (fun W u => G93 W u) W u.Ports)
theorem Op61 : ZaP Tryz.prog 61 ZaC G61 := ZaP.mono (ZaP.iso (ZaP.struct Tryz.underlying61 (by kernel_rfl) (ZaY.cons (ZaP.bool Tryz.underlying4) rfl (by kernel_rfl) (ZaY.cons (ZaP.slice Tryz.underlying58 (by kernel_rfl) Op91) rfl (by kernel_rfl) (ZaY.one (ZaP.slice Tryz.underlying59 (by kernel_rfl) Op93) rfl (by kernel_rfl))))) _ _ _ _) (fun W u g => g)
def G63 (W : World) (u : Zal) : Prop := ((Lit.int .i64 u.Act).wf = true) ∧ ((Lit.int .i64 u.Class).wf = true) ∧ ((Lit.int .i64 u.Kind).wf = true) ∧ ((Lit.int .i64 u.Proto).wf = true) ∧ ((Lit.int .i64 u.In).wf = true) ∧ ((Lit.int .i64 u.Vid).wf = true) ∧ (G61 W u.From) ∧ (G61 W u.To) ∧ ((Lit.int .i64 u.Set).wf = true) ∧ ((Lit.int .i64 u.Clear).wf = true) ∧ ((Lit.int .i64 u.Type_).wf = true) ∧ (True)
theorem Op63 : ZaP Tryz.prog 63 Zak G63 := ZaP.mono (ZaP.iso (ZaP.struct Tryz.underlying63 (by kernel_rfl) (ZaY.cons (ZaP.int Tryz.underlying3) rfl (by kernel_rfl) (ZaY.cons (ZaP.int Tryz.underlying3) rfl (by kernel_rfl) (ZaY.cons (ZaP.int Tryz.underlying3) rfl (by kernel_rfl) (ZaY.cons (ZaP.int Tryz.underlying3) rfl (by kernel_rfl) (ZaY.cons (ZaP.int Tryz.underlying3) rfl (by kernel_rfl) (ZaY.cons (ZaP.int Tryz.underlying3) rfl (by kernel_rfl) (ZaY.cons Op61 rfl (by kernel_rfl) (ZaY.cons Op61 rfl (by kernel_rfl) (ZaY.cons (ZaP.int Tryz.underlying3) rfl (by kernel_rfl) (ZaY.cons (ZaP.int Tryz.underlying3) rfl (by kernel_rfl) (ZaY.cons (ZaP.int Tryz.underlying3) rfl (by kernel_rfl) (ZaY.one (ZaP.bool Tryz.underlying4) rfl (by kernel_rfl)))))))))))))) _ _ _ _) (fun W u g => g)
def G239 (W : World) (u : Zgd) : Prop := ((Lit.int .i64 u.TPID).wf = true) ∧ ((Lit.int .i64 u.PCP).wf = true) ∧ (True) ∧ ((Lit.int .i64 u.VID).wf = true)
theorem Ztk : ZaP Tryz.prog 239 Zev G239 := ZaP.mono (ZaP.iso (ZaP.struct Tryz.underlying239 (by kernel_rfl) (ZaY.cons (ZaP.int Tryz.underlying3) rfl (by kernel_rfl) (ZaY.cons (ZaP.int Tryz.underlying3) rfl (by kernel_rfl) (ZaY.cons (ZaP.bool Tryz.underlying4) rfl (by kernel_rfl) (ZaY.one (ZaP.int Tryz.underlying3) rfl (by kernel_rfl)))))) _ _ _ _) (fun W u g => g)
def G30 (W : World) (u : ZhS) : Prop := ((Lit.int .i64 u.Op).wf = true) ∧ (∀ x ∈ u.SMac.l, (Lit.int .u8 x).wf = true) ∧ (G28 W u.SIP) ∧ (∀ x ∈ u.TMac.l, (Lit.int .u8 x).wf = true) ∧ (G28 W u.TIP)
theorem Op30 : ZaP Tryz.prog 30 ZgU G30 := ZaP.mono (ZaP.iso (ZaP.struct Tryz.underlying30 (by kernel_rfl) (ZaY.cons (ZaP.int Tryz.underlying3) rfl (by kernel_rfl) (ZaY.cons (ZaP.arr Tryz.underlying24 (by kernel_rfl) (by kernel_rfl) (ZaP.int Tryz.underlying5)) rfl (by kernel_rfl) (ZaY.cons Op28 rfl (by kernel_rfl) (ZaY.cons (ZaP.arr Tryz.underlying24 (by kernel_rfl) (by kernel_rfl) (ZaP.int Tryz.underlying5)) rfl (by kernel_rfl) (ZaY.one Op28 rfl (by kernel_rfl))))))) _ _ _ _) (fun W u g => g)
def G241 (W : World) (u : ZhR) : Prop := ((Lit.int .i64 u.Kind).wf = true) ∧ (GSl (cI .u8) (Tryz.prog.bytesOf 5) (fun W u => (Lit.int .u8 u).wf = true) W u.Data)
theorem Zsi : ZaP Tryz.prog 241 ZfW G241 := ZaP.mono (ZaP.iso (ZaP.struct Tryz.underlying241 (by kernel_rfl) (ZaY.cons (ZaP.int Tryz.underlying3) rfl (by kernel_rfl) (ZaY.one (ZaP.slice Tryz.underlying32 (by kernel_rfl) (ZaP.int Tryz.underlying5)) rfl (by kernel_rfl)))) _ _ _ _) (fun W u g => g)
def G34 (W : World) (u : ZfI) : Prop := ((Lit.int .i64 u.Tos).wf = true) ∧ ((Lit.int .i64 u.ID).wf = true) ∧ (True) ∧ (True) ∧ ((Lit.int .i64 u.Off).wf = true) ∧ ((Lit.int .i64 u.TTL).wf = true) ∧ ((Lit.int .i64 u.Proto).wf = true) ∧ (G28 W u.Src) ∧ (G28 W u.Dst) ∧ (GSl ZfW (Tryz.prog.bytesOf 241) (fun W u => G241 W u) W u.Opts) ∧ (GSl (cI .u8) (Tryz.prog.bytesOf 5) (fun W u => (Lit.int .u8 u).wf = true) W u.Data)
theorem Op34 : ZaP Tryz.prog 34 ZeR G34 := ZaP.mono (ZaP.iso (ZaP.struct Tryz.underlying34 (by kernel_rfl) (ZaY.cons (ZaP.int Tryz.underlying3) rfl (by kernel_rfl) (ZaY.cons (ZaP.int Tryz.underlying3) rfl (by kernel_rfl) (ZaY.cons (ZaP.bool Tryz.underlying4) rfl (by kernel_rfl) (ZaY.cons (ZaP.bool Tryz.underlying4) rfl (by kernel_rfl) (ZaY.cons (ZaP.int Tryz.underlying3) rfl (by kernel_rfl) (ZaY.cons (ZaP.int Tryz.underlying3) rfl (by kernel_rfl) (ZaY.cons (ZaP.int Tryz.underlying3) rfl (by kernel_rfl) (ZaY.cons Op28 rfl (by kernel_rfl) (ZaY.cons Op28 rfl (by kernel_rfl) (ZaY.cons (ZaP.slice Tryz.underlying31 (by kernel_rfl) Zsi) rfl (by kernel_rfl) (ZaY.one (ZaP.slice Tryz.underlying32 (by kernel_rfl) (ZaP.int Tryz.underlying5)) rfl (by kernel_rfl))))))))))))) _ _ _ _) (fun W u g => g)
def G243 (W : World) (u : ZgW) : Prop := ((Lit.int .i64 u.Kind).wf = true) ∧ (GSl ZfW (Tryz.prog.bytesOf 241) (fun W u => G241 W u) W u.Opts) ∧ (GSl (cI .u8) (Tryz.prog.bytesOf 5) (fun W u => (Lit.int .u8 u).wf = true) W u.Data)
theorem Ztj : ZaP Tryz.prog 243 ZgT G243 := ZaP.mono (ZaP.iso (ZaP.struct Tryz.underlying243 (by kernel_rfl) (ZaY.cons (ZaP.int Tryz.underlying3) rfl (by kernel_rfl) (ZaY.cons (ZaP.slice Tryz.underlying31 (by kernel_rfl) Zsi) rfl (by kernel_rfl) (ZaY.one (ZaP.slice Tryz.underlying32 (by kernel_rfl) (ZaP.int Tryz.underlying5)) rfl (by kernel_rfl))))) _ _ _ _) (fun W u g => g)
def G37 (W : World) (u : Zhe) : Prop := (True) ∧ (True) ∧ ((Lit.int .i64 u.ID).wf = true) ∧ ((Lit.int .i64 u.Off).wf = true)
theorem Op37 : ZaP Tryz.prog 37 Zhc G37 := ZaP.mono (ZaP.iso (ZaP.struct Tryz.underlying37 (by kernel_rfl) (ZaY.cons (ZaP.bool Tryz.underlying4) rfl (by kernel_rfl) (ZaY.cons (ZaP.bool Tryz.underlying4) rfl (by kernel_rfl) (ZaY.cons (ZaP.int Tryz.underlying3) rfl (by kernel_rfl) (ZaY.one (ZaP.int Tryz.underlying3) rfl (by kernel_rfl)))))) _ _ _ _) (fun W u g => g)
def G39 (W : World) (u : Zge) : Prop := ((Lit.int .i64 u.Class).wf = true) ∧ ((Lit.int .i64 u.Flow).wf = true) ∧ ((Lit.int .i64 u.Hop).wf = true) ∧ (G28 W u.Src) ∧ (G28 W u.Dst) ∧ (GSl ZgT (Tryz.prog.bytesOf 243) (fun W u => G243 W u) W u.Exts) ∧ (G37 W u.Frag) ∧ ((Lit.int .i64 u.Next).wf = true) ∧ (GSl (cI .u8) (Tryz.prog.bytesOf 5) (fun W u => (Lit.int .u8 u).wf = true) W u.Data)
theorem Op39 : ZaP Tryz.prog 39 Zfj G39 := ZaP.mono (ZaP.iso (ZaP.struct Tryz.underlying39 (by kernel_rfl) (ZaY.cons (ZaP.int Tryz.underlying3) rfl (by kernel_rfl) (ZaY.cons (ZaP.int Tryz.underlying3) rfl (by kernel_rfl) (ZaY.cons (ZaP.int Tryz.underlying3) rfl (by kernel_rfl) (ZaY.cons Op28 rfl (by kernel_rfl) (ZaY.cons Op28 rfl (by kernel_rfl) (ZaY.cons (ZaP.slice Tryz.underlying35 (by kernel_rfl) Ztj) rfl (by kernel_rfl) (ZaY.cons Op37 rfl (by kernel_rfl) (ZaY.cons (ZaP.int Tryz.underlying3) rfl (by kernel_rfl) (ZaY.one (ZaP.slice Tryz.underlying32 (by kernel_rfl) (ZaP.int Tryz.underlying5)) rfl (by kernel_rfl))))))))))) _ _ _ _) (fun W u g => g)
def G41 (W : World) (u : Zhd) : Prop := ((Lit.int .i64 u.V).wf = true) ∧ ((Lit.int .i64 u.Type_).wf = true) ∧ ((Lit.int .i64 u.Code).wf = true) ∧ ((Lit.int .i64 u.Rest).wf = true) ∧ (GSl (cI .u8) (Tryz.prog.bytesOf 5) (fun W u => (Lit.int .u8 u).wf = true) W u.Data)
theorem Op41 : ZaP Tryz.prog 41 Zhb G41 := ZaP.mono (ZaP.iso (ZaP.struct Tryz.underlying41 (by kernel_rfl) (ZaY.cons (ZaP.int Tryz.underlying3) rfl (by kernel_rfl) (ZaY.cons (ZaP.int Tryz.underlying3) rfl (by kernel_rfl) (ZaY.cons (ZaP.int Tryz.underlying3) rfl (by kernel_rfl) (ZaY.cons (ZaP.int Tryz.underlying3) rfl (by kernel_rfl) (ZaY.one (ZaP.slice Tryz.underlying32 (by kernel_rfl) (ZaP.int Tryz.underlying5)) rfl (by kernel_rfl))))))) _ _ _ _) (fun W u g => g)
def G43 (W : World) (u : ZhQ) : Prop := ((Lit.int .i64 u.Sport).wf = true) ∧ ((Lit.int .i64 u.Dport).wf = true) ∧ (True) ∧ (GSl (cI .u8) (Tryz.prog.bytesOf 5) (fun W u => (Lit.int .u8 u).wf = true) W u.Data)
theorem Op43 : ZaP Tryz.prog 43 ZgS G43 := ZaP.mono (ZaP.iso (ZaP.struct Tryz.underlying43 (by kernel_rfl) (ZaY.cons (ZaP.int Tryz.underlying3) rfl (by kernel_rfl) (ZaY.cons (ZaP.int Tryz.underlying3) rfl (by kernel_rfl) (ZaY.cons (ZaP.bool Tryz.underlying4) rfl (by kernel_rfl) (ZaY.one (ZaP.slice Tryz.underlying32 (by kernel_rfl) (ZaP.int Tryz.underlying5)) rfl (by kernel_rfl)))))) _ _ _ _) (fun W u g => g)
def G45 (W : World) (u : ZgV) : Prop := ((Lit.int .i64 u.Sport).wf = true) ∧ ((Lit.int .i64 u.Dport).wf = true) ∧ ((Lit.int .i64 u.Seq).wf = true) ∧ ((Lit.int .i64 u.Ack).wf = true) ∧ ((Lit.int .i64 u.Flags).wf = true) ∧ ((Lit.int .i64 u.Win).wf = true) ∧ ((Lit.int .i64 u.Urg).wf = true) ∧ (GSl ZfW (Tryz.prog.bytesOf 241) (fun W u => G241 W u) W u.Opts) ∧ (GSl (cI .u8) (Tryz.prog.bytesOf 5) (fun W u => (Lit.int .u8 u).wf = true) W u.Data)
theorem Op45 : ZaP Tryz.prog 45 ZfV G45 := ZaP.mono (ZaP.iso (ZaP.struct Tryz.underlying45 (by kernel_rfl) (ZaY.cons (ZaP.int Tryz.underlying3) rfl (by kernel_rfl) (ZaY.cons (ZaP.int Tryz.underlying3) rfl (by kernel_rfl) (ZaY.cons (ZaP.int Tryz.underlying3) rfl (by kernel_rfl) (ZaY.cons (ZaP.int Tryz.underlying3) rfl (by kernel_rfl) (ZaY.cons (ZaP.int Tryz.underlying3) rfl (by kernel_rfl) (ZaY.cons (ZaP.int Tryz.underlying3) rfl (by kernel_rfl) (ZaY.cons (ZaP.int Tryz.underlying3) rfl (by kernel_rfl) (ZaY.cons (ZaP.slice Tryz.underlying31 (by kernel_rfl) Zsi) rfl (by kernel_rfl) (ZaY.one (ZaP.slice Tryz.underlying32 (by kernel_rfl) (ZaP.int Tryz.underlying5)) rfl (by kernel_rfl))))))))))) _ _ _ _) (fun W u g => g)
def G47 (W : World) (u : Zau) : Prop := (∀ x ∈ u.Dst.l, (Lit.int .u8 x).wf = true) ∧ (∀ x ∈ u.Src.l, (Lit.int .u8 x).wf = true) ∧ (GSl Zev (Tryz.prog.bytesOf 239) (fun W u => G239 W u) W u.Tags) ∧ ((Lit.int .i64 u.Kind).wf = true) ∧ (G30 W u.Arp) ∧ (G34 W u.Ip4) ∧ (G39 W u.Ip6) ∧ ((Lit.int .i64 u.L4).wf = true) ∧ (G41 W u.Icmp) ∧ (G43 W u.Udp) ∧ (G45 W u.Tcp)
theorem Op47 : ZaP Tryz.prog 47 ZaB G47 := ZaP.mono (ZaP.iso (ZaP.struct Tryz.underlying47 (by kernel_rfl) (ZaY.cons (ZaP.arr Tryz.underlying24 (by kernel_rfl) (by kernel_rfl) (ZaP.int Tryz.underlying5)) rfl (by kernel_rfl) (ZaY.cons (ZaP.arr Tryz.underlying24 (by kernel_rfl) (by kernel_rfl) (ZaP.int Tryz.underlying5)) rfl (by kernel_rfl) (ZaY.cons (ZaP.slice Tryz.underlying25 (by kernel_rfl) Ztk) rfl (by kernel_rfl) (ZaY.cons (ZaP.int Tryz.underlying3) rfl (by kernel_rfl) (ZaY.cons Op30 rfl (by kernel_rfl) (ZaY.cons Op34 rfl (by kernel_rfl) (ZaY.cons Op39 rfl (by kernel_rfl) (ZaY.cons (ZaP.int Tryz.underlying3) rfl (by kernel_rfl) (ZaY.cons Op41 rfl (by kernel_rfl) (ZaY.cons Op43 rfl (by kernel_rfl) (ZaY.one Op45 rfl (by kernel_rfl))))))))))))) _ _ _ _) (fun W u g => g)
set_option maxRecDepth 100000
def Laid (W : World) : Prop := laidMetH Tryz.prog [("math/bits.deBruijn32tab", Rows.laid_math_bits_deBruijn32tab), ("math/bits.deBruijn64tab", Rows.laid_math_bits_deBruijn64tab), ("internal/strconv.uint64pow10", Rows.laid_internal_strconv_uint64pow10), ("weir/rules.kinds", Rows.laid_weir_rules_kinds), ("weir/rules.acts", Rows.laid_weir_rules_acts), ("weir/rules.flags", Rows.laid_weir_rules_flags)] W
theorem ZrW {W : World} (h : Laid W) : ∃ (u0 : (Vec Int 32)) (u1 : (Vec Int 64)) (u2 : (Vec Int 20)) (u3 : Sl) (u4 : Sl) (u5 : Sl), ((Rows.laid_math_bits_deBruijn32tab : DataW Unit) = DataW.agg (u0.l.map fun x => DataW.lit (.int .u8 x)) ∧ ∀ j, W.cell? ⟨5, j, .none⟩ = (((cI .u8).arr 32).enc u0)[j]?) ∧ ((Rows.laid_math_bits_deBruijn64tab : DataW Unit) = DataW.agg (u1.l.map fun x => DataW.lit (.int .u8 x)) ∧ ∀ j, W.cell? ⟨6, j, .none⟩ = (((cI .u8).arr 64).enc u1)[j]?) ∧ ((Rows.laid_internal_strconv_uint64pow10 : DataW Unit) = DataW.agg (u2.l.map fun x => DataW.lit (.int .u64 x)) ∧ ∀ j, W.cell? ⟨3, j, .none⟩ = (((cI .u64).arr 20).enc u2)[j]?) ∧ (Zqn W u3 (Rows.laid_weir_rules_kinds : DataW Unit) ∧ ∀ j, W.cell? ⟨1, j, .none⟩ = (cL.enc u3)[j]?) ∧ (Zqn W u4 (Rows.laid_weir_rules_acts : DataW Unit) ∧ ∀ j, W.cell? ⟨0, j, .none⟩ = (cL.enc u4)[j]?) ∧ (Zqn W u5 (Rows.laid_weir_rules_flags : DataW Unit) ∧ ∀ j, W.cell? ⟨2, j, .none⟩ = (cL.enc u5)[j]?) := by
 unfold Laid at h
 rw [MakeChecks.laidMetH_plain _ _ _ (by kernel_rfl)] at h
 obtain ⟨ps, hL, _, _⟩ := h
 obtain ⟨g0, t0, cs0, f0, p0, q0, hg0, ht0, hv0, hd0, hL0, _⟩ := hL
 obtain rfl := Option.some.inj ((show Tryz.prog.globalNamed "math/bits.deBruijn32tab" = some 5 by kernel_rfl).symm.trans hg0)
 obtain rfl := Option.some.inj ((show (Tryz.prog.globals[5]?).map (·.type) = some 224 by kernel_rfl).symm.trans ht0)
 obtain ⟨u0, e0, d0⟩ := (show ZfK Tryz.prog 224 ((cI .u8).arr 32) (fun u => DataW.agg (u.l.map fun x => DataW.lit (.int .u8 x))) from (ZfK.arr Tryz.underlying224 (by kernel_rfl) (by kernel_rfl) (ZfK.int Tryz.underlying5))) W _ _ _ hd0
 obtain ⟨g1, t1, cs1, f1, p1, q1, hg1, ht1, hv1, hd1, hL1, _⟩ := hL0
 obtain rfl := Option.some.inj ((show Tryz.prog.globalNamed "math/bits.deBruijn64tab" = some 6 by kernel_rfl).symm.trans hg1)
 obtain rfl := Option.some.inj ((show (Tryz.prog.globals[6]?).map (·.type) = some 225 by kernel_rfl).symm.trans ht1)
 obtain ⟨u1, e1, d1⟩ := (show ZfK Tryz.prog 225 ((cI .u8).arr 64) (fun u => DataW.agg (u.l.map fun x => DataW.lit (.int .u8 x))) from (ZfK.arr Tryz.underlying225 (by kernel_rfl) (by kernel_rfl) (ZfK.int Tryz.underlying5))) W _ _ _ hd1
 obtain ⟨g2, t2, cs2, f2, p2, q2, hg2, ht2, hv2, hd2, hL2, _⟩ := hL1
 obtain rfl := Option.some.inj ((show Tryz.prog.globalNamed "internal/strconv.uint64pow10" = some 3 by kernel_rfl).symm.trans hg2)
 obtain rfl := Option.some.inj ((show (Tryz.prog.globals[3]?).map (·.type) = some 213 by kernel_rfl).symm.trans ht2)
 obtain ⟨u2, e2, d2⟩ := (show ZfK Tryz.prog 213 ((cI .u64).arr 20) (fun u => DataW.agg (u.l.map fun x => DataW.lit (.int .u64 x))) from (ZfK.arr Tryz.underlying213 (by kernel_rfl) (by kernel_rfl) (ZfK.int Tryz.underlying193))) W _ _ _ hd2
 obtain ⟨g3, t3, cs3, f3, p3, q3, hg3, ht3, hv3, hd3, hL3, _⟩ := hL2
 obtain rfl := Option.some.inj ((show Tryz.prog.globalNamed "weir/rules.kinds" = some 1 by kernel_rfl).symm.trans hg3)
 obtain rfl := Option.some.inj ((show (Tryz.prog.globals[1]?).map (·.type) = some 124 by kernel_rfl).symm.trans ht3)
 obtain ⟨u3, e3, d3⟩ := ZjJ (P := Tryz.prog) (T := 124) (e := 9) (Tryz.underlying124) Tryz.underlying9 (by kernel_rfl) hd3
 obtain ⟨g4, t4, cs4, f4, p4, q4, hg4, ht4, hv4, hd4, hL4, _⟩ := hL3
 obtain rfl := Option.some.inj ((show Tryz.prog.globalNamed "weir/rules.acts" = some 0 by kernel_rfl).symm.trans hg4)
 obtain rfl := Option.some.inj ((show (Tryz.prog.globals[0]?).map (·.type) = some 124 by kernel_rfl).symm.trans ht4)
 obtain ⟨u4, e4, d4⟩ := ZjJ (P := Tryz.prog) (T := 124) (e := 9) (Tryz.underlying124) Tryz.underlying9 (by kernel_rfl) hd4
 obtain ⟨g5, t5, cs5, f5, p5, q5, hg5, ht5, hv5, hd5, hL5, _⟩ := hL4
 obtain rfl := Option.some.inj ((show Tryz.prog.globalNamed "weir/rules.flags" = some 2 by kernel_rfl).symm.trans hg5)
 obtain rfl := Option.some.inj ((show (Tryz.prog.globals[2]?).map (·.type) = some 124 by kernel_rfl).symm.trans ht5)
 obtain ⟨u5, e5, d5⟩ := ZjJ (P := Tryz.prog) (T := 124) (e := 9) (Tryz.underlying124) Tryz.underlying9 (by kernel_rfl) hd5
 exact ⟨u0, u1, u2, u3, u4, u5, ⟨d0, fun j => by rw [World.var?_cell hg0 hv0 j, ← Array.getElem?_toList, e0]⟩, ⟨d1, fun j => by rw [World.var?_cell hg1 hv1 j, ← Array.getElem?_toList, e1]⟩, ⟨d2, fun j => by rw [World.var?_cell hg2 hv2 j, ← Array.getElem?_toList, e2]⟩, ⟨d3, fun j => by rw [World.var?_cell hg3 hv3 j, ← Array.getElem?_toList, e3]⟩, ⟨d4, fun j => by rw [World.var?_cell hg4 hv4 j, ← Array.getElem?_toList, e4]⟩, ⟨d5, fun j => by rw [World.var?_cell hg5 hv5 j, ← Array.getElem?_toList, e5]⟩⟩
end Go.Proofs.YtjceipelgkdoaaaGreatDoor.Lx
