/- PrintIP and PrintPrefix (package addr), of their programs in the M-world. -/
import Derived.Test.YtddmmgcfanpmmaaGreatDoorAddrPrint
import Derived.Test.YtddmmgcfanpmmaaGreatDoorAddrMask
set_option linter.unusedVariables false
set_option linter.unusedSimpArgs false
namespace Go.Proofs.YtddmmgcfanpmmaaGreatDoor.Lx
open Go Go.Proofs Go.RowKit
def grp (a : List Int) (i : Nat) : Nat := 256 * (a.getD (2 * i) 0).toNat + (a.getD (2 * i + 1) 0).toNat
def grps (a : List Int) : List Nat := (List.range 8).map (grp a)
def zrun (g : List Nat) : Nat := (g.takeWhile (· == 0)).length
def longF (g : List Nat) : Nat → Int × Nat
  | 0 => (-1, 1)
  | i + 1 => if zrun (g.drop i) > (longF g i).2 then ((i : Int), zrun (g.drop i)) else longF g i
def longM (g : List Nat) : Int × Nat := longF g 8
def prIP (ip : api_IP) : List Int :=
  if ip.V = 4 then dotM (ip.A.l.take 4)
  else if ip.A.l.take 12 = [0, 0, 0, 0, 0, 0, 0, 0, 0, 0, 255, 255] then [58, 58, 102, 102, 102, 102, 58] ++ dotM (ip.A.l.drop 12)
  else if (longM (grps ip.A.l)).1 < 0 then colM (grps ip.A.l)
  else colM ((grps ip.A.l).take (longM (grps ip.A.l)).1.toNat) ++ [58, 58] ++ colM ((grps ip.A.l).drop ((longM (grps ip.A.l)).1.toNat + (longM (grps ip.A.l)).2))
def piM (ip : api_IP) : ByteArray × Int := if sizeM ip > 0 then (bstr (prIP ip), 0) else (ByteArray.empty, 40)
theorem zrun_le (g : List Nat) : zrun g ≤ g.length := (List.takeWhile_sublist _).length_le
theorem grps_len (a : List Int) : (grps a).length = 8 := by simp [grps]
theorem getD_byt {a : List Int} (h : Byt a) (i : Nat) : 0 ≤ a.getD i 0 ∧ a.getD i 0 ≤ 255 := by
  rw [List.getD]
  cases hx : a[i]? with
  | none => simp
  | some y => exact h y (List.mem_of_getElem? hx)
theorem grps_lt {a : List Int} (h : Byt a) : ∀ x ∈ grps a, x < 65536 := fun x hx => by
  obtain ⟨i, _, rfl⟩ := List.mem_map.1 hx
  unfold grp
  have h1 := getD_byt h (2 * i)
  have h2 := getD_byt h (2 * i + 1)
  omega
theorem longF_inv {g : List Nat} (hg : g.length = 8) : ∀ i, i ≤ 8 → -1 ≤ (longF g i).1 ∧ (longF g i).1 ≤ 7 ∧ 1 ≤ (longF g i).2 ∧ (longF g i).2 ≤ 8 ∧ (0 ≤ (longF g i).1 → (longF g i).1 + (longF g i).2 ≤ 8)
  | 0, _ => by simp [longF]
  | i + 1, h => by
    have ih := longF_inv hg i (by omega)
    have hz := zrun_le (g.drop i)
    rw [List.length_drop, hg] at hz
    unfold longF
    split
    · simp only
      omega
    · exact ih
theorem catb (a b : List Int) : bstr a ++ bstr b = bstr (a ++ b) := by
  unfold bstr
  apply ByteArray.ext
  simp
section
variable {W w : World} {Hs : List HP}
theorem longest_wp (s : Ss W Hs w) (g : List Nat) (hg : g.length = 8) (v : Vec Int 8) (hv : v.l = g.map fun x : Nat => (x : Int)) : WP (addr_longest v) w (fun r w' => r = ((longM g).1, ((longM g).2 : Int)) ∧ Ss W Hs w') := by
  unfold addr_longest
  refine WP.slot' s (fun _ w s => ?_)
  refine WP.loopG (γ := Nat) (fun i (p : Int × Int × Int) w => p = ((longF g i).1, ((longF g i).2 : Int), (i : Int)) ∧ i ≤ 8 ∧ Ss W Hs w) (fun i _ => 8 - i) 0 ⟨rfl, by omega, s⟩ ?_
  clear s
  rintro i _ w ⟨rfl, hi, s⟩
  show WP (addr_longest.L1 v (longF g i).1 ((longF g i).2 : Int) (i : Int)) w _
  unfold addr_longest.L1
  have hinv := longF_inv hg i hi
  refine WP.ite (fun h => ?_) (fun h => WP.done ⟨?_, s⟩)
  rotate_left
  · have : i = 8 := by omega
    subst this
    rfl
  have hget : ∀ k, v.g (k : Nat) 0 = ((g.getD k 0 : Nat) : Int) := fun k => by
    show v.l.getD (Int.toNat (k : Int)) 0 = _
    rw [hv, Int.toNat_natCast, List.getD, List.getD, List.getElem?_map]
    cases g[k]? <;> rfl
  refine WP.loopG (γ := Nat) (fun n (p : Int) w => p = (n : Int) ∧ n ≤ zrun (g.drop i) ∧ Ss W Hs w) (fun n _ => zrun (g.drop i) - n) 0 ⟨rfl, by omega, s⟩ ?_
  clear s
  rintro n _ w ⟨rfl, hn, s⟩
  show WP (addr_longest.L2 v (longF g i).1 ((longF g i).2 : Int) (i : Int) (n : Int)) w _
  unfold addr_longest.L2
  have hz := zrun_le (g.drop i)
  rw [List.length_drop, hg] at hz
  have ein : IntKind.wrap .i64 ((i : Int) + (n : Int)) = ((i + n : Nat) : Int) := by
    rw [wrap_i64 (by omega) (by omega)]
    omega
  rw [ein]
  -- the run goes on just where a zero stands
  have hgo : (i + n < 8 ∧ g.getD (i + n) 0 = 0) ↔ n < zrun (g.drop i) := by
    unfold zrun at hn ⊢
    have hd : ∀ (l : List Nat) (n : Nat), n ≤ (l.takeWhile (· == 0)).length → ((n < l.length ∧ l.getD n 0 = 0) ↔ n < (l.takeWhile (· == 0)).length) := by
      intro l
      induction l with
      | nil => intro n hn; simp
      | cons x l ih =>
        intro n hn
        by_cases hx : x = 0
        · subst hx
          simp only [List.takeWhile_cons, beq_self_eq_true, if_true, List.length_cons] at hn ⊢
          cases n with
          | zero => simp
          | succ n =>
            have := ih n (by omega)
            simp only [List.getD_cons_succ]
            omega
        · have hx' : (x == 0) = false := by simpa using hx
          simp only [List.takeWhile_cons, hx', Bool.false_eq_true, if_false, List.length_nil] at hn ⊢
          have : n = 0 := by omega
          subst this
          simp [hx]
    have := hd (g.drop i) n hn
    rw [← this, List.length_drop, hg]
    have e : (g.drop i).getD n 0 = g.getD (i + n) 0 := by
      rw [List.getD, List.getD, List.getElem?_drop]
    rw [e]
    constructor
    · exact fun h => ⟨by omega, h.2⟩
    · exact fun h => ⟨by omega, h.2⟩
  refine WP.step (R := fun y w' => y = decide (n < zrun (g.drop i)) ∧ Ss W Hs w') (WP.ite (fun h => WP.chk ⟨by omega, by omega⟩ (WP.ret ⟨?_, s⟩)) (fun h => WP.ret ⟨?_, s⟩)) ?_
  · rw [hget, Bool.eq_iff_iff]
    simp only [beq_iff_eq, decide_eq_true_eq]
    rw [← hgo]
    omega
  · rw [eq_comm, decide_eq_false_iff_not, ← hgo]
    omega
  rintro _ w ⟨rfl, s⟩
  refine WP.ite (fun h => WP.next ⟨n + 1, ⟨?_, by have := of_decide_eq_true h; omega, s⟩, by have := of_decide_eq_true h; omega⟩) (fun h => ?_)
  · rw [wrap_i64 (by omega) (by omega)]
    simp
  have hn2 : ¬ n < zrun (g.drop i) := fun h' => h (decide_eq_true h')
  have hn3 : n = zrun (g.drop i) := by omega
  have ei : IntKind.wrap .i64 ((i : Int) + 1) = ((i + 1 : Nat) : Int) := by
    rw [wrap_i64 (by omega) (by omega)]
    simp
  rw [ei]
  refine WP.ite (fun h => WP.done ⟨i + 1, ⟨?_, by omega, s⟩, by omega⟩) (fun h => WP.done ⟨i + 1, ⟨?_, by omega, s⟩, by omega⟩)
  · conv => rhs; unfold longF
    rw [if_pos (by omega), hn3]
  · conv => rhs; unfold longF
    rw [if_neg (by omega)]
theorem joinL_len {sep : List Int} {l : List (List Int)} {k : Nat} (h : ∀ x ∈ l, x.length ≤ k) : (joinL sep l).length ≤ l.length * (sep.length + k) := by
  cases l with
  | nil => simp [joinL]
  | cons x r =>
    have h1 := flat_len_le (f := fun y => sep ++ y) (l := r) (k := sep.length + k) (fun y hy => by
      have := h y (by simp [hy])
      rw [List.length_append]
      omega)
    have h2 := h x (by simp)
    simp only [joinL, List.length_append, List.length_cons, Nat.succ_mul]
    omega
theorem dotM_len {xs : List Int} (hl : xs.length ≤ 16) : (dotM xs).length ≤ 64 := by
  have := joinL_len (sep := [46]) (l := xs.map fun x => dec3 x.toNat) (k := 3) (fun x hx => by
    obtain ⟨y, _, rfl⟩ := List.mem_map.1 hx
    rw [dec3_len]
    unfold ndig
    split
    · omega
    · split <;> omega)
  rw [List.length_map] at this
  unfold dotM
  simp only [List.length_cons, List.length_nil] at this
  omega
theorem colM_len {gs : List Nat} (hl : gs.length ≤ 16) : (colM gs).length ≤ 80 := by
  have := joinL_len (sep := [58]) (l := gs.map hex4) (k := 4) (fun x hx => by
    obtain ⟨y, _, rfl⟩ := List.mem_map.1 hx
    exact (hexL_len 3 y).2)
  rw [List.length_map] at this
  unfold colM
  simp only [List.length_cons, List.length_nil] at this
  omega
theorem bor_byte (x y : Nat) (hx : x < 256) (hy : y < 256) : bor .i64 (IntKind.wrap .i64 (IntKind.wrap .i64 (x : Int) * 2 ^ 8)) (IntKind.wrap .i64 (y : Int)) = ((256 * x + y : Nat) : Int) := by
  have e1 : IntKind.wrap .i64 (x : Int) = x := wrap_i64 (by omega) (by omega)
  have e2 : IntKind.wrap .i64 (y : Int) = y := wrap_i64 (by omega) (by omega)
  have e3 : IntKind.wrap .i64 ((x : Int) * 2 ^ 8) = ((256 * x : Nat) : Int) := by
    rw [wrap_i64 (by omega) (by omega)]
    omega
  rw [e1, e2, e3]
  have e : (BitVec.ofInt 64 ((256 * x : Nat) : Int) ||| BitVec.ofInt 64 (y : Int)).toNat = 256 * x + y := by
    rw [BitVec.toNat_or, BitVec.toNat_ofInt, BitVec.toNat_ofInt]
    have h1 : ((((256 * x : Nat) : Int) % ((2 ^ 64 : Nat) : Int)).toNat) = x <<< 8 := by
      rw [Nat.shiftLeft_eq]
      omega
    have h2 : (((y : Int) % ((2 ^ 64 : Nat) : Int)).toNat) = y := by omega
    rw [h1, h2, ← Nat.shiftLeft_add_eq_or_of_lt (by omega), Nat.shiftLeft_eq]
    omega
  show IntKind.wrap .i64 (((BitVec.ofInt 64 ((256 * x : Nat) : Int) ||| BitVec.ofInt 64 (y : Int)).toNat : Nat) : Int) = _
  rw [e]
  exact wrap_i64 (by omega) (by omega)
theorem WP.cutall {β : Type} {a : Addr} {C n : Nat} {f : Sl → M β} {Q : β → World → Prop} (g : WP (f ⟨some a, C, C⟩) w Q) : WP (Lx.cut n ⟨some a, C, C⟩ none none none >>= f) w Q := by
  refine WP.bind ⟨_, w, ?_, g⟩
  unfold Lx.cut
  simp only [Option.getD_none]
  rw [if_pos (by omega)]
  simp [Addr.add]
theorem PrintIP_wp (s : Ss W Hs w) (t : Nat) (et : nth Hs t = some TabN) (ip : api_IP) (hb : Byt ip.A.l) : WP (addr_PrintIP ip) w (fun r w' => r = piM ip ∧ Ss W Hs w') := by
  unfold addr_PrintIP
  refine WP.newv s (fun b w s => WP.ld s 0 rfl (o := 0) (by simp [Addr.add]) (At.whole _) (WP.step (Valid_wp s ip) ?_))
  rintro _ w ⟨rfl, s⟩
  refine WP.ite (fun h => WP.ret ⟨?_, s.drop⟩) (fun h => ?_)
  · unfold piM
    rw [if_neg (fun h' => h (decide_eq_true h'))]
  have hv : sizeM ip > 0 := of_decide_eq_true (Decidable.not_not.1 h)
  have fin : ∀ {r : ByteArray × Int}, r = (bstr (prIP ip), 0) → r = piM ip := fun h => by
    unfold piM
    rw [if_pos hv]
    exact h
  have rdA : Rdb (pts true (pt b 0) (c_api_IP.enc ip)) (cI .u8) ⟨some ((pt b 0).add 1), ip.A.l.length, 16⟩ ip.A.l := by
    refine Holds.rdb ((Holds.pts (q := true) (a := pt b 0)).at_ ?_)
    rw [← Cod.arr_enc]
    exact At_api_IP_A ip
  have hl16 := ip.A.h
  refine WP.ld s 0 rfl (o := 0) (by simp [Addr.add]) (At_api_IP_V _) ?_
  refine WP.ite (fun h4 => ?_) (fun h4 => ?_)
  · refine WP.cutpre (by omega) (by simp only; omega) (WP.step (dotted_wp s (t + 1) et 0 rfl (rdA.take (k := 4) (n := 16) (by omega)) (fun x hx => hb x (List.mem_of_mem_take hx)) (by rw [List.length_take]; omega)) ?_)
    rintro _ w ⟨rfl, s⟩
    refine WP.ret ⟨fin ?_, s.drop⟩
    unfold prIP
    rw [if_pos h4]
  refine WP.cutpre (by omega) (by simp only; omega) (WP.bind (WP.chk (by simp) ?_))
  have hl12 : (ip.A.l.take 12).length = 12 := by rw [List.length_take]; omega
  have hat : At (c_api_IP.enc ip) 1 (((cI .u8).arr 12).enc ⟨ip.A.l.take 12, hl12⟩) := by
    have h1 : At (((cI .u8).arr 16).enc ip.A) 0 (((cI .u8).arr 12).enc ⟨ip.A.l.take 12, hl12⟩) := by
      rw [Cod.arr_enc, Cod.arr_enc]
      refine ⟨[], (ip.A.l.drop 12).flatMap (cI .u8).enc, ?_, rfl⟩
      rw [List.nil_append, ← List.flatMap_append, List.take_append_drop]
    exact (At_api_IP_A ip).trans h1
  refine ⟨(pt b 0).add 1, w, rfl, ?_⟩
  refine WP.ld s 0 rfl (o := 1) rfl hat ?_
  have hm : (⟨ip.A.l.take 12, hl12⟩ : Vec Int 12) = (⟨[0, 0, 0, 0, 0, 0, 0, 0, 0, 0, 255, 255], rfl⟩ : Vec Int 12) ↔ ip.A.l.take 12 = [0, 0, 0, 0, 0, 0, 0, 0, 0, 0, 255, 255] := ⟨fun h => congrArg Vec.l h, fun h => Vec.eq h⟩
  refine WP.ite (fun hf => ?_) (fun hf => ?_)
  · refine WP.cutsuf (by omega) (by simp) (by simp) ?_
    have rd := rdA.drop (k := 12) (by omega) (by simp only; omega)
    have rd : Rdb (pts true (pt b 0) (c_api_IP.enc ip)) (cI .u8) ⟨if 16 = 12 then some ((pt b 0).add 1) else (some ((pt b 0).add 1)).map (·.add (12 * 1)), ip.A.l.length - 12, 16 - 12⟩ (ip.A.l.drop 12) := rd
    rw [hl16] at rd
    refine WP.step (dotted_wp s (t + 1) et 0 rfl rd (fun x hx => hb x (List.mem_of_mem_drop hx)) (by rw [List.length_drop]; omega)) ?_
    rintro _ w ⟨rfl, s⟩
    have hsz : (str9).size = 7 := by decide +kernel
    have hlen := dotM_len (xs := ip.A.l.drop 12) (by rw [List.length_drop]; omega)
    refine WP.chk (by rw [bstr_size, hsz]; omega) (WP.ret ⟨fin ?_, s.drop⟩)
    have e : str9 = bstr [58, 58, 102, 102, 102, 102, 58] := by decide +kernel
    rw [e, catb]
    unfold prIP
    rw [if_neg h4, if_pos (hm.1 hf)]
  have hf' := fun h => hf (hm.2 h)
  have hg := grps_len ip.A.l
  refine WP.newv s (fun b2 w s => ?_)
  have s : Ss W (pts true (pt b2 0) ((((grps ip.A.l).take 0).map (fun x : Nat => (x : Int)) ++ List.replicate 8 (0 : Int)).flatMap (cI .i64).enc) :: pts true (pt b 0) (c_api_IP.enc ip) :: Hs) w := by
    rw [Cod.arr_enc] at s
    exact s
  refine WP.loopG (γ := Nat) (fun i (p : Int) w => p = (i : Int) ∧ i ≤ 8 ∧ Ss W (pts true (pt b2 0) ((((grps ip.A.l).take i).map (fun x : Nat => (x : Int)) ++ List.replicate (8 - i) (0 : Int)).flatMap (cI .i64).enc) :: pts true (pt b 0) (c_api_IP.enc ip) :: Hs) w) (fun i _ => 8 - i) 0 ⟨rfl, by omega, s⟩ ?_
  clear s
  rintro i _ w ⟨rfl, hi, s⟩
  show WP (addr_PrintIP.L1 b b2 (i : Int)) w _
  unfold addr_PrintIP.L1
  refine WP.ite (fun h => WP.draw' s (fun w s => ?_)) (fun h => ?_)
  · have hi8 : i < 8 := by omega
    have ei : IntKind.wrap .i64 (2 * (i : Int)) = ((2 * i : Nat) : Int) := by
      rw [wrap_i64 (by omega) (by omega)]
      omega
    have ei2 : IntKind.wrap .i64 (((2 * i : Nat) : Int) + 1) = ((2 * i + 1 : Nat) : Int) := by
      rw [wrap_i64 (by omega) (by omega)]
      omega
    rw [ei, ei2]
    have gx : ∀ k, k < 16 → At (c_api_IP.enc ip) (1 + k * 1) ((cI .u8).enc (ip.A.l.getD k 0)) := fun k hk => by
      have h1 : At (((cI .u8).arr 16).enc ip.A) ((k : Int).toNat * (cI .u8).n) ((cI .u8).enc (ip.A.g (k : Int) 0)) := At.arr (by omega) (by omega)
      rw [Int.toNat_natCast] at h1
      exact (At_api_IP_A ip).trans h1
    refine WP.idx (by omega) (by omega) (WP.ld s 1 rfl (o := 1 + 2 * i * 1) (by rw [Int.toNat_natCast, add_add]) (gx _ (by omega)) ?_)
    refine WP.idx (by omega) (by omega) (WP.ld s 1 rfl (o := 1 + (2 * i + 1) * 1) (by rw [Int.toNat_natCast, add_add]) (gx _ (by omega)) ?_)
    have c1 := getD_byt hb (2 * i)
    have c2 := getD_byt hb (2 * i + 1)
    have eb := bor_byte (ip.A.l.getD (2 * i) 0).toNat (ip.A.l.getD (2 * i + 1) 0).toNat (by omega) (by omega)
    rw [show (((ip.A.l.getD (2 * i) 0).toNat : Nat) : Int) = ip.A.l.getD (2 * i) 0 by omega, show (((ip.A.l.getD (2 * i + 1) 0).toNat : Nat) : Int) = ip.A.l.getD (2 * i + 1) 0 by omega] at eb
    rw [eb]
    have hlt : ((grps ip.A.l).take i).length = i := by rw [List.length_take]; omega
    refine WP.idx (by omega) (by omega) (WP.st s 0 rfl (o := i * 1) (by rw [Int.toNat_natCast]) (upd_r (c := cI .i64) _ (by simp only [List.length_append, List.length_map, List.length_replicate, hlt]; omega)) (fun w s => WP.next ⟨i + 1, ⟨?_, by omega, ?_⟩, by omega⟩))
    · rw [wrap_i64 (by omega) (by omega)]
      simp
    · have hgi : (grps ip.A.l)[i]? = some (grp ip.A.l i) := by
        unfold grps
        rw [List.getElem?_map, List.getElem?_range hi8]
        rfl
      have e : (((grps ip.A.l).take i).map (fun x : Nat => (x : Int)) ++ List.replicate (8 - i) (0 : Int)).set i ((256 * (ip.A.l.getD (2 * i) 0).toNat + (ip.A.l.getD (2 * i + 1) 0).toNat : Nat) : Int) = ((grps ip.A.l).take (i + 1)).map (fun x : Nat => (x : Int)) ++ List.replicate (8 - (i + 1)) (0 : Int) := by
        rw [List.set_append_right _ _ (by rw [List.length_map, hlt]; exact Nat.le_refl _), List.length_map, hlt, Nat.sub_self, show 8 - i = (8 - (i + 1)) + 1 by omega, List.replicate_succ, List.set_cons_zero, List.take_add_one, hgi]
        simp [grp]
      rw [e] at s
      exact s
  · have hi8 : i = 8 := by omega
    subst hi8
    refine WP.step ?_ (fun r w h => WP.done h)
    have ht8 : (grps ip.A.l).take 8 = grps ip.A.l := List.take_of_length_le (by omega)
    have s : Ss W (pts true (pt b2 0) (((grps ip.A.l).map (fun x : Nat => (x : Int))).flatMap (cI .i64).enc) :: pts true (pt b 0) (c_api_IP.enc ip) :: Hs) w := by
      rw [ht8] at s
      simpa using s
    have hlv : ((grps ip.A.l).map (fun x : Nat => (x : Int))).length = 8 := by rw [List.length_map, hg]
    unfold addr_PrintIP.K1
    refine WP.ld s 0 rfl (o := 0) (by simp [Addr.add]) (x := (⟨(grps ip.A.l).map (fun x : Nat => (x : Int)), hlv⟩ : Vec Int 8)) (by rw [Cod.arr_enc]; exact At.whole _) ?_
    refine WP.step (longest_wp s (grps ip.A.l) hg _ rfl) ?_
    rintro _ w ⟨rfl, s⟩
    have hinv := longF_inv hg 8 (Nat.le_refl _)
    have hinv : -1 ≤ (longM (grps ip.A.l)).1 ∧ (longM (grps ip.A.l)).1 ≤ 7 ∧ 1 ≤ (longM (grps ip.A.l)).2 ∧ (longM (grps ip.A.l)).2 ≤ 8 ∧ (0 ≤ (longM (grps ip.A.l)).1 → (longM (grps ip.A.l)).1 + (longM (grps ip.A.l)).2 ≤ 8) := hinv
    have hgb := grps_lt hb
    have rdG : Rdb (pts true (pt b2 0) (((grps ip.A.l).map (fun x : Nat => (x : Int))).flatMap (cI .i64).enc)) (cI .i64) ⟨some (pt b2 0), 8, 8⟩ ((grps ip.A.l).map (fun x : Nat => (x : Int))) := by
      have := (Holds.pts (q := true) (a := pt b2 0) (L := ((grps ip.A.l).map (fun x : Nat => (x : Int))).flatMap (cI .i64).enc)).rdb (c := cI .i64) (k := 8)
      rw [hlv] at this
      exact this
    refine WP.ite (fun hn => ?_) (fun hn => ?_)
    · refine WP.cutall (WP.step (colons_wp s (t + 2) et (xs := grps ip.A.l) 0 rfl rdG hgb (by omega)) ?_)
      rintro _ w ⟨rfl, s⟩
      refine WP.ret ⟨fin ?_, s.drop.drop⟩
      unfold prIP
      rw [if_neg h4, if_neg hf', if_pos hn]
    · obtain ⟨at_, hat_⟩ : ∃ k : Nat, (longM (grps ip.A.l)).1 = (k : Int) := ⟨(longM (grps ip.A.l)).1.toNat, by omega⟩
      simp only
      have hat8 : at_ + (longM (grps ip.A.l)).2 ≤ 8 := by omega
      rw [hat_]
      refine WP.draw' s (fun w s => WP.cutpre (by omega) (by simp only; omega) ?_)
      have r1 := rdG.take (k := at_) (n := 8) (by omega)
      rw [← List.map_take] at r1
      refine WP.step (colons_wp s (t + 2) et (xs := (grps ip.A.l).take at_) 0 rfl r1 (fun x hx => hgb x (List.mem_of_mem_take hx)) (by rw [List.length_take]; omega)) ?_
      rintro _ w ⟨rfl, s⟩
      have l1 := colM_len (gs := (grps ip.A.l).take at_) (by rw [List.length_take]; omega)
      have hsz : (str0).size = 2 := by decide +kernel
      refine WP.chk (by rw [bstr_size, hsz]; omega) ?_
      have ew : IntKind.wrap .i64 ((at_ : Int) + ((longM (grps ip.A.l)).2 : Int)) = ((at_ + (longM (grps ip.A.l)).2 : Nat) : Int) := by
        rw [wrap_i64 (by omega) (by omega)]
        omega
      rw [ew]
      refine WP.cutsuf (by omega) (by simp only; omega) (by simp) ?_
      have r2 := rdG.drop (k := at_ + (longM (grps ip.A.l)).2) (by omega) (by simp)
      rw [← List.map_drop] at r2
      refine WP.step (colons_wp s (t + 2) et (xs := (grps ip.A.l).drop (at_ + (longM (grps ip.A.l)).2)) 0 rfl r2 (fun x hx => hgb x (List.mem_of_mem_drop hx)) (by rw [List.length_drop]; omega)) ?_
      rintro _ w ⟨rfl, s⟩
      have l2 := colM_len (gs := (grps ip.A.l).drop (at_ + (longM (grps ip.A.l)).2)) (by rw [List.length_drop]; omega)
      have e3 : str0 = bstr [58, 58] := by decide +kernel
      rw [e3, catb]
      refine WP.chk (by rw [bstr_size, bstr_size, List.length_append]; simp only [List.length_cons, List.length_nil]; omega) (WP.ret ⟨fin ?_, s.drop.drop⟩)
      rw [catb]
      unfold prIP
      rw [if_neg h4, if_neg hf', if_neg hn, hat_, Int.toNat_natCast]
end
end Go.Proofs.YtddmmgcfanpmmaaGreatDoor.Lx
