/- What Crash of the package disk, and Write of its reference, compute. No claim of its own. -/
import Derived.Test.YtfehckdcjgmcpaaADisk5
namespace Go.Proofs.Ytfehckdcjgmcpaa
open Go.Am

theorem over2 {L : List V} {l t : List UInt8} {i len off n : Nat} (hL : L = bytesV l) (ho : off = i) (hn : n = t.length) (hlen : t.length ≤ len) (h : i + t.length ≤ l.length) :
    L.take off ++ (bytesV t).take (min n len * 1) ++ L.drop (off + min n len * 1) = bytesV (Gw.Disk.over l i t) := by
  subst hL ho hn
  have e : min t.length len * 1 = t.length := by omega
  rw [e, List.take_of_length_le (l := bytesV t) (by rw [bytesV_len]; exact Nat.le_refl _)]
  unfold Gw.Disk.over
  rw [bytesV_append, bytesV_append, bytesV_take, bytesV_drop]

theorem crash_pc (nil : Bool) (d : Gw.Disk.Disk) (s : ByteArray) (hn : nil = true → d.loose = []) (hsz : I64 d.size) (hl : d.loose.length ≤ 1048576) (hs : s.size ≤ 1048576) : PC Try.prog 21 [encD nil d, .str s.data.toList] (encD (if Gw.Disk.check d = true then true else nil) (Gw.Disk.crash d s)) := by
  have hck := check_pc nil d hsz hl
  have hsa := same_pc nil d hn (by omega)
  have hsp := fun hc => Gw.Disk.check_spec (d := d) hc
  have hsl : s.data.toList.length = s.size := rfl
  unfold Gw.Disk.crash
  generalize Gw.Disk.check d = q at hck hsp ⊢
  obtain ⟨size, firm, loose⟩ := d
  have hck : PC Try.prog _ [.agg [.int .i64 size, .str firm.data.toList, .lst nil 2 (loose.map encP) .none]] _ := hck
  have hsa : PC Try.prog _ [.agg [.int .i64 size, .str firm.data.toList, .lst nil 2 (loose.map encP) .none]] (.agg [.int .i64 size, .str firm.data.toList, .lst nil 2 (loose.map encP) .none]) := hsa
  show PC Try.prog _ [.agg [.int .i64 size, .str firm.data.toList, .lst nil 2 (loose.map encP) .none], .str s.data.toList] _
  simp only at hl
  refine PC.ofS tabOk mixed (fn := Try.f21) (by kernel_rfl) rfl (by kernel_rfl) rfl rfl ?_
  conv => whnf
  refine AC.of_pc hck rfl ?_
  conv => whnf
  refine ⟨fun h1 => ?_, fun h1 => ?_⟩
  · have h1 : q = false := by simpa using h1
    conv => whnf
    refine AC.of_pc hsa rfl ?_
    conv => whnf
    rw [h1]
    exact SubV.refl _
  have h1 : q = true := by simpa using h1
  rw [h1]
  obtain ⟨z1, z2, z3, z4⟩ := hsp h1
  simp only at z1 z2 z3 z4
  have hfl : firm.data.toList.length = firm.size := rfl
  conv => whnf
  refine AW.loop (fun k : Nat => [(.tmp 1, .v (.str s.data.toList)), (.tmp 2, .v (.ptr 0 0)), (.tmp 4, .v (.ptr 1 0)), (.tmp 5, .v (.own 6 0 1 firm.data.toList.length true)), (.tmp 20, .v (.int .i64 (loose.map encP).length)), (.tmp 21, .v (.int .i64 k)),
    (.blk 0, .box 24 [.int .i64 size, .str firm.data.toList, .lst nil 2 (loose.map encP) .none]), (.blk 1, .box 24 [.int .i64 0, .str [], .lst true 1 [] .tight]),
    (.blk 6, .mem 5 (bytesV (Gw.Disk.crashed s loose k firm.data.toList)))]) 7 (fun k => k ≤ loose.length) (fun k => loose.length - k) (by decide) 0 (Nat.zero_le _)
    ⟨rfl, rfl, rfl, rfl, rfl, rfl, rfl, rfl, rfl, rfl, rfl, rfl, rfl, rfl, rfl, rfl, rfl, rfl, trivial⟩ ?_
  rintro k hk
  have hcl : ∀ k, k ≤ loose.length → (Gw.Disk.crashed s loose k firm.data.toList).length = firm.data.toList.length := fun k hk => Gw.Disk.crashed_length s loose k _ (fun i hi => by
      have hz := z4 _ (List.getElem_mem (show i < loose.length by omega))
      rw [List.getD_eq_getElem?_getD, List.getElem?_eq_getElem (by omega)]
      simp only [Option.getD_some]
      omega)
  have hcl := hcl k hk
  refine ev_sound tabOk mixed _ _ _ _ ?_
  conv => whnf
  refine ⟨fun h => ?_, fun h => ?_⟩
  · have h := of_decide_eq_true h
    rw [List.length_map] at h
    have hlt : k < loose.length := by omega
    have hz := z4 _ (List.getElem_mem hlt)
    have hcs := Gw.Disk.crashed_succ s loose k firm.data.toList
    rw [List.getD_eq_getElem?_getD (l := loose), List.getElem?_eq_getElem hlt, Option.getD_some] at hcs
    obtain ⟨⟨pa, data⟩, hp⟩ : ∃ p, loose[k] = p := ⟨_, rfl⟩
    have hel : (loose.map encP)[k]? = some [.int .i64 pa, .str data.data.toList] := by rw [encP_get hlt, hp]; rfl
    rw [hp] at hz hcs
    simp only at hz
    have hds : data.size = data.data.toList.length := rfl
    obtain ⟨a, rfl⟩ := Int.eq_ofNat_of_zero_le hz.1
    generalize Gw.Disk.crashed s loose k firm.data.toList = cur at hcl hcs
    have w1 : IntKind.i64.wrap ((a : Int) * 16) = (a : Int) * 16 := w64 (by omega) (by omega)
    have hpo : Gw.Disk.pickOf s k = if k < s.size then (s.data.toList.getD k 0).toNat % 3 else 0 := rfl
    conv => whnf
    refine ⟨_, ⟨by omega, hel⟩, ?_⟩
    conv => whnf
    refine ⟨fun h2 => ?_, fun h2 => ?_⟩
    · have h2 := of_decide_eq_true h2
      have hks : k < s.data.toList.length := by omega
      obtain ⟨c, hc⟩ : ∃ c, s.data.toList[k]? = some c := ⟨_, List.getElem?_eq_getElem hks⟩
      rw [if_pos (by omega), List.getD_eq_getElem?_getD, hc, Option.getD_some] at hpo
      have hcc := c.toNat_lt
      have hw3 : (IntKind.i64.wrap ((c.toNat : Nat) : Int)).tmod 3 = ((c.toNat % 3 : Nat) : Int) := by rw [w64 (by omega) (by omega), tmod_pos (by omega)]; rfl
      conv => whnf
      refine ⟨c, ⟨by omega, hc⟩, ?_⟩
      conv => whnf
      rw [w1]
      refine ⟨by omega, ?_⟩
      conv => whnf
      refine ⟨by omega, ?_⟩
      conv => whnf
      refine ⟨fun h3 => ?_, fun h3 => ?_⟩
      · rw [hw3] at h3
        have h3 : c.toNat % 3 = 1 := by have : ((c.toNat % 3 : Nat) : Int) = 1 := by simpa using h3
                                        omega
        have hpick : Gw.Disk.pickOf s k = 1 := by omega
        conv => whnf
        refine ⟨by omega, ?_⟩
        conv => whnf
        refine ⟨by omega, ?_⟩
        conv => whnf
        refine ⟨by rw [bytesV_len]; omega, ?_⟩
        conv => whnf
        refine ⟨by kernel_rfl, ?_⟩
        conv => whnf
        refine ⟨by omega, ?_⟩
        conv => whnf
        refine ⟨by simp only [List.length_append, List.length_take, List.length_drop, bytesV_len]; omega, ?_⟩
        conv => whnf
        refine ⟨k + 1, by show k + 1 ≤ _; omega, by show _ - (k + 1) < _ - k; omega, rfl, rfl, rfl, rfl, rfl, rfl, rfl, rfl, rfl, rfl, ?_, rfl, rfl, rfl, rfl, rfl, ?_, rfl, trivial⟩
        · show C.v (V.int .i64 (IntKind.i64.wrap ((k : Int) + 1))) = _
          rw [w64 (by omega) (by omega)]; rfl
        · rw [hcs, hpick]
          show C.mem _ _ = C.mem _ (bytesV (Gw.Disk.over cur (a * 16) data.data.toList))
          rw [← Gw.Disk.over_halves cur (a * 16) data.data.toList (by omega) (by omega)]
          congr 1
          refine over2 (i := a * 16) (over2 (i := a * 16 + 8) (t := data.data.toList.drop 8) rfl ?_ ?_ ?_ ?_) ?_ ?_ ?_ ?_
          · omega
          · rfl
          · rw [List.length_drop]; omega
          · rw [List.length_drop]; omega
          · omega
          · rfl
          · show (data.data.toList.take 8).length ≤ 16; rw [List.length_take]; omega
          · show _ + (data.data.toList.take 8).length ≤ _
            rw [Gw.Disk.over_length _ _ _ (by rw [List.length_drop]; omega), List.length_take]; omega
      · rw [hw3] at h3
        have h3 : c.toNat % 3 ≠ 1 := by
          intro e; rw [e] at h3; simp at h3
        conv => whnf
        refine ⟨fun h5 => ?_, fun h5 => ?_⟩
        · rw [hw3] at h5
          have h5 : c.toNat % 3 = 2 := by have : ((c.toNat % 3 : Nat) : Int) = 2 := by simpa using h5
                                          omega
          have hpick : Gw.Disk.pickOf s k = 2 := by omega
          conv => whnf
          refine ⟨by omega, ?_⟩
          conv => whnf
          refine ⟨by rw [bytesV_len]; omega, ?_⟩
          conv => whnf
          refine ⟨k + 1, by show k + 1 ≤ _; omega, by show _ - (k + 1) < _ - k; omega, rfl, rfl, rfl, rfl, rfl, rfl, rfl, rfl, rfl, rfl, ?_, rfl, rfl, rfl, rfl, rfl, ?_, rfl, trivial⟩
          · show C.v (V.int .i64 (IntKind.i64.wrap ((k : Int) + 1))) = _
            rw [w64 (by omega) (by omega)]; rfl
          · rw [hcs, hpick]
            show C.mem _ _ = C.mem _ (bytesV (Gw.Disk.over cur (a * 16) (data.data.toList.take 8)))
            congr 1
            refine over2 (i := a * 16) rfl ?_ ?_ ?_ ?_
            · omega
            · rfl
            · show (data.data.toList.take 8).length ≤ 16; rw [List.length_take]; omega
            · rw [List.length_take]; omega
        · rw [hw3] at h5
          have h5 : c.toNat % 3 ≠ 2 := by
            intro e; rw [e] at h5; simp at h5
          have hpick : Gw.Disk.pickOf s k = 0 := by omega
          conv => whnf
          refine ⟨k + 1, by show k + 1 ≤ _; omega, by show _ - (k + 1) < _ - k; omega, rfl, rfl, rfl, rfl, rfl, rfl, rfl, rfl, rfl, rfl, ?_, rfl, rfl, rfl, rfl, rfl, ?_, rfl, trivial⟩
          · show C.v (V.int .i64 (IntKind.i64.wrap ((k : Int) + 1))) = _
            rw [w64 (by omega) (by omega)]; rfl
          · rw [hcs, hpick]
            rfl
    · have h2 := of_decide_eq_false h2
      have hpick : Gw.Disk.pickOf s k = 0 := by rw [hpo, if_neg (by omega)]
      conv => whnf
      rw [w1]
      refine ⟨by omega, ?_⟩
      conv => whnf
      refine ⟨by omega, ?_⟩
      conv => whnf
      refine ⟨fun h3 => absurd h3 (by decide), fun h3 => ?_⟩
      conv => whnf
      refine ⟨fun h3 => absurd h3 (by decide), fun h3 => ?_⟩
      conv => whnf
      refine ⟨k + 1, by show k + 1 ≤ _; omega, by show _ - (k + 1) < _ - k; omega, rfl, rfl, rfl, rfl, rfl, rfl, rfl, rfl, rfl, rfl, ?_, rfl, rfl, rfl, rfl, rfl, ?_, rfl, trivial⟩
      · show C.v (V.int .i64 (IntKind.i64.wrap ((k : Int) + 1))) = _
        rw [w64 (by omega) (by omega)]; rfl
      · rw [hcs, hpick]
        rfl
  · have h := of_decide_eq_false h
    rw [List.length_map] at h
    obtain rfl : k = loose.length := by omega
    conv => whnf
    refine ⟨Gw.Disk.crashed s loose loose.length firm.data.toList, bytesV_all' hcl.symm, ?_⟩
    conv => whnf
    exact SubV.agg (.cons (.of_eq rfl) (.cons (.of_eq rfl) (.cons (.nil _ _ _) .nil)))
theorem rwrite_pc (nil : Bool) (d : Gw.Disk.Disk) (at_ : Int) (s : ByteArray) (hsz : I64 d.size) (hf : d.size ≤ 65536) (ha : I64 at_) (hl : d.loose.length ≤ 1048576) (hs : s.size ≤ 1048576) :
    PC Try.prog 13 [encD nil d, .int .i64 at_, .str s.data.toList] (.tup [encD (if Gw.Disk.writeErr d at_ s = 0 then false else nil) (Gw.Disk.write d at_ s), .int .i64 (Gw.Disk.writeErr d at_ s)]) := by
  have hck := rcheck_pc nil d hsz hl hf
  have hsp := fun hc => Gw.Disk.check_spec (d := d) hc
  have hsl : s.data.toList.length = s.size := rfl
  have hmb : Gw.Disk.manyOf s ≤ 65537 := by unfold Gw.Disk.manyOf; omega
  have hwe : Gw.Disk.writeErr d at_ s = if Gw.Disk.check d = false ∨ at_ < 0 then 121 else if d.size - (Gw.Disk.manyOf s : Int) < at_ then 120 else 0 := rfl
  unfold I64 at ha
  unfold Gw.Disk.write
  generalize Gw.Disk.check d = q at hck hsp hwe
  obtain ⟨size, firm, loose⟩ := d
  have hck : PC Try.prog _ [.agg [.int .i64 size, .str firm.data.toList, .lst nil 2 (loose.map encP) .none]] _ := hck
  show PC Try.prog _ [.agg [.int .i64 size, .str firm.data.toList, .lst nil 2 (loose.map encP) .none], .int .i64 at_, .str s.data.toList] _
  simp only at hl
  refine PC.ofS tabOk mixed (fn := Try.f13) (by kernel_rfl) rfl (by kernel_rfl) rfl rfl ?_
  conv => whnf
  refine AC.of_pc hck rfl ?_
  conv => whnf
  refine ⟨fun h1 => ?_, fun h1 => ?_⟩
  · have h1 : q = false := by simpa using h1
    conv => whnf
    have e : Gw.Disk.writeErr ⟨size, firm, loose⟩ at_ s = 121 := by rw [hwe, if_pos (.inl h1)]
    rw [e, if_neg (by decide), if_neg (by decide)]
    exact SubV.refl _
  have h1 : q = true := by simpa using h1
  obtain ⟨z1, z2, z3, z4⟩ := hsp h1
  simp only at z1 z2 z3 z4 hwe
  conv => whnf
  refine ⟨fun h2 => ?_, fun h2 => ?_⟩
  · have h2 := of_decide_eq_true h2
    conv => whnf
    have e : Gw.Disk.writeErr ⟨size, firm, loose⟩ at_ s = 121 := by rw [hwe, if_pos (.inr h2)]
    rw [e, if_neg (by decide), if_neg (by decide)]
    exact SubV.refl _
  have h2 := of_decide_eq_false h2
  rw [if_neg (by rw [h1]; simp; omega)] at hwe
  have hz : (IntKind.i64.wrap (16 - ((s.data.toList.length : Nat) : Int).tmod 16)).tmod 16 = ((Gw.Disk.manyOf s * 16 - s.data.toList.length : Nat) : Int) := by
    rw [tmod_pos (a := ((s.data.toList.length : Nat) : Int)) (by omega), w64 (by omega) (by omega), tmod_pos (by omega), hsl]; unfold Gw.Disk.manyOf; omega
  have hpd : s.data.toList ++ List.replicate ((Gw.Disk.manyOf s * 16 - s.data.toList.length : Nat) : Int).toNat 0 = Gw.Disk.pad s := by rw [Int.toNat_natCast]; rfl
  have hpl := Gw.Disk.pad_length s
  have hzz := zeros_pc ((Gw.Disk.manyOf s * 16 - s.data.toList.length : Nat) : Int) (by rw [hsl]; unfold Gw.Disk.manyOf; omega)
  conv => whnf
  rw [hz]
  refine AC.of_pc hzz rfl ?_
  conv => whnf
  rw [hpd]
  refine ⟨by rw [List.length_replicate]; omega, ?_⟩
  have hq : IntKind.i64.wrap (((Gw.Disk.pad s).length : Int).tdiv 16) = (Gw.Disk.manyOf s : Int) := by rw [tdiv_pos (by omega), hpl, w64 (by omega) (by omega)]; omega
  have w1 : IntKind.i64.wrap (size - (Gw.Disk.manyOf s : Int)) = size - (Gw.Disk.manyOf s : Int) := w64 (by omega) (by omega)
  have w4 : IntKind.i64.wrap (size - at_) = size - at_ := w64 (by omega) (by omega)
  conv => whnf
  refine ⟨fun h3 => ?_, fun h3 => ?_⟩
  · have h3 := of_decide_eq_true h3
    conv => whnf
    have e : Gw.Disk.writeErr ⟨size, firm, loose⟩ at_ s = 120 := by rw [hwe, if_pos (by omega)]
    rw [e, if_neg (by decide), if_neg (by decide)]
    exact SubV.refl _
  have h3 := of_decide_eq_false h3
  conv => whnf
  rw [w4, hq]
  refine ⟨fun h4 => ?_, fun h4 => ?_⟩
  · have h4 := of_decide_eq_true h4
    conv => whnf
    have e : Gw.Disk.writeErr ⟨size, firm, loose⟩ at_ s = 120 := by rw [hwe, if_pos (by omega)]
    rw [e, if_neg (by decide), if_neg (by decide)]
    exact SubV.refl _
  have h4 := of_decide_eq_false h4
  rw [if_neg (by omega)] at hwe
  rw [hwe, if_pos rfl, if_pos rfl]
  conv => whnf
  refine ⟨fits_small (by rw [List.length_map]; simp only [List.length_nil]; omega) (by decide), ?_⟩
  conv => whnf
  refine AW.loop (fun k : Nat => [(.tmp 1, .v (.int .i64 at_)), (.tmp 3, .v (.ptr 0 0)), (.tmp 6, .v (.ptr 1 0)), (.tmp 7, .v (.int .i64 0)), (.tmp 9, .v (.str (Gw.Disk.pad s))), (.tmp 10, .v (.int .i64 (Gw.Disk.manyOf s))), (.tmp 11, .v (.lst false 2 ((loose ++ Gw.Disk.wrote at_ s k).map encP) (.row 38))), (.tmp 12, .v (.int .i64 k)),
    (.row 38, .row 40 2 (loose.length + k)), (.blk 0, .box 24 [.int .i64 size, .str firm.data.toList, .lst nil 2 (loose.map encP) .none]), (.blk 1, .box 24 [.int .i64 0, .str [], .lst true 1 [] .tight])]) 39 (fun k => k ≤ Gw.Disk.manyOf s) (fun k => Gw.Disk.manyOf s - k) (by decide) 0 (Nat.zero_le _)
    ⟨rfl, rfl, rfl, rfl, rfl, rfl, rfl, rfl, ?_, rfl, ?_, rfl, ?_, rfl, rfl, rfl, ?_, rfl, rfl, rfl, rfl, rfl, trivial⟩ ?_
  · show C.v (V.str (s.data.toList ++ List.replicate ((Gw.Disk.manyOf s * 16 - s.data.toList.length : Nat) : Int).toNat 0)) = _
    rw [hpd]
  · show C.v (V.int .i64 (Gw.Disk.manyOf s : Int)) = _
    rfl
  · show C.v (V.lst _ 2 ([] ++ loose.map encP) _) = _
    simp [Gw.Disk.wrote]
  · show C.row _ 2 ([].length + (loose.map encP).length) = _
    rw [List.length_map, List.length_nil]; simp
  rintro k hk
  refine ev_sound tabOk mixed _ _ _ _ ?_
  conv => whnf
  refine ⟨fun h5 => ?_, fun h5 => ?_⟩
  · have h5 := of_decide_eq_true h5
    have hlt : k < Gw.Disk.manyOf s := by omega
    have hws := Gw.Disk.wrote_succ at_ s k
    have hwl := Gw.Disk.wrote_length at_ s k
    have w3 : IntKind.i64.wrap (at_ + (k : Int)) = at_ + (k : Int) := w64 (by omega) (by omega)
    have w5 : IntKind.i64.wrap (16 * (k : Int)) = 16 * (k : Int) := w64 (by omega) (by omega)
    have w6 : IntKind.i64.wrap (16 * (k : Int) + 16) = 16 * (k : Int) + 16 := w64 (by omega) (by omega)
    conv => whnf
    rw [w5, w6]
    refine ⟨by omega, ?_⟩
    have hlm : ((loose ++ Gw.Disk.wrote at_ s k).map encP).length = loose.length + k := by rw [List.length_map, List.length_append, hwl]
    conv => whnf
    refine ⟨⟨by rw [hlm], fits_small (by rw [hlm]; simp only [List.length_cons, List.length_nil]; omega) (by decide)⟩, ?_⟩
    conv => whnf
    refine ⟨k + 1, by show k + 1 ≤ _; omega, by show _ - (k + 1) < _ - k; omega, rfl, rfl, rfl, rfl, rfl, rfl, rfl, rfl, rfl, rfl, rfl, rfl, ?_, rfl, ?_, rfl, ?_, rfl, rfl, rfl, rfl, rfl, trivial⟩
    · show C.v (V.lst _ 2 ((loose ++ Gw.Disk.wrote at_ s k).map encP ++ [[.int .i64 (IntKind.i64.wrap (at_ + (k : Int))), .str (((Gw.Disk.pad s).take (16 * (k : Int) + 16).toNat).drop (16 * (k : Int)).toNat)]]) _) = _
      rw [w3, hws, ← List.append_assoc, List.map_append (l₁ := loose ++ _), show (16 * (k : Int) + 16).toNat = k * 16 + 16 by omega, show (16 * (k : Int)).toNat = k * 16 by omega, List.drop_take, show k * 16 + 16 - k * 16 = 16 by omega]
      rfl
    · show C.v (V.int .i64 (IntKind.i64.wrap ((k : Int) + 1))) = _
      rw [w64 (by omega) (by omega)]; rfl
    · show C.row _ 2 (((loose ++ Gw.Disk.wrote at_ s k).map encP).length + 1) = _
      rw [hlm]; rfl
  · have h5 := of_decide_eq_false h5
    obtain rfl : k = Gw.Disk.manyOf s := by omega
    conv => whnf
    exact SubV.refl _
end Go.Proofs.Ytfehckdcjgmcpaa
