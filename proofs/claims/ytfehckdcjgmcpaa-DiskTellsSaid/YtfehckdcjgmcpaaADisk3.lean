/- What seen, Read and Flush of the package disk compute. No claim of its own. -/
import Derived.Test.YtfehckdcjgmcpaaADisk2
namespace Go.Proofs.Ytfehckdcjgmcpaa
open Go.Am

/-- Bytes are copied into bytes. -/
theorem bytesV_over {l t : List UInt8} {i len off n : Nat} (hl : len = l.length - i) (ho : off = i) (hn : n = t.length) (h : i + t.length ≤ l.length) :
    (bytesV l).take off ++ (bytesV t).take (min n len * 1) ++ (bytesV l).drop (off + min n len * 1) = bytesV (Gw.Disk.over l i t) := by
  subst hl ho hn
  have e : min t.length (l.length - off) * 1 = t.length := by omega
  rw [e, List.take_of_length_le (l := bytesV t) (by rw [bytesV_len]; exact Nat.le_refl _)]
  unfold Gw.Disk.over
  rw [bytesV_append, bytesV_append, bytesV_take, bytesV_drop]

theorem seen_pc (nil : Bool) (d : Gw.Disk.Disk) (at_ n : Nat) (hc : Gw.Disk.check d = true) (h : ((at_ + n : Nat) : Int) ≤ d.size) (hl : d.loose.length ≤ 1048576) : PC Try.prog 29 [encD nil d, .int .i64 at_, .int .i64 n] (.str (Gw.Disk.seen d at_ n)) := by
  have hs := Gw.Disk.check_spec hc
  obtain ⟨size, firm, loose⟩ := d
  simp only at hs h hl
  obtain ⟨z1, z2, z3, z4⟩ := hs
  have hfl : firm.data.toList.length = firm.size := rfl
  show PC Try.prog _ [.agg [.int .i64 size, .str firm.data.toList, .lst nil 2 (loose.map encP) .none], .int .i64 at_, .int .i64 n] (.str (loose.foldl (Gw.Disk.lay at_ n) ((firm.data.toList.drop (at_ * 16)).take (n * 16))))
  refine PC.of tabOk mixed (fn := Try.f29) (by kernel_rfl) rfl (by kernel_rfl) rfl rfl ?_
  conv => whnf
  have w1 : IntKind.i64.wrap ((at_ : Int) * 16) = (at_ : Int) * 16 := w64 (by omega) (by omega)
  have w2 : IntKind.i64.wrap ((at_ : Int) + n) = (at_ : Int) + n := w64 (by omega) (by omega)
  have w3 : IntKind.i64.wrap (((at_ : Int) + n) * 16) = ((at_ : Int) + n) * 16 := w64 (by omega) (by omega)
  rw [w2, w3, w1]
  refine ⟨by omega, ?_⟩
  have hb : (firm.data.toList.take (((at_ : Int) + n) * 16).toNat).drop ((at_ : Int) * 16).toNat = (firm.data.toList.drop (at_ * 16)).take (n * 16) := by
    rw [show (((at_ : Int) + n) * 16).toNat = at_ * 16 + n * 16 by omega, show ((at_ : Int) * 16).toNat = at_ * 16 by omega, List.drop_take]
    congr 1
    omega
  have hbl : ((firm.data.toList.drop (at_ * 16)).take (n * 16)).length = n * 16 := by rw [List.length_take, List.length_drop]; omega
  rw [hb]
  generalize (firm.data.toList.drop (at_ * 16)).take (n * 16) = base at hbl ⊢
  conv => whnf
  refine AW.loop (fun k : Nat => [(.tmp 1, .v (.int .i64 at_)), (.tmp 2, .v (.int .i64 n)), (.tmp 7, .v (.own 11 0 1 (n * 16) true)), (.tmp 21, .v (.lst nil 2 (loose.map encP) .none)), (.tmp 22, .v (.int .i64 loose.length)), (.tmp 23, .v (.int .i64 k)),
    (.blk 11, .mem 5 (bytesV ((loose.take k).foldl (Gw.Disk.lay at_ n) base)))]) 12 (fun k => k ≤ loose.length) (fun k => loose.length - k) (by decide) 0 (Nat.zero_le _)
    ⟨rfl, rfl, rfl, rfl, ?_, rfl, rfl, rfl, ?_, rfl, rfl, rfl, rfl, rfl, trivial⟩ ?_
  · show C.v (V.own 11 0 1 base.length true) = _
    rw [hbl]
  · show C.v (V.int .i64 ((loose.map encP).length : Nat)) = _
    rw [List.length_map]
  rintro k hk
  have hlk : ((loose.take k).foldl (Gw.Disk.lay at_ n) base).length = n * 16 := Gw.Disk.foldl_lay_length at_ n _ base hbl (fun p hp => (z4 p (List.mem_of_mem_take hp)).2.2)
  refine ev_sound tabOk mixed _ _ _ _ ?_
  conv => whnf
  refine ⟨fun h4 => ?_, fun h4 => ?_⟩
  · have h4 := of_decide_eq_true h4
    have hlt : k < loose.length := by omega
    have htk : loose.take (k + 1) = loose.take k ++ [loose[k]] := List.take_succ_eq_append_getElem hlt
    have hz := z4 _ (List.getElem_mem hlt)
    obtain ⟨⟨pa, data⟩, hp⟩ : ∃ p, loose[k] = p := ⟨_, rfl⟩
    have hel : (loose.map encP)[k]? = some [.int .i64 pa, .str data.data.toList] := by rw [encP_get hlt, hp]; rfl
    rw [hp] at htk hz
    simp only at hz
    have hds : data.size = data.data.toList.length := rfl
    have hstep : (loose.take (k + 1)).foldl (Gw.Disk.lay at_ n) base = Gw.Disk.lay at_ n ((loose.take k).foldl (Gw.Disk.lay at_ n) base) (pa, data) := by rw [htk, List.foldl_append]; rfl
    generalize (loose.take k).foldl (Gw.Disk.lay at_ n) base = cur at hlk hstep ⊢
    have hcnt : ∀ c : C, c = C.v (V.int .i64 (IntKind.i64.wrap ((k : Int) + 1))) → c = C.v (V.int .i64 ((k + 1 : Nat) : Int)) := fun c e => by rw [e, w64 (by omega) (by omega)]; rfl
    conv => whnf
    refine ⟨_, ⟨by omega, hel⟩, ?_⟩
    conv => whnf
    refine ⟨fun h5 => ?_, fun h5 => ?_⟩
    · have h5 := of_decide_eq_true h5
      conv => whnf
      rw [w2]
      refine ⟨fun h6 => ?_, fun h6 => ?_⟩
      · have h6 := of_decide_eq_true h6
        conv => whnf
        have w4 : IntKind.i64.wrap (pa - at_) = pa - at_ := w64 (by omega) (by omega)
        have w5 : IntKind.i64.wrap ((pa - at_) * 16) = (pa - at_) * 16 := w64 (by omega) (by omega)
        rw [w4, w5]
        refine ⟨by omega, ?_⟩
        conv => whnf
        refine ⟨by rw [bytesV_len]; omega, ?_⟩
        conv => whnf
        refine ⟨by kernel_rfl, ?_⟩
        conv => whnf
        refine ⟨k + 1, by show k + 1 ≤ loose.length; omega, by show _ - (k + 1) < _ - k; omega, rfl, rfl, rfl, rfl, rfl, rfl, rfl, rfl, rfl, rfl, hcnt _ rfl, rfl, ?_, rfl, trivial⟩
        show C.mem _ _ = C.mem _ _
        congr 1
        rw [hstep, Gw.Disk.lay, if_pos ⟨h5, by omega⟩]
        refine bytesV_over (i := (pa.toNat - at_) * 16) ?_ ?_ ?_ ?_
        · omega
        · omega
        · rfl
        · omega
      · have h6 := of_decide_eq_false h6
        conv => whnf
        refine ⟨k + 1, by show k + 1 ≤ loose.length; omega, by show _ - (k + 1) < _ - k; omega, rfl, rfl, rfl, rfl, rfl, rfl, rfl, rfl, rfl, rfl, hcnt _ rfl, rfl, ?_, rfl, trivial⟩
        rw [hstep, Gw.Disk.lay, if_neg (by simp only; omega)]
        rfl
    · have h5 := of_decide_eq_false h5
      conv => whnf
      refine ⟨k + 1, by show k + 1 ≤ loose.length; omega, by show _ - (k + 1) < _ - k; omega, rfl, rfl, rfl, rfl, rfl, rfl, rfl, rfl, rfl, rfl, hcnt _ rfl, rfl, ?_, rfl, trivial⟩
      rw [hstep, Gw.Disk.lay, if_neg (by simp only; omega)]
      rfl
  · have h4 := of_decide_eq_false h4
    have hk' : loose.take k = loose := List.take_of_length_le (by omega)
    rw [hk'] at hlk ⊢
    conv => whnf
    exact ⟨_, bytesV_all' hlk.symm, rfl⟩

theorem read_pc (nil : Bool) (d : Gw.Disk.Disk) (at_ n : Int) (hsz : I64 d.size) (ha : I64 at_) (hn : I64 n) (hl : d.loose.length ≤ 1048576) : PC Try.prog 14 [encD nil d, .int .i64 at_, .int .i64 n] (.tup [.str (Gw.Disk.read d at_ n), .int .i64 (Gw.Disk.readErr d at_ n)]) := by
  have hck := check_pc nil d hsz hl
  have hse := fun (a m : Nat) hc h => seen_pc nil d a m hc h hl
  have hs := fun hc => Gw.Disk.check_spec (d := d) hc
  have hmr : Gw.Disk.mayRead d at_ n = (Gw.Disk.check d && (decide (0 ≤ at_) && (decide (0 ≤ n) && decide (n ≤ d.size - at_)))) := rfl
  unfold I64 at ha hn
  unfold Gw.Disk.read Gw.Disk.readErr
  generalize Gw.Disk.check d = q at hck hse hs hmr
  obtain ⟨size, firm, loose⟩ := d
  refine PC.of tabOk mixed (fn := Try.f14) (by kernel_rfl) rfl (by kernel_rfl) rfl rfl ?_
  conv => whnf
  refine AC.of_pc hck rfl ?_
  conv => whnf
  refine ⟨fun h1 => ?_, fun h1 => ?_⟩
  · have h1 : q = false := by simpa using h1
    conv => whnf
    rw [hmr, h1]; rfl
  have h1 : q = true := by simpa using h1
  obtain ⟨z1, z2, z3, z4⟩ := hs h1
  simp only at z1 z2 z3 z4 hmr
  conv => whnf
  refine ⟨fun h2 => ?_, fun h2 => ?_⟩
  · have h2 := of_decide_eq_true h2
    conv => whnf
    rw [hmr, h1, decide_eq_false (by omega : ¬ 0 ≤ at_)]; rfl
  have h2 := of_decide_eq_false h2
  conv => whnf
  refine ⟨fun h3 => ?_, fun h3 => ?_⟩
  · have h3 := of_decide_eq_true h3
    conv => whnf
    rw [hmr, h1, decide_eq_true (by omega : 0 ≤ at_), decide_eq_false (by omega : ¬ 0 ≤ n)]; rfl
  have h3 := of_decide_eq_false h3
  have w1 : IntKind.i64.wrap (size - at_) = size - at_ := w64 (by omega) (by omega)
  conv => whnf
  rw [w1]
  refine ⟨fun h4 => ?_, fun h4 => ?_⟩
  · have h4 := of_decide_eq_true h4
    conv => whnf
    rw [hmr, h1, decide_eq_true (by omega : 0 ≤ at_), decide_eq_true (by omega : 0 ≤ n), decide_eq_false (by omega : ¬ n ≤ size - at_)]; rfl
  have h4 := of_decide_eq_false h4
  obtain ⟨a, rfl⟩ := Int.eq_ofNat_of_zero_le (by omega : 0 ≤ at_)
  obtain ⟨m, rfl⟩ := Int.eq_ofNat_of_zero_le (by omega : 0 ≤ n)
  conv => whnf
  refine AC.of_pc (hse a m h1 (by simp only; omega)) rfl ?_
  conv => whnf
  have hm : Gw.Disk.mayRead ⟨size, firm, loose⟩ (a : Int) (m : Int) = true := by rw [hmr, h1, decide_eq_true (by omega : (0 : Int) ≤ a), decide_eq_true (by omega : (0 : Int) ≤ m), decide_eq_true (by omega : (m : Int) ≤ size - a)]; rfl
  rw [if_pos hm, if_pos hm, Int.toNat_natCast, Int.toNat_natCast]
  rfl

theorem flush_pc (nil : Bool) (d : Gw.Disk.Disk) (hn : nil = true → d.loose = []) (hsz : I64 d.size) (hl : d.loose.length ≤ 1048576) : PC Try.prog 19 [encD nil d] (encD (if Gw.Disk.check d = true then true else nil) (Gw.Disk.flush d)) := by
  have hck := check_pc nil d hsz hl
  have hsa := same_pc nil d hn (by omega)
  have hse := fun (a m : Nat) hc h => seen_pc nil d a m hc h hl
  have hs := fun hc => Gw.Disk.check_spec (d := d) hc
  unfold Gw.Disk.flush
  generalize Gw.Disk.check d = q at hck hse hs ⊢
  obtain ⟨size, firm, loose⟩ := d
  refine PC.ofS tabOk mixed (fn := Try.f19) (by kernel_rfl) rfl (by kernel_rfl) rfl rfl ?_
  conv => whnf
  refine AC.of_pc hck rfl ?_
  conv => whnf
  refine ⟨fun h1 => ?_, fun h1 => ?_⟩
  · have h1 : q = false := by simpa using h1
    conv => whnf
    refine AC.of_pc hsa rfl ?_
    conv => whnf
    rw [h1]
    exact SubV.refl _
  have h1 : q = true := by simpa using h1
  obtain ⟨z1, z2, z3, z4⟩ := hs h1
  simp only at z1 z2 z3 z4
  obtain ⟨m, rfl⟩ := Int.eq_ofNat_of_zero_le z1
  conv => whnf
  refine ⟨_, rfl, hse 0 m h1 (by simp only; omega), ?_⟩
  conv => whnf
  refine ⟨by kernel_rfl, ?_⟩
  conv => whnf
  rw [h1]
  exact SubV.agg (.cons (.of_eq rfl) (.cons (.of_eq rfl) (.cons (.nil _ _ _) .nil)))
end Go.Proofs.Ytfehckdcjgmcpaa
