/- What Read, Flush, Same and Crash of the reference of disk compute. No claim of its own. -/
import Derived.Test.YtfehckdcjgmcpaaADisk4
namespace Go.Proofs.Ytfehckdcjgmcpaa
open Go.Am

theorem rread_pc (nil : Bool) (d : Gw.Disk.Disk) (at_ n : Int) (hsz : I64 d.size) (hf : d.size ≤ 65536) (ha : I64 at_) (hn : I64 n) (hl : d.loose.length ≤ 1048576) : PC Try.prog 15 [encD nil d, .int .i64 at_, .int .i64 n] (.tup [.str (Gw.Disk.read d at_ n), .int .i64 (Gw.Disk.readErr d at_ n)]) := by
  have hck := rcheck_pc nil d hsz hl hf
  have hse := fun (i : Nat) hc h => sector_pc nil d i hc h hl
  have hs := fun hc => Gw.Disk.check_spec (d := d) hc
  have hsf := fun hc a m h => Gw.Disk.seen_flat (d := d) hc a m h
  have hsl := fun hc i h => Gw.Disk.sec_length (d := d) hc i h
  have hmr : Gw.Disk.mayRead d at_ n = (Gw.Disk.check d && (decide (0 ≤ at_) && (decide (0 ≤ n) && decide (n ≤ d.size - at_)))) := rfl
  unfold I64 at ha hn
  unfold Gw.Disk.read Gw.Disk.readErr
  generalize Gw.Disk.check d = q at hck hse hs hmr hsf hsl
  have hsd : ∀ x, PC Try.prog 17 [encD nil d] x → PC Try.prog 17 [encD nil d] x := fun _ h => h
  generalize hsecd : Gw.Disk.sec d = sec at hse hsf hsl
  generalize hseen : Gw.Disk.seen d = seen at hsf ⊢
  obtain ⟨size, firm, loose⟩ := d
  show PC Try.prog _ [.agg [.int .i64 size, .str firm.data.toList, .lst nil 2 (loose.map encP) .none], .int .i64 at_, .int .i64 n] _
  refine PC.of tabOk mixed (fn := Try.f15) (by kernel_rfl) rfl (by kernel_rfl) rfl rfl ?_
  conv => whnf
  refine AC.of_pc hck rfl ?_
  conv => whnf
  refine ⟨fun h1 => ?_, fun h1 => ?_⟩
  · have h1 : q = false := by simpa using h1
    conv => whnf
    rw [hmr, h1]; rfl
  have h1 : q = true := by simpa using h1
  obtain ⟨z1, z2, z3, z4⟩ := hs h1
  simp only at z1 z2 z3 z4 hmr
  conv => whnf
  refine ⟨fun h2 => ?_, fun h2 => ?_⟩
  · have h2 := of_decide_eq_true h2
    conv => whnf
    rw [hmr, h1, decide_eq_false (by omega : ¬ 0 ≤ at_)]; rfl
  have h2 := of_decide_eq_false h2
  conv => whnf
  refine ⟨fun h3 => ?_, fun h3 => ?_⟩
  · have h3 := of_decide_eq_true h3
    conv => whnf
    rw [hmr, h1, decide_eq_true (by omega : 0 ≤ at_), decide_eq_false (by omega : ¬ 0 ≤ n)]; rfl
  have h3 := of_decide_eq_false h3
  conv => whnf
  refine ⟨fun h4 => ?_, fun h4 => ?_⟩
  · have h4 := of_decide_eq_true h4
    conv => whnf
    rw [hmr, h1, decide_eq_true (by omega : 0 ≤ at_), decide_eq_true (by omega : 0 ≤ n), decide_eq_false (by omega : ¬ n ≤ size - at_)]; rfl
  have h4 := of_decide_eq_false h4
  have w1 : IntKind.i64.wrap (size - at_) = size - at_ := w64 (by omega) (by omega)
  conv => whnf
  rw [w1]
  refine ⟨fun h5 => ?_, fun h5 => ?_⟩
  · have h5 := of_decide_eq_true h5
    conv => whnf
    rw [hmr, h1, decide_eq_true (by omega : 0 ≤ at_), decide_eq_true (by omega : 0 ≤ n), decide_eq_false (by omega : ¬ n ≤ size - at_)]; rfl
  have h5 := of_decide_eq_false h5
  obtain ⟨a, rfl⟩ := Int.eq_ofNat_of_zero_le (by omega : 0 ≤ at_)
  obtain ⟨m, rfl⟩ := Int.eq_ofNat_of_zero_le (by omega : 0 ≤ n)
  have hm : Gw.Disk.mayRead ⟨size, firm, loose⟩ (a : Int) (m : Int) = true := by rw [hmr, h1, decide_eq_true (by omega : (0 : Int) ≤ a), decide_eq_true (by omega : (0 : Int) ≤ m), decide_eq_true (by omega : (m : Int) ≤ size - a)]; rfl
  rw [if_pos hm, if_pos hm, Int.toNat_natCast, Int.toNat_natCast]
  have hfl := hsf h1 a m (by simp only; omega)
  rw [hfl]
  have hsec : ∀ i, i < m → (sec (a + i)).length = 16 := fun i hi => hsl h1 (a + i) (by simp only; omega)
  conv => whnf
  refine AW.loop (fun k : Nat => [(.tmp 1, .v (.int .i64 a)), (.tmp 2, .v (.int .i64 m)), (.tmp 3, .v (.ptr 0 0)), (.tmp 9, .v (.str (Gw.Disk.flat k fun i => sec (a + i)))), (.tmp 10, .v (.int .i64 k)),
    (.blk 0, .box 24 [.int .i64 size, .str firm.data.toList, .lst nil 2 (loose.map encP) .none])]) 1 (fun k => k ≤ m) (fun k => m - k) (by decide) 0 (Nat.zero_le _)
    ⟨rfl, rfl, rfl, rfl, rfl, rfl, rfl, rfl, rfl, rfl, rfl, rfl, trivial⟩ ?_
  rintro k hk
  have hfk := Gw.Disk.flat_length k (fun i => sec (a + i)) (fun i hi => hsec i (by omega))
  have hfs := Gw.Disk.flat_succ k (fun i => sec (a + i))
  refine ev_sound tabOk mixed _ _ _ _ ?_
  conv => whnf
  refine ⟨fun h6 => ?_, fun h6 => ?_⟩
  · have h6 := of_decide_eq_true h6
    have w2 : IntKind.i64.wrap ((a : Int) + (k : Int)) = ((a + k : Nat) : Int) := by rw [w64 (by omega) (by omega)]; rfl
    have hsk := hsec k (by omega)
    have hse := hse (a + k) h1 (by simp only; omega)
    conv => whnf
    rw [w2]
    refine AC.of_pc hse rfl ?_
    conv => whnf
    refine ⟨by omega, ?_⟩
    conv => whnf
    refine ⟨k + 1, by show k + 1 ≤ m; omega, by show _ - (k + 1) < _ - k; omega, rfl, rfl, rfl, rfl, rfl, rfl, ?_, rfl, ?_, rfl, rfl, rfl, trivial⟩
    · rw [hfs]; rfl
    · show C.v (V.int .i64 (IntKind.i64.wrap ((k : Int) + 1))) = _
      rw [w64 (by omega) (by omega)]; rfl
  · have h6 := of_decide_eq_false h6
    obtain rfl : k = m := by omega
    conv => whnf
    rfl

theorem rflush_pc (nil : Bool) (d : Gw.Disk.Disk) (hsz : I64 d.size) (hf : d.size ≤ 65536) (hl : d.loose.length ≤ 1048576) : PC Try.prog 20 [encD nil d] (encD (if Gw.Disk.check d = true then true else nil) (Gw.Disk.flush d)) := by
  have hck := rcheck_pc nil d hsz hl hf
  have hrd := fun (m : Int) h => rread_pc nil d 0 m hsz hf (by unfold I64; omega) h hl
  have hs := fun hc => Gw.Disk.check_spec (d := d) hc
  have hrs := fun (n : Nat) hc h => (Gw.Disk.read_seen (d := d) hc 0 n h).1
  unfold Gw.Disk.flush
  generalize Gw.Disk.check d = q at hck hs hrs ⊢
  obtain ⟨size, firm, loose⟩ := d
  refine PC.ofS tabOk mixed (fn := Try.f20) (by kernel_rfl) rfl (by kernel_rfl) rfl rfl ?_
  conv => whnf
  refine AC.of_pc hck rfl ?_
  conv => whnf
  refine ⟨fun h1 => ?_, fun h1 => ?_⟩
  · have h1 : q = false := by simpa using h1
    conv => whnf
    rw [h1]
    exact SubV.refl _
  have h1 : q = true := by simpa using h1
  obtain ⟨z1, z2, z3, z4⟩ := hs h1
  simp only at z1 z2 z3 z4
  have hrs := hrs size.toNat h1 (by simp only; omega)
  rw [Int.toNat_of_nonneg z1] at hrs
  conv => whnf
  refine AC.of_pc (hrd size (by unfold I64; omega)) rfl ?_
  conv => whnf
  rw [h1]
  refine SubV.agg (.cons (.of_eq rfl) (.cons (.of_eq ?_) (.cons (.nil _ _ _) .nil)))
  show V.str (Gw.Disk.read _ 0 size) = _
  exact congrArg V.str hrs

theorem same2_pc (na nb : Bool) (a : Gw.Disk.Disk) (ha : a.loose.length ≤ 1048576) : PC Try.prog 18 [encD na a, encD nb a] (.bool true) := by
  obtain ⟨z, f, l⟩ := a
  simp only at ha
  show PC Try.prog _ [.agg [.int .i64 z, .str f.data.toList, .lst na 2 (l.map encP) .none], .agg [.int .i64 z, .str f.data.toList, .lst nb 2 (l.map encP) .none]] _
  refine PC.of tabOk mixed (fn := Try.f18) (by kernel_rfl) rfl (by kernel_rfl) rfl rfl ?_
  conv => whnf
  refine ⟨fun h => absurd h (by simp), fun _ => ?_⟩
  conv => whnf
  refine ⟨fun h => absurd h (by simp), fun _ => ?_⟩
  conv => whnf
  refine ⟨fun h => absurd h (by simp), fun _ => ?_⟩
  conv => whnf
  refine AW.loop (fun k : Nat => [(.tmp 2, .v (.ptr 0 0)), (.tmp 3, .v (.ptr 1 0)), (.tmp 5, .v (.int .i64 k)),
    (.blk 0, .box 24 [.int .i64 z, .str f.data.toList, .lst na 2 (l.map encP) .none]), (.blk 1, .box 24 [.int .i64 z, .str f.data.toList, .lst nb 2 (l.map encP) .none])]) 2 (fun k => k ≤ l.length) (fun k => l.length - k) (by decide) 0 (Nat.zero_le _)
    ⟨rfl, rfl, rfl, rfl, rfl, rfl, rfl, rfl, rfl, rfl, trivial⟩ ?_
  rintro k hk
  refine ev_sound tabOk mixed _ _ _ _ ?_
  conv => whnf
  refine ⟨fun h => ?_, fun h => ?_⟩
  · have h := of_decide_eq_true h
    rw [List.length_map] at h
    have hlt : k < l.length := by omega
    obtain ⟨⟨pa, data⟩, hp⟩ : ∃ p, l[k] = p := ⟨_, rfl⟩
    have hel : (l.map encP)[k]? = some [.int .i64 pa, .str data.data.toList] := by rw [encP_get hlt, hp]; rfl
    conv => whnf
    refine ⟨_, ⟨by omega, hel⟩, ?_⟩
    conv => whnf
    refine ⟨_, ⟨by omega, hel⟩, ?_⟩
    conv => whnf
    refine ⟨by kernel_rfl, ?_⟩
    conv => whnf
    refine ⟨by kernel_rfl, ?_⟩
    conv => whnf
    refine ⟨fun h => absurd h (by simp), fun _ => ?_⟩
    conv => whnf
    refine ⟨k + 1, by show k + 1 ≤ _; omega, by show _ - (k + 1) < _ - k; omega, rfl, rfl, rfl, rfl, ?_, rfl, rfl, rfl, rfl, rfl, trivial⟩
    show C.v (V.int .i64 (IntKind.i64.wrap ((k : Int) + 1))) = _
    rw [w64 (by omega) (by omega)]; rfl
  · conv => whnf

theorem wu8 {x : Int} (h1 : 0 ≤ x) (h2 : x ≤ 255) : IntKind.u8.wrap x = x := by rw [IntKind.wrap_u8]; omega

theorem rcrash_pc (nil : Bool) (d : Gw.Disk.Disk) (s : ByteArray) (hsz : I64 d.size) (hf : d.size ≤ 65536) (hl : d.loose.length ≤ 1048576) (hs : s.size ≤ 1048576) : PC Try.prog 22 [encD nil d, .str s.data.toList] (encD (if Gw.Disk.check d = true then true else nil) (Gw.Disk.crash d s)) := by
  have hck := rcheck_pc nil d hsz hl hf
  have hsp := fun hc => Gw.Disk.check_spec (d := d) hc
  have hsl : s.data.toList.length = s.size := rfl
  unfold Gw.Disk.crash
  generalize Gw.Disk.check d = q at hck hsp ⊢
  obtain ⟨size, firm, loose⟩ := d
  have hck : PC Try.prog _ [.agg [.int .i64 size, .str firm.data.toList, .lst nil 2 (loose.map encP) .none]] _ := hck
  show PC Try.prog _ [.agg [.int .i64 size, .str firm.data.toList, .lst nil 2 (loose.map encP) .none], .str s.data.toList] _
  simp only at hl
  refine PC.ofS tabOk mixed (fn := Try.f22) (by kernel_rfl) rfl (by kernel_rfl) rfl rfl ?_
  conv => whnf
  refine AC.of_pc hck rfl ?_
  conv => whnf
  refine ⟨fun h1 => ?_, fun h1 => ?_⟩
  · have h1 : q = false := by simpa using h1
    conv => whnf
    rw [h1]
    exact SubV.refl _
  have h1 : q = true := by simpa using h1
  rw [h1]
  obtain ⟨z1, z2, z3, z4⟩ := hsp h1
  simp only at z1 z2 z3 z4
  have hfl : firm.data.toList.length = firm.size := rfl
  conv => whnf
  refine AW.loop (fun k : Nat => [(.tmp 1, .v (.str s.data.toList)), (.tmp 2, .v (.ptr 0 0)), (.tmp 4, .v (.ptr 1 0)), (.tmp 6, .v (.str (Gw.Disk.crashed s loose k firm.data.toList))), (.tmp 7, .v (.int .i64 k)),
    (.blk 0, .box 24 [.int .i64 size, .str firm.data.toList, .lst nil 2 (loose.map encP) .none]), (.blk 1, .box 24 [.int .i64 0, .str [], .lst true 1 [] .tight])]) 2 (fun k => k ≤ loose.length) (fun k => loose.length - k) (by decide) 0 (Nat.zero_le _)
    ⟨rfl, rfl, rfl, rfl, rfl, rfl, rfl, rfl, rfl, rfl, rfl, rfl, rfl, rfl, trivial⟩ ?_
  rintro k hk
  refine ev_sound tabOk mixed _ _ _ _ ?_
  conv => whnf
  refine ⟨fun h => ?_, fun h => ?_⟩
  · have h := of_decide_eq_true h
    rw [List.length_map] at h
    have hlt : k < loose.length := by omega
    have hz := z4 _ (List.getElem_mem hlt)
    have hcl : (Gw.Disk.crashed s loose k firm.data.toList).length = firm.data.toList.length := Gw.Disk.crashed_length s loose k _ (fun i hi => by
      have hz := z4 _ (List.getElem_mem (show i < loose.length by omega))
      rw [List.getD_eq_getElem?_getD, List.getElem?_eq_getElem (by omega)]
      simp only [Option.getD_some]
      omega)
    have hcs := Gw.Disk.crashed_succ s loose k firm.data.toList
    rw [List.getD_eq_getElem?_getD (l := loose), List.getElem?_eq_getElem hlt, Option.getD_some] at hcs
    obtain ⟨⟨pa, data⟩, hp⟩ : ∃ p, loose[k] = p := ⟨_, rfl⟩
    have hel : (loose.map encP)[k]? = some [.int .i64 pa, .str data.data.toList] := by rw [encP_get hlt, hp]; rfl
    rw [hp] at hz hcs
    simp only at hz
    have hds : data.size = data.data.toList.length := rfl
    obtain ⟨a, rfl⟩ := Int.eq_ofNat_of_zero_le hz.1
    generalize Gw.Disk.crashed s loose k firm.data.toList = cur at hcl hcs
    have w1 : IntKind.i64.wrap (16 * (a : Int)) = 16 * (a : Int) := w64 (by omega) (by omega)
    have hpo : Gw.Disk.pickOf s k = if k < s.size then (s.data.toList.getD k 0).toNat % 3 else 0 := rfl
    conv => whnf
    refine ⟨_, ⟨by omega, hel⟩, ?_⟩
    conv => whnf
    refine ⟨fun h2 => ?_, fun h2 => ?_⟩
    · have h2 := of_decide_eq_true h2
      have hks : k < s.data.toList.length := by omega
      obtain ⟨c, hc⟩ : ∃ c, s.data.toList[k]? = some c := ⟨_, List.getElem?_eq_getElem hks⟩
      rw [if_pos (by omega), List.getD_eq_getElem?_getD, hc, Option.getD_some] at hpo
      have hw3 : ((c.toNat : Nat) : Int).tmod 3 = ((c.toNat % 3 : Nat) : Int) := by rw [tmod_pos (by omega)]; rfl
      conv => whnf
      refine ⟨c, ⟨by omega, hc⟩, ?_⟩
      conv => whnf
      refine ⟨fun h3 => ?_, fun h3 => ?_⟩
      · rw [hw3] at h3
        have h3 : c.toNat % 3 = 1 := by have : ((c.toNat % 3 : Nat) : Int) = 1 := by simpa using h3
                                        omega
        conv => whnf
        refine ⟨fun h4 => ?_, fun h4 => absurd h4 (by simp; omega)⟩
        conv => whnf
        refine ⟨c, ⟨by omega, hc⟩, ?_⟩
        conv => whnf
        refine ⟨fun h5 => absurd (hw3 ▸ h5) (by simp; omega), fun h5 => ?_⟩
        have hpick : Gw.Disk.pickOf s k = 1 := by omega
        have w2 : IntKind.i64.wrap (16 * (a : Int) + 16) = 16 * (a : Int) + 16 := w64 (by omega) (by omega)
        conv => whnf
        rw [w1]
        refine ⟨by omega, ?_⟩
        conv => whnf
        refine ⟨by omega, ?_⟩
        conv => whnf
        refine ⟨by rw [List.length_take, List.length_take]; omega, ?_⟩
        conv => whnf
        rw [w1, w2]
        refine ⟨by omega, ?_⟩
        conv => whnf
        refine ⟨by rw [List.length_append, List.length_take, List.length_take, List.length_drop]; omega, ?_⟩
        conv => whnf
        refine ⟨by kernel_rfl, ?_⟩
        conv => whnf
        refine ⟨k + 1, by show k + 1 ≤ _; omega, by show _ - (k + 1) < _ - k; omega, rfl, rfl, rfl, rfl, rfl, rfl, ?_, rfl, ?_, rfl, rfl, rfl, rfl, rfl, trivial⟩
        · show C.v (V.str (cur.take (16 * (a : Int)).toNat ++ data.data.toList.take (16 : Int).toNat ++ cur.drop (16 * (a : Int) + 16).toNat)) = _
          rw [hcs, hpick, show (16 * (a : Int)).toNat = a * 16 by omega, show (16 * (a : Int) + 16).toNat = a * 16 + 16 by omega]
          show _ = C.v (V.str (Gw.Disk.over cur (a * 16) data.data.toList))
          rw [show (16 : Int).toNat = 16 from rfl, List.take_of_length_le (l := data.data.toList) (by omega), Gw.Disk.over, show data.data.toList.length = 16 by omega]
        · show C.v (V.int .i64 (IntKind.i64.wrap ((k : Int) + 1))) = _
          rw [w64 (by omega) (by omega)]; rfl
      · rw [hw3] at h3
        have h3 : c.toNat % 3 ≠ 1 := by
          intro e; rw [e] at h3; simp at h3
        conv => whnf
        refine ⟨fun h4 => ?_, fun h4 => absurd h4 (by simp; omega)⟩
        conv => whnf
        refine ⟨c, ⟨by omega, hc⟩, ?_⟩
        conv => whnf
        refine ⟨fun h5 => ?_, fun h5 => ?_⟩
        · rw [hw3] at h5
          have h5 : c.toNat % 3 = 2 := by have : ((c.toNat % 3 : Nat) : Int) = 2 := by simpa using h5
                                          omega
          have hpick : Gw.Disk.pickOf s k = 2 := by omega
          have w2 : IntKind.i64.wrap (16 * (a : Int) + 8) = 16 * (a : Int) + 8 := w64 (by omega) (by omega)
          conv => whnf
          rw [w1]
          refine ⟨by omega, ?_⟩
          conv => whnf
          refine ⟨by omega, ?_⟩
          conv => whnf
          refine ⟨by rw [List.length_take, List.length_take]; omega, ?_⟩
          conv => whnf
          rw [w1, w2]
          refine ⟨by omega, ?_⟩
          conv => whnf
          refine ⟨by rw [List.length_append, List.length_take, List.length_take, List.length_drop]; omega, ?_⟩
          conv => whnf
          refine ⟨by kernel_rfl, ?_⟩
          conv => whnf
          refine ⟨k + 1, by show k + 1 ≤ _; omega, by show _ - (k + 1) < _ - k; omega, rfl, rfl, rfl, rfl, rfl, rfl, ?_, rfl, ?_, rfl, rfl, rfl, rfl, rfl, trivial⟩
          · show C.v (V.str (cur.take (16 * (a : Int)).toNat ++ data.data.toList.take (8 : Int).toNat ++ cur.drop (16 * (a : Int) + 8).toNat)) = _
            rw [hcs, hpick, show (16 * (a : Int)).toNat = a * 16 by omega, show (16 * (a : Int) + 8).toNat = a * 16 + 8 by omega]
            show _ = C.v (V.str (Gw.Disk.over cur (a * 16) (data.data.toList.take 8)))
            rw [show (8 : Int).toNat = 8 from rfl, Gw.Disk.over, show (data.data.toList.take 8).length = 8 by rw [List.length_take]; omega]
          · show C.v (V.int .i64 (IntKind.i64.wrap ((k : Int) + 1))) = _
            rw [w64 (by omega) (by omega)]; rfl
        · rw [hw3] at h5
          have h5 : c.toNat % 3 ≠ 2 := by
            intro e; rw [e] at h5; simp at h5
          have hpick : Gw.Disk.pickOf s k = 0 := by omega
          have w2 : IntKind.i64.wrap (16 * (a : Int) + 0) = 16 * (a : Int) + 0 := w64 (by omega) (by omega)
          conv => whnf
          rw [w1]
          refine ⟨by omega, ?_⟩
          conv => whnf
          refine ⟨by omega, ?_⟩
          conv => whnf
          refine ⟨by rw [List.length_take, List.length_take]; omega, ?_⟩
          conv => whnf
          rw [w1, w2]
          refine ⟨by omega, ?_⟩
          conv => whnf
          refine ⟨by rw [List.length_append, List.length_take, List.length_take, List.length_drop]; omega, ?_⟩
          conv => whnf
          refine ⟨by kernel_rfl, ?_⟩
          conv => whnf
          refine ⟨k + 1, by show k + 1 ≤ _; omega, by show _ - (k + 1) < _ - k; omega, rfl, rfl, rfl, rfl, rfl, rfl, ?_, rfl, ?_, rfl, rfl, rfl, rfl, rfl, trivial⟩
          · show C.v (V.str (cur.take (16 * (a : Int)).toNat ++ data.data.toList.take (0 : Int).toNat ++ cur.drop (16 * (a : Int) + 0).toNat)) = _
            rw [hcs, hpick, show (16 * (a : Int)).toNat = a * 16 by omega, show (16 * (a : Int) + 0).toNat = a * 16 + 0 by omega]
            show _ = C.v (V.str cur)
            rw [show (0 : Int).toNat = 0 from rfl, List.take_zero, List.append_nil, Nat.add_zero, List.take_append_drop]
          · show C.v (V.int .i64 (IntKind.i64.wrap ((k : Int) + 1))) = _
            rw [w64 (by omega) (by omega)]; rfl
    · have h2 := of_decide_eq_false h2
      have hpick : Gw.Disk.pickOf s k = 0 := by rw [hpo, if_neg (by omega)]
      conv => whnf
      refine ⟨fun h4 => absurd h4 (by simp; omega), fun h4 => ?_⟩
      have w2 : IntKind.i64.wrap (16 * (a : Int) + 0) = 16 * (a : Int) + 0 := w64 (by omega) (by omega)
      conv => whnf
      rw [w1]
      refine ⟨by omega, ?_⟩
      conv => whnf
      refine ⟨by omega, ?_⟩
      conv => whnf
      refine ⟨by rw [List.length_take, List.length_take]; omega, ?_⟩
      conv => whnf
      rw [w1, w2]
      refine ⟨by omega, ?_⟩
      conv => whnf
      refine ⟨by rw [List.length_append, List.length_take, List.length_take, List.length_drop]; omega, ?_⟩
      conv => whnf
      refine ⟨by kernel_rfl, ?_⟩
      conv => whnf
      refine ⟨k + 1, by show k + 1 ≤ _; omega, by show _ - (k + 1) < _ - k; omega, rfl, rfl, rfl, rfl, rfl, rfl, ?_, rfl, ?_, rfl, rfl, rfl, rfl, rfl, trivial⟩
      · show C.v (V.str (cur.take (16 * (a : Int)).toNat ++ data.data.toList.take (0 : Int).toNat ++ cur.drop (16 * (a : Int) + 0).toNat)) = _
        rw [hcs, hpick, show (16 * (a : Int)).toNat = a * 16 by omega, show (16 * (a : Int) + 0).toNat = a * 16 + 0 by omega]
        show _ = C.v (V.str cur)
        rw [show (0 : Int).toNat = 0 from rfl, List.take_zero, List.append_nil, Nat.add_zero, List.take_append_drop]
      · show C.v (V.int .i64 (IntKind.i64.wrap ((k : Int) + 1))) = _
        rw [w64 (by omega) (by omega)]; rfl
  · have h := of_decide_eq_false h
    rw [List.length_map] at h
    obtain rfl : k = loose.length := by omega
    conv => whnf
    exact SubV.agg (.cons (.of_eq rfl) (.cons (.of_eq rfl) (.cons (.nil _ _ _) .nil)))
end Go.Proofs.Ytfehckdcjgmcpaa
