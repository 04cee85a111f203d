/- DiskTells, told without addresses: the law answers true. No claim of its own. -/
import Derived.Test.YtfehckdcjgmcpaaADisk6
import Derived.Test.YtfehckdcjgmcpaaAmRow
namespace Go.Proofs.Ytfehckdcjgmcpaa
open Go.Am Go.ChangeShapes Go.WideShapes Go.ChangeAt Go.RowKit
abbrev bwS : ByteArray := ⟨#[97, 98, 99, 100, 101, 102, 103, 104, 105, 106, 107, 108, 109, 110, 111, 112, 113]⟩
abbrev bwF : ByteArray := ⟨#[0, 0, 0, 0, 0, 0, 0, 0, 0, 0, 0, 0, 0, 0, 0, 0, 0, 0, 0, 0, 0, 0, 0, 0, 0, 0, 0, 0, 0, 0, 0, 0, 0, 0, 0, 0, 0, 0, 0, 0, 0, 0, 0, 0, 0, 0, 0, 0]⟩
abbrev bwL : List (Int × ByteArray) := [(1, ⟨#[97, 98, 99, 100, 101, 102, 103, 104, 105, 106, 107, 108, 109, 110, 111, 112]⟩), (2, ⟨#[113, 0, 0, 0, 0, 0, 0, 0, 0, 0, 0, 0, 0, 0, 0, 0]⟩)]
abbrev bwX : ByteArray := ⟨#[97, 98, 99, 100, 101, 102, 103, 104, 105, 106, 107, 108, 109, 110, 111, 112, 113, 0, 0, 0, 0, 0, 0, 0, 0, 0, 0, 0, 0, 0, 0, 0]⟩
abbrev bwC : ByteArray := ⟨#[0, 0, 0, 0, 0, 0, 0, 0, 0, 0, 0, 0, 0, 0, 0, 0, 97, 98, 99, 100, 101, 102, 103, 104, 0, 0, 0, 0, 0, 0, 0, 0, 113, 0, 0, 0, 0, 0, 0, 0, 0, 0, 0, 0, 0, 0, 0, 0]⟩
abbrev bwK : ByteArray := ⟨#[0, 0, 0, 0, 0, 0, 0, 0, 0, 0, 0, 0, 0, 0, 0, 0, 97, 98, 99, 100, 101, 102, 103, 104, 105, 106, 107, 108, 109, 110, 111, 112, 113, 0, 0, 0, 0, 0, 0, 0, 0, 0, 0, 0, 0, 0, 0, 0]⟩
theorem bw0 : Gw.Disk.new 3 = ⟨3, bwF, []⟩ := by kernel_rfl
theorem bw1 : Gw.Disk.write ⟨3, bwF, []⟩ 1 bwS = ⟨3, bwF, bwL⟩ ∧ Gw.Disk.writeErr ⟨3, bwF, []⟩ 1 bwS = 0 := by constructor <;> kernel_rfl
theorem bw2 : Gw.Disk.write ⟨3, bwF, []⟩ 2 bwS = ⟨3, bwF, []⟩ ∧ Gw.Disk.writeErr ⟨3, bwF, []⟩ 2 bwS = 120 := by constructor <;> kernel_rfl
theorem bw3 : Gw.Disk.write ⟨3, bwF, []⟩ (-1) ⟨#[]⟩ = ⟨3, bwF, []⟩ ∧ Gw.Disk.writeErr ⟨3, bwF, []⟩ (-1) ⟨#[]⟩ = 121 := by constructor <;> kernel_rfl
theorem bw4 : (⟨(Gw.Disk.read ⟨3, bwF, bwL⟩ 1 2).toArray⟩ : ByteArray) = bwX ∧ Gw.Disk.readErr ⟨3, bwF, bwL⟩ 1 2 = 0 := by constructor <;> kernel_rfl
theorem bw5 : (⟨(Gw.Disk.read ⟨3, bwF, bwL⟩ 2 2).toArray⟩ : ByteArray) = ⟨#[]⟩ ∧ Gw.Disk.readErr ⟨3, bwF, bwL⟩ 2 2 = 121 := by constructor <;> kernel_rfl
theorem bw6 : Gw.Disk.crash ⟨3, bwF, bwL⟩ ⟨#[2, 1]⟩ = ⟨3, bwC, []⟩ := by kernel_rfl
theorem bw7 : Gw.Disk.flush ⟨3, bwF, bwL⟩ = ⟨3, bwK, []⟩ := by kernel_rfl
theorem bw8 : Gw.Disk.check ⟨3, bwF, bwL⟩ = true ∧ Gw.Disk.check ⟨1, ⟨#[]⟩, []⟩ = false := by constructor <;> kernel_rfl


theorem awake_pc : PC Try.prog 10 [] (.bool true) := by
  have H0 := new_pc 3
  rw [bw0] at H0
  have H1 := write_pc true ⟨3, bwF, []⟩ 1 bwS (fun _ => rfl) (by unfold I64; decide) (by unfold I64; decide) (by decide) (by decide)
  rw [bw1.1, bw1.2] at H1
  have H2 := write_pc true ⟨3, bwF, []⟩ 2 bwS (fun _ => rfl) (by unfold I64; decide) (by unfold I64; decide) (by decide) (by decide)
  rw [bw2.1, bw2.2] at H2
  have H3 := write_pc true ⟨3, bwF, []⟩ (-1) ⟨#[]⟩ (fun _ => rfl) (by unfold I64; decide) (by unfold I64; decide) (by decide) (by decide)
  rw [bw3.1, bw3.2] at H3
  have H4 := read_pc false ⟨3, bwF, bwL⟩ 1 2 (by unfold I64; decide) (by unfold I64; decide) (by unfold I64; decide) (by decide)
  rw [show Gw.Disk.read ⟨3, bwF, bwL⟩ 1 2 = bwX.data.toList by kernel_rfl, bw4.2] at H4
  have H5 := read_pc false ⟨3, bwF, bwL⟩ 2 2 (by unfold I64; decide) (by unfold I64; decide) (by unfold I64; decide) (by decide)
  rw [show Gw.Disk.read ⟨3, bwF, bwL⟩ 2 2 = [] by kernel_rfl, bw5.2] at H5
  have H6 := crash_pc false ⟨3, bwF, bwL⟩ ⟨#[2, 1]⟩ (fun h => by cases h) (by unfold I64; decide) (by decide) (by decide)
  rw [bw6, bw8.1, if_pos rfl] at H6
  have H7 := flush_pc false ⟨3, bwF, bwL⟩ (fun h => by cases h) (by unfold I64; decide) (by decide)
  rw [bw7, bw8.1, if_pos rfl] at H7
  have H8 := check_pc false ⟨3, bwF, bwL⟩ (by unfold I64; decide) (by decide)
  rw [bw8.1] at H8
  have H9 := (check_pc true ⟨1, ⟨#[]⟩, []⟩ (by unfold I64; decide) (by decide)).args (.cons (.agg (.cons (.refl _) (.cons (.refl _) (.cons (.nil _ _ _) .nil)))) .nil) (args' := [.agg [.int .i64 1, .str [], .lst true 1 [] .none]])
  rw [bw8.2] at H9
  refine PC.of tabOk mixed (fn := Try.f10) (by kernel_rfl) rfl (by kernel_rfl) rfl rfl ?_
  conv => whnf
  refine AC.of_pc H0 rfl ?_
  conv => whnf
  refine AC.of_pc H1 rfl ?_
  conv => whnf
  refine AC.of_pc H2 rfl ?_
  conv => whnf
  refine AC.of_pc H3 rfl ?_
  conv => whnf
  refine AC.of_pc H4 rfl ?_
  conv => whnf
  refine AC.of_pc H5 rfl ?_
  conv => whnf
  refine AC.of_pc H6 rfl ?_
  conv => whnf
  refine AC.of_pc H7 rfl ?_
  conv => whnf
  refine ⟨fun h => absurd h (by decide), fun _ => ?_⟩
  conv => whnf
  refine ⟨fun h => absurd h (by decide), fun _ => ?_⟩
  repeat (conv => {whnf}; first | refine ⟨fun _ => ?_, fun h => absurd h (by decide)⟩ | refine ⟨by decide, ?_⟩ | refine AC.of_pc H8 rfl ?_ | refine AC.of_pc H9 rfl ?_)
  conv => whnf
  rfl

theorem write_len (d : Gw.Disk.Disk) (at_ : Int) (s : ByteArray) (h : d.loose.length ≤ 100) (hs : s.size ≤ 1000) : (Gw.Disk.write d at_ s).loose.length ≤ 1048576 := by
  unfold Gw.Disk.write
  split
  · simp only [List.length_append, Gw.Disk.wrote_length]; unfold Gw.Disk.manyOf; omega
  · omega
theorem flush_len (d : Gw.Disk.Disk) (h : d.loose.length ≤ 100) : (Gw.Disk.flush d).loose.length ≤ 1048576 := by
  unfold Gw.Disk.flush
  split
  · simp
  · omega
theorem crash_len (d : Gw.Disk.Disk) (p : ByteArray) (h : d.loose.length ≤ 100) : (Gw.Disk.crash d p).loose.length ≤ 1048576 := by
  unfold Gw.Disk.crash
  split
  · simp
  · omega

theorem tells_pc (nil : Bool) (d : Gw.Disk.Disk) (at_ : Int) (s : ByteArray) (n : Int) (p : ByteArray) (size : Int) (hn : nil = true → d.loose = []) (hsz : I64 d.size) (ha : I64 at_) (hnn : I64 n) (hl : d.loose.length ≤ 9223372036854775807) :
    PC Try.prog 3 [encD nil d, .int .i64 at_, .str s.data.toList, .int .i64 n, .str p.data.toList, .int .i64 size] (.bool true) := by
  have H1 := few_pc nil d hl
  refine PC.of tabOk mixed (fn := Try.f3) (by kernel_rfl) rfl (by kernel_rfl) rfl rfl ?_
  conv => whnf
  refine AC.of_pc awake_pc rfl ?_
  conv => whnf
  refine AC.of_pc H1 rfl ?_
  conv => whnf
  refine ⟨fun h1 => rfl, fun h1 => ?_⟩
  conv => whnf
  refine ⟨fun h2 => rfl, fun h2 => ?_⟩
  conv => whnf
  refine ⟨fun h3 => rfl, fun h3 => ?_⟩
  conv => whnf
  refine ⟨fun h4 => rfl, fun h4 => ?_⟩
  have h1 : d.loose.all (fun p => decide (p.2.size ≤ 100)) = true ∧ d.size ≤ 100 ∧ d.firm.size ≤ 2000 ∧ d.loose.length ≤ 100 := by simpa using h1
  obtain ⟨_, g1, g2, g3⟩ := h1
  have h2 := of_decide_eq_false h2
  have h3 := of_decide_eq_false h3
  have h4 := of_decide_eq_false h4
  have e1 : s.data.toList.length = s.size := rfl
  have e2 : p.data.toList.length = p.size := rfl
  conv => whnf
  refine AC.of_pc (write_pc nil d at_ s hn hsz ha (by omega) (by omega)) rfl ?_
  conv => whnf
  refine AC.of_pc (rwrite_pc nil d at_ s hsz (by omega) ha (by omega) (by omega)) rfl ?_
  conv => whnf
  refine AC.of_pc (read_pc nil d at_ n hsz ha hnn (by omega)) rfl ?_
  conv => whnf
  refine AC.of_pc (rread_pc nil d at_ n hsz (by omega) ha hnn (by omega)) rfl ?_
  conv => whnf
  refine ⟨_, rfl, check_pc nil d hsz (by omega), ?_⟩
  conv => whnf
  refine ⟨_, rfl, rcheck_pc nil d hsz (by omega) (by omega), ?_⟩
  conv => whnf
  refine ⟨fun _ => ?_, fun h => absurd h (by simp)⟩
  conv => whnf
  refine ⟨_, rfl, same2_pc _ _ (Gw.Disk.write d at_ s) ?_, ?_⟩
  · exact write_len d at_ s g3 (by omega)
  conv => whnf
  refine ⟨fun _ => ?_, fun h => absurd h (by simp)⟩
  conv => whnf
  refine ⟨fun _ => ?_, fun h => absurd h (by simp)⟩
  conv => whnf
  refine ⟨fun _ => ?_, fun h => absurd h (by simp)⟩
  conv => whnf
  refine ⟨by kernel_rfl, ?_⟩
  conv => whnf
  refine ⟨fun _ => ?_, fun h => absurd h (by simp)⟩
  conv => whnf
  refine ⟨fun _ => ?_, fun h => absurd h (by simp)⟩
  conv => whnf
  refine ⟨_, rfl, flush_pc nil d hn hsz (by omega), ?_⟩
  conv => whnf
  refine ⟨_, rfl, rflush_pc nil d hsz (by omega) (by omega), ?_⟩
  conv => whnf
  refine ⟨_, rfl, same2_pc _ _ (Gw.Disk.flush d) (flush_len d g3), ?_⟩
  conv => whnf
  refine ⟨fun _ => ?_, fun h => absurd h (by simp)⟩
  conv => whnf
  refine ⟨_, rfl, crash_pc nil d p hn hsz (by omega) (by omega), ?_⟩
  conv => whnf
  refine ⟨_, rfl, rcrash_pc nil d p hsz (by omega) (by omega) (by omega), ?_⟩
  conv => whnf
  refine ⟨_, rfl, same2_pc _ _ (Gw.Disk.crash d p) (crash_len d p g3), ?_⟩
  conv => whnf
  refine ⟨fun _ => ?_, fun h => absurd h (by simp)⟩
  conv => whnf
  refine ⟨_, rfl, new_pc size, ?_⟩
  conv => whnf
  refine ⟨_, rfl, rnew_pc size, ?_⟩
  conv => whnf
  refine ⟨_, rfl, same2_pc _ _ (Gw.Disk.new size) (by simp [Gw.Disk.new]), ?_⟩
  conv => whnf
  refine ⟨by kernel_rfl, ?_⟩
  conv => whnf
/-- A disk, as an argument. -/
theorem open_dsk {H : Type} {enc : TypeId × Value → H} {W : World} {base : Nat} {v : Value} {d : DataW H} {q : List MemPlace}
    (hval : Value.okWide Try.prog W .any base 24 v) (hd : DataW.Trod enc Try.prog W 0 (fun _ => true) true 24 v d q) :
    ∃ (nil : Bool) (D : Gw.Disk.Disk), PRep W (allF W) (encD nil D) v ∧ (nil = true → D.loose = []) ∧ D.loose.length ≤ maxLen ∧ I64 D.size := by
  obtain ⟨v0, v1, v2, y0, y1, y2, n, rfl, _, _, h0, h1, h2⟩ := Go.Joins.open_agg3 Try.underlying24 (by kernel_rfl) (by kernel_rfl) hval hd
  obtain ⟨z, hz, _, hw⟩ := DataW.trod_int Try.underlying3 h0
  obtain ⟨s, hs, _, hws⟩ := DataW.trod_string Try.underlying9 h1
  obtain ⟨nil, l, hl, hn, hlen, _⟩ := open_lst (α := Int × ByteArray) Try.underlying22 (sz := 2) (by kernel_rfl) (by decide) encP (fun _ => True) (fun n cs y hcs ht => by
    obtain ⟨z0, z1, k, _, _, h0, h1⟩ := trod_struct2 Try.underlying40 ht
    match cs, hcs with
    | [c0, c1], _ =>
      obtain ⟨z, hz, _, hw⟩ := DataW.trod_int Try.underlying3 (show DataW.trod enc Try.prog W 0 (fun _ => true) true k 3 [c0] = some z0 from h0)
      obtain ⟨s, hs, _, hws⟩ := DataW.trod_string Try.underlying9 (show DataW.trod enc Try.prog W 0 (fun _ => true) true k 9 [c1] = some z1 from h1)
      obtain rfl : c0 = .int .i64 z := by simpa using hz
      obtain rfl : c1 = .string s := by simpa using hs
      refine ⟨(z, s), trivial, rfl, fun j x c hx hc => ?_⟩
      match j, hx, hc with
      | 0, hx, hc => cases hx; cases hc; exact ⟨.int _ _, rfl⟩
      | 1, hx, hc => cases hx; cases hc; exact ⟨.str rfl, rfl⟩
      | j + 2, hx, _ => cases hx) h2
  obtain rfl : v0 = .int .i64 z := by simpa using hz
  obtain rfl : v1 = .string s := by simpa using hs
  exact ⟨nil, ⟨z, s, l⟩, .agg (vs := [_, _, _]) rfl (reps_cons (.int _ _) (reps_cons (.str rfl) (reps_cons hl reps_nil))), hn, hlen, bounds_i64 hw⟩
end Go.Proofs.Ytfehckdcjgmcpaa
