import Derived.Laws.Bits128
import Derived.Deep.QuietTactic
import Derived.BigQuiet
import Derived.IntWalk
import Derived.WalkMore
import Derived.ScopeJumps
import Derived.Deep.RegionWith
import Derived.Lib.Builder
import Derived.Lib.UnsafeStr
import Derived.Test.YtffboamedcmpaaaGreatDoorBf
set_option linter.all false
set_option maxHeartbeats 4000000
set_option maxRecDepth 100000
namespace Go.Proofs.YtffboamedcmpaaaGreatDoor
open Go.RowKit
theorem abS {P:Program} (w:World) (src e dst t:TypeId) (hs:P.underlying src=some (.slice e)) (he:P.underlying e=some (.int .u8)) (hd:P.underlying dst=some .string) (ns:List Int) (c:Nat):
  (convert src dst (.slice (some ⟨w.heap.size,0,none⟩) ns.length c)).run P (w.alloc (.cells (ns.map (Value.int .u8)).toArray t))= .ok (.string (strOfNums ns)) (w.alloc (.cells (ns.map (Value.int .u8)).toArray t)):=by
 refine run_convert_bytes_arg _ src e hs he w.heap.size 0 ns.length c ns rfl ?_ dst hd;intro i hi;simp [List.getD_eq_getElem?_getD,List.getElem?_eq_getElem hi]
theorem abR {a b:ByteArray}:(a.toList==b.toList)=true↔a.data.toList=b.data.toList:=by
 rw [Lib.toList_data,Lib.toList_data,beq_iff_eq]
theorem MI {w:World} {c:Array Value} {t:TypeId} {n i:Nat} {v:Value} (hn:n=w.heap.size) (hv:c[i]? =some v):(w.alloc (.cells c t)).cell? ⟨n,i,none⟩=some v:=by
 subst hn;simpa using hv
theorem MJ (n:Nat):UInt8.ofNat (n % 256)=UInt8.ofNat n:=by
 apply UInt8.toNat_inj.1;simp [UInt8.toNat_ofNat']
open Gw
theorem Tf (a b:Nat) (ha:a<9223372036854775808) (hb:b<9223372036854775808):bits .or .i64 (a:Int) (b:Int)=((a|||b:Nat):Int):=by
 have hx:a|||b<2^63:=Nat.or_lt_two_pow om om
 show IntKind.i64.wrap ((BitVec.ofInt 64 (a:Int)|||BitVec.ofInt 64 (b:Int)).toNat:Int)=_;grind [IntWalk.i64_in]
theorem Tg (n c:Nat) (hn:n<=72057594037927935) (hc:c<128):bits .or .i64 ((n:Int)*128) (c:Int)=((n*128+c:Nat):Int):=by
 rw [show (n:Int)*128=((n*128:Nat):Int) from om,Tf _ _ om om];congr 1;have:=Nat.two_pow_add_eq_or_of_lt (i:=7) (b:=c) om n;grind
theorem abU (d:Nat) (hd:d<128):bits .or .i64 (d:Int) 128=((d+128:Nat):Int):=by
 rw [show (128:Int)=((128:Nat):Int) from rfl,Tf _ _ om om];congr 1;have:=Nat.two_pow_add_eq_or_of_lt (i:=7) (b:=d) om 1;grind
theorem abW (n:Nat) (hn:n<9223372036854775808) (w:World):
  Calls Tryz.prog 162 #[.int .i64 (n:Int)] w λe w'=>e= .returned (.int .i64 (jn n))/\w=w':=by
 have hd:decide ((n:Int)<0)=false:=decide_eq_false om;have hs:jn n=gH 9 n:=rfl;have HS:=Lib.hid hs;clear hs;have hb:n<128^9:=om;have HB:=Lib.hid hb;clear hb
 go_enter Tryz.func162,Tryz.ntmps162
 go_wp2_with fail
 go_loop [0,3] (λx s=>∃ m f k:Nat,x= .int .i64 m/\s= .int .i64 k/\m<9223372036854775808/\k+f=10/\1<=k/\m<128^f/\gH 9 n=gH f m+k - 1) (λx _=>(intOf x).toNat)
 case atStart=>exact ⟨n,9,1,rfl,rfl,hn,rfl,om,HB.out,om⟩
 case round=>
  obtain ⟨m,f,k,rfl,rfl,hm,hkf,hk,hmf,he⟩:=hrel;have HE:=Lib.hid he;have HMF:=Lib.hid hmf;clear he hmf
  by_cases hlt:m<128
  ·go_wp2_with fail
   go_ret
   refine ⟨?_,rfl⟩;have:gH f m=1:=by cases f<;>simp [gH,hlt]
   rw [HS.out,HE.out,this,show 1+k - 1=k from by omega];rfl
  ·obtain ⟨g,rfl⟩:∃ g,f=g+1:=by
    refine ⟨f - 1,?_⟩;grind [HMF.out]
   go_wp2_with fail
   go_round
   case rel=>
    refine ⟨m / 128,g,k+1,by go_num,by go_num,om,om,om,?_,?_⟩
    ·grind [HMF.out]
    grind [HE.out,gH]
   grind [intOf]
def Jf (w:World) (v:Value) (zs:List Int):Prop:=
 (zs=[]/\∃ ao cap,v= .slice ao 0 cap)\/∃ b off cap,v= .slice (some ⟨b,off,none⟩) zs.length cap/\b<w.heap.size/\∀ i,i<zs.length->w.cell? ⟨b,off+i,none⟩=some (.int .i64 (zs.getD i 0))
def oy (s:ByteArray) (zs:List Int):List UInt8:=s.data.toList++iv (zs.map Int.toNat)
theorem Th (s:ByteArray) (zs:List Int) (hz:∀ z∈zs,0<=z/\z<9223372036854775808):(oy s zs).length<=s.size+9*zs.length:=by
 unfold oy;rw [List.length_append];have h1:s.data.toList.length=s.size:=rfl;rw [h1];have:(iv (zs.map Int.toNat)).length<=9*zs.length:=by
  induction zs with
  |nil=>simp [iv]
  |cons z zs ih=>
   have e:iv ((z::zs).map Int.toNat)=bW z.toNat++iv (zs.map Int.toNat):=rfl;rw [e,List.length_append];have hz0:=hz z (by simp);have:=ih (λy hy=>hz y (by simp [hy]));rw [zC z.toNat om];have:=Dl z.toNat om;grind
 omega
def tR (s:ByteArray) (zs:List Int):Value:=if zs.all (λz=>decide (0<=z))=true then .tuple #[.string ⟨(oy s zs).toArray⟩, .int .i64 0] else .tuple #[.string ⟨#[]⟩, .int .i64 40]
theorem abT:(Tryz.prog.info? 5).map (λi=>(i.zero,i.size,i.bytes))=some (some (.int .u8 0),1,1):=by kernel_rfl
theorem abV (s:ByteArray) (zs:List Int) (hz:∀ z∈zs,z<9223372036854775808) (hsz:s.size+9*zs.length<1000000000) (v:Value) (w:World) (hv:Jf w v zs) (hne:zs≠[]):
  Calls Tryz.prog 93 #[.string s,v] w λe w'=>e= .returned (tR s zs)/\jH w.heap.size w w':=by
 rcases hv with ⟨h,_⟩|⟨b,off,cap,rfl,hb,hc⟩
 ·exact absurd h hne
 clear hne;obtain ⟨i0,hi,hz0,hz1,hz2⟩:=info_parts abT;obtain ⟨w1,v1,hcv,hb1,hown,hv1⟩:=S8 (P:=Tryz.prog) w 9 126 5 s Tryz.underlying9 Tryz.underlying126 Tryz.underlying5 (by unfold maxLen;omega) w.heap.size (Nat.le_refl _);have HC:=Lib.hid hc;have HZ:=Lib.hid hz;have HOWN:=Lib.hid hown;have HINFO:=Lib.hid (⟨hi,hz0,hz1,hz2⟩:_/\_/\_/\_);clear hc hz hown hv1 hi hz0 hz1 hz2
 go_enter Tryz.func93,Tryz.ntmps93
 go_wp2_with fail
 go_loopw [6,16] (λo i wr=>∃ k:Nat,k<=zs.length/\i= .int .i64 k/\pR wr w.heap.size 1 o (oy s (zs.take k)).length (tQ (oy s (zs.take k)))/\jH w.heap.size w wr/\∀ z∈zs.take k,0<=z) (λ_ i _=>zs.length - (intOf i).toNat)
 case atStart=>exact ⟨0,Nat.zero_le _,rfl,by simpa [oy,iv] using HOWN.out,hb1,by simp⟩
 case round=>
  obtain ⟨k,hk,rfl,ho,hbr,hpos⟩:=hrel;have HO:=Lib.hid ho;have HPOS:=Lib.hid hpos;clear ho hpos
  by_cases hlt:k<zs.length
  ·have hcell:wr.cell? ⟨b,off+k,none⟩=some (.int .i64 (zs.getD k 0)):=(hbr.cell (p:=⟨b,off+k,none⟩) hb).trans (HC.out k hlt);have hzk:=HZ.out (zs.getD k 0) (by simp_all)
   by_cases hneg:0<=zs.getD k 0
   ·obtain ⟨n,hn⟩:=Int.eq_ofNat_of_zero_le hneg;rw [hn] at hcell hzk;have hn0:n<9223372036854775808:=om;clear hneg;have HN:=Lib.hid hn;clear hn hzk
    go_wp2_with fail
    refine (abW n hn0 _).mono ?_;rintro e w' ⟨rfl,rfl⟩;have hs1:=F2 n;have hs9:=Dl n hn0;have HSD:=Lib.hid (abB n om);generalize jn n=sz at*;have hps:∀ i,i<=sz->(oy s (zs.take k)++lJ n sz i).length<=1000000000:=by
     intro i hi;have h1:=Th s (zs.take k) (λz hz=>⟨HPOS.out z hz,HZ.out z (List.mem_of_mem_take hz)⟩);grind [lJ]
    have HPS:=Lib.hid hps;clear hps
    go_wp2_with fail
    generalize hP:oy s (zs.take k)=P at*;have HP:=Lib.hid hP;clear hP;obtain ⟨wo,rfl⟩:∃ wo:World,wo=wr:=⟨_,rfl⟩
    go_loopw [6,25] (λo i wr=>∃ j:Nat,j<=sz/\i= .int .i64 j/\pR wr w.heap.size 1 o (P++lJ n sz j).length (tQ (P++lJ n sz j))/\jH w.heap.size w wr) (λ_ i _=>sz - (intOf i).toNat)
    case atStart=>grind [lJ,HO.out]
    case round=>
     obtain ⟨j,hj,rfl,hoj,hbj⟩:=hrel;have HOJ:=Lib.hid hoj;clear hoj
     by_cases hjt:j<sz
     ·have hlen:=HPS.out j hj;obtain ⟨c,hc⟩:∃ c:UInt8,UInt8.ofNat (sA n sz j)=c:=⟨_,rfl⟩;have hdl:n / 128^(sz - 1 - j) % 128<128:=Nat.mod_lt _ om;have hand:bits .and .i64 ((n:Int) / 2^(7*(sz - 1 - j))) 127=((n / 128^(sz - 1 - j) % 128:Nat):Int):=by
       grind [i64_and127,Int.pow_mul]
      have hdigs:=F1 n sz j;rw [hc] at hdigs;have HDG:=Lib.hid hdigs
      by_cases hjl:j+1<sz
      ·have hcn:c.toNat=n / 128^(sz - 1 - j) % 128+128:=by
        grind [sA,UInt8.toNat_ofNat']
       generalize n / 128^(sz - 1 - j) % 128=d at*;have hor:bits .or .i64 (d:Int) 128=(c.toNat:Int):=by rw [abU d hdl,hcn]
       have hcl:=UInt8.toNat_lt c;clear hcn hc hdigs;have hba:w.heap.size<=(wr.alloc (.cells #[.int .u8 (c.toNat:Int)] 5)).heap.size:=by rw [World.size_alloc];have:=hbj.size;omega
       have h63:(P++lJ n sz j).length+1<=maxLen:=by unfold maxLen;omega
       have hby:((P++lJ n sz j).length+1)*1<=140737488355328:=om;have HBA:=Lib.hid (And.intro hba (And.intro h63 hby));clear hba h63 hby
       go_wp2_with (at_builtin;refine Te rfl _ _ 126 126 rfl w.heap.size 5 i0 (.int .u8 0) 1 1 Tryz.underlying126 HINFO.out.1 HINFO.out.2.1 HINFO.out.2.2.1 HINFO.out.2.2.2 rfl _ _ _ rfl (HOJ.out.S6 _) _ 1 [.int .u8 c.toNat] rfl (Tc Tryz.underlying126 wr.heap.size 1 _ rfl (MI rfl rfl)) HBA.out.2.1 HBA.out.2.2 HBA.out.1 (λ_=>Nat.one_pos) ?_;intro v' w2 hown' hgr' hform;have HO':=Lib.hid hown';have HG':=Lib.hid hgr';clear hown' hgr' hform)
       go_roundw
       case rel=>
        refine ⟨j+1,om,by go_num,?_,(hbj.wN (by have:=hbj.size;omega) _).S3 HG'.out HBA.out.1 (λk hk=>(HOJ.out.MF k hk).1)⟩;rw [HDG.out,<-List.append_assoc,S9,List.length_append];exact HO'.out
       case measure=>simp [intOf];omega
      ·have hcn:c.toNat=n / 128^(sz - 1 - j) % 128:=by
        grind [sA,UInt8.toNat_ofNat']
       rw [<-hcn] at hand;have hcl:=UInt8.toNat_lt c;clear hcn hc hdigs;have hba:w.heap.size<=(wr.alloc (.cells #[.int .u8 (c.toNat:Int)] 5)).heap.size:=by rw [World.size_alloc];have:=hbj.size;omega
       have h63:(P++lJ n sz j).length+1<=maxLen:=by unfold maxLen;omega
       have hby:((P++lJ n sz j).length+1)*1<=140737488355328:=om;have HBA:=Lib.hid (And.intro hba (And.intro h63 hby));clear hba h63 hby
       go_wp2_with (at_builtin;refine Te rfl _ _ 126 126 rfl w.heap.size 5 i0 (.int .u8 0) 1 1 Tryz.underlying126 HINFO.out.1 HINFO.out.2.1 HINFO.out.2.2.1 HINFO.out.2.2.2 rfl _ _ _ rfl (HOJ.out.S6 _) _ 1 [.int .u8 c.toNat] rfl (Tc Tryz.underlying126 wr.heap.size 1 _ rfl (MI rfl rfl)) HBA.out.2.1 HBA.out.2.2 HBA.out.1 (λ_=>Nat.one_pos) ?_;intro v' w2 hown' hgr' hform;have HO':=Lib.hid hown';have HG':=Lib.hid hgr';clear hown' hgr' hform)
       go_roundw
       case rel=>
        refine ⟨j+1,om,by go_num,?_,(hbj.wN (by have:=hbj.size;omega) _).S3 HG'.out HBA.out.1 (λk hk=>(HOJ.out.MF k hk).1)⟩;rw [HDG.out,<-List.append_assoc,S9,List.length_append];exact HO'.out
       case measure=>simp [intOf];omega
     ·obtain rfl:j=sz:=om
      go_wp2_with fail
      go_roundw
      case rel=>
       have e:oy s (zs.take (k+1))=P++lJ n j j:=by
        grind [HSD.out,HP.out,List.take_succ_eq_append_getElem,oy,abA,HN.out]
       refine ⟨k+1,om,by go_num,?_,hbj,?_⟩
       ·rw [e];exact HOJ.out
       ·have h:=HN.out;rw [List.getD_eq_getElem?_getD,List.getElem?_eq_getElem hlt] at h;simp only [Option.getD_some] at h;intro z hz;rw [List.take_succ_eq_append_getElem hlt,List.mem_append] at hz;rcases hz with hz|hz
        ·exact HPOS.out z hz
        simp_all
      case measure=>simp [intOf];omega
   ·have hres:tR s zs= .tuple #[.string ⟨#[]⟩, .int .i64 40]:=by
     grind [tR,List.getElem_mem]
    have HR:=Lib.hid hres;clear hres;generalize zs.getD k 0=z at*;have hz0:z<0:=om;clear hneg
    go_wp2_with fail
    go_ret2
    exact ⟨by rw [HR.out];rfl,hbr⟩
  ·obtain rfl:k=zs.length:=om;have ho:=HO.out;rw [List.take_length] at ho;have hsv:=Td (P:=Tryz.prog) wr 126 9 5 w.heap.size _ _ _ Tryz.underlying126 Tryz.underlying5 Tryz.underlying9 ho;clear ho;have hres:tR s zs= .tuple #[.string ⟨(oy s zs).toArray⟩, .int .i64 0]:=by
    unfold tR;rw [if_pos];rw [List.all_eq_true];intro z hz;exact decide_eq_true (HPOS.out z (by simp_all))
   have HR:=Lib.hid hres;clear hres
   go_wp2_with fail
   go_ret2
   exact ⟨by rw [HR.out];rfl,hbr⟩
theorem Tj (s:ByteArray) (hsz:s.size<1000000000) (ao:Option Addr) (cap:Nat) (w:World):
  Calls Tryz.prog 93 #[.string s, .slice ao 0 cap] w λe w'=>e= .returned (tR s [])/\jH w.heap.size w w':=by
 obtain ⟨w1,v1,hcv,hb1,hown,hv1⟩:=S8 (P:=Tryz.prog) w 9 126 5 s Tryz.underlying9 Tryz.underlying126 Tryz.underlying5 (by unfold maxLen;omega) w.heap.size (Nat.le_refl _);have hsv:=Td (P:=Tryz.prog) w1 126 9 5 w.heap.size v1 _ _ Tryz.underlying126 Tryz.underlying5 Tryz.underlying9 hown;clear hown hv1
 go_enter Tryz.func93,Tryz.ntmps93
 go_wp2_with fail
 go_loopw [6,16] (λo i wr=>o=v1/\i= .int .i64 0/\wr=w1) (λ_ _ _=>0)
 case atStart=>trivial
 case round=>
  obtain ⟨rfl,rfl,rfl⟩:=hrel
  go_wp2_with fail
  go_ret2
  refine ⟨?_,hb1⟩;simp [tR,oy,iv]
theorem Ti (s:ByteArray) (zs:List Int) (hz:∀ z∈zs,z<9223372036854775808) (hsz:s.size+9*zs.length<1000000000) (v:Value) (w:World) (hv:Jf w v zs):
  Calls Tryz.prog 93 #[.string s,v] w λe w'=>e= .returned (tR s zs)/\jH w.heap.size w w':=by
 by_cases hne:zs=[]
 ·subst hne;rcases hv with ⟨_,ao,cap,rfl⟩|⟨b,off,cap,rfl,_⟩
  ·grind [Tj]
  grind [Tj]
 grind [abV]
def wO (s:ByteArray):Value:=
 match gI s.data.toList with
 |none=> .tuple #[.int .i64 0, .string ⟨#[]⟩, .int .i64 40]
 |some (n,u)=> .tuple #[.int .i64 (n:Int), .string (s.extract u s.size), .int .i64 0]
theorem MK {s:ByteArray} (h:gI s.data.toList=none):wO s= .tuple #[.int .i64 0, .string ⟨#[]⟩, .int .i64 40]:=by
 unfold wO;rw [h]
theorem Tl {s:ByteArray} {n u:Nat} (h:gI s.data.toList=some (n,u)):wO s= .tuple #[.int .i64 (n:Int), .string (s.extract u s.size), .int .i64 0]:=by
 unfold wO;rw [h]
theorem abX (s:ByteArray) (k:Nat) (h:k<s.size):s.data.toList.drop k=s[k]::s.data.toList.drop (k+1):=by
 rw [List.drop_eq_getElem_cons (by simpa using h)];rfl
theorem Tm (s:ByteArray) (hs:s.size<1000000000000) (w:World):
  Calls Tryz.prog 224 #[.string s] w λe w'=>e= .returned (wO s)/\jH w.heap.size w w':=by
 go_enter Tryz.func224,Tryz.ntmps224
 go_wp2_with fail
 go_step3
 go_wp2_with fail
 go_step3
 go_wp2_with fail
 go_loop [5,6,11] (λx u i=>∃ k n:Nat,k<=s.size/\x= .int .i64 n/\u= .int .i64 0/\i= .int .i64 k/\n<9223372036854775808/\gI s.data.toList=jo n k (s.data.toList.drop k)) (λ_ _ i=>s.size - (intOf i).toNat)
 case atStart=>exact ⟨0,0,Nat.zero_le _,rfl,rfl,rfl,om,rfl⟩
 case round=>
  obtain ⟨k,n,hk,rfl,rfl,rfl,hn,ht⟩:=hrel;have HT:=Lib.hid ht;clear ht
  by_cases hlt:k<s.size
  ·have HD:=Lib.hid (abX s k hlt);have hcl:=UInt8.toNat_lt s[k]
   by_cases hstop:(k=0/\s[k].toNat=128)\/72057594037927935<n
   ·have hres:wO s= .tuple #[.int .i64 0, .string ⟨#[]⟩, .int .i64 40]:=by
     apply MK;rw [HT.out,HD.out];exact SP _ _ _ _ hstop
    have HR:=Lib.hid hres;clear hres
    by_cases h1:k=0/\s[k].toNat=128
    ·have hk0:((k:Int)==0)=true:=by rw [h1.1];rfl
     have hc0:((s[k].toNat:Int)==128)=true:=by rw [h1.2];rfl
     clear hstop h1
     go_wp2_with fail
     go_ret3
     exact ⟨by rw [HR.out];rfl,jH.rp _ _⟩
    ·have hg:(((k:Int)==0)=true/\((s[k].toNat:Int)==128)=false)\/((k:Int)==0)=false:=by
      rw [beq_iff_eq,beq_eq_false_iff_ne,beq_eq_false_iff_ne];omega
     have hn0:72057594037927935<n:=by rcases hstop with h|h;exact absurd h h1;exact h
     clear hstop h1;rcases hg with ⟨hk0,hc0⟩|hk0
     all_goals
      go_wp2_with fail
      go_ret3
      exact ⟨by rw [HR.out];rfl,jH.rp _ _⟩
   ·have hg:(((k:Int)==0)=true/\((s[k].toNat:Int)==128)=false)\/((k:Int)==0)=false:=by
     rw [beq_iff_eq,beq_eq_false_iff_ne,beq_eq_false_iff_ne];omega
    have hn0:n<=72057594037927935:=om
    by_cases hlast:s[k].toNat<128
    ·have hres:wO s= .tuple #[.int .i64 ((n*128+s[k].toNat:Nat):Int), .string (s.extract (k+1) s.size), .int .i64 0]:=by
      apply Tl;rw [HT.out,HD.out];exact Mw _ _ _ _ hstop hlast
     have HR:=Lib.hid hres;have hor:=Tg n s[k].toNat hn0 hlast;have hu0:((k:Int)+1==0)=false:=by rw [beq_eq_false_iff_ne];omega
     clear hstop hres;rcases hg with ⟨hk0,hc0⟩|hk0
     all_goals
      go_wp2_with fail
      have hlo:(0:Int)<=(k:Int)+1:=om;have hhi:(k:Int)+1<=(s.size:Int):=om;have htn:((k:Int)+1).toNat=k+1:=om
      go_quiet (fail)
      go_wp2_with fail
      rw [Exit.noGoto_ret]
      go_ret3
      exact ⟨by rw [HR.out];rfl,S5 (jH.rp _ _) _⟩
    ·have hstep:=Mx _ _ _ (s.data.toList.drop (k+1)) hstop hlast;have HS:=Lib.hid hstep;have hor:=Tg n (s[k].toNat % 128) hn0 om;have hand:bits .and .i64 (s[k].toNat:Int) 127=((s[k].toNat % 128:Nat):Int):=by rw [i64_and127];rfl
     have hdd:s[k].toNat % 128<128:=om;clear hstop hstep;generalize s[k].toNat % 128=d at*;rcases hg with ⟨hk0,hc0⟩|hk0
     all_goals
      go_wp2_with fail
      go_round
      case rel=>exact ⟨k+1,n*128+d,om,by go_num,rfl,by go_num,om,by rw [HT.out,HD.out,HS.out]⟩
      case measure=>simp [intOf];omega
  ·have hres:wO s= .tuple #[.int .i64 0, .string ⟨#[]⟩, .int .i64 40]:=by
    apply MK;rw [HT.out,List.drop_eq_nil_of_le (by simp;omega)];rfl
   have HR:=Lib.hid hres;clear hres
   go_wp2_with fail
   go_ret3
   exact ⟨by rw [HR.out];rfl,jH.rp _ _⟩
theorem Tk (s:ByteArray) (u a b:Nat):(s.extract u s.size).extract a b=s.extract (u+a) (u+b):=by
 apply WideShapes.bytes_inj;rw [Lib.extract_data,Lib.extract_data,Lib.extract_data];have hl:s.data.toList.length=s.size:=rfl;rw [List.take_of_length_le (l:=List.drop u _) (by rw [List.length_drop,hl];omega),List.drop_drop,show u+b - (u+a)=b - a from by omega]
def yk (s:ByteArray):Value:=
 match pL s.data.toList with
 |none=> .tuple #[.string ⟨#[]⟩, .string ⟨#[]⟩, .int .i64 40]
 |some (n,u)=> .tuple #[.string (s.extract u (u+n)), .string (s.extract (u+n) s.size), .int .i64 0]
theorem abZ (s:ByteArray) (hs:s.size<1000000000000) (w:World):
  Calls Tryz.prog 177 #[.string s] w λe w'=>e= .returned (yk s)/\jH w.heap.size w w':=by
 have H1:=Lib.hid (Tm s hs w);cases ht:gI s.data.toList with
 |none=>
  have hres:yk s= .tuple #[.string ⟨#[]⟩, .string ⟨#[]⟩, .int .i64 40]:=by
   unfold yk pL;rw [ht]
  have HR:=Lib.hid hres;rw [MK ht] at H1;clear hres ht
  go_enter Tryz.func177,Tryz.ntmps177
  go_wp2_with fail
  refine H1.out.mono ?_;rintro e w1 ⟨rfl,hb1⟩
  go_wp2_with fail
  go_ret3
  exact ⟨by rw [HR.out];rfl,hb1⟩
 |some p=>
  obtain ⟨n,u⟩:=p;have hb:=Dm _ _ _ _ _ om ht;have hlen:s.data.toList.length=s.size:=rfl;rw [hlen] at hb;have hxs:(s.extract u s.size).size=s.size - u:=by rw [ByteArray.size_extract];omega
  rw [Tl ht] at H1
  by_cases hfit:n+u<=s.size
  ·have hres:yk s= .tuple #[.string (s.extract u (u+n)), .string (s.extract (u+n) s.size), .int .i64 0]:=by
    unfold yk pL;rw [ht];simp only;rw [hlen,if_pos hfit]
   have HR:=Lib.hid hres;clear hres ht hlen;have HX:=Lib.hid hxs;generalize hX:s.extract u s.size=X at*;have HXX:=Lib.hid hX;have hn:n<=X.size:=by rw [HX.out];omega
   have hni:(n:Int)<=(X.size:Int):=om;have hn0:(0:Int)<=(n:Int):=om;clear hX hxs
   go_enter Tryz.func177,Tryz.ntmps177
   go_wp2_with fail
   refine H1.out.mono ?_;rintro e w1 ⟨rfl,hb1⟩
   go_wp2_with fail
   go_quiet (fail)
   go_wp2_with fail
   go_ret3
   refine ⟨?_,S5 hb1 _⟩;rw [HR.out];have hsz:u+X.size=s.size:=by rw [HX.out];omega
   have hXX:=HXX.out;subst hXX;have e1:=Tk s u 0 n;have e2:=Tk s u n (s.extract u s.size).size;rw [hsz] at e2;rw [Nat.add_zero] at e1;rw [<-e1,<-e2];rfl
  ·have hres:yk s= .tuple #[.string ⟨#[]⟩, .string ⟨#[]⟩, .int .i64 40]:=by
    unfold yk pL;rw [ht];simp only;rw [hlen,if_neg hfit]
   have HR:=Lib.hid hres;have hlt:s.size - u<n:=om;clear hres ht hlen;generalize s.extract u s.size=X at*
   go_enter Tryz.func177,Tryz.ntmps177
   go_wp2_with fail
   refine H1.out.mono ?_;rintro e w1 ⟨rfl,hb1⟩
   go_wp2_with fail
   go_ret3
   exact ⟨by rw [HR.out];rfl,hb1⟩
def ML (b t:ByteArray):ByteArray:=⟨(jA b.data.toList t.data.toList).toArray⟩
theorem abY (w:World) (b c:Nat) (z:Int) (hb:b<w.heap.size) (hc:w.cell? ⟨b,0,none⟩=some (.int .i64 z)):Jf w (.slice (some ⟨b,0,none⟩) 1 c) [z]:=
 .inr ⟨b,0,c,rfl,hb,λi hi=>by match i,hi with|0,_=>simpa using hc⟩
theorem ab0 (b t:ByteArray) (hs:b.size+t.size<900000000) (w:World):
  Calls Tryz.prog 112 #[.string b, .string t] w λe w'=>e= .returned (.string (ML b t))/\jH w.heap.size w w':=by
 have h1:=Ti b [(t.size:Int)] (by intro z hz;rw [List.mem_singleton] at hz;omega) (by simp;omega);have hp:tR b [(t.size:Int)]= .tuple #[.string ⟨(oy b [(t.size:Int)]).toArray⟩, .int .i64 0]:=by
  unfold tR;rw [if_pos (by simp)]
 rw [hp] at h1;have hl:=Th b [(t.size:Int)] (by intro z hz;rw [List.mem_singleton] at hz;omega);have hfin:ML b t=⟨(oy b [(t.size:Int)]).toArray⟩++t:=by
  apply WideShapes.bytes_inj;rw [ByteArray.data_append,Array.toList_append];simp [ML,jA,oy,iv]
 have hP:(⟨(oy b [(t.size:Int)]).toArray⟩:ByteArray).size<=b.size+9:=by
  show (oy b [(t.size:Int)]).toArray.size<=_;rw [List.size_toArray];exact hl
 generalize (⟨(oy b [(t.size:Int)]).toArray⟩:ByteArray)=P at*;have HF:=Lib.hid hfin;have H1:=Lib.hid h1;clear hfin h1 hp hl
 go_enter Tryz.func112,Tryz.ntmps112
 go_wp2_with fail
 refine (H1.out _ _ (abY _ _ _ _ (by simp) (MI rfl rfl))).mono ?_;rintro e w1 ⟨rfl,hb1⟩
 go_wp2_with fail
 go_ret
 exact ⟨by rw [HF.out];rfl,((jH.rp _ _).wN (Nat.le_refl _) _).Je (hb1.Jd (by simp))⟩
theorem aca {w:World} (h0:w.cell? ⟨0,0,none⟩=some (.int .u32 0)) (h1:w.cell? ⟨0,1,none⟩=some (.int .u32 79764919)) (x:Nat) (hx:x<4294967296):
  ∃ T:Int,w.cell? ⟨0,x / 2147483648,none⟩=some (.int .u32 T)/\bits .xor .u32 ((x:Int)*2 % 4294967296) T=((wM x:Nat):Int):=by
 have e:((x:Int)*2 % 4294967296)=((x*2 % 4294967296:Nat):Int):=om
 by_cases h:x<2147483648
 ·rw [show x / 2147483648=0 from om,abJ h,e];refine ⟨0,h0,?_⟩;rw [show (0:Int)=((0:Nat):Int) from rfl,u32_xor_nat _ _ om om,Nat.xor_zero]
 ·rw [show x / 2147483648=1 from om,abI h,e];refine ⟨79764919,h1,?_⟩;rw [show (79764919:Int)=((79764919:Nat):Int) from rfl,u32_xor_nat _ _ om om]
def va (w:World):Prop:=0<w.heap.size/\w.cell? ⟨0,0,none⟩=some (.int .u32 0)/\w.cell? ⟨0,1,none⟩=some (.int .u32 79764919)
theorem va.To {w w':World} {n:Nat} (h:va w) (hb:jH n w w') (hn:w.heap.size<=n):va w':=
 ⟨Nat.lt_of_lt_of_le h.1 hb.size,(hb.cell (p:=⟨_,0,none⟩) (Nat.lt_of_lt_of_le h.1 hn)).trans h.2.1,(hb.cell (p:=⟨_,1,none⟩) (Nat.lt_of_lt_of_le h.1 hn)).trans h.2.2⟩
theorem va.ab3 {w:World} (h:va w):va w.drew:=h.To ((jH.rp _ _).Jc) (Nat.le_refl _)
theorem va.Tn {w:World} (h:va w) (o:Obj):va (w.alloc o):=h.To ((jH.rp _ _).wN (Nat.le_refl _) o) (Nat.le_refl _)
theorem ab4 (n c:Nat) (hn:n<4294967296) (hc:c<256) (w:World) (h0:w.cell? ⟨0,0,none⟩=some (.int .u32 0)) (h1:w.cell? ⟨0,1,none⟩=some (.int .u32 79764919)):
  Calls Tryz.prog 227 #[.int .u32 (n:Int), .int .u8 (c:Int)] w λe w'=>e= .returned (.int .u32 (F5 n c))/\w=w':=by
 have hstep:=aca h0 h1;clear h0 h1;have H:=Lib.hid hstep;clear hstep;have hxo:bits .xor .u32 (n:Int) ((c:Int)*16777216)=((n^^^c*16777216:Nat):Int):=by
  rw [show (c:Int)*16777216=((c*16777216:Nat):Int) from om,u32_xor_nat _ _ hn om]
 have hlt:n^^^c*16777216<4294967296:=Nat.xor_lt_two_pow (n:=32) hn om;have hadd:F5 n c=Jb 8 (n^^^c*16777216):=rfl;have HA:=Lib.hid hadd;clear hadd
 go_enter Tryz.func227,Tryz.ntmps227
 go_wp2
 generalize hX:n^^^c*16777216=X at*;have HX:=Lib.hid hX;clear hX;refine wp_scope_jumps 0 (λa' w'=>w'=w/\∃ (k:Nat) (x:Nat) (u1 u4 u6 u7 u8 u9 u10 u11 u12 u13 u14 u15 u16 u17 u18 u19 u20 u21:Value),a'={tmps:=#[.int .u32 x,u1,undef,undef,u4, .int .i64 k,u6,u7,u8,u9,u10,u11,u12,u13,u14,u15,u16,u17,u18,u19,u20,u21,undef],defers:=[]}/\1<=k/\k<=7/\x=Jb (8 - k) X/\x<4294967296) (λa' _=>(intOf (a'.tmps.getD 5 undef)).toNat) rfl ?_ ?_
 ·go_wp2
  go_step3
  clear hxo;obtain ⟨T,hT,hb⟩:=H.out X hlt
  go_wp2
  go_step3
  exact ⟨rfl,rfl,7,wM X,_,_,_,_,_,_,_,_,_,_,_,_,_,_,_,_,_,_,rfl,om,om,rfl,ME _⟩
 ·rintro a' w' ⟨rfl,k,x,u1,u4,u6,u7,u8,u9,u10,u11,u12,u13,u14,u15,u16,u17,u18,u19,u20,u21,rfl,hk1,hk2,hx,hxlt⟩;have HK:=Lib.hid hx;clear hx;clear hxo;obtain ⟨T,hT,hb⟩:=H.out x hxlt
  by_cases hk:1<k
  ·obtain ⟨j,rfl⟩:∃ j,k=j+1:=⟨k - 1,om⟩
   go_wp2
   go_step3
   refine ⟨rfl,⟨rfl,j,wM x,_,_,_,_,_,_,_,_,_,_,_,_,_,_,_,_,_,_,rfl,om,om,?_,ME _⟩,?_⟩
   ·rw [HK.out,show 8 - j=(8 - (j+1))+1 from by omega];rfl
   ·simp [intOf]
  ·obtain rfl:k=1:=om
   go_wp2
   simp only [Exit.jump]
   go_ret
   refine ⟨?_,rfl⟩;rw [HA.out,HK.out];rfl
def Bt (ss:List ByteArray):List UInt8:=(ss.map λs=>s.data.toList).flatten
theorem ab5 (ss:List ByteArray) (k:Nat) (h:k<ss.length):Bt (ss.take (k+1))=Bt (ss.take k)++(ss.getD k ByteArray.empty).data.toList:=by
 grind [Bt,List.take_succ_eq_append_getElem]
theorem acd (s:ByteArray) (k:Nat) (h:k<s.size):s.data.toList.take (k+1)=s.data.toList.take k++[s[k]]:=by
 rw [List.take_succ_eq_append_getElem (by simpa using h)];rfl
theorem acb (ss:List ByteArray) (b off cap:Nat) (hss:∀ s∈ss,s.size<=maxLen) (hlen:ss.length<=maxLen) (w:World) (h0:w.cell? ⟨0,0,none⟩=some (.int .u32 0)) (h1:w.cell? ⟨0,1,none⟩=some (.int .u32 79764919))
  (hc:∀ i,i<ss.length->w.cell? ⟨b,off+i,none⟩=some (.string (ss.getD i ByteArray.empty))):
  Calls Tryz.prog 183 #[.slice (some ⟨b,off,none⟩) ss.length cap] w λe w'=>e= .returned (.int .u32 (rn (Bt ss)))/\w=w':=by
 unfold maxLen at hss hlen;have HS:=Lib.hid hss;clear hss;have HC:=Lib.hid hc;clear hc;have HA0:=Lib.hid h0;have HA1:=Lib.hid h1;clear h0 h1
 go_enter Tryz.func183,Tryz.ntmps183
 go_wp2
 go_loop [3,9] (λn i=>∃ k x:Nat,k<=ss.length/\i= .int .i64 k/\n= .int .u32 x/\x=u0 4294967295 (Bt (ss.take k))/\x<4294967296) (λ_ i=>ss.length - (intOf i).toNat)
 case atStart=>exact ⟨0,4294967295,Nat.zero_le _,rfl,rfl,rfl,om⟩
 case round=>
  obtain ⟨k,x,hk,rfl,rfl,hx,hxlt⟩:=hrel;have HX:=Lib.hid hx;clear hx
  by_cases hlt:k<ss.length
  ·have hcell:=HC.out k hlt;have hsz:=HS.out (ss.getD k ByteArray.empty) (by simp_all);have HFS:=Lib.hid (ab5 ss k hlt);generalize ss.getD k ByteArray.empty=s at*
   go_wp2
   go_loop [3,15] (λn i=>∃ j y:Nat,j<=s.size/\i= .int .i64 j/\n= .int .u32 y/\y=u0 x (s.data.toList.take j)/\y<4294967296) (λ_ i=>s.size - (intOf i).toNat)
   case atStart=>exact ⟨0,x,Nat.zero_le _,rfl,rfl,rfl,hxlt⟩
   case round=>
    obtain ⟨j,y,hj,rfl,rfl,hy,hylt⟩:=hrel;have HY:=Lib.hid hy;clear hy
    by_cases hjt:j<s.size
    ·have HT:=Lib.hid (acd s j hjt)
     go_wp2_with (go_at_call 227;refine (ab4 _ _ hylt (UInt8.toNat_lt _) _ HA0.out HA1.out).mono ?_;rintro e w' ⟨rfl,rfl⟩)
     grind [HT.out,abM,HY.out,S1,intOf]
    ·go_wp2
     go_round
     case rel=>exact ⟨k+1,y,om,by go_num,rfl,by rw [HFS.out,abK,<-HX.out,HY.out,List.take_of_length_le (by simp;omega)],hylt⟩
     grind [intOf]
  ·go_wp2
   go_ret
   refine ⟨?_,rfl⟩;rw [HX.out,List.take_of_length_le om];rfl
theorem Tp (n:Nat) (hn:n<4294967296) (w:World):
  Calls Tryz.prog 182 #[.int .u32 (n:Int)] w λe w'=>e= .returned (.string ⟨(rm n).toArray⟩)/\jH w.heap.size w w':=by
 have hcv:=abS (P:=Tryz.prog) w 126 5 9 5 Tryz.underlying126 Tryz.underlying5 Tryz.underlying9 [(n:Int) / 16777216,(n:Int) / 65536 % 256,(n:Int) / 256 % 256,(n:Int) % 256] 4;simp only [List.length_cons,List.length_nil,List.map_cons,List.map_nil] at hcv;have hfin:strOfNums [(n:Int) / 16777216,(n:Int) / 65536 % 256,(n:Int) / 256 % 256,(n:Int) % 256]=⟨(rm n).toArray⟩:=by
  unfold strOfNums rm;simp only [List.map_cons,List.map_nil];rw [show ((n:Int) / 16777216).toNat=n / 16777216 from om,show ((n:Int) / 65536 % 256).toNat=n / 65536 % 256 from om,show ((n:Int) / 256 % 256).toNat=n / 256 % 256 from om,show ((n:Int) % 256).toNat=n % 256 from om,MJ,MJ,MJ]
 generalize strOfNums [(n:Int) / 16777216,(n:Int) / 65536 % 256,(n:Int) / 256 % 256,(n:Int) % 256]=S at*;have HF:=Lib.hid hfin;clear hfin
 go_enter Tryz.func182,Tryz.ntmps182
 go_wp2
 go_ret
 exact ⟨by rw [HF.out];rfl,(jH.rp _ _).wN (Nat.le_refl _) _⟩
theorem Tq (s:ByteArray) (hs:s.size<=maxLen) (w:World) (b c:Nat) (S:va w) (h0:w.cell? ⟨b,0,none⟩=some (.string s)):
  Calls Tryz.prog 183 #[.slice (some ⟨b,0,none⟩) 1 c] w λe w'=>e= .returned (.int .u32 (rn s.data.toList))/\w=w':=by
 have h:=acb [s] b 0 c (by simpa using hs) (by unfold maxLen;simp) w S.2.1 S.2.2 (by simp_all);have e:Bt [s]=s.data.toList:=by simp [Bt]
 simp_all
def wP (s:ByteArray):ByteArray:=⟨(rm (rn s.data.toList)).toArray⟩
theorem ab9 (s:ByteArray) (hs:s.size<1000000000) (w:World) (S:va w):
  Calls Tryz.prog 113 #[.string s] w λe w'=>e= .returned (.string (s++wP s))/\jH w.heap.size w w':=by
 have hlt:=S2 s.data.toList;have hm:s.size<=maxLen:=by unfold maxLen;omega
 have h1:=Tq s hm;have hsz:(wP s).size<=4:=by simp [wP,rm,ByteArray.size]
 have hb:=λw=>Tp (rn s.data.toList) hlt w
 have hdef:(⟨(rm (rn s.data.toList)).toArray⟩:ByteArray)=wP s:=rfl;rw [hdef] at hb;generalize wP s=B at*;generalize rn s.data.toList=n at*;have H1:=Lib.hid h1;have HB:=Lib.hid hb;clear h1 hb hm hdef
 go_enter Tryz.func113,Tryz.ntmps113
 go_wp2_with fail
 refine (H1.out _ _ _ (S.Tn _) (by simp)).mono ?_;rintro e w' ⟨rfl,rfl⟩
 go_wp2_with fail
 refine (HB.out _).mono ?_;rintro e w' ⟨rfl,hb⟩
 go_wp2_with fail
 go_ret
 exact ⟨rfl,((jH.rp _ _).wN (Nat.le_refl _) _).Je (hb.Jd (by simp))⟩
def qC (s:ByteArray):ByteArray:=s.extract 0 (s.size - 4)
def MM (s:ByteArray):ByteArray:=s.extract (s.size - 4) s.size
theorem ab8 (s:ByteArray) (hs:s.size<4) (w:World):
  Calls Tryz.prog 262 #[.string s] w λe w'=>e= .returned (.tuple #[.string ⟨#[]⟩, .bool false])/\w=w':=by
 go_enter Tryz.func262,Tryz.ntmps262
 go_wp2_with fail
 go_ret2
 trivial
def zI (s:ByteArray):Bool:=(wP (qC s)).toList==(MM s).toList
def F7 (c:Bool) (s:ByteArray):Value:=if c=true then .tuple #[.string (qC s), .bool true] else .tuple #[.string ⟨#[]⟩, .bool false]
theorem ab7 (s:ByteArray) (hs:s.size<1000000000) (h4:4<=s.size) (w:World) (S:va w):
  Calls Tryz.prog 262 #[.string s] w λe w'=>e= .returned (F7 (zI s) s)/\jH w.heap.size w w':=by
 have hm:(qC s).size<=maxLen:=by grind [maxLen,qC,ByteArray.size_extract]
 have hlt:=S2 (qC s).data.toList;have h1:=Tq (qC s) hm;have hb:=λw=>Tp (rn (qC s).data.toList) hlt w
 have hdef:(⟨(rm (rn (qC s).data.toList)).toArray⟩:ByteArray)=wP (qC s):=rfl;rw [hdef] at hb;have HO:Hid (zI s=((wP (qC s)).toList==(s.extract (s.size - 4) s.size).toList)):=Lib.hid rfl;generalize wP (qC s)=B at*;generalize rn (qC s).data.toList=n at*;have H1:=Lib.hid h1;have HB:=Lib.hid hb;clear h1 hb hm hdef;unfold qC at H1;have hlo:(4:Int)<=(s.size:Int):=om;have hwr:IntKind.i64.wrap ((s.size:Int) - 4)=(s.size:Int) - 4:=IntWalk.i64_in _ om;obtain ⟨q,hq⟩:∃ q,(B.toList==(s.extract (s.size - 4) s.size).toList)=q:=⟨_,rfl⟩;have HF:Hid (zI s=q):=Lib.hid (HO.out.trans hq);clear HO
 go_enter Tryz.func262,Tryz.ntmps262
 go_wp2_with fail
 go_region_with (first|(go_at_call 183;refine (H1.out _ _ _ ?_ ?_).mono ?_;exact (S.Tn _).ab3;simp;rintro e w' ⟨rfl,rfl⟩)|(go_at_call 182;refine (HB.out _).mono ?_;rintro e w' ⟨rfl,hb⟩))
 all_goals
  cases q
  ·go_wp2
   go_ret2
   exact ⟨by rw [HF.out];rfl,(((jH.rp _ _).wN (Nat.le_refl _) _).Jc).Je (hb.Jd (by simp))⟩
  ·go_wp2
   go_ret2
   exact ⟨by rw [HF.out];rfl,(((jH.rp _ _).wN (Nat.le_refl _) _).Jc).Je (hb.Jd (by simp))⟩
theorem ab6 (s:ByteArray) (hs:s.size<1000000000) (w:World) (S:va w):
  Calls Tryz.prog 262 #[.string s] w λe w'=>e= .returned (F7 (decide (4<=s.size) && zI s) s)/\jH w.heap.size w w':=by
 by_cases h4:4<=s.size
 ·grind [ab7]
 ·refine (ab8 s om w).mono ?_;grind [F7,jH.rp]
open Go.Am
def Dt (zs:List Int):List (List ae):=zs.map λz=>[.aa .i64 z]
theorem ace {w:World} {F:Nat->Nat->Prop} {isNil:Bool} {zs:List Int} {v:Value} (h:cb w F (.ag isNil 1 (Dt zs) .av) v):Jf w v zs:=by
 cases h with
 | @iK _ _ _ ad c vs hnil hc hsz ha hone hr=>
  have hlen:(Dt zs).length=zs.length:=by simp [Dt]
  cases zs with
  |nil=>exact .inl ⟨rfl,ad,c,rfl⟩
  |cons z0 zs=>
   have hget:∀ i,i<(z0::zs).length->(Dt (z0::zs))[i]? =some [.aa .i64 ((z0::zs).getD i 0)]:=λi hi=>by
    grind [Dt]
   obtain ⟨blk,base,rfl,_,hc0⟩:=ha 0 _ 0 _ (hget 0 (by simp)) rfl;refine .inr ⟨blk,base,c,by rw [hlen],KL hc0,λi hi=>?_⟩;obtain ⟨blk',base',e,_,hci⟩:=ha i _ 0 _ (hget i hi) rfl;have hri:=hr i _ 0 _ (hget i hi) rfl;simp only [Option.some.injEq,Addr.mk.injEq,and_true] at e;obtain ⟨rfl,rfl⟩:=e;rw [Nat.mul_one,Nat.add_zero] at hci;rw [hci];generalize vs i 0=x at hri;cases hri;rfl
theorem F8 (s:List UInt8) (isNil:Bool) (zs:List Int) (hz:∀ z∈zs,0<=z/\z<9223372036854775808) (hsz:s.length+9*zs.length<1000000000):
  aC Tryz.prog 93 [.ai s, .ag isNil 1 (Dt zs) .av] (.aw [.ai (s++iv (zs.map Int.toNat)), .aa .i64 0]):=by
 refine ⟨lC (fn:=Tryz.f93) (by kernel_rfl) rfl (by kernel_rfl),λw F vals hG hF hl hv=>?_⟩
 match vals,hl with
 |[v,u],_=>
  have e1:v= .string ⟨s.toArray⟩:=LB (hv 0 _ v rfl rfl) rfl;have hi:=ace (hv 1 _ u rfl rfl);subst e1;have hh:=Ti ⟨s.toArray⟩ zs (λz h=>(hz z h).2) hsz u w hi;have hp:tR ⟨s.toArray⟩ zs= .tuple #[.string ⟨(s++iv (zs.map Int.toNat)).toArray⟩, .int .i64 0]:=by
   unfold tR;rw [if_pos (List.all_eq_true.2 λz h=>decide_eq_true (hz z h).1)];rfl
  rw [hp] at hh;exact hh.mono λe w' ⟨h1,h2⟩=>⟨_,F,h1,h2.Ds,λ_ _ h=>h,λ_ _ h=> .inl h, .H8 (.Y4 _) (.fK _ _)⟩
def pS (s:List UInt8):ae:=match gI s with
 |none=> .aw [.aa .i64 0, .ai [], .aa .i64 40]
 |some (n,u)=> .aw [.aa .i64 (n:Int), .ai (s.drop u), .aa .i64 0]
theorem acg (s:List UInt8) (w:World) (F:Nat->Nat->Prop):cb w F (pS s) (wO ⟨s.toArray⟩):=by
 unfold pS wO;show cb w F (match gI s with|none=>_|some (n,u)=>_) (match gI s with|none=>_|some (n,u)=>_);cases gI s with
 |none=>exact .H9 (.fK _ _) (.gX rfl) (.fK _ _)
 |some p=>
  obtain ⟨n,u⟩:=p;refine .H9 (.fK _ _) (.gX ?_) (.fK _ _);show (ByteArray.extract ⟨s.toArray⟩ u s.length).data.toList=_;grind [ByteArray.data_extract,List.take_of_length_le]
theorem F9 (s:List UInt8) (hs:s.length<1000000000000):aC Tryz.prog 224 [.ai s] (pS s):=
 .AN (lC (fn:=Tryz.f224) (by kernel_rfl) rfl (by kernel_rfl)) rfl (λw _=>(Tm ⟨s.toArray⟩ hs w).mono λ_ _ ⟨h1,h2⟩=>⟨h1,h2.Ds⟩) (acg s)
def pg (s:List UInt8):ae:=match pL s with
 |none=> .aw [.ai [], .ai [], .aa .i64 40]
 |some (n,u)=> .aw [.ai ((s.drop u).take n), .ai (s.drop (u+n)), .aa .i64 0]
theorem acf (s:List UInt8) (w:World) (F:Nat->Nat->Prop):cb w F (pg s) (yk ⟨s.toArray⟩):=by
 unfold pg yk;show cb w F (match pL s with|none=>_|some (n,u)=>_) (match pL s with|none=>_|some (n,u)=>_);cases pL s with
 |none=>exact .H9 (.gX rfl) (.gX rfl) (.fK _ _)
 |some p=>
  obtain ⟨n,u⟩:=p;refine .H9 (.gX ?_) (.gX ?_) (.fK _ _)
  ·simp_all
  ·show (ByteArray.extract ⟨s.toArray⟩ (u+n) s.length).data.toList=_;grind [ByteArray.data_extract,List.take_of_length_le]
theorem Du (s:List UInt8) (hs:s.length<1000000000000):aC Tryz.prog 177 [.ai s] (pg s):=
 .AN (lC (fn:=Tryz.f177) (by kernel_rfl) rfl (by kernel_rfl)) rfl (λw _=>(abZ ⟨s.toArray⟩ hs w).mono λ_ _ ⟨h1,h2⟩=>⟨h1,h2.Ds⟩) (acf s)
theorem Dv (b t:List UInt8) (hs:b.length+t.length<900000000):aC Tryz.prog 112 [.ai b, .ai t] (.ai (jA b t)):=
 .AN (lC (fn:=Tryz.f112) (by kernel_rfl) rfl (by kernel_rfl)) rfl (λw _=>(ab0 ⟨b.toArray⟩ ⟨t.toArray⟩ hs w).mono λ_ _ ⟨h1,h2⟩=>⟨h1,h2.Ds⟩) (λ_ _=> .gX rfl)
def MN (n:Nat):ByteArray:=⟨(bW n).toArray⟩
theorem Ts (n:Nat) (hn:n<9223372036854775808):(MN n).size=jn n:=by
 show (bW n).toArray.size=_;grind [zC]
theorem Tt {w:World} (h:mb Tryz.prog w):va w:=by
 have hg:Tryz.prog.globalNamed "gunwale/sums.steps" =some 0:=by kernel_rfl
 have c0:=h _ (List.mem_singleton.2 rfl) _ hg 0 0 rfl;have c1:=h _ (List.mem_singleton.2 rfl) _ hg 1 79764919 rfl;exact ⟨KL c0,c0,c1⟩
theorem acj (s:List UInt8) (hs:s.length<1000000000):aC Tryz.prog 113 [.ai s] (.ai (mU s)):=
 .AN (lC (fn:=Tryz.f113) (by kernel_rfl) rfl (by kernel_rfl)) rfl (λw hG=>(ab9 ⟨s.toArray⟩ hs w (Tt hG)).mono λ_ _ ⟨h1,h2⟩=>⟨h1,h2.Ds⟩) (λ_ _=> .gX (by
  trivial))
def Ga (s:List UInt8):ae:=if 4<=s.length/\rm (rn (s.take (s.length - 4)))=s.drop (s.length - 4) then .aw [.ai (s.take (s.length - 4)), .aE true] else .aw [.ai [], .aE false]
theorem Tu (s:List UInt8):(qC ⟨s.toArray⟩).data.toList=s.take (s.length - 4):=by
 unfold qC;rw [Lib.extract_data,Nat.sub_zero];rfl
theorem ack (s:List UInt8):(MM ⟨s.toArray⟩).data.toList=s.drop (s.length - 4):=by
 unfold MM;rw [Lib.extract_data];rw [List.take_of_length_le (by simp;exact Nat.le_refl _)];rfl
theorem ach (s:List UInt8) (w:World) (F:Nat->Nat->Prop):cb w F (Ga s) (F7 (decide (4<=(⟨s.toArray⟩:ByteArray).size) && zI ⟨s.toArray⟩) ⟨s.toArray⟩):=by
 have h1:(zI ⟨s.toArray⟩=true)↔rm (rn (s.take (s.length - 4)))=s.drop (s.length - 4):=by
  grind [zI,abR,ack,wP,Tu]
 unfold Ga F7
 by_cases h4:4<=s.length
 ·rw [decide_eq_true (show 4<=(⟨s.toArray⟩:ByteArray).size from h4),Bool.true_and]
  by_cases ho:zI ⟨s.toArray⟩=true
  ·rw [if_pos ⟨h4,h1.1 ho⟩,if_pos ho];exact .H8 (.gX (Tu s)) (.nh true)
  ·rw [if_neg (λh=>ho (h1.2 h.2)),if_neg ho];exact .H8 (.gX rfl) (.nh false)
 ·rw [decide_eq_false (show ¬4<=(⟨s.toArray⟩:ByteArray).size from h4),Bool.false_and,if_neg (λh=>h4 h.1),if_neg dd];exact .H8 (.gX rfl) (.nh false)
theorem aci (s:List UInt8) (hs:s.length<1000000000):aC Tryz.prog 262 [.ai s] (Ga s):=
 .AN (lC (fn:=Tryz.f262) (by kernel_rfl) rfl (by kernel_rfl)) rfl (λw hG=>(ab6 ⟨s.toArray⟩ hs w (Tt hG)).mono λ_ _ ⟨h1,h2⟩=>⟨h1,h2.Ds⟩) (ach s)
open Go.RowKit Go.Am
theorem Tw:(Tryz.prog.info? 128).map (·.size)=some 2:=by kernel_rfl
theorem aco:liesAt Tryz.prog Tryz.prog.depth 128 (2 / Tryz.prog.cellsOf 128) 0 128 1=true:=by kernel_rfl
theorem acm:Tryz.prog.cellsOf 5=1:=by kernel_rfl
theorem acp (b:Nat) (w:World) (h0:w.cell? ⟨b,0,none⟩=some (.pointer (some ⟨b,0,none⟩))):
  Calls Tryz.prog 95 #[.pointer (some ⟨b,0,none⟩)] w λe w'=>e= .returned (.tuple #[])/\w'=w:=by
 obtain ⟨j,hj,_⟩:=Option.map_eq_some_iff.1 Tw
 go_enter Tryz.func95,Tryz.ntmps95
 go_wp2
 rw [Lib.run_neq_ptr_same w _ Tryz.underlying125 hj]
 go_wp2
 go_end0
 trivial
theorem acn (b:Nat) (w:World) (h0:w.cell? ⟨b,0,none⟩=some (.pointer none)) (hsh:w.shape? b=some (128,2)) (hfz:w.frozen? ⟨b,0,none⟩=false):
  Calls Tryz.prog 95 #[.pointer (some ⟨b,0,none⟩)] w λe w'=>e= .returned (.tuple #[])/\w'=w.setCell ⟨b,0,none⟩ (.pointer (some ⟨b,0,none⟩)):=by
 obtain ⟨j,hj,hjs⟩:=Option.map_eq_some_iff.1 Tw
 go_enter Tryz.func95,Tryz.ntmps95
 go_wp2
 rw [Lib.run_to_unsafe w ⟨b,0,none⟩ Tryz.underlying125 Tryz.underlying289 hj (by rw [hjs];decide) hsh (Nat.zero_lt_succ 1)];simp only [Result.andThen];rw [Oper.upon_value]
 go_wp2
 rw [run_callFunc_extern Tryz.func163 (by kernel_rfl) (by kernel_rfl) (by kernel_rfl) (e:=Extern.AbiNoEscape.same) (by kernel_rfl)];rw [Lib.run_noEscape];simp only [Result.andThen];rw [Oper.upon_value]
 go_wp2
 rw [Lib.run_from_unsafe w ⟨b,0,none⟩ Tryz.underlying289 Tryz.underlying125 hj hsh aco];simp only [Result.andThen];rw [Oper.upon_value]
 go_wp2
 go_end0
 trivial
theorem Tv (w:World) (c:Nat) (p u:Value) (hh:w.heap[c]? =some (.cells [p,u].toArray 128 (0,0))) (hp:p= .pointer none\/p= .pointer (some ⟨c,0,none⟩)):
  Calls Tryz.prog 95 #[.pointer (some ⟨c,0,none⟩)] w λe w'=>e= .returned (.tuple #[])/\kj c w w'/\w'.heap[c]? =some (.cells [.pointer (some ⟨c,0,none⟩),u].toArray 128 (0,0)):=by
 rcases hp with rfl|rfl
 ·have h0:w.cell? ⟨c,0,none⟩=some (.pointer none):=by rw [nk hh];rfl
  have hsh:w.shape? c=some (128,2):=by grind [World.shape?]
  have hfz:w.frozen? ⟨c,0,none⟩=false:=KN hh (by simp);obtain ⟨s1,s2,_,_⟩:=EY c 0 [.pointer (some ⟨c,0,none⟩)] hh (by simp) (λo _ ho=>by simp at ho) (λu hu=>by simp at hu;subst hu;rfl);refine (acn c w h0 hsh hfz).mono ?_;rintro e w' ⟨rfl,rfl⟩;trivial
 ·have h0:w.cell? ⟨c,0,none⟩=some (.pointer (some ⟨c,0,none⟩)):=by rw [nk hh];rfl
  refine (acp c w h0).mono ?_;grind [kj.xS]
theorem MO (w:World) (c:Nat) (p:Value) (hh:w.heap[c]? =some (.cells [p, .slice none 0 0].toArray 128 (0,0))):
  Calls Tryz.prog 45 #[.pointer (some ⟨c,0,none⟩)] w λe w'=>e= .returned (.string ⟨[].toArray⟩)/\(Below w.heap.size w w'/\w.drawn<=w'.drawn):=by
 have hUS:∀ W,(Builtin.unsafeString_ #[194,3] 9 #[.pointer none, .int .i64 0]).run Tryz.prog W= .ok (.string .empty) W:=λW=>Lib.run_unsafeString_none W _ _ _ none
 have c1:w.drew.cell? ⟨c,1,none⟩=some (.slice none 0 0):=by rw [nk (w:=w.drew) hh];rfl
 have hSD:(Builtin.unsafeSliceData_ #[126] 194 #[.slice none 0 0]).run Tryz.prog w.drew= .ok (.pointer none) w.drew:=rfl
 go_enter Tryz.func45,Tryz.ntmps45
 go_wp2
 go_region
 all_goals (go_wp2;go_ret;exact ⟨rfl,Below.drew (Below.refl _ w),Nat.le_succ _⟩)
theorem acq (w:World) (r n:Nat) {arr:List Value} {t:TypeId} {z:Nat×Nat} (hh:w.heap[r]? =some (.cells arr.toArray t z)):
  kj r w (w.freeze ⟨r,0,none⟩ n)/\∀ o,(w.freeze ⟨r,0,none⟩ n).cell? ⟨r,o,none⟩=w.cell? ⟨r,o,none⟩:=by
 unfold World.freeze
 by_cases hn:n=0
 ·grind [kj.xS]
 rw [if_neg hn];refine ⟨⟨rfl,rfl,rfl,by simp,λk hk=>by grind,?_,λds hd=>?_,rfl⟩,λo=>?_⟩
 ·grind [World.shape?]
 ·simp_all
 grind [World.cell?]
theorem MP (s:List UInt8) (h0:s≠[]) (hlen:s.length<=1000000000000) (w:World) (c r cap:Nat) (p:Value) (hh:w.heap[c]? =some (.cells [p, .slice (some ⟨r,0,none⟩) s.length cap].toArray 128 (0,0))) (hsh:w.shape? r=some (5,cap))
  (hcap:s.length<=cap) (hcell:∀ j x,s[j]? =some x->w.cell? ⟨r,j,none⟩=some (.int .u8 x.toNat)):
  Calls Tryz.prog 45 #[.pointer (some ⟨c,0,none⟩)] w λe w'=>e= .returned (.string ⟨s.toArray⟩)/\∃ w1,(Below w.heap.size w w1/\w.drawn<=w1.drawn)/\w1.heap=w.heap/\kj r w1 w'/\∀ o,w'.cell? ⟨r,o,none⟩=w1.cell? ⟨r,o,none⟩:=by
 have hl0:s.length≠0:=by simpa using h0
 have c1:w.drew.cell? ⟨c,1,none⟩=some (.slice (some ⟨r,0,none⟩) s.length cap):=by rw [nk (w:=w.drew) hh];rfl
 have hSD:(Builtin.unsafeSliceData_ #[126] 194 #[.slice (some ⟨r,0,none⟩) s.length cap]).run Tryz.prog w.drew= .ok (.pointer (some ⟨r,0,none⟩)) w.drew:=
  Lib.run_unsafeSliceData_row _ _ _ _ _ _ om
 have hUS:(Builtin.unsafeString_ #[194,3] 9 #[.pointer (some ⟨r,0,none⟩), .int .i64 s.length]).run Tryz.prog w.drew= .ok (.string ⟨s.toArray⟩) (w.drew.freeze ⟨r,0,none⟩ s.length):=by
  refine Lib.run_unsafeString_row w.drew 194 3 9 5 Tryz.underlying194 acm r cap hsh s h0 hcap om ?_;intro j x hx;have e:(⟨r,0,none⟩:Addr).add j=⟨r,j,none⟩:=by grind [Addr.add]
  simp_all
 obtain ⟨arr,z,hr⟩:∃ (arr:List Value) (z:Nat×Nat),w.heap[r]? =some (.cells arr.toArray 5 z):=by
  unfold World.shape? at hsh;split at hsh
  ·rename_i cs t z e;simp only [Option.some.injEq,Prod.mk.injEq] at hsh;obtain ⟨rfl,_⟩:=hsh;exact ⟨cs.toList,z,e⟩
  ·cases hsh
 obtain ⟨f1,f2⟩:=acq w.drew r s.length (arr:=arr) (t:=5) (z:=z) hr;clear hsh hcell hr hlen hcap
 go_enter Tryz.func45,Tryz.ntmps45
 go_wp2
 go_region
 all_goals (go_wp2;go_ret;exact ⟨rfl,w.drew,⟨Below.drew (Below.refl _ w),Nat.le_succ _⟩,rfl,f1,f2⟩)
def gU (l:List Int):List (List ae):=l.map λr=>[.aa .i32 r]
theorem Ty (s p:List UInt8):aC Tryz.prog 239 [.ai s, .ai p] (.aE (pb p s)):=by
 unfold pb;refine bK Tryz.func239 ?_
 conv=>whnf
 refine ⟨λh=>?_,λh=>?_⟩
 ·have h:=of_decide_eq_true h;refine ak ?_;simp_all
 ·have h:=of_decide_eq_false h
  conv=>whnf
  grind
theorem acw (s p:List UInt8):aC Tryz.prog 260 [.ai s, .ai p] (.aE (pb p s)):=by
 refine bK Tryz.func260 ?_
 conv=>whnf
 refine bz.eV (Ty s p) rfl ?_
 conv=>whnf
theorem acr (r:Int):aC Tryz.prog 244 [.aa .i32 r] (.aE (Bg r)):=by
 unfold Bg;refine bK Tryz.func244 ?_
 conv=>whnf
 refine ⟨λh=>?_,λh=>?_⟩
 ·conv=>whnf
  rw [h];rfl
 ·rw [h]
  conv=>whnf
  refine ⟨λh2=>?_,λh2=>?_⟩
  ·have h2:r=47:=by simpa using h2
   conv=>whnf
   simp_all
  ·have h2:¬r=47:=by simpa using h2
   conv=>whnf
   grind
theorem acx (nil:Bool) (l:List Int) (hl:l.length<=4611686018427387904):aC Tryz.prog 281 [.ag nil 1 (gU l) .av, .aP 244 [] []] (.aa .i64 (I0 l)):=by
 have hlen:(gU l).length=l.length:=by simp [gU]
 refine bK Tryz.func281 ?_
 conv=>whnf
 refine db.cK (λk:Nat=>[(.aj 0, .ah (.ag nil 1 (gU l) .av)),(.aj 1, .ah (.aP 244 [] [])),(.aj 7, .ah (.aa .i64 l.length)),(.aj 8, .ah (.aa .i64 k))]) 0
  (λk=>k<=l.length/\(l.take k).findIdx? Bg=none) (λk=>l.length - k) dd 0 ⟨Nat.zero_le _,rfl⟩ ⟨rfl,rfl,rfl,rfl,?_,rfl,rfl,rfl,trivial⟩ ?_
 ·show bs.ah (ae.aa .i64 ((gU l).length:Nat))=_;rw [hlen]
 rintro k ⟨hk,hno⟩;refine cn ?_;refine ⟨λh=>?_,λh=>?_⟩
 ·have h:=of_decide_eq_true h;have hlt:k<l.length:=om;have hel:(gU l)[k]? =some [.aa .i32 l[k]]:=by grind [gU]
  have hb:=acr l[k];refine ak ?_;refine ⟨λh2=>?_,λh2=>?_⟩
  ·conv=>whnf
   grind [List.findIdx?_eq_some_iff_getElem,I0]
  ·conv=>whnf
   refine ⟨k+1,⟨om,?_⟩,by grind,rfl,rfl,rfl,rfl,rfl,rfl,?_,rfl,trivial⟩
   ·grind [List.take_succ_eq_append_getElem]
   ·exact dh
 ·have h:=of_decide_eq_false h;obtain rfl:k=l.length:=om;rw [List.take_length] at hno
  conv=>whnf
  grind [I0]
theorem acv (nil:Bool) (l:List Int) (hl:l.length<=4611686018427387904):aC Tryz.prog 243 [.ag nil 1 (gU l) .av, .aP 244 [] []] (.aE (l.any Bg)):=by
 refine bK Tryz.func243 ?_
 conv=>whnf
 refine bz.eV (acx nil l hl) rfl ?_
 conv=>whnf
 congr 1;grind [I0]
def acz (o:Option (List Int)):ae:=match o with
 |none=> .aw [.ag true 1 [] .av, .aE false]
 |some l=> .aw [.ag false 1 (gU l) .av, .aE true]
theorem TC (s:List UInt8) (hs:s.length<=1048576):aC Tryz.prog 221 [.ai s] (acz (mw s)):=by
 refine bK Tryz.func221 ?_
 conv=>whnf
 refine ⟨⟨om,dG om dd⟩,?_⟩
 conv=>whnf
 refine db.cK (X:=Nat×List Int) (λx=>[(.aj 0, .ah (.ai s)),(.aj 4, .ah (.ag false 1 (gU x.2) (.dB 4))),(.aj 5, .ah .bN),(.aj 12, .ah (.cz 8)),(.aJ 4, .aN 21 1 x.2.length),(.af 8, .iR s x.1)]) 9
  (λx=>x.1<=s.length+4/\x.2.length<=x.1/\∃ f,s.length<f+x.1/\mw s=pc s f x.1 x.2) (λx=>s.length - x.1) dd (0,[]) ⟨om,Nat.le_refl _,s.length+1,om,rfl⟩
  ⟨rfl,rfl,rfl,rfl,rfl,rfl,rfl,rfl,rfl,rfl,rfl,rfl,trivial⟩ ?_
 rintro ⟨p,acc⟩ ⟨h1,h2,f,hf,hsp⟩;simp only at h1 h2 hf hsp;have hal:(gU acc).length=acc.length:=by simp [gU]
 refine cn ?_
 by_cases hp:p<s.length
 ·obtain ⟨f,rfl⟩:∃ g,f=g+1:=⟨f - 1,om⟩;rw [pc,if_pos hp] at hsp;refine ⟨true,(decide_eq_true hp).symm,?_⟩;have d1:=IZ s p;have d2:=Mi s p
  conv=>whnf
  refine ⟨λh3=>?_,λh3=>?_⟩
  ·have h3:((lH s p).1:Int)≠65533:=by
    grind [lH]
   rw [if_pos (.inl h3)] at hsp
   conv=>whnf
   refine ⟨⟨hal.symm,dG (by grind) dd⟩,?_⟩
   conv=>whnf
   refine ⟨(p+(lH s p).2,acc++[((lH s p).1:Int)]),⟨om,by grind,f,om,hsp⟩,by grind,rfl,rfl,?_,rfl,rfl,rfl,rfl,rfl,?_,rfl,rfl,rfl,trivial⟩
   ·show bs.ah (ae.ag false 1 (gU acc++[[ae.aa .i32 ((lH s p).1:Int)]]) _)=bs.ah (ae.ag false 1 (gU (acc++[((lH s p).1:Int)])) _);grind [gU]
   ·show bs.aN _ 1 ((gU acc).length+1)=bs.aN _ 1 (acc++[_]).length;simp_all
  ·have h3:((lH s p).1:Int)=65533:=by
    grind [lH]
   have hpre:=acw (s.drop p) [239,191,189];refine cC ?_;refine ak ?_;refine ⟨λh4=>?_,λh4=>?_⟩
   ·rw [if_pos (.inr h4)] at hsp
    conv=>whnf
    refine ⟨⟨hal.symm,dG (by grind) dd⟩,?_⟩
    conv=>whnf
    refine ⟨(p+(lH s p).2,acc++[((lH s p).1:Int)]),⟨om,by grind,f,om,hsp⟩,by grind,rfl,rfl,?_,rfl,rfl,rfl,rfl,rfl,?_,rfl,rfl,rfl,trivial⟩
    ·show bs.ah (ae.ag false 1 (gU acc++[[ae.aa .i32 ((lH s p).1:Int)]]) _)=bs.ah (ae.ag false 1 (gU (acc++[((lH s p).1:Int)])) _);grind [gU]
    ·show bs.aN _ 1 ((gU acc).length+1)=bs.aN _ 1 (acc++[_]).length;simp_all
   ·rw [if_neg (by rw [h3,h4];simp)] at hsp
    conv=>whnf
    rw [hsp];rfl
 ·refine ⟨false,(decide_eq_false hp).symm,?_⟩;have e:pc s f p acc=some acc:=by
   cases f with
   |zero=>rfl
   |succ f=>grind [pc]
  rw [e] at hsp;rw [hsp];exact bm
theorem Tz (s:List UInt8) (hs:s.length<=1048576):aC Tryz.prog 207 [.ai s] (.aE (o8 s)):=by
 have h1:=TC s hs;have hlen:∀ l,mw s=some l->l.length<=1048576:=λl h=>Nat.le_trans (Sv h) hs
 cases ho:mw s with
 |none=>
  have e:o8 s=false:=by grind [o8]
  rw [ho] at h1;rw [e];refine bK Tryz.func207 ?_;exact dC
 |some l=>
  have hl:=hlen l ho;have hel:(gU l).length=l.length:=by simp [gU]
  have hb:=acv false l om;have e:o8 s=Df s l:=by grind [o8]
  rw [ho] at h1;rw [e];unfold Df;refine bK Tryz.func207 ?_;refine ak ?_;refine ⟨λh2=>?_,λh2=>?_⟩
  ·have h2:=of_decide_eq_true h2
   conv=>whnf
   rw [decide_eq_true (by omega:l.length<1)];rfl
  have h2:=of_decide_eq_false h2;rw [decide_eq_false (by omega:¬l.length<1)]
  conv=>whnf
  refine ⟨λh3=>?_,λh3=>?_⟩
  ·have h3:=of_decide_eq_true h3
   conv=>whnf
   grind
  have h3:=of_decide_eq_false h3;rw [decide_eq_false (by omega:¬20<l.length)]
  conv=>whnf
  refine ⟨λh4=>?_,λh4=>?_⟩
  ·have h4:s=[46]:=of_decide_eq_true h4
   conv=>whnf
   simp_all
  have h4:¬s=[46]:=of_decide_eq_false h4;rw [decide_eq_false h4]
  conv=>whnf
  refine ⟨λh5=>?_,λh5=>?_⟩
  ·have h5:s=[46,46]:=of_decide_eq_true h5
   conv=>whnf
   simp_all
  have h5:¬s=[46,46]:=of_decide_eq_false h5;rw [decide_eq_false h5];exact bm
theorem acs (a b:Int):aC Tryz.prog 220 [.aa .i32 a, .aa .i32 b] (.aa .i64 (if a<b then -1 else if b<a then 1 else 0)):=by
 have hn:∀ x:Int,aC Tryz.prog 259 [.aa .i32 x] (.aE false):=λx=>by
  refine bK Tryz.func259 ?_
  conv=>whnf
  simp_all
 refine bK Tryz.func220 ?_
 conv=>whnf
 refine bz.eV (hn a) rfl ?_
 conv=>whnf
 refine bz.eV (hn b) rfl ?_;refine ak ?_;refine ⟨λh=>?_,λh=>?_⟩
 ·rw [if_pos (of_decide_eq_true h)]
  conv=>whnf
 rw [if_neg (of_decide_eq_false h)]
 conv=>whnf
 refine ⟨λh=>?_,λh=>?_⟩
 ·rw [if_pos (of_decide_eq_true h)]
  conv=>whnf
 rw [if_neg (of_decide_eq_false h)]
 conv=>whnf
theorem MQ (l:List Int):(gU l).length=l.length:=by simp [gU]
theorem Tx {l:List Int} {k:Nat} (h:k<l.length):(gU l)[k]? =some [.aa .i32 l[k]]:=by grind [gU]
theorem acu (n1 n2:Bool) (a b:List Int) (ha:a.length<=4611686018427387904):aC Tryz.prog 168 [.ag n1 1 (gU a) .av, .ag n2 1 (gU b) .av] (.aa .i64 (kL a b)):=by
 refine bK Tryz.func168 ?_;have hla:=MQ a;have hlb:=MQ b
 conv=>whnf
 refine db.cK (λk:Nat=>[(.aj 0, .ah (.ag n1 1 (gU a) .av)),(.aj 1, .ah (.ag n2 1 (gU b) .av)),(.aj 9, .ah (.ag n1 1 (gU a) .av)),(.aj 10, .ah (.aa .i64 (a.length:Nat))),(.aj 11, .ah (.aa .i64 k))])
  0 (λk=>k<=a.length/\k<=b.length/\kL a b=kL (a.drop k) (b.drop k)) (λk=>a.length - k) dd 0 ⟨Nat.zero_le _,Nat.zero_le _,rfl⟩ ⟨rfl,rfl,rfl,rfl,rfl,rfl,?_,rfl,rfl,rfl,trivial⟩ ?_
 ·show bs.ah (ae.aa .i64 ((gU a).length:Nat))=_;rw [hla]
 rintro k ⟨hk,hkb,hcm⟩;refine cn ?_;refine ⟨λh=>?_,λh=>?_⟩
 ·have h:=of_decide_eq_true h;have hlt:k<a.length:=om;have hg:=Tx hlt;rw [List.drop_eq_getElem_cons hlt] at hcm;refine ak ?_;refine ⟨λh=>?_,λh=>?_⟩
  ·have h:=of_decide_eq_true h;rw [show b.drop k=[] from List.drop_of_length_le om,kL] at hcm;rw [hcm]
   conv=>whnf
  have h:=of_decide_eq_false h;have hlt2:k<b.length:=om;have hg2:=Tx hlt2;have hc:=acs a[k] b[k];rw [List.drop_eq_getElem_cons hlt2,kL] at hcm;refine ak ?_
  by_cases c1:a[k]<b[k]
  ·rw [if_pos c1] at hcm ⊢;rw [hcm];exact dC
  by_cases c2:b[k]<a[k]
  ·rw [if_neg c1,if_pos c2] at hcm ⊢;rw [hcm];exact dC
  rw [if_neg c1,if_neg c2] at hcm ⊢
  conv=>whnf
  refine ⟨λh=>absurd h dd,λ_=>?_⟩
  conv=>whnf
  refine ⟨k+1,⟨om,om,hcm⟩,by grind,rfl,rfl,rfl,rfl,rfl,rfl,rfl,rfl,?_,rfl,trivial⟩;show bs.ah (ae.aa .i64 (IntKind.i64.wrap ((k:Int)+1)))=bs.ah (ae.aa .i64 ((k+1:Nat):Int));grind [bj]
 ·have h:=of_decide_eq_false h;have hke:k=a.length:=om;rw [hke,List.drop_length] at hcm
  conv=>whnf
  refine ⟨λh=>?_,λh=>?_⟩
  ·have h:=of_decide_eq_true h;have hlt2:a.length<b.length:=om;rw [List.drop_eq_getElem_cons hlt2,kL] at hcm;rw [hcm]
   conv=>whnf
  ·have h:=of_decide_eq_false h;rw [List.drop_of_length_le om,kL] at hcm;rw [hcm]
   conv=>whnf
theorem acy (s:List UInt8):(qy s).length<=s.length:=by
 unfold qy;cases h:mw s with
 |none=>simp
 |some l=>exact Sv h
theorem TB (s:List UInt8) (hs:s.length<=1048576):aC Tryz.prog 169 [.ai s] (.ag false 1 (gU (qy s)) .av):=by
 have h1:=TC s hs;unfold qy;cases ho:mw s with
 |some l=>
  rw [ho] at h1;refine bK Tryz.func169 ?_;exact dC
 |none=>
  rw [ho] at h1;refine bK Tryz.func169 ?_;refine ak ?_;refine ⟨⟨om,dG om dd⟩,?_⟩
  conv=>whnf
  refine db.cK (λk:Nat=>[(.aj 0, .ah (.ai s)),(.aj 3, .ah (.ag false 1 (gU ((s.take k).map λb=>(1114112+b.toNat:Int))) (.dB 10))),(.aj 17, .ah (.aa .i64 (s.length:Nat))),(.aj 18, .ah (.aa .i64 k)),(.aJ 10, .aN 21 1 k)])
   11 (λk=>k<=s.length) (λk=>s.length - k) dd 0 (Nat.zero_le _) ⟨rfl,rfl,rfl,rfl,rfl,rfl,rfl,rfl,rfl,rfl,trivial⟩ ?_
  rintro k hk;have hel:(gU ((s.take k).map λb=>(1114112+b.toNat:Int))).length=k:=by grind [MQ]
  refine cn ?_;refine ⟨λh=>?_,λh=>?_⟩
  ·have h:=of_decide_eq_true h;have hlt:k<s.length:=om;have hb:=s[k].toNat_lt
   conv=>whnf
   refine ⟨s[k],⟨om,List.getElem?_eq_getElem hlt⟩,?_⟩
   conv=>whnf
   refine ⟨⟨hel.symm,dG (by grind) dd⟩,?_⟩
   conv=>whnf
   refine ⟨k+1,om,by grind,rfl,rfl,?_,rfl,rfl,rfl,?_,rfl,?_,rfl,trivial⟩
   ·show bs.ah (ae.ag false 1 (gU ((s.take k).map λb=>(1114112+b.toNat:Int))++[[ae.aa .i32 (IntKind.i32.wrap (IntKind.i32.wrap (1114111+IntKind.i32.wrap (s[k].toNat:Int))+1))]]) _)=bs.ah (ae.ag false 1 (gU ((s.take (k+1)).map λb=>(1114112+b.toNat:Int))) _);grind [List.take_succ_eq_append_getElem,gU,IntKind.wrap_i32]
   ·show bs.ah (ae.aa .i64 (IntKind.i64.wrap ((k:Int)+1)))=bs.ah (ae.aa .i64 ((k+1:Nat):Int));grind [bj]
   ·show bs.aN _ 1 ((gU _).length+1)=bs.aN _ 1 (k+1);rw [hel]
  ·have h:=of_decide_eq_false h;obtain rfl:k=s.length:=om;rw [List.take_length]
   conv=>whnf
theorem TA (a b:List UInt8) (ha:a.length<=1048576) (hb:b.length<=1048576):aC Tryz.prog 101 [.ai a, .ai b] (.aE (lI a b)):=by
 have hc:=acu false false (qy a) (qy b) (by grind [acy]);refine bK Tryz.func101 ?_
 conv=>whnf
 refine bz.eV (TB a ha) rfl ?_
 conv=>whnf
 refine bz.eV (TB b hb) rfl ?_;exact bm
end Go.Proofs.YtffboamedcmpaaaGreatDoor
