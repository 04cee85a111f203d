import Derived.Test.YtffboamedcmpaaaGreatDoorCg
set_option linter.all false
set_option maxHeartbeats 4000000
set_option maxRecDepth 100000
namespace Go.Proofs.YtffboamedcmpaaaGreatDoor
open Gw
open Go.Am
def hU (p:Int×ByteArray):List ae:=[.aa .i64 p.1, .ai p.2.data.toList]
def j6 (nil:Bool) (d:dL):ae:= .aK [.aa .i64 d.bE, .ai d.jy.data.toList, .ag nil 2 (d.cH.map hU) .av]
def jJ (x:Int):Prop:=-9223372036854775808<=x/\x<=9223372036854775807
theorem MZ {l:List (Int×ByteArray)} {k:Nat} (hk:k<l.length):(l.map hU)[k]? =some (hU l[k]):=by simp_all
theorem TT (s:List UInt8) (hs:s.length<=1048576):aC Tryz.prog 185 [.ai s] (.aa .i64 ((s.length+15) / 16:Nat)):=by
 refine bK Tryz.func185 ?_
 conv=>whnf
 rw [bj (x:=(s.length:Int)+16) om om,bj (x:=(s.length:Int)+16 - 1) om om,LA om,bj om om];congr 1;omega
theorem DD (nil:Bool) (d:dL) (hsz:jJ d.bE) (hl:d.cH.length<=1048576):aC Tryz.prog 170 [j6 nil d] (.aE (ef d)):=by
 obtain ⟨size,firm,loose⟩:=d;have hsz:jJ size:=hsz;unfold jJ at hsz;have hl:loose.length<=1048576:=hl;have hfs:firm.size=firm.data.toList.length:=rfl;show aC Tryz.prog _ [.aK [.aa .i64 size, .ai firm.data.toList, .ag nil 2 (loose.map hU) .av]] _;refine bK Tryz.func170 ?_
 conv=>whnf
 refine ⟨λh1=>?_,λh1=>?_⟩
 ·conv=>whnf
  grind [ef]
 have h1:=of_decide_eq_false h1
 conv=>whnf
 refine ⟨λh2=>?_,λh2=>?_⟩
 ·conv=>whnf
  grind [ef]
 have h2:=of_decide_eq_false h2
 conv=>whnf
 rw [bj (x:=size*16) om om];refine ⟨λh3=>?_,λh3=>?_⟩
 ·conv=>whnf
  have h3:¬((firm.size:Int)=size*16):=by simp_all
  grind [ef]
 have h3:(firm.size:Int)=size*16:=by simp_all
 conv=>whnf
 have hchk:ef ⟨size,firm,loose⟩=loose.all (uR size):=by
  grind [ef]
 rw [hchk];refine db.cK (λk:Nat=>[(.aj 1, .ah (.ar 0 0)),(.aj 23, .ah (.ag nil 2 (loose.map hU) .av)),(.aj 24, .ah (.aa .i64 (loose.map hU).length)),(.aj 25, .ah (.aa .i64 k)),
  (.af 0, .au 44 [.aa .i64 size, .ai firm.data.toList, .ag nil 2 (loose.map hU) .av])]) 1 (λk=>k<=loose.length/\(loose.take k).all (uR size)=true) (λk=>loose.length - k) dd 0 ⟨Nat.zero_le _,rfl⟩
  ⟨rfl,rfl,rfl,rfl,rfl,rfl,rfl,rfl,rfl,rfl,trivial⟩ ?_
 rintro k ⟨hk,hall⟩;refine cn ?_;refine ⟨λh4=>?_,λh4=>?_⟩
 ·have h4:=of_decide_eq_true h4;rw [List.length_map] at h4;have hlt:k<loose.length:=om;have htk:loose.take (k+1)=loose.take k++[loose[k]]:=List.take_succ_eq_append_getElem hlt;have hno:uR size loose[k]=false->loose.all (uR size)=false:=λh=>by
   grind
  obtain ⟨⟨at_,data⟩,hp⟩:∃ p,loose[k]=p:=⟨_,rfl⟩;have hel:(loose.map hU)[k]? =some [.aa .i64 at_, .ai data.data.toList]:=by rw [MZ hlt,hp];rfl
  rw [hp] at htk hno;refine ak ?_;have hds:data.size=data.data.toList.length:=rfl
  conv=>whnf
  refine ⟨λh5=>?_,λh5=>?_⟩
  ·conv=>whnf
   grind [uR]
  have h5:=of_decide_eq_false h5
  conv=>whnf
  refine ⟨λh6=>?_,λh6=>?_⟩
  ·conv=>whnf
   grind [uR]
  have h6:=of_decide_eq_false h6
  conv=>whnf
  refine ⟨λh7=>?_,λh7=>?_⟩
  ·conv=>whnf
   have h7:¬data.size=16:=by simp at h7;omega
   grind [uR]
  have h7:data.size=16:=by simp at h7;omega
  conv=>whnf
  refine ⟨k+1,⟨om,?_⟩,by grind,rfl,rfl,rfl,rfl,rfl,rfl,?_,rfl,rfl,rfl,trivial⟩
  ·grind [uR]
  ·exact dh
 ·have h4:=of_decide_eq_false h4;rw [List.length_map] at h4
  conv=>whnf
  grind
theorem TR (nil:Bool) (els:List (List ae)) (hn:nil=true->els=[]) (hl:els.length<=4294967296):aC Tryz.prog 174 [.ag nil 2 els .av] (.ag nil 2 els .av):=by
 refine cU Tryz.func174 ?_
 conv=>whnf
 refine ⟨λh=>?_,λh=>?_⟩
 ·conv=>whnf
  grind [iL.eR]
 ·conv=>whnf
  refine ⟨dG (by simpa using hl) dd,?_⟩
  conv=>whnf
  grind [iL.bw]
theorem M3 (nil:Bool) (d:dL) (hn:nil=true->d.cH=[]) (hl:d.cH.length<=4294967296):aC Tryz.prog 179 [j6 nil d] (j6 nil d):=by
 obtain ⟨size,firm,loose⟩:=d;have hn:nil=true->loose=[]:=hn;show aC Tryz.prog _ [.aK [.aa .i64 size, .ai firm.data.toList, .ag nil 2 (loose.map hU) .av]] _;refine bK Tryz.func179 ?_
 conv=>whnf
 refine bz.eV (TR nil _ (λh=>by rw [hn h];rfl) (by simp_all)) rfl ?_;exact bm
theorem ac7 (size:Int):j6 true (lV size)= .aK [.aa .i64 (min (max size 0) 65536), .ai (List.replicate ((min (max size 0) 65536).toNat*16) 0), .ag true 2 [] .av]:=by
 trivial
theorem ac9 (size:Int):aC Tryz.prog 58 [.aa .i64 size] (j6 true (lV size)):=by
 rw [ac7];refine cU Tryz.func58 ?_
 conv=>whnf
 have hw:IntKind.i64.wrap (min (max size 0) 65536*16)=min (max size 0) 65536*16:=bj om om;refine ⟨⟨by grind,rfl,dG (by grind) dd⟩,?_⟩
 conv=>whnf
 refine ⟨List.replicate (min (max size 0) 65536*16).toNat 0,?_,?_⟩
 ·show 0+(IntKind.i64.wrap (min (max size 0) 65536*16)).toNat<=(eB (IntKind.i64.wrap (min (max size 0) 65536*16)).toNat [ae.aa .u8 0]).length/\((eB (IntKind.i64.wrap (min (max size 0) 65536*16)).toNat [ae.aa .u8 0]).drop 0).take (IntKind.i64.wrap (min (max size 0) 65536*16)).toNat=_;rw [Lu,hw];exact Ig (by simp)
 conv=>whnf
 refine iL.np (.aX (.mj ?_) (.aX (.mj ?_) (.aX (.eR _ _ _) .fa)))
 ·rfl
 grind
theorem ac4 {l t:List UInt8} {i len off n:Nat} (hl:len=l.length - i) (ho:off=i) (hn:n=t.length) (h:i+t.length<=l.length):
  (cW l).take off++(cW t).take (min n len*1)++(cW l).drop (off+min n len*1)=cW (nB l i t):=by
 subst hl ho hn;have e:min t.length (l.length - off)*1=t.length:=om;grind [nj,nB,Ih,Ij,Ii]
theorem TV (nil:Bool) (d:dL) (at_ n:Nat) (hc:ef d=true) (h:((at_+n:Nat):Int)<=d.bE) (hl:d.cH.length<=1048576):aC Tryz.prog 187 [j6 nil d, .aa .i64 at_, .aa .i64 n] (.ai (A9 d at_ n)):=by
 have hs:=mr hc;obtain ⟨size,firm,loose⟩:=d;simp only at hs h hl;obtain ⟨z1,z2,z3,z4⟩:=hs;have hfl:firm.data.toList.length=firm.size:=rfl;show aC Tryz.prog _ [.aK [.aa .i64 size, .ai firm.data.toList, .ag nil 2 (loose.map hU) .av], .aa .i64 at_, .aa .i64 n] (.ai (loose.foldl (oU at_ n) ((firm.data.toList.drop (at_*16)).take (n*16))));refine bK Tryz.func187 ?_
 conv=>whnf
 have w1:IntKind.i64.wrap ((at_:Int)*16)=(at_:Int)*16:=bj om om;have w2:IntKind.i64.wrap ((at_:Int)+n)=(at_:Int)+n:=bj om om;have w3:IntKind.i64.wrap (((at_:Int)+n)*16)=((at_:Int)+n)*16:=bj om om;rw [w2,w3,w1];refine ak ?_;have hb:(firm.data.toList.take (((at_:Int)+n)*16).toNat).drop ((at_:Int)*16).toNat=(firm.data.toList.drop (at_*16)).take (n*16):=by
  grind [List.drop_take]
 have hbl:((firm.data.toList.drop (at_*16)).take (n*16)).length=n*16:=by grind
 rw [hb];generalize (firm.data.toList.drop (at_*16)).take (n*16)=base at hbl ⊢
 conv=>whnf
 refine db.cK (λk:Nat=>[(.aj 1, .ah (.aa .i64 at_)),(.aj 2, .ah (.aa .i64 n)),(.aj 7, .ah (.aL 11 0 1 (n*16) true)),(.aj 21, .ah (.ag nil 2 (loose.map hU) .av)),(.aj 22, .ah (.aa .i64 loose.length)),(.aj 23, .ah (.aa .i64 k)),
  (.af 11, .aR 5 (cW ((loose.take k).foldl (oU at_ n) base)))]) 12 (λk=>k<=loose.length) (λk=>loose.length - k) dd 0 (Nat.zero_le _)
  ⟨rfl,rfl,rfl,rfl,?_,rfl,rfl,rfl,?_,rfl,rfl,rfl,rfl,rfl,trivial⟩ ?_
 ·show bs.ah (ae.aL 11 0 1 base.length true)=_;rw [hbl]
 ·show bs.ah (ae.aa .i64 ((loose.map hU).length:Nat))=_;simp_all
 rintro k hk;have hlk:((loose.take k).foldl (oU at_ n) base).length=n*16:=RL at_ n _ base hbl (λp hp=>(z4 p (List.mem_of_mem_take hp)).2.2);refine cn ?_;refine ⟨λh4=>?_,λh4=>?_⟩
 ·have h4:=of_decide_eq_true h4;have hlt:k<loose.length:=om;have htk:loose.take (k+1)=loose.take k++[loose[k]]:=List.take_succ_eq_append_getElem hlt;have hz:=z4 _ (List.getElem_mem hlt);obtain ⟨⟨pa,data⟩,hp⟩:∃ p,loose[k]=p:=⟨_,rfl⟩;have hel:(loose.map hU)[k]? =some [.aa .i64 pa, .ai data.data.toList]:=by rw [MZ hlt,hp];rfl
  rw [hp] at htk hz;simp only at hz;have hds:data.size=data.data.toList.length:=rfl;have hstep:(loose.take (k+1)).foldl (oU at_ n) base=oU at_ n ((loose.take k).foldl (oU at_ n) base) (pa,data):=by grind
  generalize (loose.take k).foldl (oU at_ n) base=cur at hlk hstep ⊢;have hcnt:∀ c:bs,c=bs.ah (ae.aa .i64 (IntKind.i64.wrap ((k:Int)+1)))->c=bs.ah (ae.aa .i64 ((k+1:Nat):Int)):=λc e=>by grind [bj]
  refine ak ?_;refine ⟨λh5=>?_,λh5=>?_⟩
  ·have h5:=of_decide_eq_true h5
   conv=>whnf
   rw [w2];refine ⟨λh6=>?_,λh6=>?_⟩
   ·have h6:=of_decide_eq_true h6
    conv=>whnf
    have w4:IntKind.i64.wrap (pa - at_)=pa - at_:=bj om om;have w5:IntKind.i64.wrap ((pa - at_)*16)=(pa - at_)*16:=bj om om;rw [w4,w5];refine ak ?_;refine ⟨by rw [nj];omega,?_⟩
    conv=>whnf
    refine ⟨aG,?_⟩
    conv=>whnf
    refine ⟨k+1,om,by grind,rfl,rfl,rfl,rfl,rfl,rfl,rfl,rfl,rfl,rfl,hcnt _ rfl,rfl,?_,rfl,trivial⟩;show bs.aR _ _=bs.aR _ _;congr 1;rw [hstep,oU,if_pos ⟨h5,om⟩];refine ac4 (i:=(pa.toNat - at_)*16) ?_ ?_ ?_ ?_
    ·omega
    ·omega
    ·rfl
    ·omega
   ·have h6:=of_decide_eq_false h6
    conv=>whnf
    refine ⟨k+1,om,by grind,rfl,rfl,rfl,rfl,rfl,rfl,rfl,rfl,rfl,rfl,hcnt _ rfl,rfl,?_,rfl,trivial⟩;rw [hstep,oU,if_neg (by simp only;omega)];rfl
  ·have h5:=of_decide_eq_false h5
   conv=>whnf
   refine ⟨k+1,om,by grind,rfl,rfl,rfl,rfl,rfl,rfl,rfl,rfl,rfl,rfl,hcnt _ rfl,rfl,?_,rfl,trivial⟩;rw [hstep,oU,if_neg (by simp only;omega)];rfl
 ·have h4:=of_decide_eq_false h4;have hk':loose.take k=loose:=List.take_of_length_le om;rw [hk'] at hlk ⊢
  conv=>whnf
  exact ⟨_,Ig hlk.symm,rfl⟩
theorem M1 (nil:Bool) (d:dL) (at_ n:Int) (hsz:jJ d.bE) (ha:jJ at_) (hn:jJ n) (hl:d.cH.length<=1048576):aC Tryz.prog 172 [j6 nil d, .aa .i64 at_, .aa .i64 n] (.aw [.ai (pK d at_ n), .aa .i64 (A8 d at_ n)]):=by
 have hck:=DD nil d hsz hl;have hse:=λ(a m:Nat) hc h=>TV nil d a m hc h hl
 have hs:=λhc=>mr (d:=d) hc
 have hmr:FF d at_ n=(ef d && (decide (0<=at_) && (decide (0<=n) && decide (n<=d.bE - at_)))):=rfl;unfold jJ at ha hn;unfold pK A8;generalize ef d=q at hck hse hs hmr;obtain ⟨size,firm,loose⟩:=d;refine bK Tryz.func172 ?_;refine ak ?_;refine ⟨λh1=>?_,λh1=>?_⟩
 ·have h1:q=false:=by simpa using h1
  conv=>whnf
  rw [hmr,h1];rfl
 have h1:q=true:=by simpa using h1
 obtain ⟨z1,z2,z3,z4⟩:=hs h1;simp only at z1 z2 z3 z4 hmr
 conv=>whnf
 refine ⟨λh2=>?_,λh2=>?_⟩
 ·have h2:=of_decide_eq_true h2
  conv=>whnf
  grind
 have h2:=of_decide_eq_false h2
 conv=>whnf
 refine ⟨λh3=>?_,λh3=>?_⟩
 ·have h3:=of_decide_eq_true h3
  conv=>whnf
  grind
 have h3:=of_decide_eq_false h3;have w1:IntKind.i64.wrap (size - at_)=size - at_:=bj om om
 conv=>whnf
 rw [w1];refine ⟨λh4=>?_,λh4=>?_⟩
 ·have h4:=of_decide_eq_true h4
  conv=>whnf
  grind
 have h4:=of_decide_eq_false h4;obtain ⟨a,rfl⟩:=Int.eq_ofNat_of_zero_le (by omega:0<=at_);obtain ⟨m,rfl⟩:=Int.eq_ofNat_of_zero_le (by omega:0<=n)
 conv=>whnf
 refine bz.eV (hse a m h1 (by simp only;omega)) rfl ?_
 conv=>whnf
 simp_all
theorem TS (nil:Bool) (d:dL) (hn:nil=true->d.cH=[]) (hsz:jJ d.bE) (hl:d.cH.length<=1048576):aC Tryz.prog 118 [j6 nil d] (j6 (if ef d=true then true else nil) (lF d)):=by
 have hck:=DD nil d hsz hl;have hsa:=M3 nil d hn om;have hse:=λ(a m:Nat) hc h=>TV nil d a m hc h hl
 have hs:=λhc=>mr (d:=d) hc
 unfold lF;generalize ef d=q at hck hse hs ⊢;obtain ⟨size,firm,loose⟩:=d;refine cU Tryz.func118 ?_;refine ak ?_;refine ⟨λh1=>?_,λh1=>?_⟩
 ·have h1:q=false:=by simpa using h1
  refine ak ?_;rw [h1];exact iL.bw _
 have h1:q=true:=by simpa using h1
 obtain ⟨z1,z2,z3,z4⟩:=hs h1;simp only at z1 z2 z3 z4;obtain ⟨m,rfl⟩:=Int.eq_ofNat_of_zero_le z1
 conv=>whnf
 refine ⟨_,rfl,hse 0 m h1 (by simp only;omega),?_⟩;refine ak ?_;rw [h1];exact iL.np (.aX (.mj rfl) (.aX (.mj rfl) (.aX (.eR _ _ _) .fa)))
theorem TU:∀ (s:List UInt8),fL (cW s)=true
 |[]=>rfl
 |_::s=>TU s
theorem TQ (n:Nat) (f:Nat->List UInt8):((List.range n).map λi=>cW (f i)).flatten=cW (nA n f):=by
 unfold nA cW;rw [List.map_flatMap];rfl
theorem ada (n:Nat):eB n (eB 16 [ae.aa .u8 0])=cW (List.replicate (n*16) 0):=by
 rw [Lu];unfold eB cW
 induction n with
 |zero=>rfl
 |succ n ih=>
  rw [List.replicate_succ,List.flatten_cons,ih,show (n+1)*16=16+n*16 by omega,<-List.replicate_append_replicate,List.map_append]
def vc (s:ByteArray):List (List ae):=(List.range (fC s)).map λi=>cW (((uS s).drop (i*16)).take 16)
theorem ac6 (s:ByteArray) (hs:s.size<=1048576):aC Tryz.prog 186 [.ai s.data.toList] (.ag false 16 (vc s) .av):=by
 have hsl:s.data.toList.length=s.size:=rfl;have hm:(s.data.toList.length+15) / 16=fC s:=rfl;have hmy:=TT s.data.toList om;rw [hm] at hmy;have hmb:fC s<=65537:=om;refine bK Tryz.func186 ?_;refine ak ?_;refine ⟨⟨om,rfl,dG om dd⟩,?_⟩
 conv=>whnf
 refine db.cK (λk:Nat=>[(.aj 0, .ah (.ai s.data.toList)),(.aj 3, .ah (.aL 2 0 16 (fC s) true)),(.aj 9, .ah (.aa .i64 (fC s))),(.aj 10, .ah (.aa .i64 k)),
  (.af 2, .aR 324 (cW (rh s k)))]) 3 (λk=>k<=fC s) (λk=>fC s - k) dd 0 (Nat.zero_le _)
  ⟨rfl,rfl,?_,rfl,?_,rfl,rfl,rfl,?_,rfl,trivial⟩ ?_
 ·rfl
 ·rfl
 ·show bs.aR _ (eB (fC s:Int).toNat (eB 16 [ae.aa .u8 0]))=_;grind [ada,aaE]
 rintro k hk;refine cn ?_;refine ⟨λh4=>?_,λh4=>?_⟩
 ·have h4:=of_decide_eq_true h4;have hlt:k<fC s:=om;have hpl:=LY s k;have hks:k*16<s.data.toList.length:=om;refine ak ?_;have w1:IntKind.i64.wrap ((k:Int)*16)=(k:Int)*16:=bj om om;rw [w1];refine ak ?_;refine ⟨by grind [nj],?_⟩
  conv=>whnf
  refine ⟨aG,?_⟩
  conv=>whnf
  refine ⟨k+1,om,by grind,rfl,rfl,rfl,rfl,rfl,rfl,?_,rfl,?_,rfl,trivial⟩
  ·exact dh
  ·show bs.aR _ ((cW (rh s k)).take (0+(k:Int).toNat*16)++(cW (s.data.toList.drop ((k:Int)*16).toNat)).take (min (s.data.toList.drop ((k:Int)*16).toNat).length 16*1)++(cW (rh s k)).drop (0+(k:Int).toNat*16+min (s.data.toList.drop ((k:Int)*16).toNat).length 16*1))=_;grind [aaD,cW,Ij,List.take_length,Ii]
 ·have h4:=of_decide_eq_false h4;obtain rfl:k=fC s:=om
  conv=>whnf
  have hpl:=LY s (fC s);rw [IM] at hpl;refine .zf (cells:=cW (rh s (fC s))) rfl ?_ ?_ ?_ ?_ ?_
  ·simp [vc]
  ·intro el hel;obtain ⟨i,hi,rfl⟩:=List.mem_map.1 hel;grind [nj]
  ·rw [nj,IM];omega
  ·rw [IM,List.drop_zero,List.take_of_length_le (by rw [nj];omega),vc,TQ,<-RK _ _ hpl]
  ·rw [vc,TQ];exact TU _
theorem ac8 {l:List UInt8} (h:l.length=16):∃ a0 a1 a2 a3 a4 a5 a6 a7 a8 a9 a10 a11 a12 a13 a14 a15,l=[a0,a1,a2,a3,a4,a5,a6,a7,a8,a9,a10,a11,a12,a13,a14,a15]:=by
 match l,h with
 |[a0,a1,a2,a3,a4,a5,a6,a7,a8,a9,a10,a11,a12,a13,a14,a15],_=>simp_all
theorem TW (nil:Bool) (d:dL) (at_:Int) (s:ByteArray) (hn:nil=true->d.cH=[]) (hsz:jJ d.bE) (ha:jJ at_) (hl:d.cH.length<=1048576) (hs:s.size<=1048576):
  aC Tryz.prog 117 [j6 nil d, .aa .i64 at_, .ai s.data.toList] (.aw [j6 (if ri d at_ s=0 then false else nil) (jZ d at_ s), .aa .i64 (ri d at_ s)]):=by
 have hck:=DD nil d hsz hl;have hsa:=M3 nil d hn om;have hsp:=λhc=>mr (d:=d) hc
 have hcut:=ac6 s hs;have hsl:s.data.toList.length=s.size:=rfl;have hmy:=TT s.data.toList om;rw [show (s.data.toList.length+15) / 16=fC s from rfl] at hmy;have hmb:fC s<=65537:=by unfold fC;omega
 have hwe:ri d at_ s=if ef d=false\/at_<0 then 121 else if d.bE - (fC s:Int)<at_ then 120 else 0:=rfl
 unfold jJ at ha;unfold jZ;generalize ef d=q at hck hsp hwe;obtain ⟨size,firm,loose⟩:=d;simp only at hl;refine cU Tryz.func117 ?_;refine ak ?_;refine ⟨λh1=>?_,λh1=>?_⟩
 ·have h1:q=false:=by simpa using h1
  refine ak ?_;have e:ri ⟨size,firm,loose⟩ at_ s=121:=by simp_all
  rw [e,if_neg dd,if_neg dd];exact iL.bw _
 have h1:q=true:=by simpa using h1
 obtain ⟨z1,z2,z3,z4⟩:=hsp h1;simp only at z1 z2 z3 z4 hwe
 conv=>whnf
 refine ⟨λh2=>?_,λh2=>?_⟩
 ·have h2:=of_decide_eq_true h2;refine ak ?_;have e:ri ⟨size,firm,loose⟩ at_ s=121:=by simp_all
  rw [e,if_neg dd,if_neg dd];exact iL.bw _
 have h2:=of_decide_eq_false h2;rw [if_neg (by simp_all)] at hwe;refine ak ?_;have w1:IntKind.i64.wrap (size - (fC s:Int))=size - (fC s:Int):=bj om om
 conv=>whnf
 rw [w1];refine ak ?_;refine ⟨λh3=>?_,λh3=>?_⟩
 ·have h3:=of_decide_eq_true h3;refine ak ?_;have e:ri ⟨size,firm,loose⟩ at_ s=120:=by rw [hwe,if_pos h3]
  rw [e,if_neg dd,if_neg dd];exact iL.bw _
 have h3:=of_decide_eq_false h3;rw [if_neg h3] at hwe;rw [hwe,if_pos rfl,if_pos rfl];refine ak ?_;have hel0:(vc s).length=fC s:=by simp [vc]
 have w2:IntKind.i64.wrap (((loose.map hU).length:Int)+((vc s).length:Int))=((loose.length+fC s:Nat):Int):=by
  grind [bj]
 rw [w2];refine ⟨⟨om,dG om dd⟩,?_⟩
 conv=>whnf
 refine ⟨⟨rfl,dG (by grind) dd⟩,?_⟩
 conv=>whnf
 refine db.cK (λk:Nat=>[(.aj 1, .ah (.aa .i64 at_)),(.aj 3, .ah (.ar 0 0)),(.aj 6, .ah (.ar 1 0)),(.aj 7, .ah (.aa .i64 0)),(.aj 9, .ah (.ag false 2 ((loose++oV at_ s k).map hU) (.dB 25))),(.aj 43, .ah (.ag false 16 (vc s) .av)),(.aj 44, .ah (.aa .i64 (fC s))),(.aj 45, .ah (.aa .i64 k)),
  (.aJ 25, .aN 305 2 (loose.length+k)),(.af 0, .au 44 [.aa .i64 size, .ai firm.data.toList, .ag nil 2 (loose.map hU) .av]),(.af 1, .au 44 [.aa .i64 0, .ai [], .ag true 1 [] .bR])]) 26 (λk=>k<=fC s) (λk=>fC s - k) dd 0 (Nat.zero_le _)
  ⟨rfl,rfl,rfl,rfl,rfl,rfl,rfl,rfl,?_,rfl,rfl,rfl,?_,rfl,rfl,rfl,?_,rfl,rfl,rfl,rfl,rfl,trivial⟩ ?_
 ·show bs.ah (ae.ag _ 2 ([]++loose.map hU) _)=_;simp [oV]
 ·show bs.ah (ae.aa .i64 ((vc s).length:Nat))=_;rw [hel0]
 ·show bs.aN _ 2 ([].length+(loose.map hU).length)=_;simp_all
 rintro k hk;refine cn ?_;refine ⟨λh4=>?_,λh4=>?_⟩
 ·have h4:=of_decide_eq_true h4;have hlt:k<fC s:=om;have hws:=RP at_ s k;have hwl:=L3 at_ s k;have hpl:(((uS s).drop (k*16)).take 16).length=16:=by
   grind [RN]
  have hgc:(vc s)[(k:Int).toNat]? =some (cW (((uS s).drop (k*16)).take 16)):=by
   grind [vc]
  generalize ((uS s).drop (k*16)).take 16=ch at hws hpl hgc;obtain ⟨a0,a1,a2,a3,a4,a5,a6,a7,a8,a9,a10,a11,a12,a13,a14,a15,rfl⟩:=ac8 hpl;refine ak ?_;refine ⟨[a0,a1,a2,a3,a4,a5,a6,a7,a8,a9,a10,a11,a12,a13,a14,a15],⟨Nat.le_refl _,rfl⟩,?_⟩;have w3:IntKind.i64.wrap (at_+(k:Int))=at_+(k:Int):=bj om om
  conv=>whnf
  rw [w3];have hlm:((loose++oV at_ s k).map hU).length=loose.length+k:=by simp_all
  refine ⟨⟨by rw [hlm],dG (by grind) dd⟩,?_⟩
  conv=>whnf
  refine ⟨k+1,om,by grind,rfl,rfl,rfl,rfl,rfl,rfl,rfl,rfl,?_,rfl,rfl,rfl,rfl,rfl,?_,rfl,?_,rfl,rfl,rfl,rfl,rfl,trivial⟩
  ·show bs.ah (ae.ag _ 2 ((loose++oV at_ s k).map hU++[[.aa .i64 (at_+(k:Int)), .ai [a0,a1,a2,a3,a4,a5,a6,a7,a8,a9,a10,a11,a12,a13,a14,a15]]]) _)=_;rw [hws,<-List.append_assoc,List.map_append (l₁:=loose++_)];rfl
  ·exact dh
  ·show bs.aN _ 2 (((loose++oV at_ s k).map hU).length+1)=_;rw [hlm];rfl
 ·have h4:=of_decide_eq_false h4;obtain rfl:k=fC s:=om;exact bm
theorem M0 {L:List ae} {l t:List UInt8} {i len off n:Nat} (hL:L=cW l) (ho:off=i) (hn:n=t.length) (hlen:t.length<=len) (h:i+t.length<=l.length):
  L.take off++(cW t).take (min n len*1)++L.drop (off+min n len*1)=cW (nB l i t):=by
 subst hL ho hn;have e:min t.length len*1=t.length:=om;grind [nj,nB,Ih,Ij,Ii]
theorem ac5 (nil:Bool) (d:dL) (s:ByteArray) (hn:nil=true->d.cH=[]) (hsz:jJ d.bE) (hl:d.cH.length<=1048576) (hs:s.size<=1048576):aC Tryz.prog 106 [j6 nil d, .ai s.data.toList] (j6 (if ef d=true then true else nil) (jO d s)):=by
 have hck:=DD nil d hsz hl;have hsa:=M3 nil d hn om;have hsp:=λhc=>mr (d:=d) hc
 have hsl:s.data.toList.length=s.size:=rfl;unfold jO;generalize ef d=q at hck hsp ⊢;obtain ⟨size,firm,loose⟩:=d;have hck:aC Tryz.prog _ [.aK [.aa .i64 size, .ai firm.data.toList, .ag nil 2 (loose.map hU) .av]] _:=hck;have hsa:aC Tryz.prog _ [.aK [.aa .i64 size, .ai firm.data.toList, .ag nil 2 (loose.map hU) .av]] (.aK [.aa .i64 size, .ai firm.data.toList, .ag nil 2 (loose.map hU) .av]):=hsa;show aC Tryz.prog _ [.aK [.aa .i64 size, .ai firm.data.toList, .ag nil 2 (loose.map hU) .av], .ai s.data.toList] _;simp only at hl;refine cU Tryz.func106 ?_;refine ak ?_;refine ⟨λh1=>?_,λh1=>?_⟩
 ·have h1:q=false:=by simpa using h1
  refine ak ?_;rw [h1];exact iL.bw _
 have h1:q=true:=by simpa using h1
 rw [h1];obtain ⟨z1,z2,z3,z4⟩:=hsp h1;simp only at z1 z2 z3 z4;have hfl:firm.data.toList.length=firm.size:=rfl
 conv=>whnf
 refine db.cK (λk:Nat=>[(.aj 1, .ah (.ai s.data.toList)),(.aj 2, .ah (.ar 0 0)),(.aj 4, .ah (.ar 1 0)),(.aj 5, .ah (.aL 6 0 1 firm.data.toList.length true)),(.aj 20, .ah (.aa .i64 (loose.map hU).length)),(.aj 21, .ah (.aa .i64 k)),
  (.af 0, .au 44 [.aa .i64 size, .ai firm.data.toList, .ag nil 2 (loose.map hU) .av]),(.af 1, .au 44 [.aa .i64 0, .ai [], .ag true 1 [] .bR]),
  (.af 6, .aR 5 (cW (si s loose k firm.data.toList)))]) 7 (λk=>k<=loose.length) (λk=>loose.length - k) dd 0 (Nat.zero_le _)
  ⟨rfl,rfl,rfl,rfl,rfl,rfl,rfl,rfl,rfl,rfl,rfl,rfl,rfl,rfl,rfl,rfl,rfl,rfl,trivial⟩ ?_
 rintro k hk;have hcl:∀ k,k<=loose.length->(si s loose k firm.data.toList).length=firm.data.toList.length:=λk hk=>LU s loose k _ (λi hi=>by
   grind)
 have hcl:=hcl k hk;refine cn ?_;refine ⟨λh=>?_,λh=>?_⟩
 ·have h:=of_decide_eq_true h;rw [List.length_map] at h;have hlt:k<loose.length:=om;have hz:=z4 _ (List.getElem_mem hlt);have hcs:=LV s loose k firm.data.toList;rw [List.getD_eq_getElem?_getD (l:=loose),List.getElem?_eq_getElem hlt,Option.getD_some] at hcs;obtain ⟨⟨pa,data⟩,hp⟩:∃ p,loose[k]=p:=⟨_,rfl⟩;have hel:(loose.map hU)[k]? =some [.aa .i64 pa, .ai data.data.toList]:=by rw [MZ hlt,hp];rfl
  rw [hp] at hz hcs;simp only at hz;have hds:data.size=data.data.toList.length:=rfl;obtain ⟨a,rfl⟩:=Int.eq_ofNat_of_zero_le hz.1;generalize si s loose k firm.data.toList=cur at hcl hcs;have w1:IntKind.i64.wrap ((a:Int)*16)=(a:Int)*16:=bj om om;have hpo:A7 s k=if k<s.size then (s.data.toList.getD k 0).toNat % 3 else 0:=rfl
  refine ak ?_;refine ⟨λh2=>?_,λh2=>?_⟩
  ·have h2:=of_decide_eq_true h2;have hks:k<s.data.toList.length:=om;obtain ⟨c,hc⟩:∃ c,s.data.toList[k]? =some c:=⟨_,List.getElem?_eq_getElem hks⟩;rw [if_pos om,List.getD_eq_getElem?_getD,hc,Option.getD_some] at hpo;have hcc:=c.toNat_lt;have hw3:(IntKind.i64.wrap ((c.toNat:Nat):Int)).tmod 3=((c.toNat % 3:Nat):Int):=by grind [bj]
   conv=>whnf
   refine ⟨c,⟨om,hc⟩,?_⟩
   conv=>whnf
   rw [w1];refine ak ?_;refine ⟨λh3=>?_,λh3=>?_⟩
   ·rw [hw3] at h3;have h3:c.toNat % 3=1:=by grind
    have hpick:A7 s k=1:=om;refine ak ?_;refine ⟨by rw [nj];omega,?_⟩;refine ak ?_;refine ⟨by grind [nj],?_⟩
    conv=>whnf
    refine ⟨k+1,om,by grind,rfl,rfl,rfl,rfl,rfl,rfl,rfl,rfl,rfl,rfl,?_,rfl,rfl,rfl,rfl,rfl,?_,rfl,trivial⟩
    ·exact dh
    ·rw [hcs,hpick];show bs.aR _ _=bs.aR _ (cW (nB cur (a*16) data.data.toList));rw [<-aaC cur (a*16) data.data.toList om om];congr 1;refine M0 (i:=a*16) (M0 (i:=a*16+8) (t:=data.data.toList.drop 8) rfl ?_ ?_ ?_ ?_) ?_ ?_ ?_ ?_
     ·omega
     ·rfl
     ·simp_all
     ·grind
     ·omega
     ·rfl
     ·simp_all
     grind [IL]
   ·rw [hw3] at h3;have h3:c.toNat % 3≠1:=by
     grind
    conv=>whnf
    refine ⟨λh5=>?_,λh5=>?_⟩
    ·rw [hw3] at h5;have h5:c.toNat % 3=2:=by grind
     have hpick:A7 s k=2:=om;refine ak ?_;refine ⟨by rw [nj];omega,?_⟩
     conv=>whnf
     refine ⟨k+1,om,by grind,rfl,rfl,rfl,rfl,rfl,rfl,rfl,rfl,rfl,rfl,?_,rfl,rfl,rfl,rfl,rfl,?_,rfl,trivial⟩
     ·exact dh
     ·rw [hcs,hpick];show bs.aR _ _=bs.aR _ (cW (nB cur (a*16) (data.data.toList.take 8)));grind [M0]
    ·rw [hw3] at h5;have h5:c.toNat % 3≠2:=by
      grind
     have hpick:A7 s k=0:=om
     conv=>whnf
     refine ⟨k+1,om,by grind,rfl,rfl,rfl,rfl,rfl,rfl,rfl,rfl,rfl,rfl,?_,rfl,rfl,rfl,rfl,rfl,?_,rfl,trivial⟩
     ·exact dh
     ·rw [hcs,hpick];rfl
  ·have h2:=of_decide_eq_false h2;have hpick:A7 s k=0:=by simp_all
   conv=>whnf
   rw [w1];refine ⟨om,?_⟩
   conv=>whnf
   refine ⟨om,?_⟩
   conv=>whnf
   refine ⟨λh3=>absurd h3 dd,λh3=>?_⟩
   conv=>whnf
   refine ⟨λh3=>absurd h3 dd,λh3=>?_⟩
   conv=>whnf
   refine ⟨k+1,om,by grind,rfl,rfl,rfl,rfl,rfl,rfl,rfl,rfl,rfl,rfl,?_,rfl,rfl,rfl,rfl,rfl,?_,rfl,trivial⟩
   ·exact dh
   ·rw [hcs,hpick];rfl
 ·have h:=of_decide_eq_false h;rw [List.length_map] at h;obtain rfl:k=loose.length:=om
  conv=>whnf
  refine ⟨si s loose loose.length firm.data.toList,Ig hcl.symm,?_⟩
  conv=>whnf
  exact iL.np (.aX (.mj rfl) (.aX (.mj rfl) (.aX (.eR _ _ _) .fa)))
noncomputable def adi (c:Code):List (Code×Code):=
 Code.rec (motive:=λ_=>List (Code×Code)) [] (λ_ _ _=>[]) (λ_ _ x y=>x++y) (λ_ _ _ x y=>x++y) (λ_ _ x=>x) (λ_ x=>x) (λ_ _ x y _ _=>[(x,y)]) (λ_=>[]) (λ_ x=>x) (λ_=>[]) (λ_=>[]) [] (λ_=>[]) c
noncomputable def Jn (fn:Func) (i:Nat):Code×Code:=match fn.body with
 |some c=>match lS (adi c) i with|some x=>x|none=>(.skip, .skip)
 |none=>(.skip, .skip)
theorem TZ (n:Nat):aC Tryz.prog 115 [.aa .i64 n] (.aa .u8 (gb n)):=by
 have e:((n:Int)).tmod 250=((n % 250:Nat):Int):=Z3 n 250;refine bK Tryz.func115 ?_
 conv=>whnf
 grind [bj,IntKind.wrap_u8,gb]
theorem M4 (n:Nat) (h:n<9223372036854775808):(bW n).length<=9:=by
 have h1:=Ts n h;have h2:=Dl n h;have h3:(MN n).size=(bW n).length:=rfl;omega
theorem T0:∀ (s:List UInt8),fL (cW s)=true
 |[]=>rfl
 |_::s=>T0 s
theorem T1:∀ (s:List UInt8),kZ (cW s)=true
 |[]=>rfl
 |_::s=>T1 s
theorem TY:∀ (s:List UInt8),iB (cW s)=cW s
 |[]=>rfl
 |c::s=>by
  show ae.aa .u8 c.toNat::iB (cW s)=ae.aa .u8 c.toNat::cW s;rw [TY s]
theorem TX:∀ (s:List UInt8),(eu s).flatten=cW s
 |[]=>rfl
 |c::s=>by
  show ae.aa .u8 c.toNat::(eu s).flatten=ae.aa .u8 c.toNat::cW s;rw [TX s]
def DE (m:ae) (src:List ae) (L:Nat):List ae:=
 [m, .aa .u8 0, .aa .u8 0, .aa .u8 0, .aa .u8 0, .aa .u8 0, .aa .u8 0, .aa .u8 0, .aa .u8 0, .aa .u8 0, .aa .u8 0, .aa .u8 0, .aa .u8 0, .aa .u8 0, .aa .u8 0,m].take (0+(1:Int).toNat*1)++src.take (min L (16 - (1:Int).toNat)*1)++
 [m, .aa .u8 0, .aa .u8 0, .aa .u8 0, .aa .u8 0, .aa .u8 0, .aa .u8 0, .aa .u8 0, .aa .u8 0, .aa .u8 0, .aa .u8 0, .aa .u8 0, .aa .u8 0, .aa .u8 0, .aa .u8 0,m].drop (0+(1:Int).toNat*1+min L (16 - (1:Int).toNat)*1)
theorem ade {m:Nat} (hm:m<256) {P:List UInt8} (hP:P.length<=14) {src:List ae} {L:Nat} (h1:L=P.length) (h2:src=cW P):DE (.aa .u8 (m:Int)) src L=cW (nC m P):=by
 subst h1 h2;have e1:(1:Int).toNat=1:=rfl;have e2:min P.length (16 - 1)*1=P.length:=by omega
 have e3:([.aa .u8 (m:Int), .aa .u8 0, .aa .u8 0, .aa .u8 0, .aa .u8 0, .aa .u8 0, .aa .u8 0, .aa .u8 0, .aa .u8 0, .aa .u8 0, .aa .u8 0, .aa .u8 0, .aa .u8 0, .aa .u8 0, .aa .u8 0, .aa .u8 (m:Int)]:List ae)= .aa .u8 (m:Int)::(List.replicate 14 (ae.aa .u8 0)++[.aa .u8 (m:Int)]):=rfl;have e4:((UInt8.ofNat m).toNat:Int)=m:=by simp;omega
 unfold DE nC;rw [e1,e2,e3,show 0+1*1+P.length=P.length+1 by omega,List.drop_succ_cons,List.drop_append_of_le_length (by simpa using hP),List.drop_replicate,List.take_of_length_le (l:=cW P) (by grind [nj])];show [ae.aa .u8 (m:Int)]++cW P++_=ae.aa .u8 ((UInt8.ofNat m).toNat:Int)::cW ((P++List.replicate (14 - P.length) 0)++[UInt8.ofNat m]);rw [e4,Ih,Ih];have e5:cW (List.replicate (14 - P.length) 0)=List.replicate (14 - P.length) (ae.aa .u8 0):=by grind [cW,List.map_replicate]
 grind [cW]
theorem adf (n:Nat):iv [n]=bW n:=by simp [iv]
theorem Gf (lsn:Int) (p:List UInt8):aC Tryz.prog 60 [.aa .i64 lsn, .ai p] (.aw [.ai (wy lsn p), .aa .i64 (wA lsn p)]):=by
 unfold wy wA;refine bK Tryz.func60 ?_
 conv=>whnf
 refine ⟨λh1=>?_,λh1=>?_⟩
 ·have h1:=of_decide_eq_true h1;have e:ka lsn p=false:=by grind [ka]
  rw [e,if_neg dd,if_neg dd]
  conv=>whnf
  repeat ((first|refine ⟨λ_=>?_,λh=>absurd h dd⟩|refine ⟨λh=>absurd h dd,λ_=>?_⟩);(conv=>whnf))
 have h1:=of_decide_eq_false h1
 conv=>whnf
 refine ⟨λh2=>?_,λh2=>?_⟩
 ·have h2:=of_decide_eq_true h2;have e:ka lsn p=false:=by grind [ka]
  rw [e,if_neg dd,if_neg dd]
  conv=>whnf
  repeat ((first|refine ⟨λ_=>?_,λh=>absurd h dd⟩|refine ⟨λh=>absurd h dd,λ_=>?_⟩);(conv=>whnf))
 have h2:=of_decide_eq_false h2
 conv=>whnf
 refine ⟨λh3=>?_,λh3=>?_⟩
 ·have h3:=of_decide_eq_true h3;have e:ka lsn p=false:=by grind [ka]
  rw [e,if_neg dd,if_neg dd]
  conv=>whnf
 have h3:=of_decide_eq_false h3;have e:ka lsn p=true:=by grind [ka]
 rw [e,if_pos rfl,if_pos rfl];obtain ⟨n,rfl⟩:∃ n:Nat,lsn=n:=⟨lsn.toNat,om⟩;rw [Int.toNat_natCast];have ho:=M4 n om;have c1:=F8 [] false [(n:Int)] (λz hz=>by grind) (by simp);rw [List.map_cons,List.map_nil,Int.toNat_natCast,adf,List.nil_append] at c1;have c2:=Dv (bW n) p om;have l2:(jA (bW n) p).length<=40100:=by
  have:=M4 p.length om;grind [jA]
 have c3:=acj (jA (bW n) p) om;have l3:(mU (jA (bW n) p)).length<=40104:=by
  grind [mU,rm]
 have c4:=Dv [] (mU (jA (bW n) p)) (by simp;omega);have l4:(jk n p).length<=40200:=by
  grind [M4,jA,jk]
 rw [show jA [] (mU (jA (bW n) p))=jk n p from rfl] at c4;unfold iW;generalize jk n p=B at*;refine ak ?_;refine bn Tryz.func114 ?_
 conv=>whnf
 refine db.Ft 25 5 1 rfl ?_;refine db.Fs [(2, .ar 0 0),(9, .ar 25 0)] ⟨rfl,rfl,rfl,rfl,trivial⟩ rfl rfl ?_;refine bn Tryz.func184 ?_
 conv=>whnf
 refine db.cK (λk:Nat=>[(.aj 0, .ah (.cw 32)),(.aj 1, .ah (.ar 27 0)),(.aj 3, .ah (.aa .i64 (14*k:Nat))),(.af 0, .au 3 [.aa .i64 n]),(.af 23, .aR 5 (cW B)),
  (.af 25, .au 126 [.ag (decide (k=0)) 1 (eu (oo (gb n) B k)) (.cO 31)]),(.aJ 31, .aN 5 1 (16*k)),(.af 27, .au 126 [.aL 23 0 1 B.length true]),
  (.af 32, .eZ .ready none 52 [(2, .ar 0 0),(9, .ar 25 0)] [37] (Jn Tryz.f60 0).1 (Jn Tryz.f60 0).2)]) 33
  (λk=>k<=fG B) (λk=>fG B - k) dd 0 (Nat.zero_le _) ?_ ?_
 ·trivial
 rintro k hk;refine cn ?_;have hmk:=TZ n
 by_cases hlt:k<fG B
 ·have hlt2:14*k<B.length:=by grind [fG]
  have hts:decide (((14*k:Nat):Int)<(B.length:Int))=true:=decide_eq_true om;have e1:IntKind.i64.wrap (((14*k:Nat):Int)+14)=((14*k+14:Nat):Int):=by grind [bj]
  have e2:min ((14*k+14:Nat):Int) (B.length:Int)=((min (14*k+14) B.length:Nat):Int):=om
  conv=>whnf
  refine ⟨λ_=>?_,λh=>absurd (hts.symm.trans h) dd⟩
  conv=>whnf
  rw [e1,e2];refine ⟨⟨om,by grind,by grind,Int.le_refl _,by grind⟩,?_⟩
  conv=>whnf
  refine CH.Fu dW jd rfl rfl rfl (λl=>?_);refine ak ?_
  repeat (
      refine ⟨by first|kernel_rfl|decide,?_⟩
      conv=>whnf)
  have q1:0+(((14*k:Nat):Int)).toNat*1=14*k:=om;have q2:(((min (14*k+14) B.length:Nat):Int).toNat - (((14*k:Nat):Int)).toNat)*1=(lX B k).length:=by rw [Int.toNat_natCast,Int.toNat_natCast,Bb];omega
  have q3:List.take (lX B k).length (List.drop (14*k) (cW B))=cW (lX B k):=by
   grind [lX,Ij,Ii,nj]
  have q4:=Bb B k;have q5:=nj B;refine ⟨⟨?_,?_⟩,?_⟩
  ·grind
  ·show fL (List.take ((((min (14*k+14) B.length:Nat):Int).toNat - (((14*k:Nat):Int)).toNat)*1) (List.drop (0+(((14*k:Nat):Int)).toNat*1) (cW B)))=true;grind [T0]
  conv=>whnf
  refine ⟨(Nat.le_refl 16:_),?_⟩
  conv=>whnf
  have hmark:gb n<256:=by unfold gb;omega
  have q6:DE (.aa .u8 (gb n:Int)) (List.take ((((min (14*k+14) B.length:Nat):Int).toNat - (((14*k:Nat):Int)).toNat)*1) (List.drop (0+(((14*k:Nat):Int)).toNat*1) (cW B))) (((min (14*k+14) B.length:Nat):Int).toNat - (((14*k:Nat):Int)).toNat)=cW (nC (gb n) (lX B k)):=
   ade hmark (by rw [q4];omega) om (by rw [q1,q2,q3])
  have hsl:(nC (gb n) (lX B k)).length=16:=Mb _ (by rw [q4];omega);have hbl:=jY (oo (gb n) B k);rw [Bc] at hbl;have hkb:k<=40200:=om;refine ⟨eu (nC (gb n) (lX B k)),?_⟩
  conv=>whnf
  refine ⟨⟨by rw [jY,hsl],λel hel=>by grind [eu],?_,?_,?_⟩,?_⟩
  ·show 0+16*1<=(DE (.aa .u8 (gb n:Int)) (List.take ((((min (14*k+14) B.length:Nat):Int).toNat - (((14*k:Nat):Int)).toNat)*1) (List.drop (0+(((14*k:Nat):Int)).toNat*1) (cW B))) (((min (14*k+14) B.length:Nat):Int).toNat - (((14*k:Nat):Int)).toNat)).length;grind [nj]
  ·show iB (((DE (.aa .u8 (gb n:Int)) (List.take ((((min (14*k+14) B.length:Nat):Int).toNat - (((14*k:Nat):Int)).toNat)*1) (List.drop (0+(((14*k:Nat):Int)).toNat*1) (cW B))) (((min (14*k+14) B.length:Nat):Int).toNat - (((14*k:Nat):Int)).toNat)).drop 0).take (16*1))=_;grind [nj,TY,TX]
  ·show kZ (((DE (.aa .u8 (gb n:Int)) (List.take ((((min (14*k+14) B.length:Nat):Int).toNat - (((14*k:Nat):Int)).toNat)*1) (List.drop (0+(((14*k:Nat):Int)).toNat*1) (cW B))) (((min (14*k+14) B.length:Nat):Int).toNat - (((14*k:Nat):Int)).toNat)).drop 0).take (16*1))=true;grind [nj,T1]
  conv=>whnf
  refine ⟨⟨hbl.symm,dG (by grind [jY]) dd⟩,?_⟩
  conv=>whnf
  refine ⟨aG,?_⟩
  conv=>whnf
  refine ⟨k+1,om,by grind,rfl,rfl,rfl,rfl,?_,rfl,rfl,rfl,rfl,rfl,?_,rfl,?_,rfl,rfl,rfl,rfl,rfl,trivial⟩
  ·show bs.ah (ae.aa .i64 (IntKind.i64.wrap (((14*k:Nat):Int)+14)))=bs.ah (ae.aa .i64 ((14*(k+1):Nat):Int));rw [e1];rfl
  ·show bs.au _ [ae.ag (decide (k=0) && false) 1 (eu (oo (gb n) B k)++eu (nC (gb n) (lX B k))) (.cO 31)]=bs.au _ [ae.ag (decide (k+1=0)) 1 (eu (oo (gb n) B (k+1))) (.cO 31)];grind [L9,eu]
  ·show bs.aN _ 1 ((eu (oo (gb n) B k)).length+(eu (nC (gb n) (lX B k))).length)=bs.aN _ 1 (16*(k+1));grind [jY]
 ·obtain rfl:k=fG B:=om;have hge:B.length<=14*fG B:=by unfold fG;omega
  have hts:decide (((14*fG B:Nat):Int)<(B.length:Int))=false:=decide_eq_false om
  conv=>whnf
  refine ⟨λh=>absurd (hts.symm.trans h) dd,λ_=>?_⟩
  conv=>whnf
  refine ⟨oo (gb n) B (fG B),?_⟩
  conv=>whnf
  refine ⟨⟨.inl rfl,rfl⟩,?_⟩
  conv=>whnf
theorem adm (s:List UInt8) (m:Nat) (hs:s.length<=1048576):aC Tryz.prog 261 [.ai s, .aa .u8 m] (.ai (uU s m)):=by
 refine bK Tryz.func261 ?_
 conv=>whnf
 refine bn Tryz.func290 ?_
 conv=>whnf
 refine db.Ft 2 5 1 rfl ?_;refine db.Fs [(2, .ar 0 0),(5, .ar 2 0),(6, .ar 3 0)] ⟨rfl,rfl,rfl,rfl,rfl,rfl,trivial⟩ rfl rfl ?_;refine bn Tryz.func308 ?_
 conv=>whnf
 refine db.cK (X:=Nat×List UInt8×Nat) (λx=>[(.aj 0, .ah (.cw 13)),(.aj 1, .ah (.ar 7 0)),(.aj 2, .ah (.ar 8 0)),(.aj 4, .ah (.aa .i64 (16*x.1:Nat))),(.af 0, .au 9 [.ai s]),
  (.af 2, .au 126 [.ag (decide (x.1=0)) 1 (eu x.2.1) (.cO 12)]),(.aJ 12, .aN 5 1 (14*x.1)),(.af 3, .au 3 [.aa .i64 (x.2.2:Nat)]),(.af 7, .au 9 [.ai s]),(.af 8, .au 5 [.aa .u8 m]),
  (.af 13, .eZ .ready none 55 [(2, .ar 0 0),(5, .ar 2 0),(6, .ar 3 0)] [14] (Jn Tryz.f261 0).1 (Jn Tryz.f261 0).2)]) 14
  (λx=>x.1<=s.length/\x.2.1.length=14*x.1/\x.2.2<=2097152/\∃ f,s.length<f+x.1/\uU s m=uV (wB s m f x.1 x.2.1 x.2.2)) (λx=>s.length - x.1) dd (0,[],0) ⟨Nat.zero_le _,rfl,dd,s.length+1,om,rfl⟩ ?_ ?_
 ·trivial
 rintro ⟨k,b,need⟩ ⟨hk,hb,hnd,f,hf,hw⟩;simp only at hk hb hnd hf hw;refine cn ?_;have e0:IntKind.i64.wrap (((16*k:Nat):Int)+16)=((16*k+16:Nat):Int):=by grind [bj]
 conv=>whnf
 rw [e0];have eapp:bs.au 126 [ae.ag (decide (k=0) && false) 1 (eu b++eu (((ko s k).take 15).drop 1)) (.cO 12)]=bs.au 126 [ae.ag (decide (k+1=0)) 1 (eu (b++((ko s k).take 15).drop 1)) (.cO 12)]:=by
  grind [eu]
 have e16:((16*k+16:Nat):Int)=((16*(k+1):Nat):Int):=om
 by_cases hfit:16*k+16<=s.length
 ·have hts:decide (((16*k+16:Nat):Int)<=(s.length:Int))=true:=decide_eq_true om;obtain ⟨f,rfl⟩:∃ g,f=g+1:=⟨f - 1,om⟩;rw [wB,if_pos hfit] at hw;have hsl:=R2 hfit;have hil:=RU hsl;have e1:=e0;refine ⟨λ_=>?_,λh=>absurd (hts.symm.trans h) dd⟩
  conv=>whnf
  rw [e0];refine ⟨⟨om,om,om⟩,?_⟩;rw [Int.toNat_natCast,Int.toNat_natCast];rw [show (s.take (16*k+16)).drop (16*k)=ko s k from rfl];unfold pM at hw hil;generalize ko s k=c at*;have g0:c[(0:Int).toNat]? =some (c.getD 0 0):=by simp_all
  have g15:c[(15:Int).toNat]? =some (c.getD 15 0):=by simp_all
  generalize c.getD 0 0=c0 at*;generalize c.getD 15 0=c15 at*
  conv=>whnf
  refine ⟨c0,?_⟩
  conv=>whnf
  refine ⟨⟨dd,g0⟩,?_⟩
  conv=>whnf
  refine ⟨λq0=>?_,λq0=>?_⟩
  ·have q0:c0.toNat≠m:=by
    grind
   rw [if_pos (.inl q0)] at hw;refine wu ?_;rw [hw];unfold uV
   by_cases hz:need=0
   ·rw [if_pos (.inl hz)];have ht:(((need:Nat):Int)==0)=true:=by rw [hz];rfl
    refine ⟨λ_=>?_,λh=>absurd (ht.symm.trans h) dd⟩
    conv=>whnf
   ·have ht:(((need:Nat):Int)==0)=false:=by simp;omega
    refine ⟨λh=>absurd (ht.symm.trans h) dd,λ_=>?_⟩
    conv=>whnf
    refine ⟨λq=>?_,λq=>?_⟩
    ·have q:=of_decide_eq_true (show decide ((((eu b).length:Nat):Int)<((need:Nat):Int))=true from q);rw [jY] at q;rw [if_pos (.inr (by simp only;omega))]
     conv=>whnf
    ·have q:=of_decide_eq_false (show decide ((((eu b).length:Nat):Int)<((need:Nat):Int))=false from q);rw [jY] at q;rw [if_neg (λh=>h.elim hz (by simp only;omega))]
     conv=>whnf
     refine ⟨b,?_⟩
     conv=>whnf
     refine ⟨⟨.inl rfl,rfl⟩,?_⟩
     conv=>whnf
  have q0:c0.toNat=m:=by
   grind
  conv=>whnf
  refine ⟨c15,?_⟩
  conv=>whnf
  refine ⟨⟨dd,g15⟩,?_⟩
  conv=>whnf
  refine ⟨λq1=>?_,λq1=>?_⟩
  ·have q1:c15.toNat≠m:=by
    grind
   rw [if_pos (.inr q1)] at hw;refine wu ?_;rw [hw];unfold uV
   by_cases hz:need=0
   ·rw [if_pos (.inl hz)];have ht:(((need:Nat):Int)==0)=true:=by rw [hz];rfl
    refine ⟨λ_=>?_,λh=>absurd (ht.symm.trans h) dd⟩
    conv=>whnf
   ·have ht:(((need:Nat):Int)==0)=false:=by simp;omega
    refine ⟨λh=>absurd (ht.symm.trans h) dd,λ_=>?_⟩
    conv=>whnf
    refine ⟨λq=>?_,λq=>?_⟩
    ·have q:=of_decide_eq_true (show decide ((((eu b).length:Nat):Int)<((need:Nat):Int))=true from q);rw [jY] at q;rw [if_pos (.inr (by simp only;omega))]
     conv=>whnf
    ·have q:=of_decide_eq_false (show decide ((((eu b).length:Nat):Int)<((need:Nat):Int))=false from q);rw [jY] at q;rw [if_neg (λh=>h.elim hz (by simp only;omega))]
     conv=>whnf
     refine ⟨b,?_⟩
     conv=>whnf
     refine ⟨⟨.inl rfl,rfl⟩,?_⟩
     conv=>whnf
  have q1:c15.toNat=m:=by
   grind
  rw [if_neg (λh=>h.elim (λh=>h q0) (λh=>h q1))] at hw
  conv=>whnf
  refine ⟨⟨dd,dd,om⟩,?_⟩;rw [show (15:Int).toNat=15 from rfl,show (1:Int).toNat=1 from rfl];have htk:=F9 ((c.take 15).drop 1) om;have hbl:=jY b;rw [hb] at hbl
  conv=>whnf
  refine ⟨aG,aG,?_⟩;refine CH.Fu dW jd rfl rfl rfl (λl=>?_)
  conv=>whnf
  refine ⟨⟨hbl.symm,dG (by grind) dd⟩,?_⟩
  conv=>whnf
  have hsp:((c.take 15).drop 1).length=14:=hil;have hB:(b++(c.take 15).drop 1).length=14*k+14:=by simp_all
  refine ⟨λhn0=>?_,λhn0=>?_⟩
  ·obtain rfl:need=0:=by
    simp_all
   conv=>whnf
   rcases htk0:gI ((c.take 15).drop 1) with _|⟨n,u⟩
   ·rw [show pS ((c.take 15).drop 1)= .aw [.aa .i64 0, .ai [], .aa .i64 40] from by grind [pS]] at htk;refine ak ?_;refine wu ?_;have hst:su s (b++(c.take 15).drop 1) ((c.take 15).drop 1) 0=(true,0):=by grind [su]
    rw [hst,if_pos rfl] at hw;have hz:(0:Nat)=0:=rfl;rw [hw];unfold uV;rw [if_pos (.inl rfl)];refine ⟨λ_=>?_,λh=>absurd (show true=false from h) dd⟩
    conv=>whnf
   ·have hu:=aaW _ htk0;rw [hsp] at hu;rw [show pS ((c.take 15).drop 1)= .aw [.aa .i64 (n:Int), .ai (((c.take 15).drop 1).drop u), .aa .i64 0] from by grind [pS]] at htk;have e5:IntKind.i64.wrap ((((c.take 15).drop 1).length:Int) - ((((c.take 15).drop 1).drop u).length:Int))=(u:Int):=by grind [bj]
    refine ak ?_;refine wu ?_;refine ⟨λh5=>?_,λh5=>?_⟩
    ·have h5:=of_decide_eq_true h5;have hst:su s (b++(c.take 15).drop 1) ((c.take 15).drop 1) 0=(true,0):=by
      grind [su]
     rw [hst,if_pos rfl] at hw;have hz:(0:Nat)=0:=rfl;refine wu ?_;rw [hw];unfold uV;rw [if_pos (.inl rfl)];refine ⟨λ_=>?_,λh=>absurd (show true=false from h) dd⟩
     conv=>whnf
    ·have h5:=of_decide_eq_false h5;have e6:IntKind.i64.wrap (IntKind.i64.wrap ((((c.take 15).drop 1).length:Int) - ((((c.take 15).drop 1).drop u).length:Int))+(n:Int))=((u+n:Nat):Int):=by grind [bj]
     have hst:su s (b++(c.take 15).drop 1) ((c.take 15).drop 1) 0=(decide (u+n<=14*k+14),u+n):=by
      grind [su]
     rw [hst] at hw
     conv=>whnf
     try rw [e6]
     have hlb:(eu b++((c.take 15).drop 1).map λc=>[ae.aa .u8 c.toNat]).length=14*k+14:=by simp_all
     have hem:(((c.take 15).drop 1).map λc:UInt8=>[ae.aa .u8 (c.toNat:Int)]).isEmpty=false:=by
      grind
     have eapp:bs.au 126 [ae.ag (decide (k=0) && (((c.take 15).drop 1).map λc:UInt8=>[ae.aa .u8 (c.toNat:Int)]).isEmpty) 1 (eu b++(((c.take 15).drop 1).map λc:UInt8=>[ae.aa .u8 (c.toNat:Int)])) (.cO 12)]=bs.au 126 [ae.ag (decide (k+1=0)) 1 (eu (b++(c.take 15).drop 1)) (.cO 12)]:=by
      grind [eu]
     have erow:bs.aN 5 1 ((eu b).length+(((c.take 15).drop 1).map λc=>[ae.aa .u8 c.toNat]).length)=bs.aN 5 1 (14*(k+1)):=by grind
     refine ⟨λh6=>?_,λh6=>?_⟩
     ·have h6:(u+n)<=14*k+14:=by
       grind
      rw [decide_eq_true h6,if_pos rfl] at hw;refine wu ?_;have hz:u+n≠0:=om;rw [hw];unfold uV;have ht:((((u+n):Nat):Int)==0)=false:=by simp;omega
      refine ⟨λh=>absurd (ht.symm.trans h) dd,λ_=>?_⟩
      conv=>whnf
      refine ⟨λq=>?_,λq=>?_⟩
      ·have q:=of_decide_eq_true (show decide ((((eu b++((c.take 15).drop 1).map λc=>[ae.aa .u8 c.toNat]).length:Nat):Int)<(((u+n):Nat):Int))=true from q);rw [hlb] at q;rw [if_pos (.inr om)]
       conv=>whnf
      ·have q:=of_decide_eq_false (show decide ((((eu b++((c.take 15).drop 1).map λc=>[ae.aa .u8 c.toNat]).length:Nat):Int)<(((u+n):Nat):Int))=false from q);rw [hlb] at q;rw [if_neg (λh=>h.elim hz (by simp_all))]
       conv=>whnf
       refine ⟨(b++(c.take 15).drop 1),?_⟩
       conv=>whnf
       refine ⟨⟨.inl rfl,(List.map_append (f:=λc:UInt8=>[ae.aa .u8 c.toNat])).symm⟩,?_⟩
       conv=>whnf
     ·have h6:¬(u+n)<=14*k+14:=by
       grind
      rw [decide_eq_false h6,if_neg Bool.false_ne_true] at hw;refine wu ?_;exact ⟨(k+1,b++(c.take 15).drop 1,(u+n)),⟨by simp only;omega,om,by simp only;omega,f,by simp only;omega,hw⟩,by grind,rfl,rfl,rfl,rfl,rfl,rfl,by rw [<-e16];exact congrArg _ (congrArg _ e1),rfl,rfl,rfl,eapp,rfl,erow,rfl,rfl,rfl,rfl,rfl,rfl,rfl,rfl,rfl,trivial⟩
  ·have hnz:need≠0:=by
    simp_all
   have e6:True:=trivial;have hst:su s (b++(c.take 15).drop 1) ((c.take 15).drop 1) need=(decide (need<=14*k+14),need):=by
    grind [su]
   rw [hst] at hw
   conv=>whnf
   have hlb:(eu b++((c.take 15).drop 1).map λc=>[ae.aa .u8 c.toNat]).length=14*k+14:=by simp_all
   have hem:(((c.take 15).drop 1).map λc:UInt8=>[ae.aa .u8 (c.toNat:Int)]).isEmpty=false:=by
    grind
   have eapp:bs.au 126 [ae.ag (decide (k=0) && (((c.take 15).drop 1).map λc:UInt8=>[ae.aa .u8 (c.toNat:Int)]).isEmpty) 1 (eu b++(((c.take 15).drop 1).map λc:UInt8=>[ae.aa .u8 (c.toNat:Int)])) (.cO 12)]=bs.au 126 [ae.ag (decide (k+1=0)) 1 (eu (b++(c.take 15).drop 1)) (.cO 12)]:=by
    grind [eu]
   have erow:bs.aN 5 1 ((eu b).length+(((c.take 15).drop 1).map λc=>[ae.aa .u8 c.toNat]).length)=bs.aN 5 1 (14*(k+1)):=by grind
   refine ⟨λh6=>?_,λh6=>?_⟩
   ·have h6:need<=14*k+14:=by
     grind
    rw [decide_eq_true h6,if_pos rfl] at hw;refine wu ?_;rw [hw];unfold uV
    by_cases hz:need=0
    ·rw [if_pos (.inl hz)];have ht:(((need:Nat):Int)==0)=true:=by rw [hz];rfl
     refine ⟨λ_=>?_,λh=>absurd (ht.symm.trans h) dd⟩
     conv=>whnf
    ·have ht:(((need:Nat):Int)==0)=false:=by simp;omega
     refine ⟨λh=>absurd (ht.symm.trans h) dd,λ_=>?_⟩
     conv=>whnf
     refine ⟨λq=>?_,λq=>?_⟩
     ·have q:=of_decide_eq_true (show decide ((((eu b++((c.take 15).drop 1).map λc=>[ae.aa .u8 c.toNat]).length:Nat):Int)<((need:Nat):Int))=true from q);rw [hlb] at q;rw [if_pos (.inr om)]
      conv=>whnf
     ·have q:=of_decide_eq_false (show decide ((((eu b++((c.take 15).drop 1).map λc=>[ae.aa .u8 c.toNat]).length:Nat):Int)<((need:Nat):Int))=false from q);rw [hlb] at q;rw [if_neg (λh=>h.elim hz (by grind))]
      conv=>whnf
      refine ⟨(b++(c.take 15).drop 1),?_⟩
      conv=>whnf
      refine ⟨⟨.inl rfl,(List.map_append (f:=λc:UInt8=>[ae.aa .u8 c.toNat])).symm⟩,?_⟩
      conv=>whnf
   ·have h6:¬need<=14*k+14:=by
     grind
    rw [decide_eq_false h6,if_neg Bool.false_ne_true] at hw;refine wu ?_;exact ⟨(k+1,b++(c.take 15).drop 1,need),⟨by simp only;omega,om,by simp only;omega,f,by simp only;omega,hw⟩,by grind,rfl,rfl,rfl,rfl,rfl,rfl,by rw [<-e16];exact congrArg _ (congrArg _ e1),rfl,rfl,rfl,eapp,rfl,erow,rfl,rfl,rfl,rfl,rfl,rfl,rfl,rfl,rfl,trivial⟩
 ·have hts:decide (((16*k+16:Nat):Int)<=(s.length:Int))=false:=decide_eq_false om;obtain ⟨f,rfl⟩:∃ g,f=g+1:=⟨f - 1,om⟩;rw [wB,if_neg hfit] at hw;refine ⟨λh=>absurd (hts.symm.trans h) dd,λ_=>?_⟩;refine wu ?_;rw [hw];unfold uV
  by_cases hz:need=0
  ·rw [if_pos (.inl hz)];have ht:(((need:Nat):Int)==0)=true:=by rw [hz];rfl
   refine ⟨λ_=>?_,λh=>absurd (ht.symm.trans h) dd⟩
   conv=>whnf
  ·have ht:(((need:Nat):Int)==0)=false:=by simp;omega
   refine ⟨λh=>absurd (ht.symm.trans h) dd,λ_=>?_⟩
   conv=>whnf
   refine ⟨λq=>?_,λq=>?_⟩
   ·have q:=of_decide_eq_true (show decide ((((eu b).length:Nat):Int)<((need:Nat):Int))=true from q);rw [jY] at q;rw [if_pos (.inr (by simp only;omega))]
    conv=>whnf
   ·have q:=of_decide_eq_false (show decide ((((eu b).length:Nat):Int)<((need:Nat):Int))=false from q);rw [jY] at q;rw [if_neg (λh=>h.elim hz (by simp only;omega))]
    conv=>whnf
    refine ⟨b,?_⟩
    conv=>whnf
    refine ⟨⟨.inl rfl,rfl⟩,?_⟩
    conv=>whnf
theorem adk (s p:List UInt8):aC Tryz.prog 239 [.ai s, .ai p] (.aE (sj p s)):=by
 unfold sj;refine bK Tryz.func239 ?_
 conv=>whnf
 refine ⟨λh=>?_,λh=>?_⟩
 ·have h:=of_decide_eq_true h;refine ak ?_;simp_all
 ·have h:=of_decide_eq_false h
  conv=>whnf
  grind
theorem adl (s p:List UInt8):aC Tryz.prog 260 [.ai s, .ai p] (.aE (sj p s)):=by
 refine bK Tryz.func260 ?_
 conv=>whnf
 refine bz.eV (adk s p) rfl ?_
 conv=>whnf
theorem M5 (s:List UInt8):pg s=match qw s with
  |none=> .aw [.ai [], .ai [], .aa .i64 40]
  |some (x,y)=> .aw [.ai x, .ai y, .aa .i64 0]:=by
 unfold pg qw pL;grind
theorem adh (s:List UInt8):Ga s=match x7 s with
  |none=> .aw [.ai [], .aE false]
  |some x=> .aw [.ai x, .aE true]:=by
 grind [Ga,x7]
def Jo (o:Option (List UInt8×Nat)):ae:=match o with
 |none=> .aw [.ai [], .aa .i64 0, .aE false]
 |some (p,k)=> .aw [.ai p, .aa .i64 (k:Int), .aE true]
theorem T2 (s:List UInt8) (lsn:Int) (hs:s.length<=1048576):aC Tryz.prog 223 [.ai s, .aa .i64 lsn] (Jo (lY s lsn)):=by
 unfold lY;refine bK Tryz.func223 ?_
 conv=>whnf
 refine ⟨λh1=>?_,λh1=>?_⟩
 ·have h1:=of_decide_eq_true h1;rw [if_pos (.inl h1)];exact bm
 have h1:=of_decide_eq_false h1
 conv=>whnf
 refine ⟨λh2=>?_,λh2=>?_⟩
 ·have h2:=of_decide_eq_true h2;rw [if_pos (.inr h2)];exact bm
 have h2:=of_decide_eq_false h2;rw [if_neg (λh=>h.elim h1 h2)];obtain ⟨R,hR⟩:∃ R,R=Jo (uT s lsn (uU s (gb lsn.toNat))):=⟨_,rfl⟩;rw [<-hR];obtain ⟨n,rfl⟩:∃ n:Nat,lsn=n:=⟨lsn.toNat,om⟩;rw [Int.toNat_natCast] at hR;have hwl:=aaU s (gb n);have c1:=TZ n;have c2:=adm s (gb n) hs;generalize uU s (gb n)=W at*;have c3:=Du W om;rw [M5] at c3;refine ak ?_;rcases hT:qw W with _|⟨y,y2⟩
 ·rw [hT] at c3;refine ak ?_;rw [hR,uT,hT];rfl
 rw [hT] at c3;have hyl:=R5 hT;have c4:=aci y om;rw [adh] at c4;refine ak ?_;rcases hO:x7 y with _|b
 ·rw [hO] at c4;refine ak ?_;rw [hR];simp only [uT,hT,hO];rfl
 rw [hO] at c4;have hbl:=aaO hO;refine ak ?_;have c5:=F9 b om;rcases hV:gI b with _|⟨q,u⟩
 ·rw [show pS b= .aw [.aa .i64 0, .ai [], .aa .i64 40] from by grind [pS]] at c5;refine ak ?_;rw [hR];simp only [uT,hT,hO,zr,hV];rfl
 rw [show pS b= .aw [.aa .i64 (q:Int), .ai (b.drop u), .aa .i64 0] from by grind [pS]] at c5;refine ak ?_;have c6:=Du (b.drop u) (by grind);rw [M5] at c6;rcases hT2:qw (b.drop u) with _|⟨p,p2⟩
 ·rw [hT2] at c6;refine ak ?_;rw [hR];simp only [uT,hT,hO,zr,hV,hT2];rfl
 rw [hT2] at c6;refine ak ?_;have c7:=Gf n p;unfold wy wA at c7;rw [Int.toNat_natCast] at c7
 by_cases hm:ka n p=true
 ·rw [if_pos hm,if_pos hm] at c7;have c8:=adl s (iW n p);refine ak ?_;refine ⟨λhp=>?_,λhp=>?_⟩
  ·have hp:sj (iW n p) s=false:=by simpa using hp
   conv=>whnf
   rw [hR];simp only [uT,hT,hO,zr,hV,hT2,Dc];rw [if_pos hm,Int.toNat_natCast,hp];rfl
  ·have hp:sj (iW n p) s=true:=by simpa using hp
   conv=>whnf
   rw [hR];simp only [uT,hT,hO,zr,hV,hT2,Dc];rw [if_pos hm,Int.toNat_natCast,hp,if_pos rfl];have hl:(iW n p).length<=s.length:=by
    grind [sj]
   have e:(((iW n p).length:Int)).tdiv 16=(((iW n p).length / 16:Nat):Int):=Int.ofNat_tdiv _ 16;rw [e,bj om om];rfl
 ·rw [if_neg hm,if_neg hm] at c7;refine ak ?_;rw [hR];simp only [uT,hT,hO,zr,hV,hT2,Dc];rw [if_neg hm];rfl
def gJ (l:List (List UInt8)):List (List ae):=l.map λt=>[.ai t]
theorem zJ (l:List (List UInt8)):(gJ l).length=l.length:=by simp [gJ]
def adb (r:List (List UInt8)×Nat):ae:= .aw [.ag (decide (r.1=[])) 1 (gJ r.1) .av, .aa .i64 (r.2:Int)]
theorem adg {lsn:Int} {p:List UInt8} (h:ka lsn p=true):1<=lsn/\lsn<=1000000:=by
 grind [ka]
theorem adj (s:List UInt8) (lsn:Int) (hs:s.length<=1048576):aC Tryz.prog 173 [.ai s, .aa .i64 lsn] (adb (lG s lsn)):=by
 refine cU Tryz.func173 ?_
 conv=>whnf
 refine db.zd 6 9 1 rfl rfl (.inr rfl) ?_;refine db.cK (X:=List (List UInt8)×Nat×Int) (λx=>[(.aj 0, .ah (.ai s)),(.aj 1, .ah (.aa .i64 x.2.2)),(.aj 6, .ah (.ag (decide (x.1=[])) 1 (gJ x.1) (.dB 4))),(.aj 7, .ah (.aa .i64 (x.2.1:Nat))),(.aJ 4, .aN 9 1 x.1.length)]) 5
  (λx=>16*x.2.1<=s.length/\x.1.length<=x.2.1/\∃ f,s.length<f+x.2.1/\lG s lsn=Ba f s x.2.2 x.1 x.2.1) (λx=>s.length - x.2.1) dd ([],0,lsn) ⟨Nat.zero_le _,Nat.le_refl _,s.length+1,by simp,rfl⟩
  ⟨rfl,rfl,rfl,rfl,rfl,rfl,rfl,rfl,rfl,rfl,trivial⟩ ?_
 rintro ⟨acc,n,ls⟩ ⟨h1,h2,f,hf,hr⟩;simp only at h1 h2 hf hr;have hal:=zJ acc;have e1:IntKind.i64.wrap ((n:Int)*16)=((16*n:Nat):Int):=by grind [bj]
 obtain ⟨f,rfl⟩:∃ g,f=g+1:=⟨f - 1,om⟩;rw [Ba] at hr;have c:=T2 (s.drop (16*n)) ls (by grind);refine cn ?_;rw [e1];refine ⟨⟨om,om⟩,?_⟩;rw [Int.toNat_natCast];rcases ht:lY (s.drop (16*n)) ls with _|⟨p,k⟩
 ·rw [ht] at c hr;simp only at hr;refine ak ?_;rw [hr];exact iL.bw _
 ·have hb:=FL ht;have hm:=adg (Bd ht).1;rw [List.length_drop] at hb;rw [ht] at c hr;simp only at hr;refine ak ?_;refine ⟨⟨hal.symm,dG (by grind) dd⟩,?_⟩
  conv=>whnf
  refine ⟨(acc++[p],n+k,ls+1),⟨by simp only;omega,by grind,f,by simp only;omega,hr⟩,by grind,rfl,rfl,?_,rfl,?_,rfl,?_,rfl,?_,rfl,trivial⟩
  ·show bs.ah (ae.aa .i64 (IntKind.i64.wrap (ls+1)))=bs.ah (ae.aa .i64 (ls+1));grind [bj]
  ·show bs.ah (ae.ag (decide (acc=[]) && false) 1 (gJ acc++[[ae.ai p]]) _)=bs.ah (ae.ag (decide (acc++[p]=[])) 1 (gJ (acc++[p])) _);rw [Bool.and_false,decide_eq_false (by simp),gJ,gJ,List.map_append];rfl
  ·show bs.ah (ae.aa .i64 (IntKind.i64.wrap ((n:Int)+(k:Int))))=bs.ah (ae.aa .i64 ((n+k:Nat):Int));grind [bj]
  ·show bs.aN _ 1 ((gJ acc).length+1)=bs.aN _ 1 (acc++[p]).length;simp_all
end Go.Proofs.YtffboamedcmpaaaGreatDoor
