/- SpacePlays: a part of its proof; conditions: its statement's. -/
import Derived.Test.YtefepnnfphdkpaaGreatE01
import Derived.Test.YtefepnnfphdkpaaGreatProg
import Derived.KernelRfl
import Derived.Test.YtefepnnfphdkpaaGreatE14
namespace Go.Proofs.YtefepnnfphdkpaaGreat.Am
open Go
theorem kA : bq Tryz.prog 3=some 1:=by kernel_rfl
theorem cA : b8 Tryz.prog 3=some false:=by kernel_rfl
theorem As : zeroT Tryz.prog 3=some (.int .i64 0):=by kernel_rfl
theorem oS : bq Tryz.prog 4=some 1:=by kernel_rfl
theorem kB : b8 Tryz.prog 4=some false:=by kernel_rfl
theorem W3 : zeroT Tryz.prog 4=some (.bool false):=by kernel_rfl
theorem Qi : bq Tryz.prog 5=some 1:=by kernel_rfl
theorem W4 : zeroT Tryz.prog 5=some (.int .u8 0):=by kernel_rfl
theorem xF : b8 Tryz.prog 24=some false:=by kernel_rfl
theorem T4 : bq Tryz.prog 26=some 1:=by kernel_rfl
theorem CO : b8 Tryz.prog 26=some false:=by kernel_rfl
theorem jT : bq Tryz.prog 28=some 1:=by kernel_rfl
theorem cS : b8 Tryz.prog 28=some false:=by kernel_rfl
theorem qR : zeroT Tryz.prog 28=some .bu:=by kernel_rfl
theorem T5 : bq Tryz.prog 33=some 1:=by kernel_rfl
theorem pS : b8 Tryz.prog 33=some false:=by kernel_rfl
theorem AI : bq Tryz.prog 43=some 1:=by kernel_rfl
theorem iP : b8 Tryz.prog 43=some false:=by kernel_rfl
theorem T6 : bq Tryz.prog 46=some 1:=by kernel_rfl
theorem CQ : b8 Tryz.prog 46=some false:=by kernel_rfl
theorem vV : bq Tryz.prog 48=some 6:=by kernel_rfl
theorem CR : b8 Tryz.prog 48=some true:=by kernel_rfl
theorem N_ : zeroT Tryz.prog 48=some (.agg [(.int .i64 0),(.int .u64 0),(.int .u64 0),(.int .u64 0),.bu,.bu]):=by kernel_rfl
theorem xG (a b:Nat): fieldAddrV Tryz.prog 48 (.ptr a b) 0=some (.ptr a (b+0)):=by kernel_rfl
theorem T7 (a b:Nat): fieldAddrV Tryz.prog 48 (.ptr a b) 1=some (.ptr a (b+1)):=by kernel_rfl
theorem T8 (a b:Nat): fieldAddrV Tryz.prog 48 (.ptr a b) 2=some (.ptr a (b+2)):=by kernel_rfl
theorem T9 (a b:Nat): fieldAddrV Tryz.prog 48 (.ptr a b) 3=some (.ptr a (b+3)):=by kernel_rfl
theorem T_ (a b:Nat): fieldAddrV Tryz.prog 48 (.ptr a b) 4=some (.ptr a (b+4)):=by kernel_rfl
theorem sU (a b:Nat): fieldAddrV Tryz.prog 48 (.ptr a b) 5=some (.ptr a (b+5)):=by kernel_rfl
theorem JI (ps:List (Nat×V)): buildV Tryz.prog 48 ps=(fillV (nth [(0,1),(1,1),(2,1),(3,1),(4,1),(5,1)]) ((.agg [(.int .i64 0),(.int .u64 0),(.int .u64 0),(.int .u64 0),.bu,.bu]):V).cells ps).map .agg:=by kernel_rfl
theorem Ua : bq Tryz.prog 50=some 1:=by kernel_rfl
theorem iC : b8 Tryz.prog 50=some false:=by kernel_rfl
theorem Ub (a b:Nat)(k:IntKind)(n:Int): indexAddrV Tryz.prog 51 (.ptr a b) (.int k n)=cond (decide (0≤n)&&decide (n<(16:Nat))) (some (.ptr a (b+n.toNat*1))) none:=by kernel_rfl
theorem dm : bq Tryz.prog 53=some 17:=by kernel_rfl
theorem fV : b8 Tryz.prog 53=some true:=by kernel_rfl
theorem AJ : zeroT Tryz.prog 53=some (.agg [.bu,(.int .i64 0),(.int .i64 0),(.int .i64 0),(.int .i64 0),(.int .i64 0),(.int .i64 0),(.int .i64 0),(.int .i64 0),(.int .i64 0),(.int .i64 0),(.int .i64 0),(.int .i64 0),(.int .i64 0),(.int .i64 0),(.int .i64 0),(.int .i64 0)]):=by kernel_rfl
theorem d_ (a b:Nat): fieldAddrV Tryz.prog 53 (.ptr a b) 0=some (.ptr a (b+0)):=by kernel_rfl
theorem LH (a b:Nat): fieldAddrV Tryz.prog 53 (.ptr a b) 1=some (.ptr a (b+1)):=by kernel_rfl
theorem jU : b8 Tryz.prog 62=some false:=by kernel_rfl
theorem Oa : bq Tryz.prog 67=some 3:=by kernel_rfl
theorem Uc : b8 Tryz.prog 67=some true:=by kernel_rfl
theorem Yj : zeroT Tryz.prog 67=some (.agg [(.int .i64 0),(.int .i64 0),(.int .i64 0)]):=by kernel_rfl
theorem vn (a b:Nat): fieldAddrV Tryz.prog 67 (.ptr a b) 0=some (.ptr a (b+0)):=by kernel_rfl
theorem gG (a b:Nat): fieldAddrV Tryz.prog 67 (.ptr a b) 1=some (.ptr a (b+1)):=by kernel_rfl
theorem vp (a b:Nat): fieldAddrV Tryz.prog 67 (.ptr a b) 2=some (.ptr a (b+2)):=by kernel_rfl
theorem pT : b8 Tryz.prog 86=some false:=by kernel_rfl
theorem mI : b8 Tryz.prog 109=some false:=by kernel_rfl
theorem VG : bq Tryz.prog 111=some 3:=by kernel_rfl
theorem ou (a b:Nat): fieldAddrV Tryz.prog 111 (.ptr a b) 0=some (.ptr a (b+0)):=by kernel_rfl
theorem pU (a b:Nat): fieldAddrV Tryz.prog 111 (.ptr a b) 1=some (.ptr a (b+1)):=by kernel_rfl
theorem zC (a b:Nat): fieldAddrV Tryz.prog 111 (.ptr a b) 2=some (.ptr a (b+2)):=by kernel_rfl
theorem VH (ps:List (Nat×V)): buildV Tryz.prog 111 ps=(fillV (nth [(0,1),(1,1),(2,1)]) ((.agg [.b7,.kJ,(.bool false)]):V).cells ps).map .agg:=by kernel_rfl
theorem rz : b8 Tryz.prog 112=some false:=by kernel_rfl
theorem r9 (a b:Nat): fieldAddrV Tryz.prog 114 (.ptr a b) 0=some (.ptr a (b+0)):=by kernel_rfl
theorem mw (a b:Nat): fieldAddrV Tryz.prog 114 (.ptr a b) 1=some (.ptr a (b+1)):=by kernel_rfl
theorem nk (a b:Nat): fieldAddrV Tryz.prog 114 (.ptr a b) 2=some (.ptr a (b+2)):=by kernel_rfl
theorem ow (a b:Nat): fieldAddrV Tryz.prog 114 (.ptr a b) 3=some (.ptr a (b+3)):=by kernel_rfl
theorem Rv (a b:Nat): fieldAddrV Tryz.prog 114 (.ptr a b) 4=some (.ptr a (b+4)):=by kernel_rfl
theorem Rw (a b:Nat): fieldAddrV Tryz.prog 114 (.ptr a b) 5=some (.ptr a (b+5)):=by kernel_rfl
theorem VI (ps:List (Nat×V)): buildV Tryz.prog 114 ps=(fillV (nth [(0,1),(1,1),(2,1),(3,1),(4,1),(5,1)]) ((.agg [.b7,.b7,.b7,.b7,.bu,(.int .u64 0)]):V).cells ps).map .agg:=by kernel_rfl
theorem Ew : b8 Tryz.prog 145=some false:=by kernel_rfl
theorem Qj (a b l:Nat)(c:Cap)(k:IntKind)(n:Int): indexAddrV Tryz.prog 145 (.sl a b l c) (.int k n)=cond (decide (0≤n)&&decide (n<(l:Int))) (some (.ptr a (b+n.toNat*1))) none:=by kernel_rfl
theorem Qk : bq Tryz.prog 146=some 1:=by kernel_rfl
theorem JJ : b8 Tryz.prog 146=some false:=by kernel_rfl
theorem VJ : bq Tryz.prog 147=some 1:=by kernel_rfl
theorem Rx (a b:Nat): fieldAddrV Tryz.prog 149 (.ptr a b) 0=some (.ptr a (b+0)):=by kernel_rfl
theorem zD (a b:Nat): fieldAddrV Tryz.prog 149 (.ptr a b) 1=some (.ptr a (b+1)):=by kernel_rfl
theorem zE (a b:Nat): fieldAddrV Tryz.prog 149 (.ptr a b) 2=some (.ptr a (b+2)):=by kernel_rfl
theorem zG (a b:Nat): fieldAddrV Tryz.prog 149 (.ptr a b) 3=some (.ptr a (b+3)):=by kernel_rfl
theorem pV (a b:Nat): fieldAddrV Tryz.prog 149 (.ptr a b) 4=some (.ptr a (b+4)):=by kernel_rfl
theorem vq (a b:Nat): fieldAddrV Tryz.prog 149 (.ptr a b) 5=some (.ptr a (b+5)):=by kernel_rfl
theorem CS (a b:Nat): fieldAddrV Tryz.prog 149 (.ptr a b) 6=some (.ptr a (b+6)):=by kernel_rfl
theorem zH (a b:Nat): fieldAddrV Tryz.prog 149 (.ptr a b) 7=some (.ptr a (b+7)):=by kernel_rfl
theorem zI (a b:Nat): fieldAddrV Tryz.prog 149 (.ptr a b) 8=some (.ptr a (b+8)):=by kernel_rfl
theorem jK (a b:Nat): fieldAddrV Tryz.prog 149 (.ptr a b) 9=some (.ptr a (b+9)):=by kernel_rfl
theorem Ob (a b:Nat): fieldAddrV Tryz.prog 149 (.ptr a b) 10=some (.ptr a (b+10)):=by kernel_rfl
theorem Oc (a b:Nat): fieldAddrV Tryz.prog 149 (.ptr a b) 11=some (.ptr a (b+11)):=by kernel_rfl
theorem VK (ps:List (Nat×V)): buildV Tryz.prog 149 ps=(fillV (nth [(0,1),(1,1),(2,1),(3,1),(4,1),(5,1),(6,1),(7,1),(8,1),(9,1),(10,1),(11,1)]) ((.agg [(.int .i64 0),.bu,.bu,.kJ,.bu,(.int .i64 0),.bu,(.int .i64 0),(.int .i64 0),(.bool false),.b7,.bu]):V).cells ps).map .agg:=by kernel_rfl
theorem JK : bq Tryz.prog 151=some 2:=by kernel_rfl
theorem VL : b8 Tryz.prog 151=some true:=by kernel_rfl
theorem JL : zeroT Tryz.prog 151=some (.agg [(.int .i64 0),.bu]):=by kernel_rfl
theorem Ry (a b:Nat): fieldAddrV Tryz.prog 151 (.ptr a b) 1=some (.ptr a (b+1)):=by kernel_rfl
theorem VM (ps:List (Nat×V)): buildV Tryz.prog 151 ps=(fillV (nth [(0,1),(1,1)]) ((.agg [(.int .i64 0),.bu]):V).cells ps).map .agg:=by kernel_rfl
theorem oz (a b:Nat): fieldAddrV Tryz.prog 155 (.ptr a b) 0=some (.ptr a (b+0)):=by kernel_rfl
theorem jL (a b:Nat): fieldAddrV Tryz.prog 155 (.ptr a b) 1=some (.ptr a (b+1)):=by kernel_rfl
theorem jM (a b:Nat): fieldAddrV Tryz.prog 155 (.ptr a b) 2=some (.ptr a (b+2)):=by kernel_rfl
theorem jj (a b:Nat): fieldAddrV Tryz.prog 155 (.ptr a b) 3=some (.ptr a (b+3)):=by kernel_rfl
theorem r_ (a b:Nat): fieldAddrV Tryz.prog 155 (.ptr a b) 4=some (.ptr a (b+4)):=by kernel_rfl
theorem pW (a b:Nat): fieldAddrV Tryz.prog 155 (.ptr a b) 5=some (.ptr a (b+5)):=by kernel_rfl
theorem VN (ps:List (Nat×V)): buildV Tryz.prog 155 ps=(fillV (nth [(0,1),(1,1),(2,1),(3,1),(4,1),(5,1)]) ((.agg [.b7,(.int .u64 0),.bu,.bu,(.int .i64 0),(.int .u64 0)]):V).cells ps).map .agg:=by kernel_rfl
theorem JM : bq Tryz.prog 159=some 2:=by kernel_rfl
theorem VO : b8 Tryz.prog 159=some true:=by kernel_rfl
theorem Ey : zeroT Tryz.prog 159=some (.agg [(.int .i64 0),(.int .u64 0)]):=by kernel_rfl
theorem Rz (a b:Nat): fieldAddrV Tryz.prog 159 (.ptr a b) 1=some (.ptr a (b+1)):=by kernel_rfl
theorem VQ (ps:List (Nat×V)): buildV Tryz.prog 159 ps=(fillV (nth [(0,1),(1,1)]) ((.agg [(.int .i64 0),(.int .u64 0)]):V).cells ps).map .agg:=by kernel_rfl
theorem bA : bq Tryz.prog 163=some 1:=by kernel_rfl
theorem cg : b8 Tryz.prog 163=some true:=by kernel_rfl
theorem jC : zeroT Tryz.prog 163=some (.agg [.bu]):=by kernel_rfl
theorem gC (a b:Nat): fieldAddrV Tryz.prog 163 (.ptr a b) 0=some (.ptr a (b+0)):=by kernel_rfl
theorem zJ (ps:List (Nat×V)): buildV Tryz.prog 163 ps=(fillV (nth [(0,1)]) ((.agg [.bu]):V).cells ps).map .agg:=by kernel_rfl
theorem zP : bq Tryz.prog 180=some 4:=by kernel_rfl
theorem VR : b8 Tryz.prog 180=some true:=by kernel_rfl
theorem tT : zeroT Tryz.prog 180=some (.agg [(.int .i64 0),(.int .i64 0),(.bool false),.bu]):=by kernel_rfl
theorem CT (a b:Nat): fieldAddrV Tryz.prog 180 (.ptr a b) 0=some (.ptr a (b+0)):=by kernel_rfl
theorem sg (a b:Nat): fieldAddrV Tryz.prog 180 (.ptr a b) 1=some (.ptr a (b+1)):=by kernel_rfl
theorem It (a b:Nat): fieldAddrV Tryz.prog 180 (.ptr a b) 2=some (.ptr a (b+2)):=by kernel_rfl
theorem si (a b:Nat): fieldAddrV Tryz.prog 180 (.ptr a b) 3=some (.ptr a (b+3)):=by kernel_rfl
theorem JN (ps:List (Nat×V)): buildV Tryz.prog 180 ps=(fillV (nth [(0,1),(1,1),(2,1),(3,1)]) ((.agg [(.int .i64 0),(.int .i64 0),(.bool false),.bu]):V).cells ps).map .agg:=by kernel_rfl
theorem nN : b8 Tryz.prog 185=some false:=by kernel_rfl
theorem VS (a b l:Nat)(c:Cap)(k:IntKind)(n:Int): indexAddrV Tryz.prog 185 (.sl a b l c) (.int k n)=cond (decide (0≤n)&&decide (n<(l:Int))) (some (.ptr a (b+n.toNat*5))) none:=by kernel_rfl
theorem vW : b8 Tryz.prog 186=some false:=by kernel_rfl
theorem qo : b8 Tryz.prog 187=some false:=by kernel_rfl
theorem vr (a b:Nat): fieldAddrV Tryz.prog 189 (.ptr a b) 0=some (.ptr a (b+0)):=by kernel_rfl
theorem RA (a b:Nat): fieldAddrV Tryz.prog 189 (.ptr a b) 1=some (.ptr a (b+1)):=by kernel_rfl
theorem ke (a b:Nat): fieldAddrV Tryz.prog 189 (.ptr a b) 2=some (.ptr a (b+2)):=by kernel_rfl
theorem pX (a b:Nat): fieldAddrV Tryz.prog 189 (.ptr a b) 3=some (.ptr a (b+3)):=by kernel_rfl
theorem my (a b:Nat): fieldAddrV Tryz.prog 189 (.ptr a b) 4=some (.ptr a (b+4)):=by kernel_rfl
theorem CU (a b:Nat): fieldAddrV Tryz.prog 189 (.ptr a b) 5=some (.ptr a (b+5)):=by kernel_rfl
theorem VT (ps:List (Nat×V)): buildV Tryz.prog 189 ps=(fillV (nth [(0,1),(1,1),(2,1),(3,1),(4,1),(5,1)]) ((.agg [.b7,.b7,.bu,.kJ,.kJ,(.int .i64 0)]):V).cells ps).map .agg:=by kernel_rfl
theorem BB : bq Tryz.prog 193=some 5:=by kernel_rfl
theorem VU : b8 Tryz.prog 193=some true:=by kernel_rfl
theorem VV : zeroT Tryz.prog 193=some (.agg [(.int .i64 0),.bu,(.int .i64 0),(.bool false),(.bool false)]):=by kernel_rfl
theorem oA (a b:Nat): fieldAddrV Tryz.prog 193 (.ptr a b) 0=some (.ptr a (b+0)):=by kernel_rfl
theorem zQ (a b:Nat): fieldAddrV Tryz.prog 193 (.ptr a b) 1=some (.ptr a (b+1)):=by kernel_rfl
theorem pY (a b:Nat): fieldAddrV Tryz.prog 193 (.ptr a b) 2=some (.ptr a (b+2)):=by kernel_rfl
theorem CV (a b:Nat): fieldAddrV Tryz.prog 193 (.ptr a b) 3=some (.ptr a (b+3)):=by kernel_rfl
theorem CW (a b:Nat): fieldAddrV Tryz.prog 193 (.ptr a b) 4=some (.ptr a (b+4)):=by kernel_rfl
theorem Ez (ps:List (Nat×V)): buildV Tryz.prog 193 ps=(fillV (nth [(0,1),(1,1),(2,1),(3,1),(4,1)]) ((.agg [(.int .i64 0),.bu,(.int .i64 0),(.bool false),(.bool false)]):V).cells ps).map .agg:=by kernel_rfl
theorem tU : bq Tryz.prog 199=some 2:=by kernel_rfl
theorem JO : b8 Tryz.prog 199=some true:=by kernel_rfl
theorem vX : zeroT Tryz.prog 199=some (.agg [(.int .u64 0),(.bool false)]):=by kernel_rfl
theorem CX (a b:Nat): fieldAddrV Tryz.prog 199 (.ptr a b) 0=some (.ptr a (b+0)):=by kernel_rfl
theorem Iu (cs:List V): oL Tryz.prog 199 (.agg cs) 0=nth cs 0:=by kernel_rfl
theorem CY (a b:Nat): fieldAddrV Tryz.prog 199 (.ptr a b) 1=some (.ptr a (b+1)):=by kernel_rfl
theorem VW (ps:List (Nat×V)): buildV Tryz.prog 199 ps=(fillV (nth [(0,1),(1,1)]) ((.agg [(.int .u64 0),(.bool false)]):V).cells ps).map .agg:=by kernel_rfl
theorem Iv (a b:Nat): fieldAddrV Tryz.prog 210 (.ptr a b) 0=some (.ptr a (b+0)):=by kernel_rfl
theorem VX (ps:List (Nat×V)): buildV Tryz.prog 210 ps=(fillV (nth [(0,1),(1,1)]) ((.agg [.kJ,.kJ]):V).cells ps).map .agg:=by kernel_rfl
theorem Ql (a b:Nat)(k:IntKind)(n:Int): indexAddrV Tryz.prog 227 (.ptr a b) (.int k n)=cond (decide (0≤n)&&decide (n<(512:Nat))) (some (.ptr a (b+n.toNat*1))) none:=by kernel_rfl
theorem VY : bq Tryz.prog 239=some 512:=by kernel_rfl
theorem VZ : b8 Tryz.prog 239=some true:=by kernel_rfl
theorem V0 (ps:List (Nat×V)): buildV Tryz.prog 244 ps=(fillV (fun i=>some (i*1,1)) ((.agg [(.int .u64 0),(.int .u64 0),(.int .u64 0)]):V).cells ps).map .agg:=by kernel_rfl
def slR (v:V)(a b:Nat): V:=match v with
 | .sl id off _ (.exact c)=>.sl id (cond (Nat.beq c a) off (off+a*1)) (b-a) (.exact (c-a))
 | .sl id off _ (.rest _ alt)=>.sl id (off+a*1) (b-a) (.rest 1 (cond (Nat.beq a 0) alt (cond (Nat.blt a b) (off+a*1) off)))
 | v=>v
theorem fW {h:H}{v:V}{l:List Nat}{a b:Nat}(hv:View h v l)(lY:a≤b)(hb:b≤l.length):
  sliceV Tryz.prog h 28 v (some a) (some b) none=some (slR v a b)∧View h (slR v a b) ((l.take b).drop a)∧∀i∈rowIds (slR v a b),i∈rowIds v:=by
 have bC:∀x∈(l.take b).drop a,x<256:=fun x hx=>hv.1 x (je (iH hx))
 have hlen:((l.take b).drop a).length=b-a:=by simp; omega
 obtain ⟨hl,Ae⟩:=hv
 rcases Ae with ⟨rfl | ⟨ea,rfl⟩,rfl⟩ | ⟨id,off,cap,n,cs,st,rfl,hg,h1,h2,h3,h4⟩
 ·simp only [bM] at hb
  have:b=0:=by omega
  have:a=0:=by omega
  subst_vars
  refine ⟨?_,⟨by simp,.inl ⟨.inl rfl,by simp⟩⟩,fun i hi=>hi⟩
  simp only [sliceV,aV,eR]
  rfl
 ·simp only [bM] at hb
  have:b=0:=by omega
  have:a=0:=by omega
  subst_vars
  refine ⟨?_,⟨by simp,.inl ⟨.inr ⟨ea,rfl⟩,by simp⟩⟩,fun i hi=>hi⟩
  simp only [sliceV,aV,eR]
  rfl
 ·have I:∀o,o=off+a∨b-a=0→(cs.drop o).take (b-a)=ofBytes ((l.take b).drop a):=by
   intro o ho
   rcases uK (b-a) with hz | hz
   ·rw [hz,mj]
    have:(l.take b).drop a=[]:=l_ (by omega)
    rw [this]; rfl
   ·have tO:o=off+a:=by rcases ho with ho | ho; exact ho; omega
    subst tO
    have e1:ofBytes ((l.take b).drop a)=((ofBytes l).take b).drop a:=by simp [ofBytes,pO,pN]
    rw [e1,←h3,uT,rP hb,rQ,pL]
  cases cap with
  | exact c =>
   have hc:l.length≤c:=h4
   refine ⟨?_,⟨bC,.inr ⟨id,_,_,n,cs,st,by rw [hlen]; rfl,hg,h1,?_,?_,?_⟩⟩,fun i hi=>by simpa [rowIds,slR] using hi⟩
   ·simp only [sliceV,slR,aV,eR,ew]
    rw [show (Nat.ble a b&&Nat.ble b c)=true by rw [aJ,aF,aF]; omega,ag]
   ·rw [hlen]
    by_cases J:c=a
    ·rw [iA J,ag]; omega
    ·rw [cH J,ay]; omega
   ·rw [hlen]
    by_cases J:c=a
    ·rw [iA J,ag]; exact I off (.inr (by omega))
    ·rw [cH J,ay,cx]; exact I _ (.inl rfl)
   ·show _≤c-a
    rw [hlen]; omega
  | rest e alt =>
   have he:e=1:=h4
   subst he
   refine ⟨?_,⟨bC,.inr ⟨id,_,_,n,cs,st,by rw [hlen]; rfl,hg,h1,by rw [hlen]; omega,by rw [hlen,cx]; exact I _ (.inl rfl),rfl⟩⟩,fun i hi=>by simpa [rowIds,slR] using hi⟩
   simp only [sliceV,slR,aV,eR,ew,cN]
   rw [show (true&&Nat.ble 1 1)=true from rfl,ag]
   rw [show (Nat.ble a b&&(Nat.ble b l.length||Nat.ble b (jP h id off 1)))=true by rw [aJ,mh,aF,aF]; exact ⟨lY,.inl hb⟩,ag]
theorem cD {h:H}{v:V}{l:List Nat}{a:Nat}(hv:View h v l)(ha:a≤l.length):
  sliceV Tryz.prog h 28 v (some a) none none=some (slR v a l.length)∧View h (slR v a l.length) (l.drop a)∧∀i∈rowIds (slR v a l.length),i∈rowIds v:=by
 obtain ⟨I,h2,h3⟩:=fW hv ha (aD _)
 refine ⟨?_,by simpa using h2,h3⟩
 obtain ⟨_,J⟩:=hv
 rcases J with ⟨rfl | ⟨ea,rfl⟩,rfl⟩ | ⟨id,off,cap,n,cs,st,rfl,hg,g1,g2,g3,g4⟩
 ·simpa [sliceV,aV,eR] using I
 ·simpa [sliceV,aV,eR] using I
 ·rw [←I]
  simp only [sliceV,aV,eR,n4,ew]
theorem dR {h:H}{v:V}{l:List Nat}{i b:Nat}(hv:View h v l)(hi:l[i]?=some b):
  ∃id off,indexAddrV Tryz.prog 28 v (.int .i64 (i:Int))=some (.ptr id off)∧loadV Tryz.prog h 5 (.ptr id off)=some (.int .u8 (b:Int)):=by
 obtain ⟨hl,I⟩:=hv
 have J:i<l.length:=(List.getElem?_eq_some_iff.1 hi).1
 rcases I with ⟨_,rfl⟩ | ⟨id,off,cap,n,cs,st,rfl,hg,h1,h2,h3,h4⟩
 ·simp at hi
 ·refine ⟨id,off+i*1,?_,?_⟩
  ·simp only [indexAddrV,aV,eR,bP]
   rw [show (decide ((0:Int)≤(i:Int))&&decide ((i:Int)<(l.length:Int)))=true by simp; omega,ag]
  ·simp only [loadV,Im,wG,hg,fG,cx]
   have e:=fQ (fun q=>q[i]?) h3
   simp only [kX,jH,aq J] at e
   rw [e]
   simp [ofBytes,hi]
theorem View.cells {h:H}{v:V}{l:List Nat}(hv:View h v l): v.cells=[v]∧Am.storable v=true:=by
 obtain ⟨_,hv⟩:=hv
 rcases hv with ⟨rfl | ⟨I,rfl⟩,_⟩ | ⟨id,off,cap,n,cs,st,rfl,_⟩ <;> exact ⟨rfl,rfl⟩
def plain1 : V→Bool
 | .bool _ | .int _ _ | .str _ | .b7 | .ptr _ _ | .bu | .sl _ _ _ _ | .kJ | .map _ | .Dq | .nu | .su _ _=>true
 | .fn (.func _) [] []=>true
 | _=>false
def Ud : V→Bool
 | .agg l=>l.all plain1
 | .aY l=>l.all plain1
 | .iface _ v=>plain1 v
 | v=>plain1 v
theorem JP (k:FloatKind): fkBeq k k=true:=by cases k <;> rfl
theorem Fu : ∀l:List Nat,natsBeq l l=true:=fun l=>by rw [uy]; simp
theorem Od (v:V)(h:plain1 v=true): v.beq v=true:=by
 cases v <;> simp [plain1,V.beq,dg,qn,Ar,Fu,JP] at h ⊢
 rename_i f a b
 cases f <;> cases a <;> cases b <;> simp [plain1,V.beq,V.beqL] at h ⊢
theorem Qm : ∀(l:List V),l.all plain1=true→V.beqL l l=true:=by
 intro l
 induction l with
 | nil=>intro _; rfl
 | cons v l I =>
  intro h
  simp only [gU,aJ] at h
  simp only [V.beqL,Od v h.1,ag,I h.2]
theorem aS (v:V)(h:Ud v=true): v.beq v=true:=by
 cases v with
 | agg l=>exact Qm l h
 | aY l=>exact Qm l h
 | iface t v=>simp only [V.beq,cN,yT]; exact Od v h
 | _=>exact Od _ h
section
variable {P:Program} {h h':H} {S:List au} {X:au} {v w:V} {l m:List Nat}
theorem JQ (s:Sat h (aZ v l::X::S))(J:c8 X (c9 w m))(I:l.length+m.length≤140737488355328):
  ∃v' h',appendV Tryz.prog h #[28,28] v w=some (v',h')∧Sat h' (aZ v' (l++m)::X::S):=by
 obtain ⟨v',h',e1,e2,e3,e4⟩:=xA s.wf (s.buf (k:=0) rfl) (s.aU (k:=1) rfl J) I
 exact ⟨v',h',e1,s.zB e3 e2 e4⟩
theorem LI (s:Sat h S){c:Nat}(I:c<1073741824):
  ∃v h',makeSliceV Tryz.prog h 28 (.int .i64 0) (.int .i64 (c:Int))=some (v,h')∧Sat h' (aZ v []::S):=by
 obtain ⟨v,h',J,e2,e3,e4⟩:=Br s.wf I
 exact ⟨v,h',J,s.Fq e3 e2 e4⟩
theorem RB : ∀n:Nat,repeatL [V.int .u8 0] n=ofBytes (List.replicate n 0):=by
 intro n
 induction n with
 | zero=>rfl
 | succ n I=>simp only [repeatL,I,ofBytes,uH,bQ]; rfl
theorem LJ (s:Sat h S){c:Nat}(J:c<1073741824):
  ∃v h',makeSliceV Tryz.prog h 28 (.int .i64 (c:Int)) (.int .i64 (c:Int))=some (v,h')∧Sat h' (aZ v (List.replicate c 0)::S):=by
 obtain ⟨i,hi,i1,i2⟩:=CM
 have I:jv (h.new (.cells c (repeatL [.int .u8 0] c) false)) (.sl h.next 0 c (.exact c)) (List.replicate c 0):=by
  refine ⟨fun b I=>by have:=uD I; omega,.inr (.inl ⟨h.next,[],c,by simp,?_,by simp⟩)⟩
  rw [fA,aq rfl,RB,gz]
 refine ⟨.sl h.next 0 c (.exact c),h.new (.cells c (repeatL [.int .u8 0] c) false),?_,s.Fq (dM.zy s.wf _) I fun i hi=>by simp [rowIds] at hi; omega⟩
 simp only [makeSliceV,aV,hi,sQ,i1,i2,V.cells,aH,bM,bP,cx]
 rw [show (decide ((0:Int)≤(c:Int))&&decide ((c:Int)≤(c:Int))&&decide ((c:Int)<1073741824)&&Nat.ble 1 4096&&Nat.beq (0+1) 1&&Nat.ble 1 1)=true by simp; omega,ag]
theorem LK (s:Sat h S){b:Nat}(I:b<256): ∃v h',buildSliceV Tryz.prog h 28 1 [(0,.int .u8 b)]=some (v,h')∧Sat h' (aZ v [b]::S):=by
 obtain ⟨v,h',J,e2,e3,e4⟩:=DF s.wf I
 exact ⟨v,h',J,s.Fq e3 e2 e4⟩
theorem Sat.fB (s:Sat h (aZ v l::S))(hl:1≤l.length): ∃id c cap rest,v=.sl id 0 l.length cap∧Sat h (pt id (.cells c (ofBytes l++rest) false)::S)∧l.length+rest.length=c ∧
  (∀(h':H) (I:List Nat),I.length=l.length→(∀b∈I,b<256)→Sat h' (pt id (.cells c (ofBytes I++rest) false)::S)→Sat h' (aZ v I::S)):=by
 obtain ⟨m,r,h1,h2,h3,a,b,g1,g2,g3,⟨gl,g4⟩,g5⟩:=s.ok
 rcases g4 with ⟨rfl,rfl⟩ | ⟨id,cs,c,rfl,hg,hc⟩ | ⟨id,rfl,hg,h5⟩
 ·simp at hl
 ·refine ⟨id,c,_,cs,rfl,⟨s.wf,m,r,h1,h2,h3,a,b,g1,g2,g3,hg,g5⟩,hc,fun h' I e1 e2 s'=>s'.iU ?_⟩
  intro m' r' hm
  exact ⟨e2,.inr (.inl ⟨id,cs,c,by rw [e1],hm,by omega⟩)⟩
 ·refine ⟨id,l.length,_,[],rfl,⟨s.wf,m,r,h1,h2,h3,a,b,g1,g2,g3,by rw [gz]; exact hg,g5⟩,by simp,fun h' I e1 e2 s'=>s'.iU ?_⟩
  intro m' r' hm
  have J:m' id=some (.cells l.length (ofBytes I++[]) false):=hm
  rw [gz] at J
  exact ⟨e2,.inr (.inr ⟨id,by rw [e1],by rw [e1]; exact J,by omega⟩)⟩
theorem Hf (l:List Nat)(i b:Nat): (ofBytes l).set i (.int .u8 (b:Int))=ofBytes (l.set i b):=by simp [ofBytes,List.map_set]
theorem xH (l:List Nat)(n:Nat): (ofBytes l).take n=ofBytes (l.take n):=by simp [ofBytes,pN]
theorem Fv (l:List Nat)(n:Nat): (ofBytes l).drop n=ofBytes (l.drop n):=by simp [ofBytes,pO]
theorem kK (s:Sat h (aZ v l::S)){i b:Nat}(hi:i<l.length)(hb:b<256):
  ∃id off,indexAddrV Tryz.prog 28 v (.int .i64 (i:Int))=some (.ptr id off)∧∃h',fK Tryz.prog h 5 (.ptr id off) (.int .u8 (b:Int))=some h'∧Sat h' (aZ v (l.set i b)::S):=by
 have hv:=(s.buf (k:=0) rfl).1
 obtain ⟨id,c,cap,rest,rfl,s1,hc,hf⟩:=s.fB (by omega)
 refine ⟨id,i,?_,?_⟩
 ·simp only [indexAddrV,aV,eR,bP]
  rw [show (decide ((0:Int)≤(i:Int))&&decide ((i:Int)<(l.length:Int)))=true by simp; omega,ag]
  simp
 ·obtain ⟨h',e1,J⟩:=s1.gO (t:=5) (P:=Tryz.prog) (v:=.int .u8 (b:Int)) (k:=0) (off:=i) rfl eR (by simp [cP]; omega) (by omega) rfl rfl
  refine ⟨h',e1,hf h' (l.set i b) (by simp) (fun x I => ?_) ?_⟩
  ·rcases kV I with I | rfl
   ·exact hv x I
   ·exact hb
  ·have e3:(ofBytes l++rest).set i (.int .u8 (b:Int))=ofBytes (l.set i b)++rest:=by
    rw [Cd _ _ (by rw [cP]; exact hi),Hf]
   rw [e3] at J
   exact J
def bk (l:List Nat)(a:Nat)(m:List Nat): List Nat:=l.take a++(m++l.drop (a+m.length))
theorem cI {l m:List Nat}{a:Nat}(h:a+m.length≤l.length): (bk l a m).length=l.length:=by simp [bk]; omega
theorem DG {l m:List Nat}{a:Nat}(J:∀b∈l,b<256)(hm:∀b∈m,b<256): ∀b∈bk l a m,b<256:=fun b I=>by
 simp only [bk,pK] at I
 rcases I with I | I | I
 ·exact J b (je I)
 ·exact hm b I
 ·exact J b (iH I)
theorem Fw (s:Sat h (aZ v l::X::S))(hX:c8 X (c9 w m)){a b:Nat}(lY:a<b)(hb:b≤l.length)(hm:1≤m.length):
  ∃h',copyV Tryz.prog h 28 (slR v a b) w=some (.int .i64 (min m.length (b-a):Nat),h')∧Sat h' (aZ v (bk l a (m.take (b-a)))::X::S):=by
 have hw:=s.aU (k:=1) rfl hX
 have W5:=hw.1
 have hv:=(s.buf (k:=0) rfl).1
 obtain ⟨id,c,cap,rest,rfl,s1,hc,hf⟩:=s.fB (by omega)
 have ku:∃xn,slR (.sl id 0 l.length cap) a b=.sl id a (b-a) xn:=by
  cases cap with
  | exact c =>
   refine ⟨.exact (c-a),?_⟩
   simp only [slR]
   by_cases ZQ:c=a
   ·obtain ⟨m',r,h1,h2,h3⟩:=s.at (k:=0) rfl
    rcases h3.2 with ⟨e,_⟩ | ⟨xm,cs',c',e,hg,W6⟩ | ⟨xm,e,_⟩
    ·cases e
    ·injection e with _ _ _ e4; injection e4 with e4; omega
    ·injection e with _ _ _ e4; cases e4
   ·rw [cH ZQ,ay,dY,cx]
  | rest e alt=>exact ⟨_,by simp only [slR,dY,cx]; rfl⟩
 obtain ⟨xn,ku⟩:=ku
 rw [ku]
 have sR:=hw
 rcases sR.2 with ⟨_,rfl⟩ | ⟨qx,I,J,n2,Ue,W7,rfl,Iw,q1,q2,q3,q4⟩
 ·simp at hm
 ·have Oe:Nat.min m.length (b-a)=(m.take (b-a)).length:=by
   rw [kZ]
   exact Nat.min_comm _ _
  have iT:rdN h qx I (Nat.min m.length (b-a)*1)=some (ofBytes (m.take (b-a))):=by
   have Fx:View h (.sl qx I (m.take (b-a)).length J) (m.take (b-a)):=by
    refine ⟨fun x hx=>W5 x (je hx),.inr ⟨qx,I,J,n2,Ue,W7,rfl,Iw,q1,?_,?_,?_⟩⟩
    ·have:(m.take (b-a)).length≤m.length:=by simp; omega
     omega
    ·rw [←xH,←q3,uT,kZ]
    ·cases J with
     | exact c2 =>
      simp only at q4 ⊢
      have:(m.take (b-a)).length≤m.length:=by simp; omega
      omega
     | rest e2 a2=>exact q4
   rw [cx,Oe]
   exact Fx.rdN.2
  simp only [copyV,aV,eR,iT]
  have hlen:(m.take (b-a)).length≤b-a:=by simp; omega
  have Fy:wrN h id a (ofBytes (m.take (b-a)))=some (h.put id (some (.cells c (ofBytes (bk l a (m.take (b-a)))++rest) false))):=by
   simp only [wrN,s1.row (k:=0) rfl,cP]
   rw [aF.2 (by omega),ag]
   congr 3
   have e0:(ofBytes l++rest).take a++(ofBytes (m.take (b-a))++(ofBytes l++rest).drop (a+(m.take (b-a)).length))=ofBytes (bk l a (m.take (b-a)))++rest:=by
    rw [yC (by rw [cP]; omega),HQ (by rw [cP]; omega),xH,Fv]
    simp only [bk,ux,gS]
   cases Fz:(Nat.beq a 0&&Nat.beq (m.take (b-a)).length c) with
   | true =>
    simp only [aJ,beq_iff] at Fz
    rw [ag,←e0]
    obtain ⟨ZR,ZS⟩:=Fz
    subst ZR
    have:(ofBytes l++rest).drop (0+(m.take (b-0)).length)=[]:=gR (by simp [cP] at ZS ⊢; omega)
    rw [this]
    simp
   | false=>rw [ay,e0]
  rw [Fy]
  refine ⟨_,rfl,hf _ _ (cI (by omega)) (DG hv (fun x hx=>W5 x (je hx))) ?_⟩
  exact s1.put (k:=0) rfl
end
section
variable {P:Program} {h h':H} {S:List au} {v w x:V} {cs ds:List V} {k:Nat}
theorem Uf {t:TypeId}{id off n q:Nat}{st:Bool}(J:b8 P t=some true)(hs:bq P t=some q)(hg:T.get h.tr id=some (.cells n cs st))(hl:cs.length=n)(hb:off+q≤n):
  loadV P h t (.ptr id off)=some (.agg ((cs.drop off).take q)):=by
 simp only [loadV,J,hs,rdN,hg]
 rw [aF.2 hb,ag]
 cases I:(Nat.beq off 0&&Nat.beq q n) with
 | true =>
  simp only [aJ,beq_iff] at I
  obtain ⟨rfl,rfl⟩:=I
  simp [←hl]
 | false=>rfl
theorem Sat.CZ (s:Sat h (.arr k v cs::S))(I:cs≠[]): ∃id n cap N rest,v=.sl id 0 n cap∧cs.length=n*k∧N=cs.length+rest.length∧Sat h (pt id (.cells N (cs++rest) false)::S) ∧
  (∀(h':H) (cs':List V) (S':List au),cs'.length=cs.length→cs'.all storable=true→Sat h' (pt id (.cells N (cs'++rest) false)::S')→Sat h' (.arr k v cs'::S')):=by
 obtain ⟨m,r,J,h2,h3,a,b,g1,g2,g3,⟨gl,g4⟩,g5⟩:=s.ok
 rcases g4 with ⟨_,e⟩ | ⟨id,n,cap,N,rest,rfl,hg,q1,q2,q3,q4⟩
 ·exact absurd e I
 ·refine ⟨id,n,cap,N,rest,rfl,q1,q2.symm,⟨s.wf,m,r,J,h2,h3,a,b,g1,g2,g3,hg,g5⟩,fun h' cs' S' e1 e2 s'=>s'.iU ?_⟩
  intro m' r' hm
  exact ⟨e2,.inr ⟨id,n,cap,N,rest,rfl,hm,by omega,by omega,q3,q4⟩⟩
theorem Sat.JR {j:Nat}(s:Sat h S)(I:getA S j=some (.arr k v cs)): cs.all storable=true:=by
 obtain ⟨m,r,h1,h2,J⟩:=s.at I
 exact J.1
theorem Sat.lD {j:Nat}(s:Sat h S)(I:getA S j=some (.arr k v cs)): v.cells=[v]∧storable v=true∧v.beq v=true:=by
 obtain ⟨m,r,h1,h2,J⟩:=s.at I
 rcases J.2 with ⟨rfl,_⟩ | ⟨id,n,cap,N,rest,rfl,_⟩
 ·exact ⟨rfl,rfl,rfl⟩
 ·exact ⟨rfl,rfl,Bw _ _ _ _⟩
theorem Sat.eY {j n:Nat}{t e:TypeId}(s:Sat h S)(hj:getA S j=some (.arr k v cs))(hn:cs.length=n*k)(J:1≤k)(hu:P.underlying t=some (.slice e)): lenV P h t v=some (.int .i64 n):=by
 obtain ⟨m,r,h1,h2,h3⟩:=s.at hj
 rcases h3.2 with ⟨rfl,rfl⟩ | ⟨id,n',cap,N,rest,rfl,_,q,_⟩
 ·have:n=0:=by
   rcases uK n with I | I
   ·exact I
   ·have:=yR I J
    simp at hn
    omega
  subst this
  simp only [lenV,hu]
  rfl
 ·have:n'=n:=HR J (by omega)
  subst this
  simp only [lenV,hu]
theorem uz (z:List V)(n:Nat): (repeatL z n).length=n*z.length:=by
 induction n with
 | zero=>simp [repeatL]
 | succ n I=>simp only [repeatL,bU,I,Nat.succ_mul]; omega
theorem BC {z:List V}(I:z.all storable=true)(n:Nat): (repeatL z n).all storable=true:=by
 induction n with
 | zero=>rfl
 | succ n J=>simp only [repeatL,List.all_append,I,J,gA]
theorem qy (s:Sat h S){t e:TypeId}{i:TypeInfo}{z:V}{n c:Nat}(hu:P.underlying t=some (.slice e))(hi:P.info? e=some i)(hz:zeroT P e=some z)(hk:i.size=k)(hb:i.bytes≤4096)(J:z.cells.length=k)(I:z.cells.all storable=true)
 (h1:1≤k)(hn:n≤c)(hc:c<1073741824):
  ∃v h',makeSliceV P h t (.int .i64 (n:Int)) (.int .i64 (c:Int))=some (v,h')∧Sat h' (.arr k v (repeatL z.cells n)::S):=by
 refine ⟨.sl h.next 0 n (.exact c),h.new (.cells (c*k) (repeatL z.cells c) false),?_,(s.new _).iU fun m r hm => ?_⟩
 ·simp only [makeSliceV,hu,hi,hz,bP,hk,J]
  rw [show (decide ((0:Int)≤(n:Int))&&decide ((n:Int)≤(c:Int))&&decide ((c:Int)<1073741824)&&Nat.ble i.bytes 4096&&Nat.beq k k&&Nat.ble 1 k)=true by
   rw [aF.2 hb,aF.2 h1,cN]; simp; omega,ag]
 ·refine ⟨BC I n,.inr ⟨h.next,n,.exact c,c*k,repeatL z.cells (c-n),rfl,?_,by rw [uz,J],?_,BC I _,rfl,hn⟩⟩
  ·have:repeatL z.cells n++repeatL z.cells (c-n)=repeatL z.cells c:=by
    clear hm
    have:∀a b,repeatL z.cells a++repeatL z.cells b=repeatL z.cells (a+b):=fun a b=>by
     induction a with
     | zero=>simp [repeatL]
     | succ a ih=>rw [Nat.succ_add]; simp only [repeatL,gS,ih]
    rw [this,show n+(c-n)=c by omega]
   rw [this]; exact hm
  ·rw [uz,uz,J,←iK,show n+(c-n)=c by omega]
theorem RC {id off n:Nat}{I:List V}(hg:T.get h.tr id=some (.cells n cs false))(hl:cs.length=n)(hb:off+I.length≤n):
  wrN h id off I=some (h.put id (some (.cells n (cs.take off++(I++cs.drop (off+I.length))) false))):=by
 simp only [wrN,hg]
 rw [aF.2 hb,ag]
 congr 3
 cases J:(Nat.beq off 0&&Nat.beq I.length n) with
 | true =>
  simp only [aJ,beq_iff] at J
  obtain ⟨rfl,hn⟩:=J
  rw [ag]
  have:cs.drop (0+I.length)=[]:=gR (by omega)
  rw [this]; simp
 | false=>rw [ay]
theorem xI {id off n q:Nat}{st:Bool}(J:T.get h.tr id=some (.cells n cs st))(hl:cs.length=n)(hb:off+q≤n): rdN h id off q=some ((cs.drop off).take q):=by
 simp only [rdN,J]
 rw [aF.2 hb,ag]
 cases I:(Nat.beq off 0&&Nat.beq q n) with
 | true =>
  simp only [aJ,beq_iff] at I
  obtain ⟨rfl,rfl⟩:=I
  simp [←hl]
 | false=>rfl
theorem g_ (s:Sat h (.arr k v cs::.arr k w ds::S)){t e:TypeId}{i:TypeInfo}{z:V}(hu:P.underlying t=some (.slice e))(hi:P.info? e=some i)(hz:zeroT P e=some z)(hk:i.size=k)(hb:i.bytes≤4096)(hl:z.cells.length=k)
 (h1:1≤k)(fC:cs.length+ds.length≤1073741824):
  ∃v' h',appendV P h #[t,t] v w=some (v',h')∧Sat h' (.arr k v' (cs++ds)::.arr k w ds::S):=by
 have Yk:=s.JR (j:=0) rfl
 have sV:=s.JR (j:=1) rfl
 have mC:(cs++ds).all storable=true:=by rw [List.all_append,Yk,sV]; rfl
 -- what is appended
 have CC:∃m,srcV h k w=some (ds,m)∧ds.length=m*k:=by
  obtain ⟨m,r,q1,q2,q3⟩:=s.at (k:=1) rfl
  rcases q3.2 with ⟨rfl,rfl⟩ | ⟨id,n,cap,N,rest,rfl,J,e1,e2,e3,e4⟩
  ·exact ⟨0,rfl,by simp⟩
  ·refine ⟨n,?_,e1⟩
   simp only [srcV]
   rw [xI (q1 _ _ J) (by simp [e2]) (by omega)]
   rw [eP,←e1,ob rfl]
   rfl
 obtain ⟨m,CC,hm⟩:=CC
 have I:∀n:Nat,n*k=cs.length→kf (n+m) i.bytes=true:=fun n hn=>by
  have e1:(n+m)*k=cs.length+ds.length:=by rw [iK,hn,hm]
  have e2:n+m≤(n+m)*k:=Nat.le_mul_of_pos_right _ h1
  have e3:(n+m)*i.bytes≤(n+m)*4096:=Nat.mul_le_mul_left _ hb
  exact vM.2 ⟨by omega,by omega⟩
 have sG:∀(σ:H) (n:Nat) (T:List au),Sat σ T→n*k=cs.length→1≤m→Sat (nc σ k cs ds (n+m)).2 (.arr k (nc σ k cs ds (n+m)).1 (cs++ds)::T):=by
  intro σ n T sT hn oT
  refine (sT.new (.cells ((n+m)*k) (cs++ds) false)).iU fun a r wN=>⟨mC,.inr ⟨σ.next,n+m,.rest k 0,(n+m)*k,[],rfl,by rw [gz]; exact wN,by rw [bU,iK]; omega,by rw [bU,iK]; simp; omega,rfl,rfl,rfl,rfl,by omega⟩⟩
 unfold appendV
 simp only [hu,hi,hz,hk,hl,CC]
 rw [show (Nat.ble 1 k&&Nat.ble i.bytes 4096&&Nat.beq k k)=true by rw [aF.2 h1,aF.2 hb,cN]; rfl,ag]
 cases A4:Nat.beq m 0 with
 | true =>
  have:m=0:=beq_iff.1 A4
  subst this
  have ZT:ds=[]:=l_ (by simpa using hm)
  subst ZT
  rw [ag,gz]
  obtain ⟨m,r,q1,q2,q3⟩:=s.at (k:=0) rfl
  rcases q3.2 with ⟨rfl,rfl⟩ | ⟨id,n,cap,N,rest,rfl,J,e1,e2,e3,e4⟩
  ·exact ⟨_,_,rfl,s⟩
  ·exact ⟨_,_,rfl,s⟩
 | false =>
  have oT:1≤m:=by
   rcases uK m with h0 | h0
   ·rw [iA h0] at A4; cases A4
   ·exact h0
  rw [ay]
  obtain ⟨a,r,q1,q2,q3⟩:=s.at (k:=0) rfl
  rcases q3.2 with ⟨rfl,rfl⟩ | ⟨id,n,cap,N,rest,rfl,J,e1,e2,e3,e4⟩
  ·have J:=I 0 (by simp)
   rw [dY] at J
   simp only [J,ag]
   have:=sG h 0 (.arr k .bu []::.arr k w ds::S) s (by simp) oT
   rw [dY] at this
   refine ⟨_,_,rfl,?_⟩
   exact (this.oR [1]).drop
  ·cases cap with
   | exact c =>
    obtain ⟨e4,e5⟩:=e4
    simp only [dY]
    have lI:(cs++rest).take cs.length=cs:=ob rfl
    cases hq:Nat.ble (n+m) c with
    | true =>
     have nC:=aF.1 hq
     rw [ag]
     have fS:n*k+ds.length≤N:=by rw [hm,←iK,e4]; exact rH _ nC
     rw [RC (q1 _ _ J) (by simp [e2]) fS]
     simp only
     obtain ⟨m',r',p1,p2,p3,x1,x2,x3,x4,x5,⟨_,x6⟩,x7⟩:=s.ok
     have pR:x1 id=some (.cells N (cs++rest) false):=by
      rcases x6 with ⟨x6,_⟩ | ⟨xm,n',xn,N',Qn,x6,x8,x9,ZU,_⟩
      ·cases x6
      ·injection x6 with y1 y2 y3 y4
       subst y1
       rw [x8]
       have:=p1 _ _ (x4 _ _ x8)
       rw [q1 _ _ J] at this
       injection this with this
       rw [this]
     have s0:Sat h (pt id (.cells N (cs++rest) false)::.arr k w ds::S):=⟨s.wf,m',r',p1,p2,p3,x1,x2,x3,x4,x5,pR,x7⟩
     have s1:=s0.put (k:=0) (o':=.cells N ((cs++rest).take (n*k)++(ds++(cs++rest).drop (n*k+ds.length))) false) rfl
     refine ⟨_,_,rfl,Sat.iU s1 fun a' r'' ha=>⟨mC,.inr ⟨id,n+m,.exact c,N,rest.drop ds.length,rfl,?_,by rw [bU,iK]; omega,by simp; omega,?_,e4,nC⟩⟩⟩
     ·have ZV:a' id=some (.cells N ((cs++rest).take (n*k)++(ds++(cs++rest).drop (n*k+ds.length))) false):=ha
      rw [ZV,←e1,lI,yP,gR (by omega),Nat.add_sub_cancel_left,dn,gS]
     ·rw [m9] at e3 ⊢
      exact fun y hy=>e3 y (iH hy)
    | false =>
     rw [ay,I n e1.symm,ag,xI (q1 _ _ J) (by simp [e2]) (by omega)]
     simp only
     rw [eP,←e1,lI]
     have:=sG h n _ s e1.symm oT
     exact ⟨_,_,rfl,(this.oR [1]).drop⟩
   | rest e' alt =>
    obtain ⟨ek,rfl,rfl,e7⟩:=e4
    have ek:=ek.symm
    subst ek
    simp only [cN,ag,gz,dY] at J e2 ⊢
    have ET:jP h id 0 k=n:=by
     simp only [jP,q1 _ _ J]
     rw [k9,←e2]
     simp only [bM,jg,e1]
     exact Ch _ h1
    rw [ET]
    rw [show Nat.ble (n+m) n=false by
     cases hq:Nat.ble (n+m) n with
     | true=>have:=aF.1 hq; omega
     | false=>rfl,ay,I n e1.symm,show Nat.ble 2 ((n+m)*k)=true from aF.2 (by
      have:2*1≤(n+m)*k:=yR (by omega) h1
      omega),gA,ag,xI (q1 _ _ J) (by simpa using e2) (by simp at e2; omega),q1 _ _ J]
    simp only
    obtain ⟨m',r',p1,p2,p3,x1,x2,x3,x4,x5,⟨_,x6⟩,x7⟩:=s.ok
    have pR:x1 id=some (.cells N cs false):=by
     rcases x6 with ⟨x6,_⟩ | ⟨xm,n',xn,N',Qn,x6,x8,x9,ZU,_⟩
     ·cases x6
     ·injection x6 with y1 y2 y3 y4
      subst y1
      rw [x8]
      have:=p1 _ _ (x4 _ _ x8)
      rw [q1 _ _ J] at this
      injection this with this
      rw [this]
    have s0:Sat h (pt id (.cells N cs false)::.arr k w ds::S):=⟨s.wf,m',r',p1,p2,p3,x1,x2,x3,x4,x5,pR,x7⟩
    have:=sG (h.put id none) n _ s0.kill e1.symm oT
    rw [eP,fq (by omega)]
    exact ⟨_,_,rfl,this⟩
end
section
variable {P:Program} {h h':H} {S:List au} {v w x:V} {cs ds:List V} {k:Nat}
theorem Sat.eZ {t:TypeId}{j id n:Nat}{l:List V}(s:Sat h S)(J:getA S j=some (pt id (.cells n cs false)))(hs:bq P t=some n)(hl:l.length=n)(I:l.all storable=true):
  ∃h₁,fK P h t (.ptr id 0) (.agg l)=some h₁∧Sat h₁ (setA S j (pt id (.cells n l false))):=by
 refine ⟨h.put id (some (.cells n l false)),?_,s.put J⟩
 simp only [fK,hs,V.cells,I,hl,cN,gA,ag,wrN,s.row J]
 rw [aF.2 (by omega:0+n≤n),ag]
theorem lE (s:Sat h S){t e:TypeId}{z:V}(hu:P.underlying t=some (.slice e))(hz:zeroT P e=some z)(hk:bq P e=some k)(J:z.cells.length=k)(h1:1≤k)(h2:k≤65536)(hx:x.cells.length=k)(I:x.cells.all storable=true):
  ∃v h',buildSliceV P h t 1 [(0,x)]=some (v,h')∧Sat h' (.arr k v x.cells::S):=by
 refine ⟨.sl h.next 0 1 (.exact 1),newRow h x.cells,?_,?_⟩
 ·simp only [buildSliceV,hu,hk,hz]
  rw [show (Nat.beq z.cells.length k&&Nat.ble (1*k) 65536&&Nat.ble 1 k)=true by rw [J,cN,aF.2 (by omega),aF.2 h1]; rfl,ag]
  have e1:repeatL z.cells 1=z.cells:=by simp [repeatL]
  simp only [fillV,e1,hx,J,cN,yT]
  rw [aF.2 (by omega:0*k+k≤k),ag]
  have e2:z.cells.take (0*k)++(x.cells++z.cells.drop (0*k+k))=x.cells:=by
   rw [uU,mj,dn,gR (by omega),gz]
  simp only [e2,I,ag]
 ·refine (s.new _).iU fun m r hm=>⟨I,.inr ⟨h.next,1,.exact 1,k,[],rfl,?_,by omega,by simp; omega,rfl,by omega,aD _⟩⟩
  have hm:m h.next=some (.cells x.cells.length x.cells false):=hm
  rw [hm,hx,gz]
end
section
variable {P:Program} {h h':H} {S:List au} {X:au} {v w x:V} {l:List Nat} {k:Nat}
theorem gM.slice {m:PM}{a b:Nat}(hv:gM m v l)(lY:a≤b)(hb:b≤l.length): gM m (slR v a b) ((l.take b).drop a):=by
 have bC:∀x∈(l.take b).drop a,x<256:=fun x hx=>hv.1 x (je (iH hx))
 have hlen:((l.take b).drop a).length=b-a:=by simp; omega
 obtain ⟨hl,Ae⟩:=hv
 rcases Ae with ⟨rfl | ⟨ea,rfl⟩,rfl⟩ | ⟨id,off,cap,n,cs,st,rfl,hg,h1,h2,h3,h4⟩
 ·simp at hb
  have:b=0:=by omega
  have:a=0:=by omega
  subst_vars
  exact ⟨by simp,.inl ⟨.inl rfl,by simp⟩⟩
 ·simp at hb
  have:b=0:=by omega
  have:a=0:=by omega
  subst_vars
  exact ⟨by simp,.inl ⟨.inr ⟨ea,rfl⟩,by simp⟩⟩
 ·have I:∀o,o=off+a∨b-a=0→(cs.drop o).take (b-a)=ofBytes ((l.take b).drop a):=by
   intro o ho
   rcases ho with rfl | h0
   ·have e:=fQ (fun q=>(q.take b).drop a) h3
    simp only [ofBytes,←pN,←pO] at e ⊢
    rw [←e,uT,rP hb,rQ,pL]
   ·rw [h0,mj]
    have:((l.take b).drop a)=[]:=l_ (by omega)
    rw [this]; rfl
  cases cap with
  | exact c =>
   have hc:l.length≤c:=h4
   refine ⟨bC,.inr ⟨id,_,_,n,cs,st,by rw [hlen]; rfl,hg,h1,?_,?_,?_⟩⟩
   ·rw [hlen]
    by_cases J:c=a
    ·rw [iA J,ag]; omega
    ·rw [cH J,ay]; omega
   ·rw [hlen]
    by_cases J:c=a
    ·rw [iA J,ag]; exact I _ (.inr (by omega))
    ·rw [cH J,ay,cx]; exact I _ (.inl rfl)
   ·show ((l.take b).drop a).length≤c-a
    rw [hlen]; omega
  | rest e alt =>
   have he:e=1:=h4
   subst he
   exact ⟨bC,.inr ⟨id,_,_,n,cs,st,by rw [hlen]; rfl,hg,h1,by rw [hlen]; omega,by rw [hlen,cx]; exact I _ (.inl rfl),rfl⟩⟩
theorem vY {a b:Nat}(hX:c8 X (c9 v l))(I:a≤b)(J:b≤l.length): c8 X (c9 (slR v a b) ((l.take b).drop a)):=fun m r hm =>
 (hX m r hm).imp (fun h=>gM.slice h I J) (fun h=>gM.slice h I J)
theorem zR {a:Nat}(I:c8 X (c9 v l))(J:a≤l.length): c8 X (c9 (slR v a l.length) (l.drop a)):=by
 have:=vY I J (aD _)
 rwa [List.take_length] at this
theorem Sat.nI (s:Sat h S): Sat h (.arr k .bu []::S):=(s.gr aa).iU fun _ _ _=>⟨rfl,.inl ⟨rfl,rfl⟩⟩
theorem Sat.sW (s:Sat h S): Sat h (aZ .bu []::S):=(s.gr aa).iU fun _ _ _=>⟨by simp,.inl ⟨rfl,rfl⟩⟩
theorem Sat.tV (s:Sat h S): Sat h (Bz .bu []::S):=(s.gr aa).iU fun _ _ _=>⟨by simp,.inl ⟨.inl rfl,rfl⟩⟩
theorem DH (s:Sat h S){t e:TypeId}{i:TypeInfo}{z:V}{n:Nat}(hu:P.underlying t=some (.slice e))(hi:P.info? e=some i)(I:zeroT P e=some z)(J:i.size=k)(hb:i.bytes≤4096)(hl:z.cells.length=k)
 (h1:1≤k)(hn:n<1073741824):
  ∃id h',makeSliceV P h t (.int .i64 (n:Int)) (.int .i64 (n:Int))=some (.sl id 0 n (.exact n),h')∧Sat h' (pt id (.cells (n*k) (repeatL z.cells n) false)::S):=by
 refine ⟨h.next,h.new (.cells (n*k) (repeatL z.cells n) false),?_,s.new _⟩
 simp only [makeSliceV,hu,hi,I,bP,J,hl]
 rw [show (decide ((0:Int)≤(n:Int))&&decide ((n:Int)≤(n:Int))&&decide ((n:Int)<1073741824)&&Nat.ble i.bytes 4096&&Nat.beq k k&&Nat.ble 1 k)=true by
  rw [aF.2 hb,aF.2 h1,cN]; simp; omega,ag]
theorem pZ {h:H}{t e:TypeId}{i o n:Nat}{c:Cap}{v:V}(hv:v=.sl i o n c)(hu:P.underlying t=some (.slice e)): lenV P h t v=some (.int .i64 n):=by subst hv; exact Fs hu
theorem Ug {h:H}{J:Array TypeId}{k:IntKind}{a b:Int}: builtinV P h .min J [.int k a,.int k b]=some (.int k (min a b),h):=by
 simp only [builtinV,foldV,wY,dg,ag,iI]
 congr 3
 by_cases I:b<a
 ·rw [dX I,ag]; omega
 ·rw [eA I,ay]; omega
theorem Of {E:List (Nat×V)}{c:Go.Call}{b:Builtin}{args:List V}{r:V}(I:c.callee=.builtin b)(J:lookArgs E c.args.toList=some args)(hf:builtinV P h b c.argTypes args=some (r,h')): opE P E h (.call c)=some (r,h'):=by
 simp only [opE,I,J,hf]
end
def slR3 (v:V)(a b m:Nat): V:=match v with
 | .sl id off _ _=>.sl id (cond (Nat.beq m a) off (off+a*1)) (b-a) (.exact (m-a))
 | v=>v
section
variable {P:Program} {h h':H} {S:List au} {X:au} {v w x:V} {l:List Nat} {k:Nat}
theorem gM.slice3 {m:PM}{a b c:Nat}(hv:gM m v l)(lY:a≤b)(hb:b≤c)(hc:c≤l.length)(hl:1≤l.length): gM m (slR3 v a b c) ((l.take b).drop a):=by
 have bC:∀x∈(l.take b).drop a,x<256:=fun x hx=>hv.1 x (je (iH hx))
 have hlen:((l.take b).drop a).length=b-a:=by simp; omega
 obtain ⟨_,Ae⟩:=hv
 rcases Ae with ⟨_,rfl⟩ | ⟨id,off,cap,n,cs,st,rfl,hg,h1,h2,h3,h4⟩
 ·simp at hl
 ·have I:∀o,o=off+a∨b-a=0→(cs.drop o).take (b-a)=ofBytes ((l.take b).drop a):=by
   intro o ho
   rcases ho with rfl | h0
   ·have e:=fQ (fun q=>(q.take b).drop a) h3
    simp only [ofBytes,←pN,←pO] at e ⊢
    rw [←e,uT,rP (cu hb hc),rQ,pL]
   ·rw [h0,mj]
    have:((l.take b).drop a)=[]:=l_ (by omega)
    rw [this]; rfl
  refine ⟨bC,.inr ⟨id,_,_,n,cs,st,by rw [hlen]; rfl,hg,h1,?_,?_,?_⟩⟩
  ·rw [hlen]
   by_cases J:c=a
   ·rw [iA J,ag]; omega
   ·rw [cH J,ay]; omega
  ·rw [hlen]
   by_cases J:c=a
   ·rw [iA J,ag]; exact I _ (.inr (by omega))
   ·rw [cH J,ay,cx]; exact I _ (.inl rfl)
  ·show ((l.take b).drop a).length≤c-a
   rw [hlen]; omega
theorem DI {a b c:Nat}(hX:c8 X (c9 v l))(I:a≤b)(J:b≤c)(hc:c≤l.length)(hl:1≤l.length): c8 X (c9 (slR3 v a b c) ((l.take b).drop a)):=fun m r hm =>
 (hX m r hm).imp (fun h=>gM.slice3 h I J hc hl) (fun h=>gM.slice3 h I J hc hl)
theorem Au {a b c:Nat}(hv:View h v l)(I:a≤b)(hb:b≤c)(hc:c≤l.length)(hl:1≤l.length): sliceV Tryz.prog h 28 v (some a) (some b) (some c)=some (slR3 v a b c):=by
 obtain ⟨_,J⟩:=hv
 rcases J with ⟨_,rfl⟩ | ⟨id,off,cap,n,cs,st,rfl,hg,h1,h2,h3,h4⟩
 ·simp at hl
 ·cases cap with
  | exact q =>
   have hq:l.length≤q:=h4
   simp only [sliceV,slR3,aV,eR,ew]
   rw [show (Nat.ble a b&&Nat.ble b c&&Nat.ble c q)=true by rw [aJ,aJ,aF,aF,aF]; omega,ag]
  | rest e alt =>
   have he:e=1:=h4
   subst he
   simp only [sliceV,slR3,aV,eR,ew,cN]
   rw [show (true&&Nat.ble 1 1)=true from rfl,ag]
   rw [show (Nat.ble a b&&Nat.ble b c&&(Nat.ble c l.length||Nat.ble c (jP h id off 1))&&Nat.blt 0 l.length)=true by
    rw [aJ,aJ,aJ,mh,aF,aF,aF]
    exact ⟨⟨⟨I,hb⟩,.inl hc⟩,by rw [Nat.blt]; exact aF.2 (by omega)⟩,ag]
theorem iu (hv:View h v l)(I:1≤l.length): ∃id off cap,v=.sl id off l.length cap:=by
 rcases hv.2 with ⟨_,rfl⟩ | ⟨id,off,cap,_,_,_,rfl,_⟩
 ·simp at I
 ·exact ⟨id,off,cap,rfl⟩
theorem dU {k:IntKind}{n:Int}(I:0≤n): iN (some (V.int k n))=some (some n.toNat):=by
 simp only [iN,bndV,dX I,ag]
end
section
variable {P:Program} {h h':H} {S:List au} {X:au} {v w x:V} {cs:List V} {l m:List Nat} {k:Nat}
theorem LL {t e:TypeId}{i q j:Nat}(s:Sat h S)(J:getA S j=some (.arr q v cs))(hi:i*q+q≤cs.length)(hq:1≤q)(hu:P.underlying t=some (.slice e))(I:bq P e=some q):
  ∃id off,indexAddrV P t v (.int .i64 (i:Int))=some (.ptr id off)∧(b8 P e=some true→loadV P h e (.ptr id off)=some (.agg ((cs.drop (i*q)).take q))):=by
 obtain ⟨m,r,h1,h2,h3⟩:=s.at J
 rcases h3.2 with ⟨_,rfl⟩ | ⟨id,n,cap,N,rest,rfl,hg,e1,e2,_⟩
 ·simp at hi; omega
 ·refine ⟨id,i*q,?_,fun ht => ?_⟩
  ·simp only [indexAddrV,hu,I,bP]
   have:i<n:=by
    have h4:i*q+q=(i+1)*q:=by rw [iK,yX]
    rw [h4,e1] at hi
    exact Nat.lt_of_succ_le (HS hi hq)
   rw [show (decide ((0:Int)≤(i:Int))&&decide ((i:Int)<(n:Int)))=true by simp; omega,ag]
   simp
  ·rw [Uf ht I (h1 _ _ hg) (by simp; omega) (by omega)]
   rw [HQ (by omega),yC (by simp; omega)]
theorem Sat.Uh (s:Sat h (aZ v l::X::S))(hX:c8 X (c9 w m)): ∀i∈rowIds w,i∉rowIds v:=by
 intro i hi iE
 obtain ⟨a,r,h1,h2,h3,b,c,g1,g2,g3,g4,d,e,k1,k2,k3,k4,k5⟩:=s.ok
 have hb:=Ir g4 i iE
 have hw:∀q:PM,gM q w m→q i≠none:=fun q J=>by
  rcases J.2 with ⟨rfl | ⟨ea,rfl⟩,_⟩ | ⟨id,off,cap,n,cs,st,rfl,hg,_⟩
  ·simp [rowIds] at hi
  ·simp [rowIds] at hi
  ·simp [rowIds] at hi; subst hi; rw [hg]; simp
 rcases hX _ _ k4 with J | J
 ·have h4:=hw _ J
  cases hd:d i with
  | none=>exact h4 hd
  | some o =>
   rcases g1 i with I | I
   ·exact hb I
   ·rw [k2 _ _ hd] at I; cases I
 ·have h4:=hw _ J
  cases Qo:b i with
  | none=>exact hb Qo
  | some o =>
   rcases h3 i with I | I
   ·rw [g2 _ _ Qo] at I; cases I
   ·exact h4 I
end
end Go.Proofs.YtefepnnfphdkpaaGreat.Am
