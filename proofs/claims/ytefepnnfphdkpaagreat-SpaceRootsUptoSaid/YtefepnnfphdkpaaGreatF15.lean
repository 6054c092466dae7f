/- SpaceRoots: a part of its proof; conditions: its statement's. -/
import Derived.Test.YtefepnnfphdkpaaGreatF01
import Derived.Test.YtefepnnfphdkpaaGreatProg
import Derived.KernelRfl
import Derived.Test.YtefepnnfphdkpaaGreatF14
namespace Go.Proofs.YtefepnnfphdkpaaGreat.Am
open Go
theorem kW : bH Tryz.prog 3=some 1:=by kernel_rfl
theorem dL : cm Tryz.prog 3=some false:=by kernel_rfl
theorem C2 : zeroT Tryz.prog 3=some (.int .i64 0):=by kernel_rfl
theorem uf : bH Tryz.prog 4=some 1:=by kernel_rfl
theorem kX : cm Tryz.prog 4=some false:=by kernel_rfl
theorem WH : zeroT Tryz.prog 4=some (.bool false):=by kernel_rfl
theorem ZO : bH Tryz.prog 5=some 1:=by kernel_rfl
theorem y7 : cm Tryz.prog 24=some false:=by kernel_rfl
theorem WI : bH Tryz.prog 26=some 1:=by kernel_rfl
theorem L_ : cm Tryz.prog 26=some false:=by kernel_rfl
theorem gR : bH Tryz.prog 28=some 1:=by kernel_rfl
theorem bJ : cm Tryz.prog 28=some false:=by kernel_rfl
theorem oP : zeroT Tryz.prog 28=some .bw:=by kernel_rfl
theorem aax : zeroT Tryz.prog 30=some (.int .i64 0):=by kernel_rfl
theorem WJ : bH Tryz.prog 33=some 1:=by kernel_rfl
theorem y8 : cm Tryz.prog 33=some false:=by kernel_rfl
theorem vy : bH Tryz.prog 43=some 1:=by kernel_rfl
theorem lZ : cm Tryz.prog 43=some false:=by kernel_rfl
theorem WK : zeroT Tryz.prog 43=some (.int .u64 0):=by kernel_rfl
theorem Ma : bH Tryz.prog 46=some 1:=by kernel_rfl
theorem ug : cm Tryz.prog 46=some false:=by kernel_rfl
theorem gL : bH Tryz.prog 48=some 6:=by kernel_rfl
theorem nD : cm Tryz.prog 48=some true:=by kernel_rfl
theorem qX : zeroT Tryz.prog 48=some (.agg [(.int .i64 0),(.int .u64 0),(.int .u64 0),(.int .u64 0),.bw,.bw]):=by kernel_rfl
theorem uh (a b:Nat): fieldAddrV Tryz.prog 48 (.ptr a b) 0=some (.ptr a (b+0)):=by kernel_rfl
theorem Ol (a b:Nat): fieldAddrV Tryz.prog 48 (.ptr a b) 1=some (.ptr a (b+1)):=by kernel_rfl
theorem Om (a b:Nat): fieldAddrV Tryz.prog 48 (.ptr a b) 2=some (.ptr a (b+2)):=by kernel_rfl
theorem On (a b:Nat): fieldAddrV Tryz.prog 48 (.ptr a b) 3=some (.ptr a (b+3)):=by kernel_rfl
theorem y9 (a b:Nat): fieldAddrV Tryz.prog 48 (.ptr a b) 4=some (.ptr a (b+4)):=by kernel_rfl
theorem mO (a b:Nat): fieldAddrV Tryz.prog 48 (.ptr a b) 5=some (.ptr a (b+5)):=by kernel_rfl
theorem Ez (ps:List (Nat×V)): buildV Tryz.prog 48 ps=(fillV (nth [(0,1),(1,1),(2,1),(3,1),(4,1),(5,1)]) ((.agg [(.int .i64 0),(.int .u64 0),(.int .u64 0),(.int .u64 0),.bw,.bw]):V).cells ps).map .agg:=by kernel_rfl
theorem WL : bH Tryz.prog 50=some 1:=by kernel_rfl
theorem qY : cm Tryz.prog 50=some false:=by kernel_rfl
theorem aay : bH Tryz.prog 51=some 16:=by kernel_rfl
theorem aaz : cm Tryz.prog 51=some true:=by kernel_rfl
theorem aaA (ps:List (Nat×V)): buildV Tryz.prog 51 ps=(fillV (fun i=>some (i*1,1)) ((.agg [(.int .i64 0),(.int .i64 0),(.int .i64 0),(.int .i64 0),(.int .i64 0),(.int .i64 0),(.int .i64 0),(.int .i64 0),(.int .i64 0),(.int .i64 0),(.int .i64 0),(.int .i64 0),(.int .i64 0),(.int .i64 0),(.int .i64 0),(.int .i64 0)]):V).cells ps).map .agg:=by kernel_rfl
theorem WM (a b:Nat)(k:IntKind)(n:Int): indexAddrV Tryz.prog 51 (.ptr a b) (.int k n)=cond (decide (0≤n)&&decide (n<(16:Nat))) (some (.ptr a (b+n.toNat*1))) none:=by kernel_rfl
theorem ja : bH Tryz.prog 53=some 17:=by kernel_rfl
theorem nE : cm Tryz.prog 53=some true:=by kernel_rfl
theorem EA : zeroT Tryz.prog 53=some (.agg [.bw,(.int .i64 0),(.int .i64 0),(.int .i64 0),(.int .i64 0),(.int .i64 0),(.int .i64 0),(.int .i64 0),(.int .i64 0),(.int .i64 0),(.int .i64 0),(.int .i64 0),(.int .i64 0),(.int .i64 0),(.int .i64 0),(.int .i64 0),(.int .i64 0)]):=by kernel_rfl
theorem kY (a b:Nat): fieldAddrV Tryz.prog 53 (.ptr a b) 0=some (.ptr a (b+0)):=by kernel_rfl
theorem HA (a b:Nat): fieldAddrV Tryz.prog 53 (.ptr a b) 1=some (.ptr a (b+1)):=by kernel_rfl
theorem qZ : cm Tryz.prog 62=some false:=by kernel_rfl
theorem Mb : bH Tryz.prog 67=some 3:=by kernel_rfl
theorem Q2 : cm Tryz.prog 67=some true:=by kernel_rfl
theorem aaB : zeroT Tryz.prog 67=some (.agg [(.int .i64 0),(.int .i64 0),(.int .i64 0)]):=by kernel_rfl
theorem HB (a b:Nat): fieldAddrV Tryz.prog 67 (.ptr a b) 0=some (.ptr a (b+0)):=by kernel_rfl
theorem wB (a b:Nat): fieldAddrV Tryz.prog 67 (.ptr a b) 1=some (.ptr a (b+1)):=by kernel_rfl
theorem wC (a b:Nat): fieldAddrV Tryz.prog 67 (.ptr a b) 2=some (.ptr a (b+2)):=by kernel_rfl
theorem EB : cm Tryz.prog 86=some false:=by kernel_rfl
theorem jS : cm Tryz.prog 109=some false:=by kernel_rfl
theorem Yy : bH Tryz.prog 111=some 3:=by kernel_rfl
theorem pq (a b:Nat): fieldAddrV Tryz.prog 111 (.ptr a b) 0=some (.ptr a (b+0)):=by kernel_rfl
theorem q_ (a b:Nat): fieldAddrV Tryz.prog 111 (.ptr a b) 1=some (.ptr a (b+1)):=by kernel_rfl
theorem AS (a b:Nat): fieldAddrV Tryz.prog 111 (.ptr a b) 2=some (.ptr a (b+2)):=by kernel_rfl
theorem Yz (ps:List (Nat×V)): buildV Tryz.prog 111 ps=(fillV (nth [(0,1),(1,1),(2,1)]) ((.agg [.cu,.lu,(.bool false)]):V).cells ps).map .agg:=by kernel_rfl
theorem AT : cm Tryz.prog 112=some false:=by kernel_rfl
theorem rf (a b:Nat): fieldAddrV Tryz.prog 114 (.ptr a b) 0=some (.ptr a (b+0)):=by kernel_rfl
theorem wD (a b:Nat): fieldAddrV Tryz.prog 114 (.ptr a b) 1=some (.ptr a (b+1)):=by kernel_rfl
theorem tA (a b:Nat): fieldAddrV Tryz.prog 114 (.ptr a b) 2=some (.ptr a (b+2)):=by kernel_rfl
theorem tB (a b:Nat): fieldAddrV Tryz.prog 114 (.ptr a b) 3=some (.ptr a (b+3)):=by kernel_rfl
theorem Ut (a b:Nat): fieldAddrV Tryz.prog 114 (.ptr a b) 4=some (.ptr a (b+4)):=by kernel_rfl
theorem Uu (a b:Nat): fieldAddrV Tryz.prog 114 (.ptr a b) 5=some (.ptr a (b+5)):=by kernel_rfl
theorem Te (ps:List (Nat×V)): buildV Tryz.prog 114 ps=(fillV (nth [(0,1),(1,1),(2,1),(3,1),(4,1),(5,1)]) ((.agg [.cu,.cu,.cu,.cu,.bw,(.int .u64 0)]):V).cells ps).map .agg:=by kernel_rfl
theorem rH : cm Tryz.prog 145=some false:=by kernel_rfl
theorem Tf (a b l:Nat)(c:Cap)(k:IntKind)(n:Int): indexAddrV Tryz.prog 145 (.sl a b l c) (.int k n)=cond (decide (0≤n)&&decide (n<(l:Int))) (some (.ptr a (b+n.toNat*1))) none:=by kernel_rfl
theorem Tg : bH Tryz.prog 146=some 1:=by kernel_rfl
theorem C3 : cm Tryz.prog 146=some false:=by kernel_rfl
theorem YA : bH Tryz.prog 147=some 1:=by kernel_rfl
theorem GH : cm Tryz.prog 147=some false:=by kernel_rfl
theorem KG (a b:Nat): fieldAddrV Tryz.prog 149 (.ptr a b) 0=some (.ptr a (b+0)):=by kernel_rfl
theorem m5 (a b:Nat): fieldAddrV Tryz.prog 149 (.ptr a b) 1=some (.ptr a (b+1)):=by kernel_rfl
theorem tC (a b:Nat): fieldAddrV Tryz.prog 149 (.ptr a b) 2=some (.ptr a (b+2)):=by kernel_rfl
theorem AU (a b:Nat): fieldAddrV Tryz.prog 149 (.ptr a b) 3=some (.ptr a (b+3)):=by kernel_rfl
theorem kn (a b:Nat): fieldAddrV Tryz.prog 149 (.ptr a b) 4=some (.ptr a (b+4)):=by kernel_rfl
theorem tD (a b:Nat): fieldAddrV Tryz.prog 149 (.ptr a b) 5=some (.ptr a (b+5)):=by kernel_rfl
theorem ED (a b:Nat): fieldAddrV Tryz.prog 149 (.ptr a b) 6=some (.ptr a (b+6)):=by kernel_rfl
theorem AV (a b:Nat): fieldAddrV Tryz.prog 149 (.ptr a b) 7=some (.ptr a (b+7)):=by kernel_rfl
theorem AW (a b:Nat): fieldAddrV Tryz.prog 149 (.ptr a b) 8=some (.ptr a (b+8)):=by kernel_rfl
theorem ko (a b:Nat): fieldAddrV Tryz.prog 149 (.ptr a b) 9=some (.ptr a (b+9)):=by kernel_rfl
theorem uj (a b:Nat): fieldAddrV Tryz.prog 149 (.ptr a b) 10=some (.ptr a (b+10)):=by kernel_rfl
theorem BZ (a b:Nat): fieldAddrV Tryz.prog 149 (.ptr a b) 11=some (.ptr a (b+11)):=by kernel_rfl
theorem YB (ps:List (Nat×V)): buildV Tryz.prog 149 ps=(fillV (nth [(0,1),(1,1),(2,1),(3,1),(4,1),(5,1),(6,1),(7,1),(8,1),(9,1),(10,1),(11,1)]) ((.agg [(.int .i64 0),.bw,.bw,.lu,.bw,(.int .i64 0),.bw,(.int .i64 0),(.int .i64 0),(.bool false),.cu,.bw]):V).cells ps).map .agg:=by kernel_rfl
theorem C4 : bH Tryz.prog 151=some 2:=by kernel_rfl
theorem Th : cm Tryz.prog 151=some true:=by kernel_rfl
theorem GI : zeroT Tryz.prog 151=some (.agg [(.int .i64 0),.bw]):=by kernel_rfl
theorem EE (a b:Nat): fieldAddrV Tryz.prog 151 (.ptr a b) 0=some (.ptr a (b+0)):=by kernel_rfl
theorem EF (a b:Nat): fieldAddrV Tryz.prog 151 (.ptr a b) 1=some (.ptr a (b+1)):=by kernel_rfl
theorem YC (ps:List (Nat×V)): buildV Tryz.prog 151 ps=(fillV (nth [(0,1),(1,1)]) ((.agg [(.int .i64 0),.bw]):V).cells ps).map .agg:=by kernel_rfl
theorem KH (a b:Nat): fieldAddrV Tryz.prog 155 (.ptr a b) 0=some (.ptr a (b+0)):=by kernel_rfl
theorem l7 (a b:Nat): fieldAddrV Tryz.prog 155 (.ptr a b) 1=some (.ptr a (b+1)):=by kernel_rfl
theorem eM (a b:Nat): fieldAddrV Tryz.prog 155 (.ptr a b) 2=some (.ptr a (b+2)):=by kernel_rfl
theorem nX (a b:Nat): fieldAddrV Tryz.prog 155 (.ptr a b) 3=some (.ptr a (b+3)):=by kernel_rfl
theorem wE (a b:Nat): fieldAddrV Tryz.prog 155 (.ptr a b) 4=some (.ptr a (b+4)):=by kernel_rfl
theorem KI (a b:Nat): fieldAddrV Tryz.prog 155 (.ptr a b) 5=some (.ptr a (b+5)):=by kernel_rfl
theorem Ti (ps:List (Nat×V)): buildV Tryz.prog 155 ps=(fillV (nth [(0,1),(1,1),(2,1),(3,1),(4,1),(5,1)]) ((.agg [.cu,(.int .u64 0),.bw,.bw,(.int .i64 0),(.int .u64 0)]):V).cells ps).map .agg:=by kernel_rfl
theorem bL : bH Tryz.prog 163=some 1:=by kernel_rfl
theorem cG : cm Tryz.prog 163=some true:=by kernel_rfl
theorem j7 : zeroT Tryz.prog 163=some (.agg [.bw]):=by kernel_rfl
theorem g8 (a b:Nat): fieldAddrV Tryz.prog 163 (.ptr a b) 0=some (.ptr a (b+0)):=by kernel_rfl
theorem AX (ps:List (Nat×V)): buildV Tryz.prog 163 ps=(fillV (nth [(0,1)]) ((.agg [.bw]):V).cells ps).map .agg:=by kernel_rfl
theorem oL : bH Tryz.prog 180=some 4:=by kernel_rfl
theorem GJ : cm Tryz.prog 180=some true:=by kernel_rfl
theorem nY : zeroT Tryz.prog 180=some (.agg [(.int .i64 0),(.int .i64 0),(.bool false),.bw]):=by kernel_rfl
theorem nZ (a b:Nat): fieldAddrV Tryz.prog 180 (.ptr a b) 0=some (.ptr a (b+0)):=by kernel_rfl
theorem pz (a b:Nat): fieldAddrV Tryz.prog 180 (.ptr a b) 1=some (.ptr a (b+1)):=by kernel_rfl
theorem wF (a b:Nat): fieldAddrV Tryz.prog 180 (.ptr a b) 2=some (.ptr a (b+2)):=by kernel_rfl
theorem m6 (a b:Nat): fieldAddrV Tryz.prog 180 (.ptr a b) 3=some (.ptr a (b+3)):=by kernel_rfl
theorem Mc (ps:List (Nat×V)): buildV Tryz.prog 180 ps=(fillV (nth [(0,1),(1,1),(2,1),(3,1)]) ((.agg [(.int .i64 0),(.int .i64 0),(.bool false),.bw]):V).cells ps).map .agg:=by kernel_rfl
theorem qd : cm Tryz.prog 185=some false:=by kernel_rfl
theorem YD (a b l:Nat)(c:Cap)(k:IntKind)(n:Int): indexAddrV Tryz.prog 185 (.sl a b l c) (.int k n)=cond (decide (0≤n)&&decide (n<(l:Int))) (some (.ptr a (b+n.toNat*5))) none:=by kernel_rfl
theorem C5 : cm Tryz.prog 186=some false:=by kernel_rfl
theorem AY : cm Tryz.prog 187=some false:=by kernel_rfl
theorem AZ (a b:Nat): fieldAddrV Tryz.prog 189 (.ptr a b) 0=some (.ptr a (b+0)):=by kernel_rfl
theorem Uv (a b:Nat): fieldAddrV Tryz.prog 189 (.ptr a b) 1=some (.ptr a (b+1)):=by kernel_rfl
theorem l8 (a b:Nat): fieldAddrV Tryz.prog 189 (.ptr a b) 2=some (.ptr a (b+2)):=by kernel_rfl
theorem wG (a b:Nat): fieldAddrV Tryz.prog 189 (.ptr a b) 3=some (.ptr a (b+3)):=by kernel_rfl
theorem tE (a b:Nat): fieldAddrV Tryz.prog 189 (.ptr a b) 4=some (.ptr a (b+4)):=by kernel_rfl
theorem EG (a b:Nat): fieldAddrV Tryz.prog 189 (.ptr a b) 5=some (.ptr a (b+5)):=by kernel_rfl
theorem YE (ps:List (Nat×V)): buildV Tryz.prog 189 ps=(fillV (nth [(0,1),(1,1),(2,1),(3,1),(4,1),(5,1)]) ((.agg [.cu,.cu,.bw,.lu,.lu,(.int .i64 0)]):V).cells ps).map .agg:=by kernel_rfl
theorem C7 : bH Tryz.prog 193=some 5:=by kernel_rfl
theorem YF : cm Tryz.prog 193=some true:=by kernel_rfl
theorem YG : zeroT Tryz.prog 193=some (.agg [(.int .i64 0),.bw,(.int .i64 0),(.bool false),(.bool false)]):=by kernel_rfl
theorem pE (a b:Nat): fieldAddrV Tryz.prog 193 (.ptr a b) 0=some (.ptr a (b+0)):=by kernel_rfl
theorem A0 (a b:Nat): fieldAddrV Tryz.prog 193 (.ptr a b) 1=some (.ptr a (b+1)):=by kernel_rfl
theorem rj (a b:Nat): fieldAddrV Tryz.prog 193 (.ptr a b) 2=some (.ptr a (b+2)):=by kernel_rfl
theorem EH (a b:Nat): fieldAddrV Tryz.prog 193 (.ptr a b) 3=some (.ptr a (b+3)):=by kernel_rfl
theorem EJ (a b:Nat): fieldAddrV Tryz.prog 193 (.ptr a b) 4=some (.ptr a (b+4)):=by kernel_rfl
theorem GK (ps:List (Nat×V)): buildV Tryz.prog 193 ps=(fillV (nth [(0,1),(1,1),(2,1),(3,1),(4,1)]) ((.agg [(.int .i64 0),.bw,(.int .i64 0),(.bool false),(.bool false)]):V).cells ps).map .agg:=by kernel_rfl
theorem A2 : bH Tryz.prog 199=some 2:=by kernel_rfl
theorem Tj : cm Tryz.prog 199=some true:=by kernel_rfl
theorem A3 : zeroT Tryz.prog 199=some (.agg [(.int .u64 0),(.bool false)]):=by kernel_rfl
theorem EK (a b:Nat): fieldAddrV Tryz.prog 199 (.ptr a b) 0=some (.ptr a (b+0)):=by kernel_rfl
theorem Uw (cs:List V): pQ Tryz.prog 199 (.agg cs) 0=nth cs 0:=by kernel_rfl
theorem KJ (a b:Nat): fieldAddrV Tryz.prog 199 (.ptr a b) 1=some (.ptr a (b+1)):=by kernel_rfl
theorem YH (ps:List (Nat×V)): buildV Tryz.prog 199 ps=(fillV (nth [(0,1),(1,1)]) ((.agg [(.int .u64 0),(.bool false)]):V).cells ps).map .agg:=by kernel_rfl
theorem Tk : cm Tryz.prog 208=some false:=by kernel_rfl
theorem pF (a b:Nat): fieldAddrV Tryz.prog 210 (.ptr a b) 0=some (.ptr a (b+0)):=by kernel_rfl
theorem KK (a b:Nat): fieldAddrV Tryz.prog 210 (.ptr a b) 1=some (.ptr a (b+1)):=by kernel_rfl
theorem Tl (ps:List (Nat×V)): buildV Tryz.prog 210 ps=(fillV (nth [(0,1),(1,1)]) ((.agg [.lu,.lu]):V).cells ps).map .agg:=by kernel_rfl
theorem Tm (a b:Nat)(k:IntKind)(n:Int): indexAddrV Tryz.prog 227 (.ptr a b) (.int k n)=cond (decide (0≤n)&&decide (n<(512:Nat))) (some (.ptr a (b+n.toNat*1))) none:=by kernel_rfl
theorem YI : bH Tryz.prog 239=some 512:=by kernel_rfl
theorem YJ : cm Tryz.prog 239=some true:=by kernel_rfl
theorem YK (ps:List (Nat×V)): buildV Tryz.prog 244 ps=(fillV (fun i=>some (i*1,1)) ((.agg [(.int .u64 0),(.int .u64 0),(.int .u64 0)]):V).cells ps).map .agg:=by kernel_rfl
theorem l9 (a b:Nat): fieldAddrV Tryz.prog 261 (.ptr a b) 0=some (.ptr a (b+0)):=by kernel_rfl
theorem YL (ps:List (Nat×V)): buildV Tryz.prog 261 ps=(fillV (nth [(0,1)]) ((.agg [.bw]):V).cells ps).map .agg:=by kernel_rfl
theorem Me : bH Tryz.prog 269=some 1:=by kernel_rfl
theorem Mf : cm Tryz.prog 269=some false:=by kernel_rfl
theorem YM (ps:List (Nat×V)): buildV Tryz.prog 270 ps=(fillV (fun i=>some (i*1,1)) ((.agg [.cu,.cu,.cu]):V).cells ps).map .agg:=by kernel_rfl
def slR (v:V)(a b:Nat): V:=match v with
 | .sl id off _ (.exact c)=>.sl id (cond (Nat.beq c a) off (off+a*1)) (b-a) (.exact (c-a))
 | .sl id off _ (.rest _ alt)=>.sl id (off+a*1) (b-a) (.rest 1 (cond (Nat.beq a 0) alt (cond (Nat.blt a b) (off+a*1) off)))
 | v=>v
theorem er {h:H}{v:V}{l:List Nat}{a b:Nat}(hv:View h v l)(mL:a≤b)(hb:b≤l.length):
  sliceV Tryz.prog h 28 v (some a) (some b) none=some (slR v a b)∧View h (slR v a b) ((l.take b).drop a)∧∀i∈rowIds (slR v a b),i∈rowIds v:=by
 have bF:∀x∈(l.take b).drop a,x<256:=fun x hx=>hv.1 x (gW (iT hx))
 have hlen:((l.take b).drop a).length=b-a:=by simp; omega
 obtain ⟨hl,tN⟩:=hv
 rcases tN with ⟨rfl | ⟨ea,rfl⟩,rfl⟩ | ⟨id,off,cap,n,cs,st,rfl,hg,h1,h2,h3,h4⟩
 ·simp only [bT] at hb
  have:b=0:=by omega
  have:a=0:=by omega
  subst_vars
  refine ⟨?_,⟨by simp,.inl ⟨.inl rfl,by simp⟩⟩,fun i hi=>hi⟩
  simp only [sliceV,aG,dP]
  rfl
 ·simp only [bT] at hb
  have:b=0:=by omega
  have:a=0:=by omega
  subst_vars
  refine ⟨?_,⟨by simp,.inl ⟨.inr ⟨ea,rfl⟩,by simp⟩⟩,fun i hi=>hi⟩
  simp only [sliceV,aG,dP]
  rfl
 ·have I:∀o,o=off+a∨b-a=0→(cs.drop o).take (b-a)=ofBytes ((l.take b).drop a):=by
   intro o ho
   rcases vP (b-a) with hz | hz
   ·rw [hz,mX]
    have:(l.take b).drop a=[]:=lJ (by omega)
    rw [this]; rfl
   ·have uY:o=off+a:=by rcases ho with ho | ho; exact ho; omega
    subst uY
    have e1:ofBytes ((l.take b).drop a)=((ofBytes l).take b).drop a:=by simp [ofBytes,qP,qO]
    rw [e1,←h3,qM,nQ hb,qL,qN]
  cases cap with
  | exact c =>
   have hc:l.length≤c:=h4
   refine ⟨?_,⟨bF,.inr ⟨id,_,_,n,cs,st,by rw [hlen]; rfl,hg,h1,?_,?_,?_⟩⟩,fun i hi=>by simpa [rowIds,slR] using hi⟩
   ·simp only [sliceV,slR,aG,dP,fh]
    rw [show (Nat.ble a b&&Nat.ble b c)=true by rw [aO,aJ,aJ]; omega,ag]
   ·rw [hlen]
    by_cases J:c=a
    ·rw [gP J,ag]; omega
    ·rw [dc J,az]; omega
   ·rw [hlen]
    by_cases J:c=a
    ·rw [gP J,ag]; exact I off (.inr (by omega))
    ·rw [dc J,az,c9]; exact I _ (.inl rfl)
   ·show _≤c-a
    rw [hlen]; omega
  | rest e alt =>
   have he:e=1:=h4
   subst he
   refine ⟨?_,⟨bF,.inr ⟨id,_,_,n,cs,st,by rw [hlen]; rfl,hg,h1,by rw [hlen]; omega,by rw [hlen,c9]; exact I _ (.inl rfl),rfl⟩⟩,fun i hi=>by simpa [rowIds,slR] using hi⟩
   simp only [sliceV,slR,aG,dP,fh,dR]
   rw [show (true&&Nat.ble 1 1)=true from rfl,ag]
   rw [show (Nat.ble a b&&(Nat.ble b l.length||Nat.ble b (kN h id off 1)))=true by rw [aO,nP,aJ,aJ]; exact ⟨mL,.inl hb⟩,ag]
theorem eO {h:H}{v:V}{l:List Nat}{a:Nat}(hv:View h v l)(ha:a≤l.length):
  sliceV Tryz.prog h 28 v (some a) none none=some (slR v a l.length)∧View h (slR v a l.length) (l.drop a)∧∀i∈rowIds (slR v a l.length),i∈rowIds v:=by
 obtain ⟨I,h2,h3⟩:=er hv ha (aD _)
 refine ⟨?_,by simpa using h2,h3⟩
 obtain ⟨_,J⟩:=hv
 rcases J with ⟨rfl | ⟨ea,rfl⟩,rfl⟩ | ⟨id,off,cap,n,cs,st,rfl,hg,g1,g2,g3,g4⟩
 ·simpa [sliceV,aG,dP] using I
 ·simpa [sliceV,aG,dP] using I
 ·rw [←I]
  simp only [sliceV,aG,dP,qI,fh]
theorem ik {h:H}{v:V}{l:List Nat}{b:Nat}(hv:View h v l)(hb:b≤l.length):
  sliceV Tryz.prog h 28 v none (some b) none=some (slR v 0 b)∧View h (slR v 0 b) (l.take b)∧∀i∈rowIds (slR v 0 b),i∈rowIds v:=by
 obtain ⟨I,h2,h3⟩:=er hv (ew b) hb
 refine ⟨?_,by simpa using h2,h3⟩
 obtain ⟨_,J⟩:=hv
 rcases J with ⟨rfl | ⟨ea,rfl⟩,rfl⟩ | ⟨id,off,cap,n,cs,st,rfl,hg,g1,g2,g3,g4⟩
 ·simpa [sliceV,aG,dP] using I
 ·simpa [sliceV,aG,dP] using I
 ·rw [←I]
  simp only [sliceV,aG,dP,qI,fh]
theorem eP {h:H}{v:V}{l:List Nat}{i b:Nat}(hv:View h v l)(hi:l[i]?=some b):
  ∃id off,indexAddrV Tryz.prog 28 v (.int .i64 (i:Int))=some (.ptr id off)∧loadV Tryz.prog h 5 (.ptr id off)=some (.int .u8 (b:Int)):=by
 obtain ⟨hl,I⟩:=hv
 have J:i<l.length:=(List.getElem?_eq_some_iff.1 hi).1
 rcases I with ⟨_,rfl⟩ | ⟨id,off,cap,n,cs,st,rfl,hg,h1,h2,h3,h4⟩
 ·simp at hi
 ·refine ⟨id,off+i*1,?_,?_⟩
  ·simp only [indexAddrV,aG,dP,b9]
   rw [show (decide ((0:Int)≤(i:Int))&&decide ((i:Int)<(l.length:Int)))=true by simp; omega,ag]
  ·simp only [loadV,KC,yf,hg,fF,c9]
   have e:=gy (fun q=>q[i]?) h3
   simp only [jM,iU,aj J] at e
   rw [e]
   simp [ofBytes,hi]
theorem View.cells {h:H}{v:V}{l:List Nat}(hv:View h v l): v.cells=[v]∧Am.storable v=true:=by
 obtain ⟨_,hv⟩:=hv
 rcases hv with ⟨rfl | ⟨I,rfl⟩,_⟩ | ⟨id,off,cap,n,cs,st,rfl,_⟩ <;> exact ⟨rfl,rfl⟩
def plain1 : V→Bool
 | .bool _ | .int _ _ | .str _ | .cu | .ptr _ _ | .bw | .sl _ _ _ _ | .lu | .map _ | .Fa | .jz | .tJ _ _=>true
 | .fn (.func _) [] []=>true
 | _=>false
def WN : V→Bool
 | .agg l=>l.all plain1
 | .bj l=>l.all plain1
 | .iface _ v=>plain1 v
 | v=>plain1 v
theorem Mg (k:FloatKind): fkBeq k k=true:=by cases k <;> rfl
theorem HC : ∀l:List Nat,natsBeq l l=true:=fun l=>by rw [BC]; simp
theorem Q3 (v:V)(h:plain1 v=true): v.beq v=true:=by
 cases v <;> simp [plain1,V.beq,dN,lz,BA,HC,Mg] at h ⊢
 rename_i f a b
 cases f <;> cases a <;> cases b <;> simp [plain1,V.beq,V.beqL] at h ⊢
theorem Tn : ∀(l:List V),l.all plain1=true→V.beqL l l=true:=by
 intro l
 induction l with
 | nil=>intro _; rfl
 | cons v l I =>
  intro h
  simp only [fH,aO] at h
  simp only [V.beqL,Q3 v h.1,ag,I h.2]
theorem bq (v:V)(h:WN v=true): v.beq v=true:=by
 cases v with
 | agg l=>exact Tn l h
 | bj l=>exact Tn l h
 | iface t v=>simp only [V.beq,dR,AB]; exact Q3 v h
 | _=>exact Q3 _ h
section
variable {P:Program} {h h':H} {S:List au} {X:au} {v w:V} {l m:List Nat}
theorem C8 (s:Sat h (aZ v l::X::S))(J:cT X (cU w m))(I:l.length+m.length≤140737488355328):
  ∃v' h',appendV Tryz.prog h #[28,28] v w=some (v',h')∧Sat h' (aZ v' (l++m)::X::S):=by
 obtain ⟨v',h',e1,e2,e3,e4⟩:=yU s.wf (s.buf (k:=0) rfl) (s.aE (k:=1) rfl J) I
 exact ⟨v',h',e1,s.AR e3 e2 e4⟩
theorem Fu (s:Sat h S){c:Nat}(I:c<1073741824):
  ∃v h',makeSliceV Tryz.prog h 28 (.int .i64 0) (.int .i64 (c:Int))=some (v,h')∧Sat h' (aZ v []::S):=by
 obtain ⟨v,h',J,e2,e3,e4⟩:=CS s.wf I
 exact ⟨v,h',J,s.Hz e3 e2 e4⟩
theorem Ux : ∀n:Nat,repeatL [V.int .u8 0] n=ofBytes (List.replicate n 0):=by
 intro n
 induction n with
 | zero=>rfl
 | succ n I=>simp only [repeatL,I,ofBytes,vN,b6]; rfl
theorem Oo (s:Sat h S){c:Nat}(J:c<1073741824):
  ∃v h',makeSliceV Tryz.prog h 28 (.int .i64 (c:Int)) (.int .i64 (c:Int))=some (v,h')∧Sat h' (aZ v (List.replicate c 0)::S):=by
 obtain ⟨i,hi,i1,i2⟩:=wA
 have I:jR (h.new (.cells c (repeatL [.int .u8 0] c) false)) (.sl h.next 0 c (.exact c)) (List.replicate c 0):=by
  refine ⟨fun b I=>by have:=qB I; omega,.inr (.inl ⟨h.next,[],c,by simp,?_,by simp⟩)⟩
  rw [iz,aj rfl,Ux,bR]
 refine ⟨.sl h.next 0 c (.exact c),h.new (.cells c (repeatL [.int .u8 0] c) false),?_,s.Hz (d_.AP s.wf _) I fun i hi=>by simp [rowIds] at hi; omega⟩
 simp only [makeSliceV,aG,hi,oO,i1,i2,V.cells,aS,bT,b9,c9]
 rw [show (decide ((0:Int)≤(c:Int))&&decide ((c:Int)≤(c:Int))&&decide ((c:Int)<1073741824)&&Nat.ble 1 4096&&Nat.beq (0+1) 1&&Nat.ble 1 1)=true by simp; omega,ag]
theorem Oq (s:Sat h S){b:Nat}(I:b<256): ∃v h',buildSliceV Tryz.prog h 28 1 [(0,.int .u8 b)]=some (v,h')∧Sat h' (aZ v [b]::S):=by
 obtain ⟨v,h',J,e2,e3,e4⟩:=Fs s.wf I
 exact ⟨v,h',J,s.Hz e3 e2 e4⟩
theorem Sat.fI (s:Sat h (aZ v l::S))(hl:1≤l.length): ∃id c cap rest,v=.sl id 0 l.length cap∧Sat h (pt id (.cells c (ofBytes l++rest) false)::S)∧l.length+rest.length=c ∧
  (∀(h':H) (I:List Nat),I.length=l.length→(∀b∈I,b<256)→Sat h' (pt id (.cells c (ofBytes I++rest) false)::S)→Sat h' (aZ v I::S)):=by
 obtain ⟨m,r,h1,h2,h3,a,b,g1,g2,g3,⟨gl,g4⟩,g5⟩:=s.ok
 rcases g4 with ⟨rfl,rfl⟩ | ⟨id,cs,c,rfl,hg,hc⟩ | ⟨id,rfl,hg,h5⟩
 ·simp at hl
 ·refine ⟨id,c,_,cs,rfl,⟨s.wf,m,r,h1,h2,h3,a,b,g1,g2,g3,hg,g5⟩,hc,fun h' I e1 e2 s'=>s'.hO ?_⟩
  intro m' r' hm
  exact ⟨e2,.inr (.inl ⟨id,cs,c,by rw [e1],hm,by omega⟩)⟩
 ·refine ⟨id,l.length,_,[],rfl,⟨s.wf,m,r,h1,h2,h3,a,b,g1,g2,g3,by rw [bR]; exact hg,g5⟩,by simp,fun h' I e1 e2 s'=>s'.hO ?_⟩
  intro m' r' hm
  have J:m' id=some (.cells l.length (ofBytes I++[]) false):=hm
  rw [bR] at J
  exact ⟨e2,.inr (.inr ⟨id,by rw [e1],by rw [e1]; exact J,by omega⟩)⟩
theorem JB (l:List Nat)(i b:Nat): (ofBytes l).set i (.int .u8 (b:Int))=ofBytes (l.set i b):=by simp [ofBytes,List.map_set]
theorem y_ (l:List Nat)(n:Nat): (ofBytes l).take n=ofBytes (l.take n):=by simp [ofBytes,qO]
theorem HD (l:List Nat)(n:Nat): (ofBytes l).drop n=ofBytes (l.drop n):=by simp [ofBytes,qP]
theorem oE (s:Sat h (aZ v l::S)){i b:Nat}(hi:i<l.length)(hb:b<256):
  ∃id off,indexAddrV Tryz.prog 28 v (.int .i64 (i:Int))=some (.ptr id off)∧∃h',g9 Tryz.prog h 5 (.ptr id off) (.int .u8 (b:Int))=some h'∧Sat h' (aZ v (l.set i b)::S):=by
 have hv:=(s.buf (k:=0) rfl).1
 obtain ⟨id,c,cap,rest,rfl,s1,hc,hf⟩:=s.fI (by omega)
 refine ⟨id,i,?_,?_⟩
 ·simp only [indexAddrV,aG,dP,b9]
  rw [show (decide ((0:Int)≤(i:Int))&&decide ((i:Int)<(l.length:Int)))=true by simp; omega,ag]
  simp
 ·obtain ⟨h',e1,J⟩:=s1.ey (t:=5) (P:=Tryz.prog) (v:=.int .u8 (b:Int)) (k:=0) (off:=i) rfl dP (by simp [c7]; omega) (by omega) rfl rfl
  refine ⟨h',e1,hf h' (l.set i b) (by simp) (fun x I => ?_) ?_⟩
  ·rcases lM I with I | rfl
   ·exact hv x I
   ·exact hb
  ·have e3:(ofBytes l++rest).set i (.int .u8 (b:Int))=ofBytes (l.set i b)++rest:=by
    rw [DZ _ _ (by rw [c7]; exact hi),JB]
   rw [e3] at J
   exact J
def aV (l:List Nat)(a:Nat)(m:List Nat): List Nat:=l.take a++(m++l.drop (a+m.length))
theorem cz {l m:List Nat}{a:Nat}(h:a+m.length≤l.length): (aV l a m).length=l.length:=by simp [aV]; omega
theorem zu {l m:List Nat}{a:Nat}(J:∀b∈l,b<256)(hm:∀b∈m,b<256): ∀b∈aV l a m,b<256:=fun b I=>by
 simp only [aV,qK] at I
 rcases I with I | I | I
 ·exact J b (gW I)
 ·exact hm b I
 ·exact J b (iT I)
theorem B1 (s:Sat h (aZ v l::X::S))(hX:cT X (cU w m)){a b:Nat}(mL:a<b)(hb:b≤l.length)(hm:1≤m.length):
  ∃h',copyV Tryz.prog h 28 (slR v a b) w=some (.int .i64 (min m.length (b-a):Nat),h')∧Sat h' (aZ v (aV l a (m.take (b-a)))::X::S):=by
 have hw:=s.aE (k:=1) rfl hX
 have Ot:=hw.1
 have hv:=(s.buf (k:=0) rfl).1
 obtain ⟨id,c,cap,rest,rfl,s1,hc,hf⟩:=s.fI (by omega)
 have ku:∃yK,slR (.sl id 0 l.length cap) a b=.sl id a (b-a) yK:=by
  cases cap with
  | exact c =>
   refine ⟨.exact (c-a),?_⟩
   simp only [slR]
   by_cases hca:c=a
   ·obtain ⟨m',r,h1,h2,h3⟩:=s.at (k:=0) rfl
    rcases h3.2 with ⟨e,_⟩ | ⟨yJ,cs',c',e,hg,ZP⟩ | ⟨yJ,e,_⟩
    ·cases e
    ·injection e with _ _ _ e4; injection e4 with e4; omega
    ·injection e with _ _ _ e4; cases e4
   ·rw [dc hca,az,dH,c9]
  | rest e alt=>exact ⟨_,by simp only [slR,dH,c9]; rfl⟩
 obtain ⟨yK,ku⟩:=ku
 rw [ku]
 have ud:=hw
 rcases ud.2 with ⟨_,rfl⟩ | ⟨kZ,I,J,n2,Fv,WO,rfl,KL,q1,q2,q3,q4⟩
 ·simp at hm
 ·have aaC:Nat.min m.length (b-a)=(m.take (b-a)).length:=by
   rw [dM]
   exact Nat.min_comm _ _
  have jq:rdN h kZ I (Nat.min m.length (b-a)*1)=some (ofBytes (m.take (b-a))):=by
   have um:View h (.sl kZ I (m.take (b-a)).length J) (m.take (b-a)):=by
    refine ⟨fun x hx=>Ot x (gW hx),.inr ⟨kZ,I,J,n2,Fv,WO,rfl,KL,q1,?_,?_,?_⟩⟩
    ·have:(m.take (b-a)).length≤m.length:=by simp; omega
     omega
    ·rw [←y_,←q3,qM,dM]
    ·cases J with
     | exact c2 =>
      simp only at q4 ⊢
      have:(m.take (b-a)).length≤m.length:=by simp; omega
      omega
     | rest e2 a2=>exact q4
   rw [c9,aaC]
   exact um.rdN.2
  simp only [copyV,aG,dP,jq]
  have hlen:(m.take (b-a)).length≤b-a:=by simp; omega
  have zy:wrN h id a (ofBytes (m.take (b-a)))=some (h.put id (some (.cells c (ofBytes (aV l a (m.take (b-a)))++rest) false))):=by
   simp only [wrN,s1.row (k:=0) rfl,c7]
   rw [aJ.2 (by omega),ag]
   congr 3
   have e0:(ofBytes l++rest).take a++(ofBytes (m.take (b-a))++(ofBytes l++rest).drop (a+(m.take (b-a)).length))=ofBytes (aV l a (m.take (b-a)))++rest:=by
    rw [nO (by rw [c7]; omega),DR (by rw [c7]; omega),y_,HD]
    simp only [aV,rG,bS]
   cases HE:(Nat.beq a 0&&Nat.beq (m.take (b-a)).length c) with
   | true =>
    simp only [aO,beq_iff] at HE
    rw [ag,←e0]
    obtain ⟨ha0,hmc⟩:=HE
    subst ha0
    have:(ofBytes l++rest).drop (0+(m.take (b-0)).length)=[]:=je (by simp [c7] at hmc ⊢; omega)
    rw [this]
    simp
   | false=>rw [az,e0]
  rw [zy]
  refine ⟨_,rfl,hf _ _ (cz (by omega)) (zu hv (fun x hx=>Ot x (gW hx))) ?_⟩
  exact s1.put (k:=0) rfl
end
section
variable {P:Program} {h h':H} {S:List au} {v w x:V} {cs ds:List V} {k:Nat}
theorem Ou {t:TypeId}{id off n q:Nat}{st:Bool}(J:cm P t=some true)(hs:bH P t=some q)(hg:T.get h.tr id=some (.cells n cs st))(hl:cs.length=n)(hb:off+q≤n):
  loadV P h t (.ptr id off)=some (.agg ((cs.drop off).take q)):=by
 simp only [loadV,J,hs,rdN,hg]
 rw [aJ.2 hb,ag]
 cases I:(Nat.beq off 0&&Nat.beq q n) with
 | true =>
  simp only [aO,beq_iff] at I
  obtain ⟨rfl,rfl⟩:=I
  simp [←hl]
 | false=>rfl
theorem Sat.EM (s:Sat h (.arr k v cs::S))(I:cs≠[]): ∃id n cap N rest,v=.sl id 0 n cap∧cs.length=n*k∧N=cs.length+rest.length∧Sat h (pt id (.cells N (cs++rest) false)::S) ∧
  (∀(h':H) (cs':List V) (S':List au),cs'.length=cs.length→cs'.all storable=true→Sat h' (pt id (.cells N (cs'++rest) false)::S')→Sat h' (.arr k v cs'::S')):=by
 obtain ⟨m,r,J,h2,h3,a,b,g1,g2,g3,⟨gl,g4⟩,g5⟩:=s.ok
 rcases g4 with ⟨_,e⟩ | ⟨id,n,cap,N,rest,rfl,hg,q1,q2,q3,q4⟩
 ·exact absurd e I
 ·refine ⟨id,n,cap,N,rest,rfl,q1,q2.symm,⟨s.wf,m,r,J,h2,h3,a,b,g1,g2,g3,hg,g5⟩,fun h' cs' S' e1 e2 s'=>s'.hO ?_⟩
  intro m' r' hm
  exact ⟨e2,.inr ⟨id,n,cap,N,rest,rfl,hm,by omega,by omega,q3,q4⟩⟩
theorem Sat.Mh {j:Nat}(s:Sat h S)(I:getA S j=some (.arr k v cs)): cs.all storable=true:=by
 obtain ⟨m,r,h1,h2,J⟩:=s.at I
 exact J.1
theorem Sat.jb {j:Nat}(s:Sat h S)(I:getA S j=some (.arr k v cs)): v.cells=[v]∧storable v=true∧v.beq v=true:=by
 obtain ⟨m,r,h1,h2,J⟩:=s.at I
 rcases J.2 with ⟨rfl,_⟩ | ⟨id,n,cap,N,rest,rfl,_⟩
 ·exact ⟨rfl,rfl,rfl⟩
 ·exact ⟨rfl,rfl,CW _ _ _ _⟩
theorem Sat.iB {j n:Nat}{t e:TypeId}(s:Sat h S)(hj:getA S j=some (.arr k v cs))(hn:cs.length=n*k)(J:1≤k)(hu:P.underlying t=some (.slice e)): lenV P h t v=some (.int .i64 n):=by
 obtain ⟨m,r,h1,h2,h3⟩:=s.at hj
 rcases h3.2 with ⟨rfl,rfl⟩ | ⟨id,n',cap,N,rest,rfl,_,q,_⟩
 ·have:n=0:=by
   rcases vP n with I | I
   ·exact I
   ·have:=sZ I J
    simp at hn
    omega
  subst this
  simp only [lenV,hu]
  rfl
 ·have:n'=n:=Kj J (by omega)
  subst this
  simp only [lenV,hu]
theorem vz (z:List V)(n:Nat): (repeatL z n).length=n*z.length:=by
 induction n with
 | zero=>simp [repeatL]
 | succ n I=>simp only [repeatL,bx,I,Nat.succ_mul]; omega
theorem C9 {z:List V}(I:z.all storable=true)(n:Nat): (repeatL z n).all storable=true:=by
 induction n with
 | zero=>rfl
 | succ n J=>simp only [repeatL,List.all_append,I,J,iu]
theorem u_ (s:Sat h S){t e:TypeId}{i:TypeInfo}{z:V}{n c:Nat}(hu:P.underlying t=some (.slice e))(hi:P.info? e=some i)(hz:zeroT P e=some z)(hk:i.size=k)(hb:i.bytes≤4096)(J:z.cells.length=k)(I:z.cells.all storable=true)
 (h1:1≤k)(hn:n≤c)(hc:c<1073741824):
  ∃v h',makeSliceV P h t (.int .i64 (n:Int)) (.int .i64 (c:Int))=some (v,h')∧Sat h' (.arr k v (repeatL z.cells n)::S):=by
 refine ⟨.sl h.next 0 n (.exact c),h.new (.cells (c*k) (repeatL z.cells c) false),?_,(s.new _).hO fun m r hm => ?_⟩
 ·simp only [makeSliceV,hu,hi,hz,b9,hk,J]
  rw [show (decide ((0:Int)≤(n:Int))&&decide ((n:Int)≤(c:Int))&&decide ((c:Int)<1073741824)&&Nat.ble i.bytes 4096&&Nat.beq k k&&Nat.ble 1 k)=true by
   rw [aJ.2 hb,aJ.2 h1,dR]; simp; omega,ag]
 ·refine ⟨C9 I n,.inr ⟨h.next,n,.exact c,c*k,repeatL z.cells (c-n),rfl,?_,by rw [vz,J],?_,C9 I _,rfl,hn⟩⟩
  ·have:repeatL z.cells n++repeatL z.cells (c-n)=repeatL z.cells c:=by
    clear hm
    have:∀a b,repeatL z.cells a++repeatL z.cells b=repeatL z.cells (a+b):=fun a b=>by
     induction a with
     | zero=>simp [repeatL]
     | succ a ih=>rw [Nat.succ_add]; simp only [repeatL,bS,ih]
    rw [this,show n+(c-n)=c by omega]
   rw [this]; exact hm
  ·rw [vz,vz,J,←iw,show n+(c-n)=c by omega]
theorem Uy {id off n:Nat}{vs:List V}(J:T.get h.tr id=some (.cells n cs false))(hl:cs.length=n)(hb:off+vs.length≤n):
  wrN h id off vs=some (h.put id (some (.cells n (cs.take off++(vs++cs.drop (off+vs.length))) false))):=by
 simp only [wrN,J]
 rw [aJ.2 hb,ag]
 congr 3
 cases I:(Nat.beq off 0&&Nat.beq vs.length n) with
 | true =>
  simp only [aO,beq_iff] at I
  obtain ⟨rfl,hn⟩:=I
  rw [ag]
  have:cs.drop (0+vs.length)=[]:=je (by omega)
  rw [this]; simp
 | false=>rw [az]
theorem zB {id off n q:Nat}{st:Bool}(J:T.get h.tr id=some (.cells n cs st))(hl:cs.length=n)(hb:off+q≤n): rdN h id off q=some ((cs.drop off).take q):=by
 simp only [rdN,J]
 rw [aJ.2 hb,ag]
 cases I:(Nat.beq off 0&&Nat.beq q n) with
 | true =>
  simp only [aO,beq_iff] at I
  obtain ⟨rfl,rfl⟩:=I
  simp [←hl]
 | false=>rfl
theorem iK (s:Sat h (.arr k v cs::.arr k w ds::S)){t e:TypeId}{i:TypeInfo}{z:V}(hu:P.underlying t=some (.slice e))(hi:P.info? e=some i)(hz:zeroT P e=some z)(hk:i.size=k)(hb:i.bytes≤4096)(hl:z.cells.length=k)
 (h1:1≤k)(eZ:cs.length+ds.length≤1073741824):
  ∃v' h',appendV P h #[t,t] v w=some (v',h')∧Sat h' (.arr k v' (cs++ds)::.arr k w ds::S):=by
 have aaD:=s.Mh (j:=0) rfl
 have xu:=s.Mh (j:=1) rfl
 have mE:(cs++ds).all storable=true:=by rw [List.all_append,aaD,xu]; rfl
 -- what is appended
 have Ep:∃m,srcV h k w=some (ds,m)∧ds.length=m*k:=by
  obtain ⟨m,r,q1,q2,q3⟩:=s.at (k:=1) rfl
  rcases q3.2 with ⟨rfl,rfl⟩ | ⟨id,n,cap,N,rest,rfl,J,e1,e2,e3,e4⟩
  ·exact ⟨0,rfl,by simp⟩
  ·refine ⟨n,?_,e1⟩
   simp only [srcV]
   rw [zB (q1 _ _ J) (by simp [e2]) (by omega)]
   rw [eu,←e1,ke rfl]
   rfl
 obtain ⟨m,Ep,hm⟩:=Ep
 have I:∀n:Nat,n*k=cs.length→kO (n+m) i.bytes=true:=fun n hn=>by
  have e1:(n+m)*k=cs.length+ds.length:=by rw [iw,hn,hm]
  have e2:n+m≤(n+m)*k:=Nat.le_mul_of_pos_right _ h1
  have e3:(n+m)*i.bytes≤(n+m)*4096:=Nat.mul_le_mul_left _ hb
  exact w9.2 ⟨by omega,by omega⟩
 have w_:∀(σ:H) (n:Nat) (T:List au),Sat σ T→n*k=cs.length→1≤m→Sat (nU σ k cs ds (n+m)).2 (.arr k (nU σ k cs ds (n+m)).1 (cs++ds)::T):=by
  intro σ n T sT hn uo
  refine (sT.new (.cells ((n+m)*k) (cs++ds) false)).hO fun a r yo=>⟨mE,.inr ⟨σ.next,n+m,.rest k 0,(n+m)*k,[],rfl,by rw [bR]; exact yo,by rw [bx,iw]; omega,by rw [bx,iw]; simp; omega,rfl,rfl,rfl,rfl,by omega⟩⟩
 unfold appendV
 simp only [hu,hi,hz,hk,hl,Ep]
 rw [show (Nat.ble 1 k&&Nat.ble i.bytes 4096&&Nat.beq k k)=true by rw [aJ.2 h1,aJ.2 hb,dR]; rfl,ag]
 cases Br:Nat.beq m 0 with
 | true =>
  have:m=0:=beq_iff.1 Br
  subst this
  have hd0:ds=[]:=lJ (by simpa using hm)
  subst hd0
  rw [ag,bR]
  obtain ⟨m,r,q1,q2,q3⟩:=s.at (k:=0) rfl
  rcases q3.2 with ⟨rfl,rfl⟩ | ⟨id,n,cap,N,rest,rfl,J,e1,e2,e3,e4⟩
  ·exact ⟨_,_,rfl,s⟩
  ·exact ⟨_,_,rfl,s⟩
 | false =>
  have uo:1≤m:=by
   rcases vP m with h0 | h0
   ·rw [gP h0] at Br; cases Br
   ·exact h0
  rw [az]
  obtain ⟨a,r,q1,q2,q3⟩:=s.at (k:=0) rfl
  rcases q3.2 with ⟨rfl,rfl⟩ | ⟨id,n,cap,N,rest,rfl,J,e1,e2,e3,e4⟩
  ·have J:=I 0 (by simp)
   rw [dH] at J
   simp only [J,ag]
   have:=w_ h 0 (.arr k .bw []::.arr k w ds::S) s (by simp) uo
   rw [dH] at this
   refine ⟨_,_,rfl,?_⟩
   exact (this.qb [1]).drop
  ·cases cap with
   | exact c =>
    obtain ⟨e4,e5⟩:=e4
    simp only [dH]
    have lG:(cs++rest).take cs.length=cs:=ke rfl
    cases hq:Nat.ble (n+m) c with
    | true =>
     have rR:=aJ.1 hq
     rw [ag]
     have dZ:n*k+ds.length≤N:=by rw [hm,←iw,e4]; exact qD _ rR
     rw [Uy (q1 _ _ J) (by simp [e2]) dZ]
     simp only
     obtain ⟨m',r',p1,p2,p3,x1,x2,x3,x4,x5,⟨_,x6⟩,x7⟩:=s.ok
     have xq:x1 id=some (.cells N (cs++rest) false):=by
      rcases x6 with ⟨x6,_⟩ | ⟨yJ,n',yK,N',To,x6,x8,x9,x10,_⟩
      ·cases x6
      ·injection x6 with y1 y2 y3 y4
       subst y1
       rw [x8]
       have:=p1 _ _ (x4 _ _ x8)
       rw [q1 _ _ J] at this
       injection this with this
       rw [this]
     have s0:Sat h (pt id (.cells N (cs++rest) false)::.arr k w ds::S):=⟨s.wf,m',r',p1,p2,p3,x1,x2,x3,x4,x5,xq,x7⟩
     have s1:=s0.put (k:=0) (o':=.cells N ((cs++rest).take (n*k)++(ds++(cs++rest).drop (n*k+ds.length))) false) rfl
     refine ⟨_,_,rfl,Sat.hO s1 fun a' r'' ha=>⟨mE,.inr ⟨id,n+m,.exact c,N,rest.drop ds.length,rfl,?_,by rw [bx,iw]; omega,by simp; omega,?_,e4,rR⟩⟩⟩
     ·have ha':a' id=some (.cells N ((cs++rest).take (n*k)++(ds++(cs++rest).drop (n*k+ds.length))) false):=ha
      rw [ha',←e1,lG,Az,je (by omega),Nat.add_sub_cancel_left,cZ,bS]
     ·rw [lQ] at e3 ⊢
      exact fun y hy=>e3 y (iT hy)
    | false =>
     rw [az,I n e1.symm,ag,zB (q1 _ _ J) (by simp [e2]) (by omega)]
     simp only
     rw [eu,←e1,lG]
     have:=w_ h n _ s e1.symm uo
     exact ⟨_,_,rfl,(this.qb [1]).drop⟩
   | rest e' alt =>
    obtain ⟨ek,rfl,rfl,e7⟩:=e4
    have ek:=ek.symm
    subst ek
    simp only [dR,ag,bR,dH] at J e2 ⊢
    have BU:kN h id 0 k=n:=by
     simp only [kN,q1 _ _ J]
     rw [kf,←e2]
     simp only [bT,gH,e1]
     exact D4 _ h1
    rw [BU]
    rw [show Nat.ble (n+m) n=false by
     cases hq:Nat.ble (n+m) n with
     | true=>have:=aJ.1 hq; omega
     | false=>rfl,az,I n e1.symm,show Nat.ble 2 ((n+m)*k)=true from aJ.2 (by
      have:2*1≤(n+m)*k:=sZ (by omega) h1
      omega),iu,ag,zB (q1 _ _ J) (by simpa using e2) (by simp at e2; omega),q1 _ _ J]
    simp only
    obtain ⟨m',r',p1,p2,p3,x1,x2,x3,x4,x5,⟨_,x6⟩,x7⟩:=s.ok
    have xq:x1 id=some (.cells N cs false):=by
     rcases x6 with ⟨x6,_⟩ | ⟨yJ,n',yK,N',To,x6,x8,x9,x10,_⟩
     ·cases x6
     ·injection x6 with y1 y2 y3 y4
      subst y1
      rw [x8]
      have:=p1 _ _ (x4 _ _ x8)
      rw [q1 _ _ J] at this
      injection this with this
      rw [this]
    have s0:Sat h (pt id (.cells N cs false)::.arr k w ds::S):=⟨s.wf,m',r',p1,p2,p3,x1,x2,x3,x4,x5,xq,x7⟩
    have:=w_ (h.put id none) n _ s0.kill e1.symm uo
    rw [eu,dO (by omega)]
    exact ⟨_,_,rfl,this⟩
end
section
variable {P:Program} {h h':H} {S:List au} {v w x:V} {cs ds:List V} {k:Nat}
theorem Sat.eH {t:TypeId}{j id n:Nat}{l:List V}(s:Sat h S)(J:getA S j=some (pt id (.cells n cs false)))(hs:bH P t=some n)(hl:l.length=n)(I:l.all storable=true):
  ∃h₁,g9 P h t (.ptr id 0) (.agg l)=some h₁∧Sat h₁ (setA S j (pt id (.cells n l false))):=by
 refine ⟨h.put id (some (.cells n l false)),?_,s.put J⟩
 simp only [g9,hs,V.cells,I,hl,dR,iu,ag,wrN,s.row J]
 rw [aJ.2 (by omega:0+n≤n),ag]
theorem l_ (s:Sat h S){t e:TypeId}{z:V}(hu:P.underlying t=some (.slice e))(hz:zeroT P e=some z)(hk:bH P e=some k)(J:z.cells.length=k)(h1:1≤k)(h2:k≤65536)(hx:x.cells.length=k)(I:x.cells.all storable=true):
  ∃v h',buildSliceV P h t 1 [(0,x)]=some (v,h')∧Sat h' (.arr k v x.cells::S):=by
 refine ⟨.sl h.next 0 1 (.exact 1),newRow h x.cells,?_,?_⟩
 ·simp only [buildSliceV,hu,hk,hz]
  rw [show (Nat.beq z.cells.length k&&Nat.ble (1*k) 65536&&Nat.ble 1 k)=true by rw [J,dR,aJ.2 (by omega),aJ.2 h1]; rfl,ag]
  have e1:repeatL z.cells 1=z.cells:=by simp [repeatL]
  simp only [fillV,e1,hx,J,dR,AB]
  rw [aJ.2 (by omega:0*k+k≤k),ag]
  have e2:z.cells.take (0*k)++(x.cells++z.cells.drop (0*k+k))=x.cells:=by
   rw [qR,mX,cZ,je (by omega),bR]
  simp only [e2,I,ag]
 ·refine (s.new _).hO fun m r hm=>⟨I,.inr ⟨h.next,1,.exact 1,k,[],rfl,?_,by omega,by simp; omega,rfl,by omega,aD _⟩⟩
  have hm:m h.next=some (.cells x.cells.length x.cells false):=hm
  rw [hm,hx,bR]
end
section
variable {P:Program} {h h':H} {S:List au} {X:au} {v w x:V} {l:List Nat} {k:Nat}
theorem ie.slice {m:PM}{a b:Nat}(hv:ie m v l)(mL:a≤b)(hb:b≤l.length): ie m (slR v a b) ((l.take b).drop a):=by
 have bF:∀x∈(l.take b).drop a,x<256:=fun x hx=>hv.1 x (gW (iT hx))
 have hlen:((l.take b).drop a).length=b-a:=by simp; omega
 obtain ⟨hl,tN⟩:=hv
 rcases tN with ⟨rfl | ⟨ea,rfl⟩,rfl⟩ | ⟨id,off,cap,n,cs,st,rfl,hg,h1,h2,h3,h4⟩
 ·simp at hb
  have:b=0:=by omega
  have:a=0:=by omega
  subst_vars
  exact ⟨by simp,.inl ⟨.inl rfl,by simp⟩⟩
 ·simp at hb
  have:b=0:=by omega
  have:a=0:=by omega
  subst_vars
  exact ⟨by simp,.inl ⟨.inr ⟨ea,rfl⟩,by simp⟩⟩
 ·have I:∀o,o=off+a∨b-a=0→(cs.drop o).take (b-a)=ofBytes ((l.take b).drop a):=by
   intro o ho
   rcases ho with rfl | h0
   ·have e:=gy (fun q=>(q.take b).drop a) h3
    simp only [ofBytes,←qO,←qP] at e ⊢
    rw [←e,qM,nQ hb,qL,qN]
   ·rw [h0,mX]
    have:((l.take b).drop a)=[]:=lJ (by omega)
    rw [this]; rfl
  cases cap with
  | exact c =>
   have hc:l.length≤c:=h4
   refine ⟨bF,.inr ⟨id,_,_,n,cs,st,by rw [hlen]; rfl,hg,h1,?_,?_,?_⟩⟩
   ·rw [hlen]
    by_cases J:c=a
    ·rw [gP J,ag]; omega
    ·rw [dc J,az]; omega
   ·rw [hlen]
    by_cases J:c=a
    ·rw [gP J,ag]; exact I _ (.inr (by omega))
    ·rw [dc J,az,c9]; exact I _ (.inl rfl)
   ·show ((l.take b).drop a).length≤c-a
    rw [hlen]; omega
  | rest e alt =>
   have he:e=1:=h4
   subst he
   exact ⟨bF,.inr ⟨id,_,_,n,cs,st,by rw [hlen]; rfl,hg,h1,by rw [hlen]; omega,by rw [hlen,c9]; exact I _ (.inl rfl),rfl⟩⟩
theorem lB {a b:Nat}(hX:cT X (cU v l))(I:a≤b)(J:b≤l.length): cT X (cU (slR v a b) ((l.take b).drop a)):=fun m r hm =>
 (hX m r hm).imp (fun h=>ie.slice h I J) (fun h=>ie.slice h I J)
theorem rq {a:Nat}(I:cT X (cU v l))(J:a≤l.length): cT X (cU (slR v a l.length) (l.drop a)):=by
 have:=lB I J (aD _)
 rwa [List.take_length] at this
theorem xw {b:Nat}(I:cT X (cU v l))(J:b≤l.length): cT X (cU (slR v 0 b) (l.take b)):=by
 have:=lB I (ew b) J
 rwa [eu] at this
theorem Sat.oF (s:Sat h S): Sat h (.arr k .bw []::S):=(s.gA aa).hO fun _ _ _=>⟨rfl,.inl ⟨rfl,rfl⟩⟩
theorem Sat.HF (s:Sat h S): Sat h (aZ .bw []::S):=(s.gA aa).hO fun _ _ _=>⟨by simp,.inl ⟨rfl,rfl⟩⟩
theorem Sat.rI (s:Sat h S): Sat h (BB .bw []::S):=(s.gA aa).hO fun _ _ _=>⟨by simp,.inl ⟨.inl rfl,rfl⟩⟩
theorem Fw (s:Sat h S){t e:TypeId}{i:TypeInfo}{z:V}{n:Nat}(hu:P.underlying t=some (.slice e))(hi:P.info? e=some i)(I:zeroT P e=some z)(J:i.size=k)(hb:i.bytes≤4096)(hl:z.cells.length=k)
 (h1:1≤k)(hn:n<1073741824):
  ∃id h',makeSliceV P h t (.int .i64 (n:Int)) (.int .i64 (n:Int))=some (.sl id 0 n (.exact n),h')∧Sat h' (pt id (.cells (n*k) (repeatL z.cells n) false)::S):=by
 refine ⟨h.next,h.new (.cells (n*k) (repeatL z.cells n) false),?_,s.new _⟩
 simp only [makeSliceV,hu,hi,I,b9,J,hl]
 rw [show (decide ((0:Int)≤(n:Int))&&decide ((n:Int)≤(n:Int))&&decide ((n:Int)<1073741824)&&Nat.ble i.bytes 4096&&Nat.beq k k&&Nat.ble 1 k)=true by
  rw [aJ.2 hb,aJ.2 h1,dR]; simp; omega,ag]
theorem pG {h:H}{t e:TypeId}{i o n:Nat}{c:Cap}{v:V}(hv:v=.sl i o n c)(hu:P.underlying t=some (.slice e)): lenV P h t v=some (.int .i64 n):=by subst hv; exact C0 hu
theorem WQ {E:List (Nat×V)}{c:Go.Call}{b:Builtin}{args:List V}{r:V}(I:c.callee=.builtin b)(J:lookArgs E c.args.toList=some args)(hf:builtinV P h b c.argTypes args=some (r,h')): opE P E h (.call c)=some (r,h'):=by
 simp only [opE,I,J,hf]
end
def slR3 (v:V)(a b m:Nat): V:=match v with
 | .sl id off _ _=>.sl id (cond (Nat.beq m a) off (off+a*1)) (b-a) (.exact (m-a))
 | v=>v
section
variable {P:Program} {h h':H} {S:List au} {X:au} {v w x:V} {l:List Nat} {k:Nat}
theorem ie.slice3 {m:PM}{a b c:Nat}(hv:ie m v l)(mL:a≤b)(hb:b≤c)(hc:c≤l.length)(hl:1≤l.length): ie m (slR3 v a b c) ((l.take b).drop a):=by
 have bF:∀x∈(l.take b).drop a,x<256:=fun x hx=>hv.1 x (gW (iT hx))
 have hlen:((l.take b).drop a).length=b-a:=by simp; omega
 obtain ⟨_,tN⟩:=hv
 rcases tN with ⟨_,rfl⟩ | ⟨id,off,cap,n,cs,st,rfl,hg,h1,h2,h3,h4⟩
 ·simp at hl
 ·have I:∀o,o=off+a∨b-a=0→(cs.drop o).take (b-a)=ofBytes ((l.take b).drop a):=by
   intro o ho
   rcases ho with rfl | h0
   ·have e:=gy (fun q=>(q.take b).drop a) h3
    simp only [ofBytes,←qO,←qP] at e ⊢
    rw [←e,qM,nQ (cC hb hc),qL,qN]
   ·rw [h0,mX]
    have:((l.take b).drop a)=[]:=lJ (by omega)
    rw [this]; rfl
  refine ⟨bF,.inr ⟨id,_,_,n,cs,st,by rw [hlen]; rfl,hg,h1,?_,?_,?_⟩⟩
  ·rw [hlen]
   by_cases J:c=a
   ·rw [gP J,ag]; omega
   ·rw [dc J,az]; omega
  ·rw [hlen]
   by_cases J:c=a
   ·rw [gP J,ag]; exact I _ (.inr (by omega))
   ·rw [dc J,az,c9]; exact I _ (.inl rfl)
  ·show ((l.take b).drop a).length≤c-a
   rw [hlen]; omega
theorem Fx {a b c:Nat}(hX:cT X (cU v l))(I:a≤b)(J:b≤c)(hc:c≤l.length)(hl:1≤l.length): cT X (cU (slR3 v a b c) ((l.take b).drop a)):=fun m r hm =>
 (hX m r hm).imp (fun h=>ie.slice3 h I J hc hl) (fun h=>ie.slice3 h I J hc hl)
theorem BD {a b c:Nat}(hv:View h v l)(I:a≤b)(hb:b≤c)(hc:c≤l.length)(hl:1≤l.length): sliceV Tryz.prog h 28 v (some a) (some b) (some c)=some (slR3 v a b c):=by
 obtain ⟨_,J⟩:=hv
 rcases J with ⟨_,rfl⟩ | ⟨id,off,cap,n,cs,st,rfl,hg,h1,h2,h3,h4⟩
 ·simp at hl
 ·cases cap with
  | exact q =>
   have hq:l.length≤q:=h4
   simp only [sliceV,slR3,aG,dP,fh]
   rw [show (Nat.ble a b&&Nat.ble b c&&Nat.ble c q)=true by rw [aO,aO,aJ,aJ,aJ]; omega,ag]
  | rest e alt =>
   have he:e=1:=h4
   subst he
   simp only [sliceV,slR3,aG,dP,fh,dR]
   rw [show (true&&Nat.ble 1 1)=true from rfl,ag]
   rw [show (Nat.ble a b&&Nat.ble b c&&(Nat.ble c l.length||Nat.ble c (kN h id off 1))&&Nat.blt 0 l.length)=true by
    rw [aO,aO,aO,nP,aJ,aJ,aJ]
    exact ⟨⟨⟨I,hb⟩,.inl hc⟩,by rw [Nat.blt]; exact aJ.2 (by omega)⟩,ag]
theorem iC (hv:View h v l)(I:1≤l.length): ∃id off cap,v=.sl id off l.length cap:=by
 rcases hv.2 with ⟨_,rfl⟩ | ⟨id,off,cap,_,_,_,rfl,_⟩
 ·simp at I
 ·exact ⟨id,off,cap,rfl⟩
theorem dm {k:IntKind}{n:Int}(I:0≤n): gI (some (V.int k n))=some (some n.toNat):=by
 simp only [gI,bndV,fo I,ag]
end
section
variable {P:Program} {h h':H} {S:List au} {X:au} {v w x:V} {cs:List V} {l m:List Nat} {k:Nat}
theorem Ov {t e:TypeId}{i q j:Nat}(s:Sat h S)(J:getA S j=some (.arr q v cs))(hi:i*q+q≤cs.length)(hq:1≤q)(hu:P.underlying t=some (.slice e))(I:bH P e=some q):
  ∃id off,indexAddrV P t v (.int .i64 (i:Int))=some (.ptr id off)∧(cm P e=some true→loadV P h e (.ptr id off)=some (.agg ((cs.drop (i*q)).take q))):=by
 obtain ⟨m,r,h1,h2,h3⟩:=s.at J
 rcases h3.2 with ⟨_,rfl⟩ | ⟨id,n,cap,N,rest,rfl,hg,e1,e2,_⟩
 ·simp at hi; omega
 ·refine ⟨id,i*q,?_,fun ht => ?_⟩
  ·simp only [indexAddrV,hu,I,b9]
   have:i<n:=by
    have h4:i*q+q=(i+1)*q:=by rw [iw,vY]
    rw [h4,e1] at hi
    exact D7 (DS hi hq)
   rw [show (decide ((0:Int)≤(i:Int))&&decide ((i:Int)<(n:Int)))=true by simp; omega,ag]
   simp
  ·rw [Ou ht I (h1 _ _ hg) (by simp; omega) (by omega)]
   rw [DR (by omega),nO (by simp; omega)]
theorem Sat.WT (s:Sat h (aZ v l::X::S))(hX:cT X (cU w m)): ∀i∈rowIds w,i∉rowIds v:=by
 intro i hi jF
 obtain ⟨a,r,h1,h2,h3,b,c,g1,g2,g3,g4,d,e,k1,k2,k3,k4,k5⟩:=s.ok
 have hb:=KE g4 i jF
 have hw:∀q:PM,ie q w m→q i≠none:=fun q J=>by
  rcases J.2 with ⟨rfl | ⟨ea,rfl⟩,_⟩ | ⟨id,off,cap,n,cs,st,rfl,hg,_⟩
  ·simp [rowIds] at hi
  ·simp [rowIds] at hi
  ·simp [rowIds] at hi; subst hi; rw [hg]; simp
 rcases hX _ _ k4 with J | J
 ·have h4:=hw _ J
  cases hd:d i with
  | none=>exact h4 hd
  | some o =>
   rcases g1 i with I | I
   ·exact hb I
   ·rw [k2 _ _ hd] at I; cases I
 ·have h4:=hw _ J
  cases Ow:b i with
  | none=>exact hb Ow
  | some o =>
   rcases h3 i with I | I
   ·rw [g2 _ _ Ow] at I; cases I
   ·exact h4 I
end
end Go.Proofs.YtefepnnfphdkpaaGreat.Am
