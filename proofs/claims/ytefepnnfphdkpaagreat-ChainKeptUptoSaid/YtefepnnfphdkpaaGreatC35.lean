/- ChainKept: a part of its proof; conditions: its statement's. -/
import Derived.Test.YtefepnnfphdkpaaGreatC34
import Derived.Test.YtefepnnfphdkpaaGreatC24
import Derived.Test.YtefepnnfphdkpaaGreatC28
import Derived.WalkKit
import Derived.ProofKit
import Derived.OpenShut
import Derived.ChangeSlices
import Derived.Test.YtefepnnfphdkpaaGreatRows
namespace Go.Proofs.YtefepnnfphdkpaaGreat.Am
open Go
theorem Iu {v:V}{p:Int}(I:v.cells=[v]): buildV Tryz.prog 58 [(0,.int .i64 p),(1,v)]=some (.agg [.int .i64 p,v]):=by
 rw [UZ]
 simp only [fillV,I]
 rfl
theorem K3 : ∃i,Tryz.prog.info? 58=some i∧i.size=2∧i.bytes=32 :=
 ⟨_,(show Tryz.prog.info? 58=some ((Tryz.prog.info? 58).getD default) by kernel_rfl),by kernel_rfl,by kernel_rfl⟩
theorem K4 {h:H}{S:List aq}{tv hv:V}{cs:List V}{m:List (Int×List Nat)}{x:Int×List Nat}(s:Sat h (.cu tv x.2::.arr 2 hv cs::lV cs m::S))(hl:m.length≤1048576):
  ∃bv I w J,buildSliceV Tryz.prog h 56 1 [(0,.agg [.int .i64 x.1,tv])]=some (bv,I)∧appendV Tryz.prog I #[56,56] hv bv=some (w,J)∧Sat J (.arr 2 w (cs++[.int .i64 x.1,tv])::lV (cs++[.int .i64 x.1,tv]) (m++[x])::S):=by
 have z6:=(s.aH (k:=0) rfl (dc _ _)).cells
 have jf:=Et s (k:=2) rfl
 obtain ⟨i1,jb,gi,tc⟩:=K3
 obtain ⟨bv,I,e1,s1⟩:=j7 (P:=Tryz.prog) (k:=2) (x:=.agg [.int .i64 x.1,tv]) s qU Rb Ht rfl (by decide) (by decide) rfl (by simp only [V.cells,ij,iR,z6.2]; rfl)
 obtain ⟨w,J,e2,s2⟩:=fP (s1.ae [2,0]) qU jb Rb gi (by omega) rfl (by decide) (by simp only [V.cells,aO,bB]; omega)
 have s3:=(s2.del 1).ae [1,1,0]
 have s4:=s3.two (C:=lV (cs++[.int .i64 x.1,tv]) (m++[x])) (aS.cu _ _) (aS.lV _ _) fun a b q1 q2=>PB q1 q2
 exact ⟨bv,I,w,J,e1,e2,s4.ae [1]⟩
section
variable {told:cN} {h:H} {S:List aq} {N B n g a p q r bz z i f:Nat} {v w x y tj hv tv kv bv uv wv:V} {R M data b l T:List Nat} {zs:List Int} {cs ds:List V} {m:List (Int×List Nat)} {cL:List (List Nat)} {ε:aF} {now:List (Int×List Nat)}
noncomputable def X3 : Code:=eD [1,1,1,1,1,1,1,0,1,0,0,1,0,0,1,1,1,1,0,1,0,0] ((Tryz.f5.body).getD .skip)
noncomputable def X4 : Code:=eD [1,1,1,1,1,1,1,0,1,0,0,1,0,0,1,1,1,1,1,1,1,0,1,0,0] ((Tryz.f5.body).getD .skip)
noncomputable def X5 : Code:=eD [1,1,1,1,1,1,1,0,1,0,0,1,0,0,1,1,1,1,1,1,1,1,0,1,0,0] ((Tryz.f5.body).getD .skip)
theorem VJ (I:kv=slR bv 0 n)(hn:n≤8192): ∀(d j:Nat) (l:List Nat) (h:H) (E:List (Nat×V)) (Q:Ex→List (Nat×V)→H→Prop),j+d=n→l.length=n+1→Sat h (aR bv l::S) →
  Has E [(0,tj),(1,.int .u8 (f:Int)),(6,.ptr g 0),(7,hv),(8,.int .i64 (i:Int)),(9,tv),(10,kv),(11,.int .i64 (z:Int)),(13,.int .i64 (j:Int))] →
  (∀l' E' h',Has E' [(0,tj),(1,.int .u8 (f:Int)),(6,.ptr g 0),(7,hv),(8,.int .i64 (i:Int)),(9,tv),(11,.int .i64 (z:Int))]→Sat h' (aR bv l'::S)→Q (.exit 2) E' h')→WP ⟨Tryz.prog,told⟩ 142 (.loop X3) E h Q:=by
 intro d
 induction d with
 | zero =>
  intro j l h E Q hj hl s hE hq
  obtain ⟨_,_,J,_⟩:=yo (s.buf (k:=0) rfl) hl
  rw [←I] at J
  refine WP.loop (WP.has hE (zK 5 rfl (zo rfl (aM rfl rfl rfl J) (zh rfl (ag rfl rfl aP) (by simp; omega) ?_))))
  exact zk 2 rfl (WP.exit (hq l _ _ ⟨rfl,rfl,rfl,rfl,rfl,rfl,rfl,aa⟩ s))
 | succ d ih =>
  intro j l h E Q hj hl s hE hq
  obtain ⟨_,k2,J,_⟩:=yo (s.buf (k:=0) rfl) hl
  have k4:=k2 j (by omega)
  rw [←I] at J k4
  obtain ⟨id,off,e3,h2,e4,s2⟩:=iN s (i:=j) (b:=99) (by omega) (by decide)
  rw [←k4] at e3
  refine WP.loop (WP.has hE (zK 5 rfl (zo rfl (aM rfl rfl rfl J) (zt rfl (ag rfl rfl aP) (by simp; omega) ?_))))
  refine zk 4 rfl (WP.block (zK 3 rfl (zo rfl (cx (r:=.ptr id off) rfl rfl e3) (zS rfl (⟨h2,e4,s2⟩) ?_))))
  rintro h s
  refine zv (zr rfl (zm rfl (zb rfl (by first | exact bk (aA (by omega) (by omega)) | rfl) ?_)))
  refine za rfl (zv ?_)
  exact ih (j+1) _ _ _ Q (by omega) (by rw [bQ]; exact hl) s ⟨rfl,rfl,rfl,rfl,rfl,rfl,rfl,rfl,rfl,aa⟩ hq
theorem VK : ∀(d j:Nat) (l:List Nat) (h:H) (E:List (Nat×V)) (Q:Ex→List (Nat×V)→H→Prop),j+d=l.length→l.length≤8192→Sat h (aR uv l::S) →
  Has E [(0,tj),(1,.int .u8 (f:Int)),(6,.ptr g 0),(7,hv),(8,.int .i64 (i:Int)),(9,tv),(11,.int .i64 (z:Int)),(14,uv),(15,.int .i64 0),(16,wv),(17,.int .i64 0),(18,.int .i64 (j:Int))] →
  (∀l' E' h',Has E' [(0,tj),(1,.int .u8 (f:Int)),(6,.ptr g 0),(7,hv),(8,.int .i64 (i:Int)),(9,tv),(11,.int .i64 (z:Int)),(15,.int .i64 0),(16,wv),(17,.int .i64 0)]→Sat h' (aR uv l'::S)→Q (.exit 4) E' h')→WP ⟨Tryz.prog,told⟩ 142 (.loop X4) E h Q:=by
 intro d
 induction d with
 | zero =>
  intro j l h E Q hj hl s I J
  refine WP.loop (WP.has I (zK 5 rfl (zo rfl (aM rfl rfl rfl (aW aG (s.aH (k:=0) rfl (aX _ _)))) (zh rfl (ag rfl rfl aP) (by simp; omega) ?_))))
  exact zk 2 rfl (WP.exit (J l _ _ ⟨rfl,rfl,rfl,rfl,rfl,rfl,rfl,rfl,rfl,rfl,aa⟩ s))
 | succ d ih =>
  intro j l h E Q hj hl s I J
  obtain ⟨id,off,e3,h2,e4,s2⟩:=iN s (i:=j) (b:=98) (by omega) (by decide)
  refine WP.loop (WP.has I (zK 5 rfl (zo rfl (aM rfl rfl rfl (aW aG (s.aH (k:=0) rfl (aX _ _)))) (zt rfl (ag rfl rfl aP) (by simp; omega) ?_))))
  refine zk 4 rfl (WP.block (zK 3 rfl (zo rfl (cx (r:=.ptr id off) rfl rfl e3) (zS rfl (⟨h2,e4,s2⟩) ?_))))
  rintro h s
  refine zv (zr rfl (zm rfl (zb rfl (by first | exact bk (aA (by omega) (by omega)) | rfl) ?_)))
  refine za rfl (zv ?_)
  exact ih (j+1) _ _ _ Q (by rw [bQ]; omega) (by rw [bQ]; exact hl) s ⟨rfl,rfl,rfl,rfl,rfl,rfl,rfl,rfl,rfl,rfl,rfl,rfl,aa⟩ J
theorem VL : ∀(d j:Nat) (ds:List V) (h:H) (E:List (Nat×V)) (Q:Ex→List (Nat×V)→H→Prop),j+d=ds.length→ds.length≤8192→Sat h (.arr 1 wv ds::S) →
  Has E [(0,tj),(1,.int .u8 (f:Int)),(6,.ptr g 0),(7,hv),(8,.int .i64 (i:Int)),(9,tv),(11,.int .i64 (z:Int)),(15,.int .i64 0),(16,wv),(17,.int .i64 0),(19,.int .i64 (j:Int))] →
  (∀E' h',Has E' [(0,tj),(1,.int .u8 (f:Int)),(6,.ptr g 0),(7,hv),(8,.int .i64 (i:Int)),(9,tv),(11,.int .i64 (z:Int)),(15,.int .i64 0),(17,.int .i64 0)]→Sat h' S→Q (.exit 6) E' h')→WP ⟨Tryz.prog,told⟩ 142 (.loop X5) E h Q:=by
 intro d
 induction d with
 | zero =>
  intro j ds h E Q hj hl s I J
  refine WP.loop (WP.has I (zK 5 rfl (zo rfl (aM rfl rfl rfl (s.dF (n:=ds.length) (j:=0) rfl (by rw [cq]) (by decide) bL)) ?_)))
  refine zh rfl (ag rfl rfl aP) (by simp; omega) ?_
  exact zk 2 rfl (WP.exit (J _ _ ⟨rfl,rfl,rfl,rfl,rfl,rfl,rfl,rfl,rfl,aa⟩ s.drop))
 | succ d ih =>
  intro j ds h E Q hj hl s I J
  obtain ⟨id,off,h2,e3,e4,s2⟩:=Io (P:=Tryz.prog) (x:=.int .i64 0) (i:=j) s (by omega) rfl rfl bL kf
  refine WP.loop (WP.has I (zK 5 rfl (zo rfl (aM rfl rfl rfl (s.dF (n:=ds.length) (j:=0) rfl (by rw [cq]) (by decide) bL)) ?_)))
  refine zt rfl (ag rfl rfl aP) (by simp; omega) ?_
  refine zk 4 rfl (WP.block (zK 3 rfl (zo rfl (cx (r:=.ptr id off) rfl rfl e3) (zS rfl (⟨h2,e4,s2⟩) ?_))))
  rintro h s
  refine zv (zr rfl (zm rfl (zb rfl (by first | exact bk (aA (by omega) (by omega)) | rfl) ?_)))
  refine za rfl (zv ?_)
  exact ih (j+1) _ _ _ Q (by rw [bQ]; omega) (by rw [bQ]; exact hl) s ⟨rfl,rfl,rfl,rfl,rfl,rfl,rfl,rfl,rfl,rfl,rfl,aa⟩ J
end
def uA (zs:List Int): List V:=zs.map (V.int .i64)
theorem PC (zs:List Int): (uA zs).length=zs.length:=ew _
section
variable {told:cN} {h:H} {S:List aq} {N B n g a p q r bz z i f:Nat} {v w x y tj hv tv kv bv uv wv:V} {R M data b l T:List Nat} {zs:List Int} {cs ds:List V} {m:List (Int×List Nat)} {cL:List (List Nat)} {ε:aF} {now:List (Int×List Nat)}
noncomputable def X6 : Code:=eD [1,1,1,1,1,1,1,0,1,0,0] ((Tryz.f5.body).getD .skip)
theorem VM (hT:WC told)(Nc:zs.length≤1048576): ∀(d i:Nat) (hv:V) (cs:List V) (m:List (Int×List Nat)) (cL:List (List Nat)) (ε:aF) (now:List (Int×List Nat)) (M:List Nat) (h:H) (E:List (Nat×V)) (Q:Ex→List (Nat×V)→H→Prop),i+d=min zs.length 12 →
  EI 400 3 ε→NW 400 now→iw 400 R M (dW now ε)→kO 400 (dW now ε) cL m→(∀j,j<400→bt M j=(decide (j<2)||decide (j∈cL.flatten)))→cL.flatten.length≤9*i →
  Sat h (.arr 2 hv cs::lV cs m::GA g a p q r data bz now ε::vF 1 tj (uA zs)::S)→Has E [(0,tj),(1,.int .u8 (f:Int)),(6,.ptr g 0),(7,hv),(8,.int .i64 (i:Int))] →
  (∀sL cs' m' Sd ε' b6 M' E' h',EI 400 3 ε'→NW 400 b6→iw 400 R M' (dW b6 ε')→kO 400 (dW b6 ε') Sd m'→(∀j,j<400→bt M' j=(decide (j<2)||decide (j∈Sd.flatten)))→Has E' [(6,.ptr g 0),(7,sL)]→Sat h' (.arr 2 sL cs'::lV cs' m'::GA g a p q r data bz b6 ε'::vF 1 tj (uA zs)::S)→Q (.exit 0) E' h') →
  WP ⟨Tryz.prog,told⟩ 142 (.loop X6) E h Q:=by
 have hW:=hT.w
 have R8:(uA zs).length=zs.length*1:=by rw [PC,cq]
 intro d
 induction d with
 | zero =>
  intro i hv cs m cL ε now M h E Q hi fq hw hp hc hb nu s hE hq
  refine WP.loop (WP.has hE (zK 5 rfl (zo rfl (aM rfl rfl rfl (s.Kq (n:=zs.length) (j:=3) rfl R8 (by decide) bL)) ?_)))
  by_cases h1:i<zs.length
  ·skip
   refine zt rfl (ag rfl rfl aP) (by simp; omega) ?_
   refine zk 2 rfl (zh rfl (ag rfl rfl aP) (by simp; omega) ?_)
   exact zk 3 rfl (WP.exit (hq hv cs m cL ε now M _ _ fq hw hp hc hb ⟨rfl,rfl,aa⟩ s))
  ·skip
   refine zh rfl (ag rfl rfl aP) (by simp; omega) ?_
   exact zk 6 rfl (WP.exit (hq hv cs m cL ε now M _ _ fq hw hp hc hb ⟨rfl,rfl,aa⟩ s))
 | succ d ih =>
  intro i hv cs m cL ε now M h E Q hi fq hw hp hc hb nu s hE hq
  have hz:zs[i]?=some (zs[i]'(by omega)):=aN _
  generalize (zs[i]'(by omega))=z0 at hz
  have P8:(uA zs)[i]?=some (.int .i64 z0):=by rw [uA,gJ,hz]; rfl
  obtain ⟨id,off,e1,e2⟩:=s.VI (P:=Tryz.prog) (j:=3) rfl P8 bL kf
  obtain ⟨n,oZ,Zk⟩:∃n:Nat,min (max z0 0) 4000=(n:Int)∧n≤4000:=⟨(min (max z0 0) 4000).toNat,by omega,by omega⟩
  have xz:=hc.fZ
  have Uu:=hc.used (by decide) hb
  have PS:=yn (M:=M) (N:=400)
  refine WP.loop (WP.has hE (zK 5 rfl (zo rfl (aM rfl rfl rfl (s.Kq (n:=zs.length) (j:=3) rfl R8 (by decide) bL)) ?_)))
  refine zt rfl (ag rfl rfl aP) (by simp; omega) ?_
  refine zk 2 rfl (zt rfl (ag rfl rfl aP) (by simp; omega) ?_)
  refine zk 5 rfl (WP.block (zK 4 rfl (zo rfl (cx (r:=.ptr id off) rfl rfl e1) (zl rfl (e2 _ dY) (zo rfl (Dm rfl rfl R6) (zo rfl (Dm (r:=.int .i64 (n:Int)) rfl rfl (Ie.trans (by rw [oZ]))) ?_))))))
  refine zk 2 rfl (zo rfl (cF rfl Cf) (zb rfl K1 (zc rfl (MV (n:=n) (f:=(f+i)%256) hW (by omega) s) ?_)))
  intro tv h s
  have J:(mj ((f+i)%256) n).length=n:=rR
  generalize mj ((f+i)%256) n=T at s J
  have s:=s.gF
  have Zl:=(s.aH (k:=0) rfl (dc _ _)).1
  refine zk 4 rfl ?_
  obtain ⟨h1,e3,s1⟩:=Ph (P:=Tryz.prog) s aG WA Q5 rfl (by decide)
  refine az.any rfl rfl rfl (OpR.of (R:=fun v h'=>v=.sl h.next 0 0 (.exact 0)∧h'=h1) (kn rfl e3) ⟨rfl,rfl⟩) ?_
  rintro v h' ⟨rfl,rfl⟩
  have s:=Pj s1
  refine zm rfl (az.any rfl rfl rfl (OpR.ni rfl s (dc _ _) rfl rfl rfl rfl (by rw [bB]; omega)) ?_)
  intro u0 h s
  rw [cV] at s
  refine az.any rfl rfl rfl (OpR.CA (n:=201) rfl s rfl rfl rfl (by decide)) ?_
  intro w0 h s
  refine az.any rfl rfl rfl (OpR.ni rfl (s.ae [1,0]) (aX _ _) rfl rfl rfl rfl (by rw [aO,bB]; omega)) ?_
  intro bv h s
  have s:=(s.del 1).ae [2,2,2,0,0,0]
  dsimp only [bringA,getA,aV] at s
  have oB:(T++[201]).length=n+1:=by rw [bD,J]; rfl
  have vL:(T++[201]).take n=T:=by rw [r7 (by omega),dO (by omega)]
  have hY:=SV (aX bv (T++[201])) (b:=n) (by omega)
  rw [vL] at hY
  refine zm rfl (zo rfl (aM rfl rfl rfl (aW aG (s.aH (k:=4) rfl (dc _ _)))) ?_)
  rw [J]
  refine zo rfl (eV (p:=none) (q:=some (.int .i64 (n:Int))) (m:=none) (p':=none) (q':=some n) (m':=none) rfl rfl rfl rfl rfl (by simp [gN,bndV]) rfl (LP (s.buf (k:=3) rfl).view (b:=n) (by omega)).1) ?_
  obtain ⟨k,hk⟩:∃k,jB T.length=k:=⟨_,rfl⟩
  have vp:=ud (n:=T.length)
  have Zm:k≤9:=by
   rw [←hk]
   unfold jB
   split <;> omega
  have uM:1≤k:=by omega
  have Uv:k≤(cf M 400).length:=by omega
  have MY:flatL (chunks T k)=T:=by rw [←hk]; exact Ar
  have J0:((cf M 400).take k).length=k:=by rw [e_]; omega
  obtain ⟨z,qs,rf,F8⟩:=headD_cons (L:=(cf M 400).take k) (by omega)
  have K2:qs.length≤1000:=by have:=fb List.length rf; rw [aO] at this; omega
  have rM:∀x∈z::qs,x<400:=fun x hx=>(mz.1 (fC (rf ▸ hx))).1
  have s:=s.ae [2,2]
  dsimp only [bringA,getA,aV] at s
  refine zk 6 rfl (zc rfl (Ce (b:=T) (M:=M) (m:=k) hW (by decide) hY (by omega) fq hw hp hk Uv s) ?_)
  rintro v h ⟨qV,I,M1,rfl,nG,iM,rj,Es,oC,s⟩
  obtain ⟨js,mV⟩:=hc.wrote hp hb Es hk Uv oC (by omega)
  rw [F8] at js ⊢
  rw [rf] at oC
  have X7:=(s.aH (k:=4) rfl (dc _ _)).cells
  have xH:(T++[201])[n]?=some 201:=by rw [iP (by omega),J,nT]; rfl
  obtain ⟨id,off,e1,e2⟩:=dN (s.buf (k:=1) rfl).view xH
  have zY:(n:Int)+1=((n+1:Nat):Int):=by omega
  refine zk 10 rfl (zh rfl (ag rfl rfl aJ) (rfl) (zk 2 rfl (zo rfl (cF rfl (DW (s.aH (k:=1) rfl hY))) (zm rfl (zo rfl (cF rfl (DW (s.aH (k:=4) rfl (dc _ _)))) (zh rfl (ag rfl rfl Nt) (by simp) ?_))))))
  refine zk 4 rfl (zo rfl (aM rfl rfl rfl (aW aG (s.aH (k:=4) rfl (dc _ _)))) ?_)
  rw [J]
  refine zo rfl (ag (r:=.int .i64 ((n+1:Nat):Int)) rfl rfl ((bk (aA (by omega) (by omega))).trans (by rw [zY]))) ?_
  refine zo rfl (eV (p:=none) (q:=some (.int .i64 ((n+1:Nat):Int))) (m:=none) (p':=none) (q':=some (n+1)) (m':=none) rfl rfl rfl rfl rfl (by rw [eX (by omega),ck]) rfl (yo (s.buf (k:=1) rfl) oB).1) ?_
  refine zm rfl (zo rfl (aM rfl rfl rfl (aW aG (s.aH (k:=4) rfl (dc _ _)))) ?_)
  rw [J]
  refine zo rfl (cx (r:=.ptr id off) rfl rfl e1) (zl rfl e2 (zh rfl (ag rfl rfl aJ) (by simp) ?_))
  refine zk 9 rfl (WP.block ?_)
  have s:=s.ae [1,0]
  dsimp only [bringA,getA,aV] at s
  refine VJ (n:=n) rfl (by omega) n 0 (T++[201]) _ _ _ (by omega) oB s ⟨rfl,rfl,rfl,rfl,rfl,rfl,rfl,rfl,rfl,aa⟩ (fun l1 E' h' hE s' => ?_)
  have s:=s'.ae [1,0]
  dsimp only [bringA,getA,aV] at s
  refine WP.has hE (zK 3 rfl (zo rfl (pF rfl (m_ j8 rfl)) (zm rfl (zc rfl (yl hT (vK W.base (by decide) rj) ⟨rfl,rfl,by simp [V.beq]⟩ (by decide) nG oC rM K2 (by rw [MY]; omega) s) ?_))))
  rintro v h ⟨uv,kP,rfl,mc,kA,s⟩
  rw [MY] at s
  have c2:kM (dW I kP) (z::qs) (chunks T k):=by rw [jd kA]; exact oC
  have s:=s.ae [1,0]
  dsimp only [bringA,getA,aV] at s
  refine zk 9 rfl (zo rfl (pF rfl (m_ j8 rfl)) (zm rfl (zc rfl (Ca hT (vK W.base (by decide) rj) ⟨rfl,rfl,by simp [V.beq]⟩ (by decide) mc c2 rM K2 (by rw [MY]; omega) s) ?_)))
  rintro v h ⟨wv,yf,rfl,th,qT,s⟩
  have lU:dW I yf=dW I qV:=by rw [jd qT,jd kA]
  have s:=s.ae [2,0]
  dsimp only [bringA,getA,aV] at s
  refine zk 11 rfl (WP.block ?_)
  refine VK T.length 0 T _ _ _ (by omega) (by omega) s ⟨rfl,rfl,rfl,rfl,rfl,rfl,rfl,rfl,rfl,rfl,rfl,rfl,aa⟩ (fun l2 E' h' hE s' => ?_)
  have s:=s'.ae [1,0]
  dsimp only [bringA,getA,aV] at s
  refine WP.has hE (zK 5 rfl (WP.block ?_))
  refine VL (bE (z::qs)).length 0 _ _ _ _ (by omega) (by rw [eL,aO]; omega) s ⟨rfl,rfl,rfl,rfl,rfl,rfl,rfl,rfl,rfl,rfl,rfl,aa⟩ (fun E' h' hE s' => ?_)
  have s:=s'
  refine WP.has hE (zK 4 rfl (zh rfl (ag rfl rfl aJ) (rfl) (zk 2 rfl (zh rfl (ag rfl rfl aJ) (rfl) (zk 8 rfl (zo rfl (cW (r:=.agg [.int .i64 (z:Int),tv]) rfl (Iu X7.1)) ?_))))))
  obtain ⟨xv,h1,w,h2,e3,e4,s2⟩:=K4 (x:=((z:Int),T)) (s.ae [5,3,3]) (by omega)
  refine az.any rfl rfl rfl (OpR.of (R:=fun v h'=>v=xv∧h'=h1) (kn rfl e3) ⟨rfl,rfl⟩) ?_
  rintro xv h1 ⟨rfl,rfl⟩
  refine az.any rfl rfl rfl (OpR.of (R:=fun v h'=>v=w∧h'=h2) (kj rfl rfl e4) ⟨rfl,rfl⟩) ?_
  rintro w h2 ⟨rfl,rfl⟩
  refine za rfl (zv (zr rfl (zm rfl (zb rfl (by exact bk (aA (by omega) (by omega))) ?_))))
  refine za rfl (zv ?_)
  refine ih (i+1) _ _ _ _ yf I M1 _ _ Q (by omega) th rj (by rw [lU]; exact Es.KW) (by rw [lU]; exact js) mV ?_ (((s2.ae [0,0,1,2]).del 5).del 4) ⟨rfl,rfl,rfl,rfl,rfl,aa⟩ hq
  rw [pO,bD,show [(cf M 400).take k].flatten=(cf M 400).take k by simp,J0]
  omega
end
section
variable {told:cN} {h:H} {S:List aq} {tj:V} {zs:List Int} {f:Nat}
theorem Sat.Se (s:Sat h S): Sat h (.arr 2 .bp []::lV [] []::S):=(Sat.gp (φ:=True) s aa).l7
theorem MZ (I:WC told)(Nc:zs.length≤1048576)(s:Sat h (vF 1 tj (uA zs)::S)): Call ⟨Tryz.prog,told⟩ 5 [tj,.int .u8 (f:Int)] h fun v h'=>v=.bool true:=by
 have hW:=I.w
 refine Call.of_wp (hW.free _ rfl) Tryz.func5 rfl rfl (zK 7 rfl (zc rfl (Is I s) ?_))
 rintro v h ⟨rfl,s⟩
 refine zo rfl (fo rfl rfl) (zk 5 rfl (zc rfl (uz (n:=400) (m:=1048576) (f:=24) I.ws (by decide) (by decide) (by decide) (by decide) (by decide) (by decide) s) ?_))
 rintro v h ⟨p,a,q,r,ε,rfl,fq,hp,hd,s⟩
 refine zk 6 rfl (zh rfl (ag rfl rfl (tX vB)) (rfl) (zk 6 rfl (zc rfl (Cb hW s) ?_)))
 rintro v h ⟨g,rfl,s⟩
 refine zk 6 rfl (zh rfl (ag rfl rfl (tX j8)) (rfl) ?_)
 have s:=s.Se
 refine zk 12 rfl (WP.block ?_)
 refine VM I Nc (min zs.length 12) 0 .bp [] [] [] ε [] oN _ _ _ (by omega) fq (NW.nil 400) hp kO.nil (fun j _=>by rw [Ei]; simp) (dR _) s ⟨rfl,rfl,rfl,rfl,rfl,aa⟩ (fun hv cs m cL qV VF M1 E' h' J rj D9 oC mV hE s' => ?_)
 have s:=s'
 refine WP.has hE (zK 3 rfl (zo rfl (pF rfl (m_ j8 rfl)) (zm rfl (zc rfl (PA I (vK W.base (by decide) rj) (vK hW (by decide) rj) ⟨rfl,rfl,by simp [V.beq]⟩ (by decide) (by decide) J D9 oC mV s) ?_))))
 rintro v h ⟨rfl,_⟩
 refine zk 2 rfl (WP.ret ⟨aa,_,rfl,?_⟩)
 rfl
end
def Eu (c:Ctx): Prop:=∀id,id<c.N→c.X id=true
noncomputable def Ctx.fix (c:Ctx)(w:World)(b off:Nat): Ctx:=⟨fun i=>if i=c.N then (b,off) else c.ρ i,fun x=>if x=b then rowSize w b else c.Z x,c.N+1,fun i=>if i=c.N then true else c.X i⟩
theorem Rel.fix {c:Ctx}{σ:H}{w:World}(h:Rel c σ w)(hX:Eu c){b off:Nat}{cs:List V}{C:Array Value}{e:TypeId}{fz:Nat×Nat}(hb:w.heap[b]?=some (.cells C e fz))(hl:off+cs.length≤C.size)
 (hc:∀j v,cs[j]?=some v→C[off+j]?=some (conc c v))(iL:∀v∈cs,wf c v∧storable v=true):
  Rel (c.fix w b off) (σ.new (.cells cs.length cs true)) w∧Eu (c.fix w b off)∧Ext c (c.fix w b off)∧(c.fix w b off).ρ σ.next=(b,off)∧σ.next<(c.fix w b off).N:=by
 have hold:∀i,i<c.N→(c.fix w b off).ρ i=c.ρ i:=fun i hi=>by simp [Ctx.fix,fE hi]
 have yF:∀i,i<c.N→(c.fix w b off).X i=c.X i:=fun i hi=>by simp [Ctx.fix,fE hi]
 have I:(c.fix w b off).ρ c.N=(b,off):=by simp [Ctx.fix]
 have X8:(c.fix w b off).X c.N=true:=by simp [Ctx.fix]
 have hN:(c.fix w b off).N=c.N+1:=rfl
 have a_:b<w.heap.size:=(Array.getElem?_eq_some_iff.1 hb).1
 have kT:Eu (c.fix w b off):=fun i hi=>by
  by_cases J:i=c.N
  ·rw [J]; exact X8
  ·rw [yF i (by rw [hN] at hi; omega)]; exact hX i (by rw [hN] at hi; omega)
 have ex:Ext c (c.fix w b off):=⟨by rw [hN]; omega,hold,fun i hi=>by
  show (if (c.ρ i).1=b then rowSize w b else c.Z (c.ρ i).1)=_
  split
  ·rename_i he; rw [h.zz i hi,he]
  ·rfl,yF⟩
 have key:∀i o,(σ.new (.cells cs.length cs true)).tr.get i=some o→(i=c.N∧o=.cells cs.length cs true)∨(i<c.N∧σ.tr.get i=some o):=by
  intro i o hi
  rw [fW,h.next] at hi
  by_cases J:i=c.N
  ·simp [J] at hi; exact .inl ⟨J,hi.symm⟩
  ·simp [J] at hi; exact .inr ⟨h.live i o hi,hi⟩
 refine ⟨⟨by simp [H.new,h.next,hN],fun i o hi => ?_,fun i hi => ?_,fun i hi => ?_,fun i j o o' hi hj he => ?_,fun i o hi => ?_,fun i mI j9 hi hx => ?_,fun i o hi hx => ?_⟩,kT,ex,by rw [h.next]; exact I,by rw [h.next,hN]; omega⟩
 ·rw [hN]; rcases key i o hi with ⟨J,_⟩ | ⟨J,_⟩ <;> omega
 ·rw [hN] at hi
  by_cases J:i=c.N
  ·rw [J,I]; exact a_
  ·rw [hold i (by omega)]; exact h.je i (by omega)
 ·rw [hN] at hi
  by_cases J:i=c.N
  ·rw [J,I]; show (if b=b then rowSize w b else c.Z b)=_; rw [au rfl]
  ·rw [hold i (by omega)]
   show (if (c.ρ i).1=b then rowSize w b else c.Z (c.ρ i).1)=_
   split
   ·rename_i he; rw [he]
   ·exact h.zz i (by omega)
 ·have li:i<c.N+1:=by rcases key i o hi with ⟨J,_⟩ | ⟨J,_⟩ <;> omega
  have lj:j<c.N+1:=by rcases key j o' hj with ⟨J,_⟩ | ⟨J,_⟩ <;> omega
  exact .inr ⟨kT i (by rw [hN]; exact li),kT j (by rw [hN]; exact lj)⟩
 ·rcases key i o hi with ⟨rfl,rfl⟩ | ⟨a1,a2⟩
  ·refine ⟨rfl,fun v hv=>⟨(bX ex v (iL v hv).1).2,(iL v hv).2⟩,C,e,fz,by rw [I]; exact hb,by rw [I]; exact hl,fun j v hj => ?_,aa⟩
   rw [I,(bX ex v (iL v (aY hj)).1).1]
   exact hc j v hj
  ·exact (h.obj i o a2).later ex a1 rfl
 ·have li:i<c.N+1:=by rcases key i _ hi with ⟨J,_⟩ | ⟨J,_⟩ <;> omega
  rw [kT i (by rw [hN]; exact li)] at hx; cases hx
 ·rcases key i o hi with ⟨_,rfl⟩ | ⟨a1,a2⟩
  ·exact ⟨_,_,rfl⟩
  ·rw [yF i a1] at hx; exact h.fx i o a2 hx
theorem Fk {c c':Ctx}{w w':World}(hX:Eu c)(h:bY c w c' w'): w.keptBut w' (fun _=>False)∧w.heap.size≤w'.heap.size∧∀b,b<w.heap.size→w'.heap[b]?=w.heap[b]?:=by
 have J:∀b,b<w.heap.size→w'.heap[b]?=w.heap[b]?:=fun b hb=>h.kF b hb fun id I _=>hX id I
 refine ⟨⟨h.sys.1,h.sys.2,fun i hi => ?_⟩,h.size,J⟩
 rw [J i hi]
 split <;> simp_all
end Go.Proofs.YtefepnnfphdkpaaGreat.Am
namespace Go.Proofs.YtefepnnfphdkpaaGreat.Am
open Go Go.ChangeShapes
def vO (W:World)(S:List aq)(c:Ctx)(σ:H): Prop:=Rel c σ W∧Eu c∧Sat σ S
theorem vO.zero (W:World): ∃c σ,vO W [] c σ:=by
 refine ⟨_,_,Rel.empty W,fun id h=>absurd h (AL _),⟨fun id o h=>by simp [T.iB] at h,fun _=>none,fun _=>none,fun _ _ h=>(by cases h),fun _ _ h=>(by cases h),fun _=>.inl rfl,aa⟩⟩
theorem vO.sat {W:World}{S S':List aq}{c:Ctx}{σ:H}(h:vO W S c σ)(hs:∀h,Sat h S→Sat h S'): vO W S' c σ:=⟨h.1,h.2.1,hs σ h.2.2⟩
def ny {α:Type}(W:World)(cs:List Value)(E:List V→α→aq)(φ:α→Prop): Prop :=
 ∀(c:Ctx) (σ:H) (S:List aq),vO W S c σ→∃(c':Ctx) (I:H) (J:List V) (x:α),vO W (E J x::S) c' I∧Ext c c'∧J.map (conc c')=cs∧(∀v∈J,wf c' v∧storable v=true)∧φ x
theorem ny.rows {W:World}{α:Type}{E:List V→α→aq}{A:List V→List α→aq}{φ:α→Prop}(hE:∀vs x,aS (E vs x))(hA:∀l m,aS (A l m))(xJ:∀m r,(A [] []).p m r)(J:∀vs x l m a b,(E vs x).p a b→(A l m).p a b→(A (vs++l) (x::m)).p a b):
  ∀(I:List (List Value)),(∀cs∈I,ny W cs E φ)→ny W I.flatten A (fun xs=>xs.length=I.length∧∀x∈xs,φ x):=by
 intro I
 induction I with
 | nil =>
  intro _ c σ S h
  exact ⟨c,σ,[],[],h.sat fun h s=>(s.gp (φ:=True) aa).hU fun m r _=>xJ m r,Ext.refl c,rfl,fun v hv=>(by cases hv),rfl,fun x hx=>(by cases hx)⟩
 | cons cs I ih =>
  intro hc c σ S h
  obtain ⟨c1,VN,l,m,h1,e1,m1,w1,n1,p1⟩:=ih (fun x hx=>hc x (cj _ hx)) c σ S h
  obtain ⟨c2,YK,vs,x,h2,e2,m2,w2,p2⟩:=hc cs cz c1 VN _ h1
  obtain ⟨q1,q2⟩:=jW e2 fun v hv=>(w1 v hv).1
  refine ⟨c2,YK,vs++l,x::m,h2.sat fun h s=>s.two (hE _ _) (hA _ _) fun a b k1 k2=>J _ _ _ _ _ _ k1 k2,e1.trans e2,?_,fun v hv => ?_,by simp [n1],fun y hy => ?_⟩
  ·rw [vW,m2,q1,m1,List.flatten_cons]
  ·rcases List.mem_append.1 hv with hv | hv
   ·exact w2 v hv
   ·exact ⟨q2 v hv,(w1 v hv).2⟩
  ·rcases List.mem_cons.1 hy with rfl | hy
   ·exact p2
   ·exact p1 y hy
def K5 {α:Type}(k:Nat)(A:List V→List α→aq)(I:List V)(x:List α): aq:=.xs fun v:V=>.xs fun cs:List V=>.an (.pu (I=[v])) (.an (vF k v cs) (A cs x))
theorem ny.VO {W:World}{α:Type}{k:Nat}{A:List V→List α→aq}{φ:List α→Prop}(I:∀m r,(A [] []).p m r)(J:φ []): ny W [.slice none 0 0] (K5 k A) φ:=fun c σ S h =>
 ⟨c,σ,[.bp],[],h.sat fun h s=>(s.gp (φ:=True) aa).hU fun m r _=>⟨.bp,[],rfl,⟨none,.inl rfl,rfl⟩,I m r⟩,Ext.refl c,by simp [conc],fun v hv=>by rw [List.mem_singleton.1 hv]; exact ⟨aa,rfl⟩,J⟩
theorem ny.Sf {W:World}{α:Type}{k:Nat}{A:List V→List α→aq}{φ:List α→Prop}{a:Addr}(I:∀m r,(A [] []).p m r)(J:φ []): ny W [.slice (some a) 0 0] (K5 k A) φ:=fun c σ S h =>
 ⟨c,σ,[.sle a],[],h.sat fun h s=>(s.gp (φ:=True) aa).hU fun m r _=>⟨.sle a,[],rfl,⟨none,.inr ⟨a,rfl⟩,rfl⟩,I m r⟩,Ext.refl c,by simp [conc],fun v hv=>by rw [List.mem_singleton.1 hv]; exact ⟨aa,rfl⟩,J⟩
theorem ny.VQ {W:World}{α:Type}{k b off len cap:Nat}{A:List V→List α→aq}{φ:List α→Prop}{cs:List Value}{C:Array Value}{e:TypeId}{fz:Nat×Nat}(hb:W.heap[b]?=some (.cells C e fz))(hl:off+cs.length≤C.size)(hn:cs.length=len*k)(tF:len≤cap)
 (hc:∀j v,cs[j]?=some v→C[off+j]?=some v)(hA:∀l m,aS (A l m))(ho:ny W cs A φ): ny W [.slice (some ⟨b,off,none⟩) len cap] (K5 k A) φ:=by
 intro c σ S h
 obtain ⟨c1,I,J,x,h1,e1,m1,w1,p1⟩:=ho c σ S h
 have hlen:J.length=cs.length:=by rw [←m1,ew]
 obtain ⟨g1,g2,g3,g4,g5⟩:=h1.1.fix h1.2.1 hb (cs:=J) (off:=off) (by omega) (fun j v hv=>hc j _ (by rw [←m1,gJ,hv]; rfl)) w1
 refine ⟨_,_,[.sl I.next 0 len (.exact cap)],x,⟨g1,g2,?_⟩,e1.trans g3,?_,fun v hv => ?_,p1⟩
 ·have s1:Sat (I.new (.cells J.length J true)) (.ro I.next (.cells J.length J true)::A J x::S):=(h1.2.2.new _).freeze
  refine s1.two (aS.ro _ _) (hA _ _) fun m r k1 k2=>⟨_,J,rfl,⟨some (I.next,len,cap),k1,rfl,by rw [hlen,hn]⟩,k2⟩
 ·simp [conc,g4]
 ·rw [List.mem_singleton.1 hv]
  exact ⟨⟨g5,tF⟩,rfl⟩
theorem M3 {W:World}{a:Addr}{v:Value}(h:W.cell? a=some v): ∃b off,a=⟨b,off,none⟩∧∃C e I,W.heap[b]?=some (.cells C e I)∧C[off]?=some v:=by
 obtain ⟨b,off,spot⟩:=a
 have hs:spot=none:=World.cell?_spot h
 subst hs
 refine ⟨b,off,rfl,?_⟩
 unfold World.cell? at h
 split at h
 ·rename_i C e I J
  exact ⟨C,e,I,J,by simpa using h⟩
 ·cases h
theorem PD {α β:Type}{f:α→β}{l:List α}{b:β}(h:l.map f=[b]): ∃a,l=[a]∧f a=b:=by
 rcases l with _ | ⟨a,_ | ⟨c,l⟩⟩
 ·cases h
 ·simp at h; exact ⟨a,rfl,h⟩
 ·simp at h
end Go.Proofs.YtefepnnfphdkpaaGreat.Am
namespace Go.Proofs.YtefepnnfphdkpaaGreat.Am
open Go Go.ChangeShapes Go.WideShapes Go.ChangeAt Go.RowKit
theorem M4 {H:Type}(d:DataW H): 1≤Rows.uptoBulk d:=by
 cases d with
 | lit l=>cases l <;> simp [Rows.uptoBulk]
 | nil=>simp [Rows.uptoBulk]
 | ptr d=>simp [Rows.uptoBulk]
 | slice elems spare=>simp [Rows.uptoBulk]
 | agg parts=>simp [Rows.uptoBulk]
 | iface t d=>simp [Rows.uptoBulk]
 | map entries=>simp [Rows.uptoBulk]
 | held h=>simp [Rows.uptoBulk]
theorem Ch {H:Type}{d:DataW H}: ∀ {l:List (DataW H)},d∈l→Rows.uptoBulk d≤Rows.uptoBulkAll l:=by
 intro l
 induction l with
 | nil=>intro h; cases h
 | cons x r I =>
  intro h
  simp only [Rows.uptoBulkAll]
  rcases List.mem_cons.1 h with e | e
  ·subst e; omega
  ·have:=I e; omega
theorem M5 {H:Type}: ∀(l:List (DataW H)),l.length≤Rows.uptoBulkAll l:=by
 intro l
 induction l with
 | nil=>exact dR _
 | cons x r I=>have:=M4 x; simp only [Rows.uptoBulkAll,aO]; omega
theorem Iv {H:Type}(a b:List (DataW H)): Rows.uptoBulk (.slice a b)=Rows.uptoBulkAll a+Rows.uptoBulkAll b+1:=by simp only [Rows.uptoBulk]
theorem PE {W:World}{b o:Nat}{C:Array Value}{e:TypeId}{I:Nat×Nat}(J:W.heap[b]?=some (.cells C e I)): W.cell? ⟨b,o,none⟩=C[o]?:=by
 unfold World.cell?
 simp only [J]
 rfl
section
variable {H':Type} {enc:TypeId×Value→H'} {W:World} {fuel B:Nat} {cs:List Value} {x:DataW H'×List MemPlace}
theorem K6 {α:Type}{t e:TypeId}{k:Nat}{E:List V→α→aq}{A:List V→List α→aq}{φ:α→Prop}(ht:Tryz.prog.underlying t=some (.slice e))(hk:Tryz.prog.cellsOf e=k)(h1:1≤k)
 (hE:∀vs x,aS (E vs x))(hA:∀l m,aS (A l m))(J:∀m r,(A [] []).p m r)(GW:∀vs x l m a b,(E vs x).p a b→(A l m).p a b→(A (vs++l) (x::m)).p a b)
 (FJ:∀n cs (y:DataW H'×List MemPlace),DataW.trod enc Tryz.prog W 0 (fun _=>true) true n e cs=some y→Rows.uptoBulk y.1≤B→ny W cs E φ)
 (h:DataW.trod enc Tryz.prog W 0 (fun _=>true) true fuel t cs=some x)(hB:Rows.uptoBulk x.1≤B): ny W cs (K5 k A) (fun xs=>xs.length≤B∧∀x∈xs,φ x):=by
 rcases DataW.trod_slice ht h with ⟨rfl,rfl⟩ | ⟨a,len,cap,elems,rest,n,_,rfl,rfl,_,RG,_,hlen,M6,D3,_⟩
 ·exact ny.VO J ⟨dR _,fun x hx=>(by cases hx)⟩
 ·obtain ⟨WY,N9⟩:=D3 rfl
  rw [hk] at M6 N9
  rw [Iv] at hB
  by_cases h0:cap=0
  ·have:len=0:=by omega
   subst this
   subst h0
   exact ny.Sf J ⟨dR _,fun x hx=>(by cases hx)⟩
  ·-- each element's cells
   have each:∀i,i<cap→∃cs,W.cells? 0 (a.add (i*k)) k=some cs:=fun i hi=>by
    by_cases Dp:i<len
    ·have h2:=M6 i Dp
     rw [aN (by omega)] at h2
     obtain ⟨cs,h3,_⟩:=Option.bind_eq_some_iff.1 h2
     exact ⟨cs,h3⟩
    ·have h2:=N9 (i-len) (by omega)
     rw [aN (by omega),show len+(i-len)=i by omega] at h2
     obtain ⟨cs,h3,_⟩:=Option.bind_eq_some_iff.1 h2
     exact ⟨cs,h3⟩
   obtain ⟨X9,VR⟩:=each 0 (by omega)
   obtain ⟨_,BG,X_⟩:=World.cells?_some VR
   have g0:=X_ 0 (by omega)
   obtain ⟨v0,Ya⟩:∃v,X9[0]?=some v:=⟨_,aN (by omega)⟩
   rw [Ya] at g0
   obtain ⟨b,off,spot⟩:=a
   have hs:spot=none:=by simpa [Addr.add] using World.cell?_spot g0
   subst hs
   simp only [add_plain,sF,ik] at g0
   obtain ⟨b',off',he,C,ty,fz,hb,oC⟩:=M3 g0
   simp only [Addr.mk.injEq,sI] at he
   obtain ⟨rfl,rfl⟩:=he
   have YL:off<C.size:=(Array.getElem?_eq_some_iff.1 oC).1
   -- the rows
   have rows:∀i,i<len→∃cs,cs.length=k∧ny W cs E φ∧∀q v,cs[q]?=some v→C[off+i*k+q]?=some v:=fun i hi=>by
    have h2:=M6 i hi
    rw [aN (by omega)] at h2
    obtain ⟨cs,h3,h4⟩:=Option.bind_eq_some_iff.1 h2
    obtain ⟨_,hl,hc⟩:=World.cells?_some h3
    refine ⟨cs,hl,FJ n cs _ h4 ?_,fun q v hq => ?_⟩
    ·have:=Ch (l:=elems.map (·.1)) (List.mem_map_of_mem (pR (l:=elems) (n:=i) (by omega)))
     omega
    ·have Yb:q<k:=by rw [←hl]; exact (List.getElem?_eq_some_iff.1 hq).1
     have:=hc q Yb
     rw [add_plain,add_plain,PE hb,hq] at this
     exact this
   have build:∀m,m≤len→∃I:List (List Value),I.length=m∧(∀cs∈I,ny W cs E φ)∧I.flatten.length=m*k∧∀j v,I.flatten[j]?=some v→C[off+j]?=some v:=by
    intro m
    induction m with
    | zero=>intro _; exact ⟨[],rfl,fun cs h=>(by cases h),by simp,fun j v h=>by simp at h⟩
    | succ m ih =>
     intro hm
     obtain ⟨I,i1,i2,i3,i4⟩:=ih (by omega)
     obtain ⟨cs,r1,r2,r3⟩:=rows m (by omega)
     refine ⟨I++[cs],by simp [i1],fun y hy => ?_,by simp [i3,r1,gL],fun j v hj => ?_⟩
     ·rcases List.mem_append.1 hy with hy | hy
      ·exact i2 y hy
      ·rw [List.mem_singleton.1 hy]; exact r2
     ·rw [pO,List.flatten_singleton] at hj
      by_cases a_:j<m*k
      ·rw [gx (by rw [i3]; exact a_)] at hj
       exact i4 j v hj
      ·rw [iP (by rw [i3]; omega),i3] at hj
       have:=r3 _ v hj
       rwa [show off+m*k+(j-m*k)=off+j by omega] at this
   obtain ⟨I,b1,b2,b3,b4⟩:=build len (aD _)
   have fg:off+I.flatten.length≤C.size:=by
    rw [b3]
    by_cases BG:len*k=0
    ·omega
    ·obtain ⟨v,hv⟩:∃v,I.flatten[len*k-1]?=some v:=⟨_,aN (by rw [b3]; omega)⟩
     have:=(Array.getElem?_eq_some_iff.1 (b4 _ v hv)).1
     omega
   have main:=ny.VQ (k:=k) (len:=len) (cap:=cap) hb fg b3 RG b4 hA (ny.rows hE hA J GW I b2)
   intro c σ S h
   obtain ⟨c1,VN,vs,x,q1,q2,q3,q4,q5,q6⟩:=main c σ S h
   refine ⟨c1,VN,vs,x,q1,q2,q3,q4,?_,q6⟩
   have:=M5 (elems.map (·.1))
   rw [ew] at this
   omega
end
end Go.Proofs.YtefepnnfphdkpaaGreat.Am
namespace Go.Proofs.YtefepnnfphdkpaaGreat.Am
open Go
noncomputable def CG (f:Nat): Option (List V→H→Option (V×H)) :=
 cond (Nat.beq f 31) (some (lp Tryz.prog 31 (Eg 31))) (cond (Nat.beq f 50) (some (lp Tryz.prog 50 (Il 50))) (mh f))
noncomputable abbrev CC : b8:=⟨Tryz.prog,CG⟩
theorem M7 : WC CG:=by
 refine ⟨⟨fun f I => ?_,rfl,rfl⟩,rfl,rfl⟩
 have J:f≠31:=fun e=>by subst e; revert I; decide
 have h2:f≠50:=fun e=>by subst e; revert I; decide
 simp only [CG,cT J,cT h2,ay]
 exact W.base.free f I
theorem Ev : fe CC:=by
 intro f g I
 simp only [CC,CG] at I ⊢
 by_cases J:f=31
 ·subst J
  rw [gY rfl,af] at I
  simp only [aj] at I
  subst I
  exact B2 ⟨_,Eh,rfl,by decide⟩
 ·rw [cT J,ay] at I
  by_cases h2:f=50
  ·subst h2
   rw [gY rfl,af] at I
   simp only [aj] at I
   subst I
   exact B2 ⟨_,Em,rfl,by decide⟩
  ·rw [cT h2,ay] at I
   exact xU f g I
theorem iE.Yc {f:FuncId}{args:List V}{h h':H}{v:V}(hd:iE CC f args h v h'){c:Ctx}{w:World}(I:Rel c h w)(hw:∀x∈args,wf c x): gm Tryz.prog f args c w v h':=by
 obtain ⟨N,J⟩:=hd
 exact (nW (C:=CC) (yU Ae Ev N).1 Ev J I hw).1
end Go.Proofs.YtefepnnfphdkpaaGreat.Am
namespace Go.Proofs.YtefepnnfphdkpaaGreat.Am
open Go Go.ChangeShapes Go.WideShapes Go.ChangeAt Go.RowKit
theorem PF : Tryz.prog.cellsOf 3=1:=by kernel_rfl
def Yd (I:List V)(x:Int): aq:=.pu (I=[.int .i64 x])
def VS (l:List V)(m:List Int): aq:=.pu (l=uA m)
theorem PG {H':Type}{enc:TypeId×Value→H'}{W:World}{fuel B:Nat}{cs:List Value}{x:DataW H'×List MemPlace}(h:DataW.trod enc Tryz.prog W 0 (fun _=>true) true fuel 33 cs=some x)(hB:Rows.uptoBulk x.1≤B): ny W cs (K5 1 VS) (fun xs=>xs.length≤B∧∀y∈xs,True) :=
 K6 (E:=Yd) bL PF (by decide) (fun _ _=>aS.pu _) (fun _ _=>aS.pu _) (fun _ _=>rfl) (fun vs x l m a b I J=>by
  have I:vs=[.int .i64 x]:=I
  have J:l=uA m:=J
  subst I
  subst J
  exact (rfl:_=uA (x::m))) (fun n cs y hy hb=>by
  obtain ⟨m,hm,_,_⟩:=DataW.trod_int bO hy
  subst hm
  exact fun c σ S hr=>⟨c,σ,[.int .i64 m],m,hr.sat fun h s=>(s.gp (φ:=True) aa).hU fun a b k=>rfl,Ext.refl c,by simp [conc],fun v hv=>by rw [List.mem_singleton.1 hv]; exact ⟨aa,rfl⟩,aa⟩) h hB
theorem Iw {H':Type}{enc:TypeId×Value→H'}{W:World}{fuel:Nat}{x:DataW H'×List MemPlace}{f:Int}{v:Value}(h:DataW.trod enc Tryz.prog W 0 (fun _=>true) true fuel 33 [v]=some x)(hB:Rows.uptoBulk x.1≤1048576)(hf:0≤f):
  Calls Tryz.prog 5 #[v,.int .u8 f] W fun e w'=>e=.returned (.bool true)∧W.keptBut w' (fun _=>False)∧W.heap.size≤w'.heap.size∧∀b,b<W.heap.size→w'.heap[b]?=W.heap[b]?:=by
 obtain ⟨f,rfl⟩:∃k:Nat,f=k:=⟨f.toNat,by omega⟩
 obtain ⟨c0,J,h0⟩:=vO.zero W
 obtain ⟨c,σ,vs,l,hr,_,hm,iL,hl⟩:=PG h hB c0 J [] h0
 obtain ⟨dv,rfl,Ye⟩:=PD hm
 obtain ⟨Yf,s⟩:=j4.1 hr.2.2
 obtain ⟨cs,s⟩:=j4.1 s
 have s0:=s
 obtain ⟨_,_,_,_,hk⟩:=s0.at (k:=0) rfl
 have e:[dv]=[Yf]:=hk.1
 injection e with e _
 subst e
 have ec:cs=uA l:=hk.2.2
 subst ec
 have s1:=s.hU (B:=vF 1 dv (uA l)) fun _ _ k=>k.2.1
 obtain ⟨v',h',Jg,rfl⟩:=MZ M7 (f:=f) hl.1 s1
 have I:=Jg.Yc hr.1 (fun x hx=>by
  rcases List.mem_cons.1 hx with rfl | hx
  ·exact (iL _ (by simp)).1
  ·rw [List.mem_singleton.1 hx]; exact aa)
 unfold gm at I
 have ea:(([dv,V.int .u8 (f:Int)].map (conc c)).toArray) = #[v,.int .u8 (f:Int)]:=by simp [conc,Ye]
 rw [ea] at I
 refine Calls.mono I ?_
 rintro e w' ⟨c',rfl,_,_,hs⟩
 obtain ⟨k1,k2,k3⟩:=Fk hr.2.1 hs
 exact ⟨by simp [conc],k1,k2,k3⟩
end Go.Proofs.YtefepnnfphdkpaaGreat.Am
