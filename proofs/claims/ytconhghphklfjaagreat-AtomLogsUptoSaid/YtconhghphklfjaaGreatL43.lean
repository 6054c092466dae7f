/- After a crash the log has the records of the groups that are there and no others, with their numbers and data; the conditions are those of the given statement, for arguments that a machine can hold. Part 43 of 54. -/
import Derived.Test.YtconhghphklfjaaGreatL41
import Derived.Test.YtconhghphklfjaaGreatL42
import Derived.Test.YtconhghphklfjaaGreatL34
import Derived.Test.YtconhghphklfjaaGreatL40
namespace Go.Proofs.YtconhghphklfjaaGreat.Am
open Go
theorem oH {n m:Nat}(hle:n≤m){args:List V}{h:H}{r:V×H}(I:toldParsed CB n args h=some r): toldParsed CB m args h=some r:=by
 unfold toldParsed at I ⊢
 rw [vc] at I ⊢
 have mono:=dW (C:=CB) hle
 split at I
 ·rename_i x
  split at I
  ·rename_i J h₁
   simp only [mono _ _ _ h₁]
   cases U:Nat.blt 4 J.ak with
   | false=>rw [U] at I; cases I
   | true =>
    rw [U,cond_true] at I
    rw [cond_true]
    split at I
    ·rename_i Dc HP
     simp only [mono _ _ _ HP]
     split at I
     ·rename_i Ud Le
      simp only [mono _ _ _ Le]
      exact I
     ·cases I
    ·cases I
  ·cases I
 ·cases I
section
variable {h:H} {S:List ah} {X:ah} {v:V}
noncomputable def QW : Code:=cn [0] ((Tryz.f101.body).getD .skip)
noncomputable def QX : Code:=cn [1,1,0] ((Tryz.f101.body).getD .skip)
theorem N4 {E:List (Nat×V)}{Q:Ex→List (Nat×V)→H→Prop}(s:Sat h S)(hE:Has E [(0,v)])
 (hq:∀U h' I J,Has U [(0,v),(2,.ptr I 0),(3,.ptr J 0)]→Sat h' (pt J (.cells 1 [.bool false] false)::pt I (.cells 6 (eC 0 0 0 0 .aH .aH) false)::S)→Q .normal U h'): WP CB 9 QW E h Q:=by
 refine WP.has hE (zr rfl ?_)
 refine ae.bO s rfl rfl rfl (bK jP) (fun I h s => ?_)
 dsimp only [V.cells,List.length_cons,List.length_nil,Nat.reduceAdd] at s
 refine ae.bO s rfl rfl rfl (bK Qd) (fun J h s => ?_)
 dsimp only [V.cells,List.length_cons,List.length_nil,Nat.reduceAdd] at s
 refine zv ?_
 exact hq _ _ _ _ ⟨rfl,rfl,rfl,trivial⟩ s
theorem N5 {kd tx pv nx:Nat}{data:List Nat}{aA:List bV}(hg:cx kd aA=true)(hk:kd<256)(hr:qv tx pv nx data aA)(hX:bU X (bZ v (cy kd tx pv nx data aA)))
 {I J:Nat}{E:List (Nat×V)}{Q:Ex→List (Nat×V)→H→Prop}(s:Sat h (pt J (.cells 1 [.bool false] false)::pt I (.cells 6 (eC 0 0 0 0 .aH .aH) false)::X::S))
 (hE:Has E [(0,v),(2,.ptr I 0),(3,.ptr J 0)])
 (hq:∀E' h' dt ch cs,Has E' [(2,.ptr I 0),(3,.ptr J 0)]→Sat h' (pt J (.cells 1 [.bool true] false)::pt I (.cells 6 (eC kd tx pv nx dt ch) false)::X::a_ dt data::.arr 4 ch cs::bP cs aA::S)→Q .normal E' h'): WP CB 9 QX E h Q:=by
 obtain ⟨pi,po,pc,rfl⟩:=gX (s.ax (k:=2) rfl hX) (by simp only [cy,List.length_append,List.length_cons]; omega)
 refine WP.has hE (zr rfl (zm rfl (zo rfl (bW rfl (by rw [O4]; rfl)) ?_)))
 refine ae.bO s rfl rfl rfl (ff rfl rfl) ?_
 intro p1 h s
 dsimp only [V.cells] at s
 refine ae.call rfl rfl rfl rfl rfl rfl rfl (LW W.base hg hk hr ⟨_,hX,s.aa [0,2]⟩) ?_
 rintro r h ⟨dt,ch,cs,rfl,s⟩
 dsimp only [List.take,List.length_cons,List.length_nil,Nat.reduceAdd,List.drop,List.cons_append,List.nil_append,ai,bringA] at s
 have U:=(s.buf (k:=1) rfl).view.cells
 have j5:=s.gx (j:=2) rfl
 refine ae.bn rfl rfl rfl rfl rfl (s.eN (j:=5) rfl dK rfl (h_ U.2 j5.2.1)) ?_
 rintro h s
 dsimp only [setA] at s
 refine ae.bn rfl rfl rfl rfl rfl (by exact s.cZ (k:=4) rfl qK rfl (by decide) rfl rfl) (fun h s => ?_)
 dsimp only [List.set,setA] at s
 refine zv ?_
 exact hq _ _ _ _ _ ⟨rfl,rfl,trivial⟩ (s.aa [4,4,0,0,0,0])
noncomputable def QY : Code:=cn [1] ((Tryz.f131.body).getD .skip)
theorem N6 {x y:V}{E:List (Nat×V)}{Q:Ex→List (Nat×V)→H→Prop}(I:Has E [(0,x),(1,y),(2,.iJ),(5,.iJ)])(J:∀U,Q .normal U h): WP CB 16 QY E h Q:=by
 refine WP.has I (zg rfl (zm rfl (zo rfl (Ic (r:=.aW [.int .i64 0,.bool false]) rfl (by simp only [assertV,Tryz.underlying28,RE])) ?_)))
 refine zm rfl (ze rfl (ze rfl (za rfl (za rfl (zv (zg rfl (zm rfl (zv (zj rfl (zg rfl (zm rfl (zo rfl (af (r:=.bool false) rfl rfl (by simp only [binV,Tryz.underlying20]; rfl)) ?_))))))))))))
 refine zv (zj rfl (WP.skip ?_))
 exact J _
theorem Em {kd tx pv nx:Nat}{data:List Nat}{aA:List bV}(hg:cx kd aA=true)(hk:kd<256)(hr:qv tx pv nx data aA)(s:Sat h (X::S))(hX:bU X (bZ v (cy kd tx pv nx data aA))):
  ∃n r,toldParsed CB n [v] h=some r∧∃dt ch cs,r.1=.aW [.agg (eC kd tx pv nx dt ch),.bool true]∧Sat r.2 (X::a_ dt data::.arr 4 ch cs::bP cs aA::S):=by
 obtain ⟨N1,Wb,I,h1,E1,a1,k1,rfl,J,U,GU,s1⟩:=N4 (Q:=fun ex E' h'=>ex=.normal∧∃J U,Has E' [(0,v),(2,.ptr J 0),(3,.ptr U 0)]∧Sat h' (pt U (.cells 1 [.bool false] false)::pt J (.cells 6 (eC 0 0 0 0 .aH .aH) false)::X::S)) (v:=v) (E:=argE [v] 0) s ⟨rfl,trivial⟩ (fun E' h' J U hE s=>⟨rfl,J,U,hE,s⟩) _ (sD [v])
 have v2:I.v 2=.ptr J 0:=by simp only [Env.v,k1 _ _ GU.2.1]
 have v3:I.v 3=.ptr U 0:=by simp only [Env.v,k1 _ _ GU.2.2.1]
 have Ui:=k1.set 4 (.fn (.func 131) [] [I.v 2,I.v 3])
 obtain ⟨N2,JT,N7,h2,E2,a2,k2,rfl,dt,ch,cs,QZ,s2⟩:=N5 (Q:=fun ex E' h'=>ex=.normal∧∃dt ch cs,Has E' [(2,.ptr J 0),(3,.ptr U 0)]∧Sat h' (pt U (.cells 1 [.bool true] false)::pt J (.cells 6 (eC kd tx pv nx dt ch) false)::X::a_ dt data::.arr 4 ch cs::bP cs aA::S)) hg hk hr hX s1 (E:=(4,.fn (.func 131) [] [I.v 2,I.v 3])::E1) ⟨GU.1,GU.2.1,GU.2.2.1,trivial⟩ (fun E' h' dt ch cs hE s=>⟨rfl,dt,ch,cs,hE,s⟩) _ Ui
 have k3:=((sD [V.ptr J 0,V.ptr U 0]).set 5 .iJ).set 2 .iJ
 obtain ⟨N3,Wc,VE,h3,E3,a3,Wd,rfl,rfl⟩:=N6 (h:=h2) (x:=.ptr J 0) (y:=.ptr U 0) (Q:=fun ex E' h'=>ex=.normal∧h'=h2) (E:=(2,.iJ)::(5,.iJ)::argE [.ptr J 0,.ptr U 0] 0) ⟨rfl,rfl,rfl,rfl,trivial⟩ (fun E'=>⟨rfl,rfl⟩) _ k3
 have r1:mapO (resV Tryz.prog ⟨N7,9,h3⟩) Tryz.f101.results.toList=some [.agg (eC kd tx pv nx dt ch),.bool true]:=by
  refine wH (s:=⟨N7,9,h3⟩) k2 ?_
  have e1:resE Tryz.prog E2 h3 (.cell 2 40)=some (.agg (eC kd tx pv nx dt ch)):=by
   simp only [resE,QZ.1]
   exact s2.dF (k:=1) rfl jr dK
  have e2:resE Tryz.prog E2 h3 (.cell 3 4)=some (.bool true):=by
   simp only [resE,QZ.2.1]
   exact s2.ld (k:=0) rfl gU rfl
  show mapO (resE Tryz.prog E2 h3) [.cell 2 40,.cell 3 4]=_
  simp only [mapO,e1,e2]
 refine ⟨max N1 (max N2 N3),(.aW [.agg (eC kd tx pv nx dt ch),.bool true],h3),?_,dt,ch,cs,rfl,(s2.del 0).del 0⟩
 have b1:=dW (C:=CB) (show N1≤max N1 (max N2 N3) by omega) _ _ _ a1
 have b2:=dW (C:=CB) (show N2≤max N1 (max N2 N3) by omega) _ _ _ a2
 have b3:=dW (C:=CB) (show N3≤max N1 (max N2 N3) by omega) _ _ _ a3
 simp only [toldParsed,vc]
 rw [show Ek=QW from rfl,b1]
 simp only [v2,v3] at b2 ⊢
 rw [show Nat.blt 4 9=true from rfl,cond_true,show El=QX from rfl,b2]
 dsimp only
 rw [show yS=QY from rfl,b3]
 dsimp only
 rw [r1]
def yT (args:List V)(h:H)(r:V×H): Prop:=∃n,toldParsed CB n args h=some r
structure WR (told:Nat→Option (List V→H→Option (V×H))): Prop where
 w:W told
 pr:told 101=some (ju Tryz.prog 101 yT)
theorem GV {told:Nat→Option (List V→H→Option (V×H))}(U:WR told){kd tx pv nx:Nat}{data:List Nat}{aA:List bV}(hg:cx kd aA=true)(hk:kd<256)(J:qv tx pv nx data aA)(s:Sat h (X::S))(hX:bU X (bZ v (cy kd tx pv nx data aA))):
  Call ⟨Tryz.prog,told⟩ 101 [v] h fun r h'=>∃dt ch cs,r=.aW [.agg (eC kd tx pv nx dt ch),.bool true]∧Sat h' (X::a_ dt data::.arr 4 ch cs::bP cs aA::S):=by
 obtain ⟨n,r,e,hP⟩:=Em hg hk J s hX
 obtain ⟨r',h1,m,h2⟩:=xW (P:=Tryz.prog) (f:=101) (gS:=yT) (args:=[v]) (r:=r) ⟨n,e⟩ (fun c w J hw=>yE (C:=CB) rfl gq eX e J hw)
 have e1:=oH (show n≤max n m by omega) e
 have I:=oH (show m≤max n m by omega) h2
 rw [e1] at I
 injection I with I
 subst I
 exact ⟨r.1,r.2,fb.told U.pr Tryz.func101 rfl h1,hP⟩
end
end Go.Proofs.YtconhghphklfjaaGreat.Am
namespace Go.Proofs.YtconhghphklfjaaGreat.Am
open Go
structure DK (δ Pq:Dk): Prop where
 dead:Pq.dead=δ.dead
 aJ:Pq.aJ=δ.aJ
 aj:Pq.aj=δ.aj
 now:Pq.now=δ.now
theorem DK.refl (δ:Dk): DK δ δ:=⟨rfl,rfl,rfl,rfl⟩
theorem DK.at {δ I:Dk}(h:DK δ I)(n:Int): I.at n=δ.at n:=by rw [Dk.at,Dk.at,h.now,h.aj]
structure DA (N:Nat)(δ:Dk): Prop where
 alive:δ.dead=false
 aJ:δ.aJ<0
 aj:δ.aj.length=N
 keys:∀k:Int,k∈δ.now.map (·.1)→0≤k∧k<N
 nodup:(δ.now.map (·.1)).Nodup
 good:∀n:Int,0≤n→n<N→dQ (δ.at n)=0
theorem DA.of {N:Nat}{δ I:Dk}(h:DA N δ)(k:DK δ I): DA N I :=
 ⟨k.dead.trans h.alive,by rw [k.aJ]; exact h.aJ,by rw [k.aj]; exact h.aj,by rw [k.now]; exact h.keys,by rw [k.now]; exact h.nodup,fun n a b=>by rw [k.at]; exact h.good n a b⟩
theorem j7 {δ:Dk}(h:δ.aJ<0): δ.cO=δ:=by
 have:(if 0<δ.aJ then δ.aJ-1 else δ.aJ)=δ.aJ:=if_neg (by omega)
 rw [Dk.cO,this]
theorem I_ {N:Nat}{δ:Dk}(h:DA N δ): δ.ct=(0,{ δ with aT:=δ.log.length }):=by
 rw [Dk.ct,if_neg (by rw [h.alive]; decide),if_neg (by have:=h.aJ; omega),j7 h.aJ]
theorem GW {N:Nat}{x:LD}{n:Nat}(h:DA N x.2): (bD x n).1=0∧DK x.2 (bD x n).2.2:=by
 unfold bD
 split
 ·exact ⟨rfl,DK.refl _⟩
 ·rw [I_ h,if_neg (by simp)]
  exact ⟨rfl,rfl,rfl,rfl,rfl⟩
theorem Ja {N:Nat}{δ:Dk}{n:Int}{b:List Nat}(h:DA N δ)(h0:0≤n)(h1:n<N)(hb:b.length=512)(hc:dQ b=0):
  (δ.bF n b).1=0∧DA N (δ.bF n b).2∧∀m,(δ.bF n b).2.at m=if n=m then b else δ.at m:=by
 have e:δ.bF n b=(0,δ.wr n b):=by
  rw [Dk.bF,if_neg (by rw [h.alive]; decide),if_neg (not_not_intro ⟨h0,by rw [h.aj]; exact h1,hb⟩),if_neg (by have:=h.aJ; omega)]
 have I:(δ.wr n b).now=cA n b δ.now:=rfl
 have n4:(δ.wr n b).aj=δ.aj:=rfl
 have J:∀m,(δ.wr n b).at m=if n=m then b else δ.at m:=fun m=>by
  rw [Dk.at,Dk.at,I,n4,mw]
  by_cases hm:n=m
  ·rw [if_pos hm,if_pos hm]
  ·rw [if_neg hm,if_neg hm]
 have Uj:(δ.wr n b).aJ=δ.aJ:=by
  show δ.cO.aJ=δ.aJ
  rw [j7 h.aJ]
 rw [e]
 refine ⟨rfl,⟨h.alive,by rw [Uj]; exact h.aJ,h.aj,fun x U => ?_,?_,fun m a c => ?_⟩,J⟩
 ·rw [I] at U
  rcases lV.1 U with rfl | U
  ·exact ⟨h0,h1⟩
  ·exact h.keys x U
 ·rw [I]; exact fQ h.nodup
 ·rw [J]
  by_cases hm:n=m
  ·rw [if_pos hm]; exact hc
  ·rw [if_neg hm]; exact h.good m a c
theorem tY {l m:List Nat}{a b:Nat}(J:a+m.length≤l.length)(U:a+m.length≤b): (cI l a m).drop b=l.drop b:=by
 have I:(l.take a).length=a:=by rw [List.length_take]; omega
 rw [cI,←List.append_assoc,List.drop_append,List.drop_eq_nil_of_le (by rw [List.length_append,I]; omega),List.nil_append,List.drop_drop,List.length_append,I]
 congr 1; omega
theorem qx {l m:List Nat}{a z:Nat}(I:l.drop 12=m.drop 12)(J:12≤a): dm l a z=dm m a z:=by
 have e:∀l:List Nat,(l.take (a+z)).drop a=((l.drop 12).drop (a-12)).take z:=fun l=>by
  rw [List.drop_drop,show 12+(a-12)=a by omega,List.drop_take]
  congr 1; omega
 rw [dm,dm,e,e,I]
theorem B9 {l m:List Nat}(I:l.drop 12=m.drop 12){low:Nat}: ∀(n i:Nat) (t:List Bool),cellsL l low n i t=cellsL m low n i t:=by
 intro n
 induction n with
 | zero=>intro i t; rfl
 | succ n J =>
  intro i t
  have U:fS l i=fS m i:=qx I (by omega)
  have e2:iz l i=iz m i:=qx I (by omega)
  simp only [cellsL,U,e2,J]
theorem En {l m:List Nat}(J:l.length=m.length)(I:l.drop 12=m.drop 12): bu l=bu m:=by
 have U:gy l=gy m:=qx I (by omega)
 have e2:fh l=fh m:=qx I (by omega)
 have e3:l.getD 13 0=m.getD 13 0:=by
  have:∀l:List Nat,l[13]?=(l.drop 12)[1]?:=fun l=>by rw [List.getElem?_drop]
  rw [List.getD_eq_getElem?_getD,List.getD_eq_getElem?_getD,this,this,I]
 simp only [bu,J,U,e2,e3,B9 I]
theorem pI : ∀(k n:Nat),leN (le k n)=n%256^k:=by
 intro k
 induction k with
 | zero=>intro n; rw [Nat.pow_zero,Nat.mod_one]; rfl
 | succ k I =>
  intro n
  rw [le,leN,I,Nat.pow_succ,Nat.mul_comm (256^k) 256,Nat.mod_mul]
theorem r_ {b:List Nat}{n:Nat}(J:b.length=512): (cj b n).drop 12=b.drop 12∧(cj b n).length=512∧(cj b n).drop 4=(jQ b n).drop 4∧dm (cj b n) 0 4=rS 0 ((jQ b n).drop 4)%4294967296:=by
 have U:=qg (n:=n) J
 have h2:(cj b n).length=512:=by rw [cj,fO (by rw [cM]; omega),U]
 have I:(cj b n).drop 4=(jQ b n).drop 4:=by rw [cj]; exact tY (by rw [cM]; omega) (by rw [cM]; omega)
 have h4:(jQ b n).drop 12=b.drop 12:=by rw [jQ]; exact tY (by rw [cM]; omega) (by rw [cM]; omega)
 refine ⟨?_,h2,I,?_⟩
 ·have:=congrArg (List.drop 8) I
  rw [List.drop_drop,List.drop_drop] at this
  exact this.trans h4
 ·have e:(cj b n).take 4=le 4 (rS 0 ((jQ b n).drop 4)):=by
   rw [cj,cI,List.take_zero,List.nil_append,List.take_append_of_le_length (by rw [cM]; omega),List.take_of_length_le (by rw [cM]; omega)]
  rw [dm,Nat.zero_add,List.drop_zero,e,pI]
theorem LX {b:List Nat}{n:Nat}(I:∀x∈b,x<256): ∀x∈jQ b n,x<256:=xF I (DZ _ _)
theorem ya {b:List Nat}{n:Nat}(U:bu b=true)(hb:∀x∈b,x<256): dQ (cj b n)=0∧bu (cj b n)=true∧jk (cj b n)=b.drop 12:=by
 have hl:=fJ U
 obtain ⟨h1,h2,h3,h4⟩:=r_ (n:=n) hl
 have I:bu (cj b n)=true:=by rw [En (h2.trans hl.symm) h1]; exact U
 have hz:bu (List.replicate 512 0)=false:=by decide +kernel
 have J:cj b n≠List.replicate 512 0:=fun e=>by rw [e,hz] at I; cases I
 have hc:rS 0 ((jQ b n).drop 4)<4294967296:=uu (by decide) fun x hx=>LX hb x (List.mem_of_mem_drop hx)
 refine ⟨?_,I,?_⟩
 ·rw [dQ,if_neg J,if_neg (by rw [I]; decide),if_neg]
  rw [h4,h3,Nat.mod_eq_of_lt hc]; exact not_not_intro rfl
 ·rw [jk,if_neg (by rintro (h | h); exact h h2; exact J h),h1]
end Go.Proofs.YtconhghphklfjaaGreat.Am
namespace Go.Proofs.YtconhghphklfjaaGreat.Am
open Go
theorem uD {x y z:List Nat}{a b:Nat}(I:x.length=a)(J:a+y.length=b): ((x++(y++z)).take b).drop a=y:=by
 subst I; subst J
 rw [←List.append_assoc,List.take_append_of_le_length (by simp),List.take_of_length_le (by simp),List.drop_left' rfl]
theorem Pr (n:Nat)(b:List Nat): b.length<4294967296→mZ n b<4294967296→leN (le 4 b.length)=b.length∧leN (le 4 (mZ n b))=mZ n b:=by
 intro I J
 rw [pI,pI]
 exact ⟨Nat.mod_eq_of_lt (by simpa using I),Nat.mod_eq_of_lt (by simpa using J)⟩
section
variable {told:Nat→Option (List V→H→Option (V×H))} {h:H} {S:List ah} {X:ah} {v:V} {l:List Nat}
theorem A1 (hT:WR told){kd tx pv nx n a:Nat}{data:List Nat}{aA:List bV}{pre rest bd:List Nat}(hg:cx kd aA=true)(hk:kd<256)(hr:qv tx pv nx data aA)(N8:bd=cy kd tx pv nx data aA)
 (qZ:bd.length≤1048576)(ha:pre.length=a)(J:l=pre++(eW n bd++rest))(x_:l.length≤1073741824)(s:Sat h (X::S))(I:bU X (bZ v l)):
  Call ⟨Tryz.prog,told⟩ 57 [v,.int .i64 (a:Int),.int .u64 (n:Int)] h fun r h'=>∃dt ch cs,r=.aW [.agg (eC kd tx pv nx dt ch),.int .i64 ((a+8+bd.length:Nat):Int),.int .i64 0]∧Sat h' (X::a_ dt data::.arr 4 ch cs::bP cs aA::S):=by
 have hv:=s.ax (k:=0) rfl I
 have bB:∀x∈bd,x<256:=fun x hx=>hv.1 x (by rw [J,eW]; simp [hx])
 have U:=Aj (aD:=n) bB
 obtain ⟨q1,q2⟩:=Pr n bd (by omega) U
 have hlen:l.length=a+8+bd.length+rest.length:=by rw [J]; simp only [List.length_append,nY]; omega
 have m1:(l.take (a+4)).drop a=le 4 bd.length:=by
  rw [J,eW,List.append_assoc,List.append_assoc]
  exact uD ha (by rw [cM])
 have m2:(l.take (a+8)).drop (a+4)=le 4 (mZ n bd):=by
  rw [J,eW,List.append_assoc,List.append_assoc,←List.append_assoc pre]
  exact uD (by rw [List.length_append,cM,ha]) (by rw [cM])
 have m3:(l.take (a+8+bd.length)).drop (a+8)=bd:=by
  rw [J,eW,List.append_assoc,List.append_assoc,←List.append_assoc pre,←List.append_assoc (pre++_)]
  exact uD (by rw [List.length_append,List.length_append,cM,cM,ha]) rfl
 have hW:=hT.w
 have Uk:=aG (P:=Tryz.prog) (h:=h) Tryz.underlying32 hv
 refine Call.of_wp (hW.free _ rfl) Tryz.func57 rfl rfl (zg rfl ?_)
 refine ae.bO s rfl rfl rfl (bK jP) (fun p6 h s => ?_)
 dsimp only [V.cells,List.length_cons,List.length_nil,Nat.reduceAdd] at s
 refine za rfl (za rfl (zv (zw (zg rfl (zm rfl (ae.aE rfl rfl rfl (af rfl rfl aX) (by simp) ?_))))))
 refine zm rfl (zm rfl (zm rfl (zo rfl (aL rfl rfl rfl (aG Tryz.underlying32 (s.ax (k:=1) rfl I))) (ae.aE rfl rfl rfl (af rfl rfl dS) (by simp; omega) ?_))))
 refine zp rfl (zv (zj rfl (WP.skip (zw (zg rfl (zm rfl (zo rfl (aL rfl rfl rfl (aG Tryz.underlying32 (s.ax (k:=1) rfl I))) (zm rfl (zb rfl (by exact lR (aF (by omega) (by omega))) ?_)))))))))
 refine ae.aE rfl rfl rfl (af rfl rfl aX) (by simp; omega) ?_
 refine zv (zj rfl (WP.skip (zg rfl (zm rfl (zm rfl (zm rfl (zb rfl (by exact bl (aF (by omega) (by omega))) ?_)))))))
 refine zo rfl (bM (p:=some (.int .i64 (a:Int))) (q:=some (.int .i64 ((a:Int)+4))) (m:=none) (p':=some a) (q':=some (a+4)) (m':=none) rfl rfl rfl rfl (by rw [dN (by omega)]; rfl) (by rw [dN (by omega)]; congr 2 <;> omega) rfl (fq (s.ax (k:=1) rfl I) (a:=a) (b:=a+4) (by omega) (by omega)).1) ?_
 refine ae.call rfl rfl rfl rfl rfl rfl rfl (kI hW s (k:=1) rfl (iP I (a:=a) (b:=a+4) (by omega) (by omega)) (by rw [m1,cM]; decide)) ?_
 rintro r h' ⟨rfl,rfl⟩
 rw [m1,q1]
 refine za rfl (zv (zw (zg rfl (zm rfl (ae.aE rfl rfl rfl (af rfl rfl dS) (by simp; omega) ?_)))))
 refine zm rfl (zm rfl (zo rfl (bz rfl (by exact gC Tryz.underlying35 Tryz.underlying3 (aF (by omega) (by omega)))) ?_))
 refine zm rfl (zo rfl (aL rfl rfl rfl (aG Tryz.underlying32 (s.ax (k:=1) rfl I))) (zm rfl (zb rfl (by exact lR (aF (by omega) (by omega))) ?_)))
 refine zb rfl (by exact lR (aF (by omega) (by omega))) ?_
 refine ae.aE rfl rfl rfl (af rfl rfl dS) (by simp; omega) ?_
 refine zp rfl (zv (zj rfl (WP.skip (zg rfl (zm rfl (zb rfl (by exact bl (aF (by omega) (by omega))) ?_))))))
 refine zm rfl (zo rfl (bz rfl (by exact gC Tryz.underlying35 Tryz.underlying3 (aF (by omega) (by omega)))) ?_)
 refine zb rfl (by exact bl (aF (by omega) (by omega))) ?_
 refine za rfl (zv (zg rfl (zm rfl (zm rfl (zb rfl (by exact bl (aF (by omega) (by omega))) ?_)))))
 refine zm rfl (zo rfl (bM (p:=some (.int .i64 ((a:Int)+8))) (q:=some (.int .i64 ((a:Int)+8+(bd.length:Int)))) (m:=none) (p':=some (a+8)) (q':=some (a+8+bd.length)) (m':=none) rfl rfl rfl rfl (by rw [dN (by omega)]; congr 2 <;> omega) (by rw [dN (by omega)]; congr 2 <;> omega) rfl (fq (s.ax (k:=1) rfl I) (a:=a+8) (b:=a+8+bd.length) (by omega) (by omega)).1) ?_)
 refine za rfl (zv (zw (zg rfl (zm rfl (zm rfl (zb rfl (by exact bl (aF (by omega) (by omega))) ?_))))))
 refine zm rfl (zb rfl (by exact bl (aF (by omega) (by omega))) ?_)
 refine zo rfl (bM (p:=some (.int .i64 ((a:Int)+4))) (q:=some (.int .i64 ((a:Int)+8))) (m:=none) (p':=some (a+4)) (q':=some (a+8)) (m':=none) rfl rfl rfl rfl (by rw [dN (by omega)]; congr 2 <;> omega) (by rw [dN (by omega)]; congr 2 <;> omega) rfl (fq (s.ax (k:=1) rfl I) (a:=a+4) (b:=a+8) (by omega) (by omega)).1) ?_
 refine ae.call rfl rfl rfl rfl rfl rfl rfl (kI hW s (k:=1) rfl (iP I (a:=a+4) (b:=a+8) (by omega) (by omega)) (by rw [m2,cM]; decide)) ?_
 rintro r h' ⟨rfl,rfl⟩
 rw [m2,q2]
 refine zo rfl (bz rfl (by exact gC Tryz.underlying35 Tryz.underlying155 (K7 (by omega) (by omega)))) ?_
 refine zm rfl (zm rfl (ae.call rfl rfl rfl rfl rfl rfl rfl (xS hW s (k:=1) rfl (iP I (a:=a+8) (b:=a+8+bd.length) (by omega) (by omega)) (by rw [m3]; omega)) ?_))
 rintro r h ⟨rfl,s⟩
 rw [m3]
 refine ae.aE rfl rfl rfl (af rfl rfl aN) (by simp) ?_
 refine zv (zj rfl (WP.skip (zg rfl (zm rfl ?_))))
 have Ul:bU X (bZ (slR v (a+8) (a+8+bd.length)) (cy kd tx pv nx data aA)):=by
  have:=iP I (a:=a+8) (b:=a+8+bd.length) (by omega) (by omega)
  rw [m3] at this
  rw [←N8]
  exact this
 refine ae.call rfl rfl rfl rfl rfl rfl rfl (GV hT hg hk hr (s.aa [1]) Ul) ?_
 rintro r h ⟨dt,ch,cs,rfl,s⟩
 dsimp only [ai,bringA] at s
 have lz:=(s.buf (k:=1) rfl).view.cells
 have j5:=s.gx (j:=2) rfl
 have fK:[V.int .i64 (kd:Int),V.int .u64 (tx:Int),V.int .u64 (pv:Int),V.int .u64 (nx:Int),dt,ch].all storable=true:=h_ lz.2 j5.2.1
 refine zm rfl (ze rfl (ze rfl (ae.bn rfl rfl rfl rfl rfl (s.eN (j:=4) rfl dK rfl fK) ?_)))
 rintro h s
 dsimp only [eC,setA] at s
 refine za rfl (zv (zw (zg rfl (zm rfl (ae.aE rfl rfl rfl (dA rfl rfl) (rfl) (zv (zj rfl (WP.skip (zg rfl (zl rfl (by exact s.dF (k:=4) rfl jr dK) ?_))))))))))
 refine zm rfl (ae.bn rfl rfl rfl rfl rfl (s.eN (j:=4) rfl dK rfl fK) ?_)
 rintro h s
 dsimp only [setA] at s
 refine za rfl (za rfl (zv ?_))
 refine WP.ret ⟨trivial,_,qq rfl (s.dF (k:=4) rfl jr dK) rfl rfl,?_⟩
 exact ⟨dt,ch,cs,rfl,s.del 4⟩
end
end Go.Proofs.YtconhghphklfjaaGreat.Am
namespace Go.Proofs.YtconhghphklfjaaGreat.Am
open Go
section
variable {told:Nat→Option (List V→H→Option (V×H))} {h:H} {S:List ah} {X:ah} {v:V} {l:List Nat} {q p:Nat} {μ:Lg}
theorem GX (hT:WR told){kd tx pv nx n a:Nat}{data:List Nat}{aA:List bV}{pre rest bd:List Nat}(hg:cx kd aA=true)(hk:kd<256)(hr:qv tx pv nx data aA)(N8:bd=cy kd tx pv nx data aA)
 (qZ:bd.length≤1048576)(ha:pre.length=a)(hl:μ.b=pre++(eW n bd++rest))(hn:n=μ.base+a)(hh:μ.hasB n=true)(I:μ.Ok)(s:Sat h (bj q p μ::S)):
  Call ⟨Tryz.prog,told⟩ 20 [.ptr q 0,.int .u64 (n:Int)] h fun r h'=>∃dt ch cs,r=.aW [.agg (eC kd tx pv nx dt ch),.int .u64 ((n+8+bd.length:Nat):Int),.int .i64 0]∧Sat h' (bj q p μ::a_ dt data::.arr 4 ch cs::bP cs aA::S):=by
 have hW:=hT.w
 have hlen:μ.b.length=a+8+bd.length+rest.length:=by rw [hl]; simp only [List.length_append,nY]; omega
 have ee:=I.size
 have hb:=I.len
 refine Call.of_wp (hW.free _ rfl) Tryz.func20 rfl rfl (zg rfl ?_)
 refine ae.bO s rfl rfl rfl (bK jP) (fun p4 h s => ?_)
 dsimp only [V.cells,List.length_cons,List.length_nil,Nat.reduceAdd] at s
 refine za rfl (za rfl (zv (zw (WP.block (zg rfl (zm rfl (zm rfl ?_)))))))
 have s:=s.aa [1]
 dsimp only [bringA,getA,ai] at s
 refine ae.call rfl rfl rfl rfl rfl rfl rfl (nq hW s I.size) ?_
 rintro v h' ⟨rfl,rfl⟩
 refine ae.aE rfl rfl rfl (af rfl rfl cS) (by simp; omega) ?_
 refine za rfl (zv (zj rfl (zg rfl (zm rfl (zm rfl (ae.call rfl rfl rfl rfl rfl rfl rfl (CS (n:=n) hW s I (by omega)) ?_))))))
 rintro v h' ⟨rfl,rfl⟩
 rw [hh]
 refine zo rfl (dA rfl rfl) (za rfl (zv (zj rfl (WP.skip (zw ?_)))))
 obtain ⟨bv,sv,s⟩:=dB.1 s
 have s0:=s
 have tw:=cg (s.buf (k:=1) rfl).view
 have J:((n:Int)-(μ.base:Int))=(a:Int):=by omega
 refine WP.drawn [none,none,none,none,none,none,none,none,none,none,none,none,none,none,none,some (1,2),some (1,2),none,none,none] rfl (by kernel_rfl) (by kernel_rfl) ?_
 refine zM rfl (zN rfl (zF rfl (cP _ _) (zL rfl (by exact s.ld (k:=0) rfl bg rfl) ?_)))
 refine zM rfl (zM rfl (zN rfl (zF rfl (iE _ _) (zL rfl (by exact s.ld (k:=0) rfl gP rfl) ?_))))
 refine zO rfl (af (r:=.int .u64 (a:Int)) rfl rfl (by rw [←J]; exact lR (dM (by omega) (by omega)))) ?_
 refine au.op rfl rfl rfl (by simp only [isEff,Tryz.underlying3]) (bz rfl (by exact gC Tryz.underlying35 Tryz.underlying3 (aF (by omega) (by omega)))) ?_
 refine zM rfl (au.any rfl rfl rfl rfl (OpR.call rfl rfl rfl rfl (A1 (n:=n) (a:=a) hT hg hk hr N8 qZ ha hl (by omega) (s.aa [1]) (bk _ _))) ?_)
 rintro r h ⟨dt,ch,cs,rfl,s⟩
 dsimp only [mL,ai,bringA] at s
 have lz:=(s.buf (k:=1) rfl).view.cells
 have U:=s.gx (j:=2) rfl
 have xD:=cg (s.buf (k:=1) rfl).view
 have fK:[V.int .i64 (kd:Int),V.int .u64 (tx:Int),V.int .u64 (pv:Int),V.int .u64 (nx:Int),dt,ch].all storable=true:=h_ lz.2 U.2.1
 have s1:=s
 refine zM rfl (zO rfl (bL rfl rfl) (zO rfl (bL rfl rfl) (zO rfl (bL rfl rfl) (au.fI rfl rfl rfl (OpR.bn rfl rfl rfl (s.eN (j:=6) rfl dK rfl fK)) ?_))))
 rintro v h ⟨rfl,s⟩
 dsimp only [eC,setA] at s
 refine zA rfl (zA rfl ?_)
 refine au.nil ⟨⟨trivial,trivial,trivial,trivial,trivial,trivial,trivial,trivial,trivial,trivial,trivial,trivial,trivial,trivial,trivial,fun _ _=>.inr ⟨rfl,⟨_,bL rfl rfl⟩,aU _ rfl⟩,fun _ _=>.inr ⟨rfl,⟨_,bL rfl rfl⟩,aU _ rfl⟩,trivial,trivial,trivial,trivial⟩,?_⟩
 refine zw (zg rfl (zm rfl (ae.aE rfl rfl rfl (af rfl rfl aN) (rfl) (zv (zj rfl (WP.skip (zw ?_)))))))
 have AS:(V.agg [V.int .i64 (kd:Int),V.int .u64 (tx:Int),V.int .u64 (pv:Int),V.int .u64 (nx:Int),dt,ch]).beq (V.agg [V.int .i64 (kd:Int),V.int .u64 (tx:Int),V.int .u64 (pv:Int),V.int .u64 (nx:Int),dt,ch])=true:=sX xD U.2.2
 have s0:=s
 refine WP.drawn [none,some (0,2),some (0,2),some (0,2),some (0,2),some (0,2),some (0,2),some (0,2),none,none,none] rfl (by kernel_rfl) (by kernel_rfl) ?_
 refine zL rfl (by exact s.dF (k:=6) rfl jr dK) ?_
 refine zM rfl (zN rfl (zF rfl (iE _ _) (zL rfl (by exact s.ld (k:=4) rfl gP rfl) ?_)))
 refine zM rfl (au.op rfl rfl rfl (by simp only [isEff,Tryz.underlying35]) (bz rfl (by exact gC Tryz.underlying3 Tryz.underlying35 (dM (by omega) (by omega)))) ?_)
 refine zO rfl (af rfl rfl (by exact bl (dM (by omega) (by omega)))) ?_
 refine au.fI rfl rfl rfl (OpR.bn rfl rfl rfl (s.eN (j:=6) rfl dK rfl fK)) ?_
 rintro v h ⟨rfl,s⟩
 dsimp only [setA] at s
 refine zA rfl (zA rfl ?_)
 refine au.nil ⟨⟨trivial,fun _ _=>.inr ⟨rfl,⟨_,aV rfl⟩,aU _ rfl⟩,fun _ _=>.inr ⟨rfl,⟨_,kX rfl⟩,aU _ rfl⟩,fun _ _=>.inr ⟨rfl,⟨_,iO rfl (iE _ _)⟩,aU _ rfl⟩,cR (.inr ⟨rfl,⟨_,aI rfl (by exact s0.ld (k:=4) rfl gP rfl)⟩,aU _ rfl⟩) (.inr ⟨rfl,⟨_,aI rfl (by exact s.ld (k:=4) rfl gP rfl)⟩,aU _ rfl⟩),fun _ _=>.inr ⟨rfl,⟨_,aV rfl⟩,aU _ rfl⟩,fun _ _=>.inr ⟨rfl,⟨_,bz rfl (by exact gC Tryz.underlying3 Tryz.underlying35 (dM (by omega) (by omega)))⟩,aU _ rfl⟩,fun _ _=>.inr ⟨rfl,⟨_,af rfl rfl (by exact bl (dM (by omega) (by omega)))⟩,aU _ rfl⟩,trivial,trivial,trivial,trivial⟩,?_⟩
 refine WP.ret ⟨trivial,_,qq rfl (s.dF (k:=6) rfl jr dK) rfl rfl,?_⟩
 refine ⟨dt,ch,cs,?_,dB.2 ⟨bv,sv,(s.aa [4,0,3,0,0,0]).del 6⟩⟩
 rw [show ((μ.base:Int)+((a+8+bd.length:Nat):Int))=((n+8+bd.length:Nat):Int) by omega]
 rfl
end
end Go.Proofs.YtconhghphklfjaaGreat.Am
