/- After a crash the log has the records of the groups that are there and no others, with their numbers and data; the conditions are those of the given statement, for arguments that a machine can hold. Part 45 of 54. -/
import Derived.Test.YtconhghphklfjaaGreatL44
namespace Go.Proofs.YtconhghphklfjaaGreat.Am
open Go
end Go.Proofs.YtconhghphklfjaaGreat.Am
namespace Go.Proofs.YtconhghphklfjaaGreat.Am
open Go
def d_ (l:List (List Nat)): List V:=l.map V.str
theorem iN (l:List (List Nat)): (d_ l).length=l.length:=by simp [d_]
theorem G0 {l:List (List Nat)}{i:Nat}{w:List Nat}(h:l[i]?=some w): (d_ l)[i]?=some (.str w):=by simp [d_,h]
def oc (ε:aM)(ps:List (List Nat)): Prop:=∀(n:Nat) (w:List Nat),ps[n]?=some w→jk (pgA ε n)=w
theorem oc.of {ε ε':aM}{ps:List (List Nat)}(h:oc ε ps)(I:∀m,0≤m→pgA ε' m=pgA ε m): oc ε' ps:=fun n w J=>by rw [I _ (by omega)]; exact h n w J
theorem Ep {b:List Nat}(h:bu b=true): jk b=b.drop 12∧dQ b≠4:=by
 have J:=fJ h
 have U:bu (List.replicate 512 0)=false:=by decide +kernel
 have I:b≠List.replicate 512 0:=fun e=>by rw [e,U] at h; cases h
 refine ⟨by rw [jk,if_neg (by rintro (q | q); exact q J; exact I q)],?_⟩
 rw [dQ,if_neg I,if_neg (by rw [h]; decide)]
 split <;> decide
def gd (k:Nat)(v:V)(cs:List V): ah:=.xs fun o:Option (Nat×Nat×Nat)=>match o with
 | none=>.pu ((v=.aH∨∃a,v=.sle a)∧cs=[])
 | some (id,len,cap)=>.an (.ro id (.cells cs.length cs true)) (.pu (v=.sl id 0 len (.exact cap)∧cs.length=len*k))
theorem aq.gd (k:Nat)(v:V)(cs:List V): aq (Am.gd k v cs):=aq.xs fun o=>by
 cases o with
 | none=>exact aq.pu _
 | some x=>exact aq.an (aq.ro _ _) (aq.pu _)
section
variable {P:Program} {h:H} {S:List ah} {k j:Nat} {v:V} {cs:List V}
theorem Sat.rowAt (s:Sat h S)(J:getA S j=some (gd k v cs)): ((v=.aH∨∃a,v=.sle a)∧cs=[])∨∃id len cap,v=.sl id 0 len (.exact cap)∧cs.length=len*k∧T.get h.tr id=some (.cells cs.length cs true):=by
 obtain ⟨m,r,h1,U,o,I⟩:=s.at J
 cases o with
 | none=>exact .inl I
 | some x=>exact .inr ⟨x.1,x.2.1,x.2.2,I.2.1,I.2.2,U _ _ I.1⟩
theorem Sat.sj {n:Nat}{t e:TypeId}(s:Sat h S)(J:getA S j=some (gd k v cs))(I:cs.length=n*k)(hk:1≤k)(hu:P.underlying t=some (.slice e)): lenV P h t v=some (.int .i64 n):=by
 rcases s.rowAt J with ⟨U,rfl⟩ | ⟨id,len,cap,rfl,hl,_⟩
 ·have:n=0:=by
   cases n with
   | zero=>rfl
   | succ n=>simp only [List.length_nil,Nat.add_mul,Nat.one_mul] at I; omega
  subst this
  rcases U with rfl | ⟨a,rfl⟩
  ·exact K6 hu
  ·simp only [lenV,hu]; rfl
 ·have:n=len:=by
   rw [hl] at I
   exact (Nat.eq_of_mul_eq_mul_right (by omega) I).symm
  subst this
  exact zZ hu
theorem Sat.Pt {t e:TypeId}{i:Nat}(s:Sat h S)(J:getA S j=some (gd k v cs))(hi:i*k+k≤cs.length)(U:1≤k)(hu:P.underlying t=some (.slice e))(I:aY P e=some k)(ha:bx P e=some true):
  ∃id off,indexAddrV P t v (.int .i64 (i:Int))=some (.ptr id off)∧loadV P h e (.ptr id off)=some (.agg ((cs.drop (i*k)).take k)):=by
 rcases s.rowAt J with ⟨_,rfl⟩ | ⟨id,len,cap,rfl,hl,hg⟩
 ·simp at hi; omega
 ·refine ⟨id,i*k,?_,J9 ha I hg rfl hi⟩
  simp only [indexAddrV,hu,I,Int.toNat_natCast]
  have:i<len:=by
   have h4:i*k+k=(i+1)*k:=by rw [Nat.add_mul,Nat.one_mul]
   rw [h4,hl] at hi
   exact Nat.lt_of_succ_le (Nat.le_of_mul_le_mul_right hi U)
  rw [show (decide ((0:Int)≤(i:Int))&&decide ((i:Int)<(len:Int)))=true by simp; omega,cond_true]
  simp
theorem Sat.R9 (s:Sat h S)(I:getA S j=some (gd k v cs)): v.cells=[v]∧storable v=true∧v.beq v=true:=by
 rcases s.rowAt I with ⟨rfl | ⟨a,rfl⟩,_⟩ | ⟨id,len,cap,rfl,_⟩
 ·exact ⟨rfl,rfl,rfl⟩
 ·exact ⟨rfl,rfl,by simp [V.beq]⟩
 ·exact ⟨rfl,rfl,vm _ _ _ _⟩
end
def jO : List V→List (Int×List Nat)→ah
 | [],[]=>.pu True
 | a::v::l,x::m=>.an (.an (.pu (a=.int .i64 x.1)) (.bp v x.2)) (jO l m)
 | _,_=>.pu False
theorem aq.jO : ∀(m:List (Int×List Nat)) (l:List V),aq (Am.jO l m):=by
 intro m
 induction m with
 | nil=>intro l; rcases l with _ | ⟨a,_ | ⟨b,l⟩⟩ <;> exact aq.pu _
 | cons x m I=>intro l; rcases l with _ | ⟨a,_ | ⟨b,l⟩⟩ <;> first | exact aq.pu _ | exact aq.an (aq.an (aq.pu _) (aq.bp _ _)) (I l)
theorem LY {a b:PM}: ∀ {m:List (Int×List Nat)} {l:List V},(jO l m).p a b→l.length=m.length*2:=by
 intro m
 induction m with
 | nil=>intro l h; rcases l with _ | ⟨x,_ | ⟨y,l⟩⟩ <;> first | rfl | exact h.elim
 | cons x m I=>intro l h; rcases l with _ | ⟨x,_ | ⟨y,l⟩⟩ <;> first | exact h.elim | (have:=I h.2; simp only [List.length_cons]; omega)
theorem C5 {a b:PM}: ∀ {m:List (Int×List Nat)} {l:List V} {i:Nat} {x:Int×List Nat},(jO l m).p a b→m[i]?=some x→∃u,(l.drop (i*2)).take 2=[.int .i64 x.1,u]∧(ah.bp u x.2).p a b:=by
 intro m
 induction m with
 | nil=>intro l i x h I; simp at I
 | cons y m J =>
  intro l i x h I
  rcases l with _ | ⟨p,_ | ⟨q,l⟩⟩
  ·exact h.elim
  ·exact h.elim
  ·cases i with
   | zero =>
    simp at I; subst I
    exact ⟨q,by rw [show p=.int .i64 y.1 from h.1.1]; rfl,h.1.2⟩
   | succ i =>
    rw [List.getElem?_cons_succ] at I
    obtain ⟨u,U,h2⟩:=J h.2 I
    exact ⟨u,by rw [show (i+1)*2=i*2+2 by omega]; exact U,h2⟩
structure ik where
 act:Int
 bX:Int
 w:List (Int×List Nat)
 data:List Nat
def kf (wv dv:V)(D:ik): ah:=.an (.xs fun cs:List V=>.an (gd 2 wv cs) (jO cs D.w)) (.bp dv D.data)
theorem aq.kf (wv dv:V)(D:ik): aq (Am.kf wv dv D):=aq.an (aq.xs fun _=>aq.an (aq.gd _ _ _) (aq.jO _ _)) (aq.bp _ _)
def fZ : List V→List ik→ah
 | [],[]=>.pu True
 | a::b::w::d::l,x::m=>.an (.an (.pu (a=.int .i64 x.act∧b=.int .i64 x.bX)) (kf w d x)) (fZ l m)
 | _,_=>.pu False
theorem aq.fZ : ∀(m:List ik) (l:List V),aq (Am.fZ l m):=by
 intro m
 induction m with
 | nil=>intro l; rcases l with _ | ⟨a,_ | ⟨b,_ | ⟨c,_ | ⟨d,l⟩⟩⟩⟩ <;> exact aq.pu _
 | cons x m I=>intro l; rcases l with _ | ⟨a,_ | ⟨b,_ | ⟨c,_ | ⟨d,l⟩⟩⟩⟩ <;> first | exact aq.pu _ | exact aq.an (aq.an (aq.pu _) (aq.kf _ _ _)) (I l)
theorem Er {a b:PM}: ∀ {m:List ik} {l:List V},(fZ l m).p a b→l.length=m.length*4:=by
 intro m
 induction m with
 | nil=>intro l h; rcases l with _ | ⟨x,_ | ⟨y,_ | ⟨z,_ | ⟨u,l⟩⟩⟩⟩ <;> first | rfl | exact h.elim
 | cons x m I=>intro l h; rcases l with _ | ⟨x,_ | ⟨y,_ | ⟨z,_ | ⟨u,l⟩⟩⟩⟩ <;> first | exact h.elim | (have:=I h.2; simp only [List.length_cons]; omega)
theorem vW {a b:PM}: ∀ {m:List ik} {l:List V} {i:Nat} {x:ik},(fZ l m).p a b→m[i]?=some x→∃w d,(l.drop (i*4)).take 4=[.int .i64 x.act,.int .i64 x.bX,w,d]∧(kf w d x).p a b:=by
 intro m
 induction m with
 | nil=>intro l i x h I; simp at I
 | cons y m J =>
  intro l i x h I
  rcases l with _ | ⟨p,_ | ⟨q,_ | ⟨w,_ | ⟨d,l⟩⟩⟩⟩
  ·exact h.elim
  ·exact h.elim
  ·exact h.elim
  ·exact h.elim
  ·cases i with
   | zero =>
    simp at I; subst I
    exact ⟨w,d,by rw [show p=.int .i64 y.act from h.1.1.1,show q=.int .i64 y.bX from h.1.1.2]; rfl,h.1.2⟩
   | succ i =>
    rw [List.getElem?_cons_succ] at I
    obtain ⟨u,v,U,h2⟩:=J h.2 I
    exact ⟨u,v,by rw [show (i+1)*4=i*4+4 by omega]; exact U,h2⟩
section
variable {told:Nat→Option (List V→H→Option (V×H))} {h:H} {S:List ah} {X:ah} {r k q p a g aK N B:Nat} {op v x pv:V} {l data:List Nat} {ε:aM} {ps:List (List Nat)}
end
end Go.Proofs.YtconhghphklfjaaGreat.Am
namespace Go.Proofs.YtconhghphklfjaaGreat.Am
open Go
theorem Pu {h:H}{S:List ah}{cs:List V}{m:List (Int×List Nat)}{i:Nat}{x:Int×List Nat}(s:Sat h (jO cs m::S))(U:m[i]?=some x):
  ∃u,(cs.drop (i*2)).take 2=[.int .i64 x.1,u]∧u.cells=[u]∧storable u=true∧u.beq u=true∧(∀b∈x.2,b<256)∧Sat h (.bp u x.2::jO cs m::S):=by
 obtain ⟨a,b,q1,q2,q3⟩:=s.at (k:=0) rfl
 obtain ⟨u,e1,e2⟩:=C5 q3 U
 have s3:=(s.dup (aq.jO _ _)).dY (B:=.bp u x.2) fun a b h=>by
  obtain ⟨u',I,J⟩:=C5 h U
  rw [e1] at I
  injection I with _ I
  injection I with I _
  subst I
  exact J
 have hu:=(s3.ax (k:=0) rfl (bN _ _))
 exact ⟨u,e1,hu.cells.1,hu.cells.2,cg hu,hu.1,s3⟩
theorem G1 {h:H}{S:List ah}{cs:List V}{m:List (Int×List Nat)}{k:Nat}(s:Sat h S)(I:getA S k=some (jO cs m)): cs.length=m.length*2:=by
 obtain ⟨a,b,U,q2,J⟩:=s.at I
 exact LY J
structure NX (N:Nat)(ps:List (List Nat))(now:List (Int×List Nat))(nx:List (List Nat)): Prop where
 len:nx.length=N
 old:ps.length=N
 is:∀(n:Nat) (w:List Nat),nx[n]?=some w→(match lookL (n:Int) now with | some b=>w=b.drop 12 | none=>ps[n]?=some w)
theorem NX.put {N:Nat}{ps nx:List (List Nat)}{now:List (Int×List Nat)}{n:Nat}{b:List Nat}(h:NX N ps now nx)(I:n<N): NX N ps (cA (n:Int) b now) (nx.set n (b.drop 12)):=by
 refine ⟨by rw [List.length_set]; exact h.len,h.old,fun m w hm => ?_⟩
 rw [mw]
 by_cases e:(n:Int)=(m:Int)
 ·have:n=m:=by omega
  subst this
  rw [if_pos rfl]
  rw [List.getElem?_set_self (by rw [h.len]; exact I)] at hm
  exact (Option.some.inj hm).symm
 ·rw [if_neg e]
  rw [List.getElem?_set_ne (by omega)] at hm
  exact h.is m w hm
section
variable {told:Nat→Option (List V→H→Option (V×H))} {h:H} {S:List ah} {X:ah} {r k q p a g aK N B:Nat} {op v x pv wv dv:V} {l data:List Nat} {ε:aM} {ps:List (List Nat)}
def okW (N:Nat)(x:Int×List Nat): Prop:=0≤x.1∧x.1<N∧bu x.2=true
instance (N:Nat) (x:Int×List Nat):Decidable (okW N x):=by unfold okW; infer_instance
def nxW (N:Nat): List (Int×List Nat)→List (List Nat)→List (List Nat)
 | [],nx=>nx
 | x::l,nx=>nxW N l (if okW N x then nx.set x.1.toNat (x.2.drop 12) else nx)
def nowW (N:Nat): List (Int×List Nat)→List (Int×List Nat)→List (Int×List Nat)
 | [],now=>now
 | x::l,now=>nowW N l (if okW N x then cA x.1 x.2 now else now)
theorem LZ {P:Program}{n:Nat}{v:V}{l:List (List Nat)}{w:List Nat}{t J:TypeId}(s:Sat h (.arr 1 v (d_ l)::S))(hn:n<l.length)(hu:P.underlying t=some (.slice J))(I:aY P J=some 1):
  ∃id off h',indexAddrV P t v (.int .i64 (n:Int))=some (.ptr id off)∧fl P h J (.ptr id off) (.str w)=some h'∧Sat h' (.arr 1 v (d_ (l.set n w))::S):=by
 have U:d_ l≠[]:=fun e=>by have:=congrArg List.length e; rw [iN,List.length_nil] at this; omega
 have fK:=s.DU (j:=0) rfl
 obtain ⟨id,m,cap,M,rest,rfl,hl,hM,s1,hc⟩:=s.La U
 rw [iN,Nat.mul_one] at hl
 obtain ⟨h',e1,e2⟩:=s1.cZ (P:=P) (t:=J) (k:=0) (off:=n) (v:=.str w) rfl I (by rw [List.length_append,hM]) (by rw [hM,iN]; omega) rfl rfl
 refine ⟨id,n,h',?_,e1,hc h' (d_ (l.set n w)) S ?_ ?_ ?_⟩
 ·simp only [indexAddrV,hu,I,Int.toNat_natCast]
  rw [show (decide ((0:Int)≤(n:Int))&&decide ((n:Int)<(m:Int)))=true by simp; omega,cond_true]
  simp
 ·rw [iN,iN,List.length_set]
 ·rw [List.all_eq_true]; intro v hv; obtain ⟨x,_,rfl⟩:=List.mem_map.1 hv; rfl
 ·have e3:(d_ l++rest).set n (.str w)=d_ (l.set n w)++rest:=by
   rw [List.set_append_left _ _ (by rw [iN]; exact hn)]
   simp [d_,List.map_set]
  dsimp only [setA] at e2
  rw [e3] at e2
  exact e2
noncomputable def Q0 : Code:=cn [1,1,1,1,1,0,1,0,0] ((Tryz.f28.body).getD .skip)
theorem G2 (hT:W told){p5:Nat}{cs:List V}{D:ik}(We:N≤65536)(hB:B≤2000)(hD:D.w.length≤1048576∧∀x∈D.w,x.2.length≤1048576): ∀(j i:Nat) (ε:aM) (now:List (Int×List Nat)) (nx:List (List Nat)) (nv:V) (h:H) (E:List (Nat×V)) (Q:Ex→List (Nat×V)→H→Prop),i+j=D.w.length→EI N B ε→NW N now→NX N ps now nx →
  Sat h (eE g a now false::cz a p q r (.ptr g 0) data aK::cB r p q ε.1::bj q p ε.2.1::az p ε.2.2::.arr 1 nv (d_ nx)::.arr 1 pv (d_ ps)::pt p5 (.cells 4 [.int .i64 D.act,.int .i64 D.bX,wv,dv] false)::gd 2 wv cs::jO cs D.w::S) →
  Has E [(0,.ptr a 0),(1,pv),(5,.ptr p5 0),(18,.ptr g 0),(20,nv),(21,.int .i64 (i:Int))] →
  (∀ε' eY tZ E' h',EI N B ε'→(∀m,pgA ε' m=pgA ε m)→NW N eY→NX N ps eY tZ→(tZ=nxW N (D.w.drop i) nx∧eY=nowW N (D.w.drop i) now∧∀R:LD→Prop,gA R→R ε.2→R ε'.2)→Has E' [(0,.ptr a 0),(1,pv),(5,.ptr p5 0),(18,.ptr g 0),(20,nv)] →
   Sat h' (eE g a eY false::cz a p q r (.ptr g 0) data aK::cB r p q ε'.1::bj q p ε'.2.1::az p ε'.2.2::.arr 1 nv (d_ tZ)::.arr 1 pv (d_ ps)::pt p5 (.cells 4 [.int .i64 D.act,.int .i64 D.bX,wv,dv] false)::gd 2 wv cs::jO cs D.w::S)→Q (.exit 1) E' h') →
  WP ⟨Tryz.prog,told⟩ 262 (.loop Q0) E h Q:=by
 intro j
 induction j with
 | zero =>
  intro i ε now nx nv h E Q hi kO hw hx s hE hq
  have hlen:=G1 s (k:=9) rfl
  refine WP.loop (WP.has hE (zw (zg rfl (zm rfl (zf rfl (z7 _ _) (zl rfl (by exact s.ld (k:=7) rfl Ij rfl) ?_))))))
  refine zo rfl (aL rfl rfl rfl (s.sj (n:=D.w.length) (j:=8) rfl hlen (by decide) Tryz.underlying60)) ?_
  refine ae.aE rfl rfl rfl (af rfl rfl aX) (by simp <;> omega) ?_
  refine zv (zj rfl (WP.exit ?_))
  exact hq ε now nx _ _ kO (fun _=>rfl) hw hx (by rw [List.drop_of_length_le (by omega)]; exact ⟨rfl,rfl,fun _ _ h=>h⟩) ⟨rfl,rfl,rfl,rfl,rfl,trivial⟩ s
 | succ j ih =>
  intro i ε now nx nv h E Q hi kO hw hx s hE hq
  have hlen:=G1 s (k:=9) rfl
  have yc:D.w[i]?=some (D.w[i]'(by omega)):=List.getElem?_eq_getElem _
  generalize (D.w[i]'(by omega))=y at yc
  obtain ⟨pg,b⟩:=y
  have ji:D.w.drop i=(pg,b)::D.w.drop (i+1):=by
   obtain ⟨h1,h2⟩:=List.getElem?_eq_some_iff.1 yc
   rw [List.drop_eq_getElem_cons h1,h2]
  have qZ:b.length≤1048576:=hD.2 _ (List.mem_of_getElem? yc)
  obtain ⟨u,c1,u1,u2,u3,Pv,s⟩:=Pu (s.aa [9]) yc
  dsimp only [bringA,getA,ai] at s
  obtain ⟨id,off,g1,g2⟩:=s.Pt (P:=Tryz.prog) (i:=i) (j:=10) rfl (by omega) (by decide) Tryz.underlying60 J2 OU
  rw [c1] at g2
  have s:=s.aa [9,2,2,2,2,2,0,1,1,1,0]
  dsimp only [bringA,getA,ai] at s
  have ko:∀e∈now,e.2.length=512:=fun e he=>fJ (hw.good e he).1
  have Eo:=kO.b8
  have Q1:=ob (ε:=ε)
  refine WP.loop (WP.has hE (zw (zg rfl (zm rfl (zf rfl (z7 _ _) (zl rfl (by exact s.ld (k:=0) rfl Ij rfl) ?_))))))
  refine zo rfl (aL rfl rfl rfl (s.sj (n:=D.w.length) (j:=9) rfl hlen (by decide) Tryz.underlying60)) ?_
  refine ae.aR rfl rfl rfl (af rfl rfl aX) (by simp <;> omega) ?_
  refine zv (zi rfl (WP.skip (zw (WP.block (zg rfl (zf rfl (z7 _ _) (zl rfl (by exact s.ld (k:=0) rfl Ij rfl) ?_)))))))
  refine zm rfl (zo rfl (cH (r:=.ptr id off) rfl rfl g1) (zl rfl g2 ?_))
  refine ae.bO s rfl rfl rfl (bK OV) (fun Wf h s => ?_)
  dsimp only [V.cells,List.length_cons,List.length_nil,Nat.reduceAdd] at s
  refine ae.bn rfl rfl rfl rfl rfl (s.eN (j:=0) rfl J2 rfl (by simp only [List.all_cons,List.all_nil,u2]; rfl)) ?_
  intro h s
  dsimp only [setA] at s
  refine zv (zg rfl (zm rfl (zf rfl (nj _ _) (zl rfl (by exact s.ld (k:=0) rfl cq rfl) ?_))))
  refine zf rfl (sL _ _) (zl rfl (by exact s.ld (k:=0) rfl bg rfl) ?_)
  refine ae.call rfl rfl rfl rfl rfl rfl rfl (GH (n:=pg) hT (s.aa [2,2,2,2,2,2]) (bN _ _) (by omega) kO.ok (by omega) ko) ?_
  rintro v h ⟨e,eY,ε',hr,rfl,s⟩
  dsimp only [bringA,getA,ai] at s
  obtain ⟨k1,k2,k3,k4,k5⟩:=hr.ec kO.ec kO.ok.pins
  have U:=kO.Ko hr
  have next:∀(h:H) (E:List (Nat×V)) (tZ:List (List Nat)) (I:aM),EI N B I→(∀m,pgA I m=pgA ε' m)→NW N eY→NX N ps eY tZ→(tZ=(if okW N (pg,b) then nx.set pg.toNat (b.drop 12) else nx)∧eY=(if okW N (pg,b) then cA pg b now else now)∧∀R:LD→Prop,gA R→R ε'.2→R I.2) →
    Sat h (eE g a eY false::cz a p q r (.ptr g 0) data aK::cB r p q I.1::bj q p I.2.1::az p I.2.2::.arr 1 nv (d_ tZ)::.arr 1 pv (d_ ps)::pt p5 (.cells 4 [.int .i64 D.act,.int .i64 D.bX,wv,dv] false)::gd 2 wv cs::jO cs D.w::S) →
    Has E [(0,.ptr a 0),(1,pv),(5,.ptr p5 0),(18,.ptr g 0),(20,nv),(21,.int .i64 ((i:Int)+1))]→WP ⟨Tryz.prog,told⟩ 262 (.loop Q0) E h Q:=fun h E tZ I a1 a2 a3 a4 a7 a5 a6 =>
   ih (i+1) I eY tZ nv h E Q (by omega) a1 a3 a4 a5 a6 fun VF R_ Up E3 h3 b1 b2 b3 b4 b7 b5 b6=>hq VF R_ Up E3 h3 b1 (fun m=>by rw [b2,a2,k2]) b3 b4
    ⟨by rw [ji,nxW,←a7.1]; exact b7.1,by rw [ji,nowW,←a7.2.1]; exact b7.2.1,fun R hR tG=>b7.2.2 R hR (a7.2.2 R hR (hR.Ko hr tG))⟩ b5 b6
  have JF:¬okW N (pg,b)→eY=now→nx=(if okW N (pg,b) then nx.set pg.toNat (b.drop 12) else nx)∧eY=(if okW N (pg,b) then cA pg b now else now)∧∀R:LD→Prop,gA R→R ε'.2→R ε'.2:=fun q J=>⟨(if_neg q).symm,by rw [if_neg q,J],fun _ _ h=>h⟩
  refine za rfl (zv (WP.block (zg rfl (zf rfl (nj _ _) (zl rfl (by exact s.ld (k:=6) rfl cq rfl) ?_)))))
  by_cases VG:pg<0
  ·skip
   refine ae.aR rfl rfl rfl (af rfl rfl aX) (by simp; omega) ?_
   obtain ⟨rfl,J⟩:=k3 (by omega)
   have no:=JF (fun q=>by have:=q.1; omega)
   refine zm rfl (zx rfl (zx rfl (zx rfl (zx rfl (zx rfl (zq rfl (za rfl (zv (zi rfl (zg rfl (zm rfl (ae.aE rfl rfl rfl (af rfl rfl aN) (by simp) ?_))))))))))))
   refine zm rfl (zx rfl (zx rfl (zp rfl (zv (zj rfl (WP.skip (zr rfl (zm rfl (zb rfl (by exact bl (aF (by omega) (by omega))) ?_)))))))))
   refine za rfl (zv ?_)
   exact next _ _ nx ε' U (fun _=>rfl) (by rw [J]; exact hw) (by rw [J]; exact hx) (no J) (((s.aa [0,0,0,0,0,3,3,2,2,2]).del 11).del 10) ⟨rfl,rfl,rfl,rfl,rfl,rfl,trivial⟩
  ·skip
   refine ae.aE rfl rfl rfl (af rfl rfl aX) (by simp; omega) ?_
   refine zm rfl (zf rfl (nj _ _) (zl rfl (by exact s.ld (k:=6) rfl cq rfl) ?_))
   refine zm rfl (zo rfl (aL rfl rfl rfl (s.iH (n:=N) (j:=9) rfl (by rw [iN,hx.old,Nat.mul_one]) (by decide) Tryz.underlying57)) ?_)
   by_cases Ax:(N:Int)≤pg
   ·skip
    refine ae.aR rfl rfl rfl (af rfl rfl kZ) (by simp; omega) ?_
    obtain ⟨rfl,J⟩:=k3 (by omega)
    have no:=JF (fun q=>by have:=q.2.1; omega)
    refine zp rfl (za rfl (zv (zi rfl (zg rfl (zm rfl (ae.aE rfl rfl rfl (af rfl rfl aN) (by simp) ?_))))))
    refine zm rfl (zx rfl (zx rfl (zp rfl (zv (zj rfl (WP.skip (zr rfl (zm rfl (zb rfl (by exact bl (aF (by omega) (by omega))) ?_)))))))))
    refine za rfl (zv ?_)
    exact next _ _ nx ε' U (fun _=>rfl) (by rw [J]; exact hw) (by rw [J]; exact hx) (no J) (((s.aa [0,0,0,0,0,3,3,2,2,2]).del 11).del 10) ⟨rfl,rfl,rfl,rfl,rfl,rfl,trivial⟩
   ·skip
    refine ae.aE rfl rfl rfl (af rfl rfl kZ) (by simp; omega) ?_
    obtain ⟨n,rfl⟩:∃n:Nat,pg=n:=⟨pg.toNat,by omega⟩
    have N9:n<N:=by omega
    refine zp rfl (za rfl (zv (zj rfl (zg rfl (zm rfl ?_)))))
    cases hg:bu b with
    | false =>
     obtain ⟨rfl,J⟩:=k4 (by omega) (by omega) hg
     have no:=JF (fun q=>by have:=q.2.2; rw [hg] at this; cases this)
     refine ae.aE rfl rfl rfl (af rfl rfl cS) (by decide) ?_
     refine za rfl (zv (zj rfl (zg rfl (zf rfl (sL _ _) (zl rfl (by exact s.ld (k:=6) rfl bg rfl) ?_)))))
     refine ae.call rfl rfl rfl rfl rfl rfl rfl (AU hT (s.aa [5]) (bN _ _)) ?_
     rintro v h ⟨rfl,s⟩
     dsimp only [bringA,getA,ai] at s
     rw [hg]
     refine ae.aR rfl rfl rfl (dA rfl rfl) (rfl) (za rfl (zv (zi rfl (zg rfl (zm rfl (ae.aE rfl rfl rfl (af rfl rfl aN) (by decide) ?_))))))
     refine zv (zj rfl (WP.skip (zr rfl (zm rfl (zb rfl (by exact bl (aF (by omega) (by omega))) ?_)))))
     refine za rfl (zv ?_)
     exact next _ _ nx ε' U (fun _=>rfl) (by rw [J]; exact hw) (by rw [J]; exact hx) (no J) (((s.aa [1,1,1,1,1,3,3,2,2,2]).del 11).del 10) ⟨rfl,rfl,rfl,rfl,rfl,rfl,trivial⟩
    | true =>
     obtain ⟨rfl,rfl⟩:=k5 (by omega) (by omega) hg
     have lH:=hw.put (n:=(n:Int)) (by omega) (by omega) hg Pv
     have iT:=hx.put (b:=b) N9
     have Vh:=U.b8
     have VH:=ob (ε:=ε')
     refine ae.aE rfl rfl rfl (af rfl rfl cS) (by decide) ?_
     refine za rfl (zv (zj rfl (zg rfl (zf rfl (sL _ _) (zl rfl (by exact s.ld (k:=6) rfl bg rfl) ?_)))))
     refine ae.call rfl rfl rfl rfl rfl rfl rfl (AU hT (s.aa [5]) (bN _ _)) ?_
     rintro v h ⟨rfl,s⟩
     dsimp only [bringA,getA,ai] at s
     rw [hg]
     refine ae.aE rfl rfl rfl (dA rfl rfl) (rfl) (za rfl (zv (zj rfl (zg rfl (zm rfl (ae.aE rfl rfl rfl (af rfl rfl aN) (by decide) ?_))))))
     refine za rfl (zv (zj rfl (zw ?_)))
     have s:=s.aa [8,0]
     dsimp only [bringA,getA,ai] at s
     have iU:=cT (s.ax (k:=1) rfl (bN _ _)) (a:=12) (by rw [fJ hg]; decide)
     obtain ⟨iY,Jc,h2,f1,f2,f3⟩:=LZ (P:=Tryz.prog) (w:=b.drop 12) s (by rw [hx.len]; exact N9) Tryz.underlying57 Nh
     refine WP.drawn [none,none,none,none,none,none,none,none,none] rfl (by kernel_rfl) (by kernel_rfl) ?_
     refine zM rfl (zF rfl (nj _ _) (zL rfl (by exact s.ld (k:=7) rfl cq rfl) ?_))
     refine zF rfl (sL _ _) (zL rfl (by exact s.ld (k:=7) rfl bg rfl) ?_)
     refine zO rfl (bM (p:=some (.int .i64 12)) (q:=none) (m:=none) (p':=some 12) (q':=none) (m':=none) rfl rfl rfl rfl rfl rfl rfl iU.1) (au.op rfl rfl rfl (by simp only [isEff,Tryz.underlying9]) (bz rfl (qN iU.2.1)) ?_)
     refine zO rfl (cH (r:=.ptr iY Jc) rfl rfl f1) (au.fI rfl rfl rfl (OpR.bn rfl rfl rfl (⟨h2,f2,f3⟩)) ?_)
     rintro v h ⟨rfl,s⟩
     refine au.nil ⟨⟨trivial,trivial,trivial,trivial,trivial,trivial,trivial,trivial,trivial,trivial⟩,?_⟩
     obtain ⟨Uq,Sa,f4,f5⟩:=lW (P:=Tryz.prog) s (k:=0) (i:=n) (c:=.str (b.drop 12)) rfl (G0 (List.getElem?_set_self (by rw [hx.len]; exact N9))) Tryz.underlying57 Nh
     refine zw (WP.drawn [none,none,none,none,none,none,none,none,none,none,none] rfl (by kernel_rfl) (by kernel_rfl) ?_)
     refine zM rfl (zO rfl (JW rfl (FR Tryz.underlying27 rfl)) (zF rfl (nj _ _) (zL rfl (by exact s.ld (k:=7) rfl cq rfl) ?_)))
     refine zM rfl (zF rfl (nj _ _) (zL rfl (by exact s.ld (k:=7) rfl cq rfl) ?_))
     refine zO rfl (cH (r:=.ptr Uq Sa) rfl rfl f4) (zL rfl (f5 _ Ti) (au.any rfl rfl rfl rfl (OpR.call rfl rfl rfl rfl (LS (n:=(n:Int)) (w:=b.drop 12) hT (s.aa [2,2,2,2,2]) U.ok (by omega) (fun e he=>fJ (lH.good e he).1))) ?_))
     rintro v h ⟨e2,b2,I,FE,rfl,s⟩
     dsimp only [bringA,getA,ai] at s
     obtain ⟨r1,r2,r3,r4⟩:=FE.ec U.ec U.ok.pins
     obtain ⟨rfl,rb⟩:=r3 (by omega) (by omega)
     rw [AI] at rb
     simp only at rb
     subst rb
     have ir:qt 0 b2 (b2.drop 12)=true:=by
      obtain ⟨q1,q2⟩:=Ep hg
      rw [qt,decide_eq_true q1,decide_eq_true q2]; rfl
     rw [ir]
     refine au.aE rfl rfl rfl rfl (dA rfl rfl) (rfl) ?_
     refine au.nil ⟨⟨trivial,trivial,trivial,trivial,trivial,trivial,trivial,trivial,trivial,trivial,trivial,trivial⟩,?_⟩
     refine zj rfl (WP.skip (zr rfl (zm rfl (zb rfl (by exact bl (aF (by omega) (by omega))) ?_))))
     refine za rfl (zv ?_)
     exact next _ _ _ I (U.AQ FE) r2 lH iT ⟨(if_pos (show okW N ((n:Int),b2) from ⟨by omega,by omega,hg⟩)).symm,(if_pos (show okW N ((n:Int),b2) from ⟨by omega,by omega,hg⟩)).symm,fun R hR h=>hR.AQ FE h⟩ (((s.aa [0,0,0,0,0,0,3,2,2,2]).del 11).del 10) ⟨rfl,rfl,rfl,rfl,rfl,rfl,trivial⟩
end
end Go.Proofs.YtconhghphklfjaaGreat.Am
namespace Go.Proofs.YtconhghphklfjaaGreat.Am
open Go
theorem Sb {P:Program}{E:List (Nat×V)}{h:H}{a b c d:Nat}{v w x y:V}(I:look E a=some v)(J:look E b=some w)(U:look E c=some x)(h4:look E d=some y): gw P E h [.tmp a,.tmp b,.tmp c,.tmp d]=some (.aW [v,w,x,y]):=by simp only [gw,mapO,resE,I,J,U,h4]
theorem yf {h:H}{l:List Nat}{kd:Int}{tx:Nat}{dv:V}(I:View h dv l): buildV Tryz.prog 40 [(0,.int .i64 kd),(1,.int .u64 (tx:Int)),(4,dv)]=some (.agg (eC kd tx 0 0 dv .aH)):=by
 rcases I.2 with ⟨rfl | ⟨J,rfl⟩,_⟩ | ⟨id,off,cap,n,cs,st,rfl,_⟩
 ·rw [rJ]; rfl
 ·rw [rJ]; rfl
 ·rw [rJ]; rfl
theorem NX.Pw {N:Nat}{ε ε':aM}{ps nx:List (List Nat)}{now:List (Int×List Nat)}{aD:Nat}(h:NX N ps now nx)(hw:NW N now)(hp:oc ε ps)(hd:∀m,pgA ε' m=match lookL m now with | some b=>cj b aD | none=>pgA ε m): oc ε' nx:=fun n w hn=>by
 have I:=h.is n w hn
 rw [hd]
 cases J:lookL (n:Int) now with
 | some b =>
  rw [J] at I
  simp only at I ⊢
  have U:=hw.look J
  rw [I]
  exact (ya U.1 U.2).2.2
 | none =>
  rw [J] at I
  exact hp n w I
section
variable {told:Nat→Option (List V→H→Option (V×H))} {h:H} {S:List ah} {X:ah} {r k q p a g aK N B:Nat} {op v x pv nv wv dv:V} {l data:List Nat} {ε:aM} {ps nx:List (List Nat)} {now:List (Int×List Nat)}
end
end Go.Proofs.YtconhghphklfjaaGreat.Am
