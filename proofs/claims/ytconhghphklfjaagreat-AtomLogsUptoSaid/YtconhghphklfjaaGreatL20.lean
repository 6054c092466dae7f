/- After a crash the log has the records of the groups that are there and no others, with their numbers and data; the conditions are those of the given statement, for arguments that a machine can hold. Part 20 of 54. -/
import Derived.Test.YtconhghphklfjaaGreatL19
namespace Go.Proofs.YtconhghphklfjaaGreat.Am
open Go
section
variable {P:Program} {h h':H} {S:List ah} {v w x:V} {cs ds:List V} {k:Nat}
theorem J9 {t:TypeId}{id off n q:Nat}{st:Bool}(J:bx P t=some true)(hs:aY P t=some q)(U:T.get h.tr id=some (.cells n cs st))(hl:cs.length=n)(hb:off+q≤n):
  loadV P h t (.ptr id off)=some (.agg ((cs.drop off).take q)):=by
 simp only [loadV,J,hs,rdN,U]
 rw [ay.2 hb,cond_true]
 cases I:(Nat.beq off 0&&Nat.beq q n) with
 | true =>
  simp only [Bool.and_eq_true,beq_iff] at I
  obtain ⟨rfl,rfl⟩:=I
  simp [←hl]
 | false=>rfl
theorem Sat.La (s:Sat h (.arr k v cs::S))(I:cs≠[]): ∃id n cap N rest,v=.sl id 0 n cap∧cs.length=n*k∧N=cs.length+rest.length∧Sat h (pt id (.cells N (cs++rest) false)::S) ∧
  (∀(h':H) (cs':List V) (S':List ah),cs'.length=cs.length→cs'.all storable=true→Sat h' (pt id (.cells N (cs'++rest) false)::S')→Sat h' (.arr k v cs'::S')):=by
 obtain ⟨m,r,J,U,h3,a,b,g1,g2,g3,⟨gl,g4⟩,g5⟩:=s.ok
 rcases g4 with ⟨_,e⟩ | ⟨id,n,cap,N,rest,rfl,hg,q1,q2,q3,q4⟩
 ·exact absurd e I
 ·refine ⟨id,n,cap,N,rest,rfl,q1,q2.symm,⟨s.wf,m,r,J,U,h3,a,b,g1,g2,g3,hg,g5⟩,fun h' cs' S' e1 e2 s'=>s'.dY ?_⟩
  intro m' r' hm
  exact ⟨e2,.inr ⟨id,n,cap,N,rest,rfl,hm,by omega,by omega,q3,q4⟩⟩
theorem Sat.DU {j:Nat}(s:Sat h S)(I:getA S j=some (.arr k v cs)): cs.all storable=true:=by
 obtain ⟨m,r,U,h2,J⟩:=s.at I
 exact J.1
theorem Sat.gx {j:Nat}(s:Sat h S)(I:getA S j=some (.arr k v cs)): v.cells=[v]∧storable v=true∧v.beq v=true:=by
 obtain ⟨m,r,U,h2,J⟩:=s.at I
 rcases J.2 with ⟨rfl,_⟩ | ⟨id,n,cap,N,rest,rfl,_⟩
 ·exact ⟨rfl,rfl,rfl⟩
 ·exact ⟨rfl,rfl,vm _ _ _ _⟩
theorem Sat.iH {j n:Nat}{t e:TypeId}(s:Sat h S)(U:getA S j=some (.arr k v cs))(hn:cs.length=n*k)(J:1≤k)(hu:P.underlying t=some (.slice e)): lenV P h t v=some (.int .i64 n):=by
 obtain ⟨m,r,h1,h2,h3⟩:=s.at U
 rcases h3.2 with ⟨rfl,rfl⟩ | ⟨id,n',cap,N,rest,rfl,_,q,_⟩
 ·have:n=0:=by
   rcases Nat.eq_zero_or_pos n with I | I
   ·exact I
   ·have:=Nat.mul_le_mul I J
    simp at hn
    omega
  subst this
  simp only [lenV,hu]
  rfl
 ·have:n'=n:=Nat.eq_of_mul_eq_mul_right J (by omega)
  subst this
  simp only [lenV,hu]
theorem oP (z:List V)(n:Nat): (repeatL z n).length=n*z.length:=by
 induction n with
 | zero=>simp [repeatL]
 | succ n I=>simp only [repeatL,List.length_append,I,Nat.succ_mul]; omega
theorem vB {z:List V}(I:z.all storable=true)(n:Nat): (repeatL z n).all storable=true:=by
 induction n with
 | zero=>rfl
 | succ n J=>simp only [repeatL,List.all_append,I,J,Bool.and_self]
theorem xG (s:Sat h S){t e:TypeId}{i:TypeInfo}{z:V}{n c:Nat}(hu:P.underlying t=some (.slice e))(hi:P.info? e=some i)(U:zeroT P e=some z)(hk:i.size=k)(hb:i.bytes≤4096)(J:z.cells.length=k)(I:z.cells.all storable=true)
 (h1:1≤k)(hn:n≤c)(hc:c<1073741824):
  ∃v h',makeSliceV P h t (.int .i64 (n:Int)) (.int .i64 (c:Int))=some (v,h')∧Sat h' (.arr k v (repeatL z.cells n)::S):=by
 refine ⟨.sl h.next 0 n (.exact c),h.new (.cells (c*k) (repeatL z.cells c) false),?_,(s.new _).dY fun m r hm => ?_⟩
 ·simp only [makeSliceV,hu,hi,U,Int.toNat_natCast,hk,J]
  rw [show (decide ((0:Int)≤(n:Int))&&decide ((n:Int)≤(c:Int))&&decide ((c:Int)<1073741824)&&Nat.ble i.bytes 4096&&Nat.beq k k&&Nat.ble 1 k)=true by
   rw [ay.2 hb,ay.2 h1,Nat.beq_refl]; simp; omega,cond_true]
 ·refine ⟨vB I n,.inr ⟨h.next,n,.exact c,c*k,repeatL z.cells (c-n),rfl,?_,by rw [oP,J],?_,vB I _,rfl,hn⟩⟩
  ·have:repeatL z.cells n++repeatL z.cells (c-n)=repeatL z.cells c:=by
    clear hm
    have:∀a b,repeatL z.cells a++repeatL z.cells b=repeatL z.cells (a+b):=fun a b=>by
     induction a with
     | zero=>simp [repeatL]
     | succ a ih=>rw [Nat.succ_add]; simp only [repeatL,List.append_assoc,ih]
    rw [this,show n+(c-n)=c by omega]
   rw [this]; exact hm
  ·rw [oP,oP,J,←Nat.add_mul,show n+(c-n)=c by omega]
theorem Lb {id off n:Nat}{vs:List V}(J:T.get h.tr id=some (.cells n cs false))(hl:cs.length=n)(U:off+vs.length≤n):
  wrN h id off vs=some (h.put id (some (.cells n (cs.take off++(vs++cs.drop (off+vs.length))) false))):=by
 simp only [wrN,J]
 rw [ay.2 U,cond_true]
 congr 3
 cases I:(Nat.beq off 0&&Nat.beq vs.length n) with
 | true =>
  simp only [Bool.and_eq_true,beq_iff] at I
  obtain ⟨rfl,hn⟩:=I
  rw [cond_true]
  have:cs.drop (0+vs.length)=[]:=List.drop_eq_nil_of_le (by omega)
  rw [this]; simp
 | false=>rw [cond_false]
theorem vC {id off n q:Nat}{st:Bool}(J:T.get h.tr id=some (.cells n cs st))(U:cs.length=n)(hb:off+q≤n): rdN h id off q=some ((cs.drop off).take q):=by
 simp only [rdN,J]
 rw [ay.2 hb,cond_true]
 cases I:(Nat.beq off 0&&Nat.beq q n) with
 | true =>
  simp only [Bool.and_eq_true,beq_iff] at I
  obtain ⟨rfl,rfl⟩:=I
  simp [←U]
 | false=>rfl
theorem fP (s:Sat h (.arr k v cs::.arr k w ds::S)){t e:TypeId}{i:TypeInfo}{z:V}(hu:P.underlying t=some (.slice e))(hi:P.info? e=some i)(hz:zeroT P e=some z)(hk:i.size=k)(hb:i.bytes≤4096)(hl:z.cells.length=k)
 (h1:1≤k)(ee:cs.length+ds.length≤1073741824):
  ∃v' h',appendV P h #[t,t] v w=some (v',h')∧Sat h' (.arr k v' (cs++ds)::.arr k w ds::S):=by
 have RI:=s.DU (j:=0) rfl
 have Il:=s.DU (j:=1) rfl
 have oM:(cs++ds).all storable=true:=by rw [List.all_append,RI,Il]; rfl
 -- what is appended
 have wu:∃m,srcV h k w=some (ds,m)∧ds.length=m*k:=by
  obtain ⟨m,r,q1,q2,q3⟩:=s.at (k:=1) rfl
  rcases q3.2 with ⟨rfl,rfl⟩ | ⟨id,n,cap,N,rest,rfl,J,U,e2,e3,e4⟩
  ·exact ⟨0,rfl,by simp⟩
  ·refine ⟨n,?_,U⟩
   simp only [srcV]
   rw [vC (q1 _ _ J) (by simp [e2]) (by omega)]
   rw [List.drop_zero,←U,List.take_left' rfl]
   rfl
 obtain ⟨m,wu,hm⟩:=wu
 have I:∀n:Nat,n*k=cs.length→iR (n+m) i.bytes=true:=fun n hn=>by
  have U:(n+m)*k=cs.length+ds.length:=by rw [Nat.add_mul,hn,hm]
  have e2:n+m≤(n+m)*k:=Nat.le_mul_of_pos_right _ h1
  have e3:(n+m)*i.bytes≤(n+m)*4096:=Nat.mul_le_mul_left _ hb
  exact pT.2 ⟨by omega,by omega⟩
 have zy:∀(σ:H) (n:Nat) (T:List ah),Sat σ T→n*k=cs.length→1≤m→Sat (jC σ k cs ds (n+m)).2 (.arr k (jC σ k cs ds (n+m)).1 (cs++ds)::T):=by
  intro σ n T sT hn qL
  refine (sT.new (.cells ((n+m)*k) (cs++ds) false)).dY fun a r F1=>⟨oM,.inr ⟨σ.next,n+m,.rest k 0,(n+m)*k,[],rfl,by rw [List.append_nil]; exact F1,by rw [List.length_append,Nat.add_mul]; omega,by rw [List.length_append,Nat.add_mul]; simp; omega,rfl,rfl,rfl,rfl,by omega⟩⟩
 unfold appendV
 simp only [hu,hi,hz,hk,hl,wu]
 rw [show (Nat.ble 1 k&&Nat.ble i.bytes 4096&&Nat.beq k k)=true by rw [ay.2 h1,ay.2 hb,Nat.beq_refl]; rfl,cond_true]
 cases xB:Nat.beq m 0 with
 | true =>
  have:m=0:=beq_iff.1 xB
  subst this
  have Tm:ds=[]:=List.eq_nil_of_length_eq_zero (by simpa using hm)
  subst Tm
  rw [cond_true,List.append_nil]
  obtain ⟨m,r,q1,q2,q3⟩:=s.at (k:=0) rfl
  rcases q3.2 with ⟨rfl,rfl⟩ | ⟨id,n,cap,N,rest,rfl,J,U,e2,e3,e4⟩
  ·exact ⟨_,_,rfl,s⟩
  ·exact ⟨_,_,rfl,s⟩
 | false =>
  have qL:1≤m:=by
   rcases Nat.eq_zero_or_pos m with h0 | h0
   ·rw [eH h0] at xB; cases xB
   ·exact h0
  rw [cond_false]
  obtain ⟨a,r,q1,q2,q3⟩:=s.at (k:=0) rfl
  rcases q3.2 with ⟨rfl,rfl⟩ | ⟨id,n,cap,N,rest,rfl,J,U,e2,e3,e4⟩
  ·have J:=I 0 (by simp)
   rw [Nat.zero_add] at J
   simp only [J,cond_true]
   have:=zy h 0 (.arr k .aH []::.arr k w ds::S) s (by simp) qL
   rw [Nat.zero_add] at this
   refine ⟨_,_,rfl,?_⟩
   exact (this.kY [1]).drop
  ·cases cap with
   | exact c =>
    obtain ⟨e4,e5⟩:=e4
    simp only [Nat.zero_add]
    have kx:(cs++rest).take cs.length=cs:=List.take_left' rfl
    cases hq:Nat.ble (n+m) c with
    | true =>
     have nI:=ay.1 hq
     rw [cond_true]
     have gV:n*k+ds.length≤N:=by rw [hm,←Nat.add_mul,e4]; exact Nat.mul_le_mul_right _ nI
     rw [Lb (q1 _ _ J) (by simp [e2]) gV]
     simp only
     obtain ⟨m',r',p1,p2,p3,x1,x2,x3,x4,x5,⟨_,x6⟩,x7⟩:=s.ok
     have uj:x1 id=some (.cells N (cs++rest) false):=by
      rcases x6 with ⟨x6,_⟩ | ⟨tK,n',Mr,N',O7,x6,x8,x9,Tn,_⟩
      ·cases x6
      ·injection x6 with y1 y2 y3 y4
       subst y1
       rw [x8]
       have:=p1 _ _ (x4 _ _ x8)
       rw [q1 _ _ J] at this
       injection this with this
       rw [this]
     have s0:Sat h (pt id (.cells N (cs++rest) false)::.arr k w ds::S):=⟨s.wf,m',r',p1,p2,p3,x1,x2,x3,x4,x5,uj,x7⟩
     have s1:=s0.put (k:=0) (o':=.cells N ((cs++rest).take (n*k)++(ds++(cs++rest).drop (n*k+ds.length))) false) rfl
     refine ⟨_,_,rfl,Sat.dY s1 fun a' V0 ha=>⟨oM,.inr ⟨id,n+m,.exact c,N,rest.drop ds.length,rfl,?_,by rw [List.length_append,Nat.add_mul]; omega,by simp; omega,?_,e4,nI⟩⟩⟩
     ·have To:a' id=some (.cells N ((cs++rest).take (n*k)++(ds++(cs++rest).drop (n*k+ds.length))) false):=ha
      rw [To,←U,kx,List.drop_append,List.drop_eq_nil_of_le (by omega),Nat.add_sub_cancel_left,List.nil_append,List.append_assoc]
     ·rw [List.all_eq_true] at e3 ⊢
      exact fun y hy=>e3 y (List.mem_of_mem_drop hy)
    | false =>
     rw [cond_false,I n U.symm,cond_true,vC (q1 _ _ J) (by simp [e2]) (by omega)]
     simp only
     rw [List.drop_zero,←U,kx]
     have:=zy h n _ s U.symm qL
     exact ⟨_,_,rfl,(this.kY [1]).drop⟩
   | rest e' alt =>
    obtain ⟨ek,rfl,rfl,e7⟩:=e4
    have ek:=ek.symm
    subst ek
    simp only [Nat.beq_refl,cond_true,List.append_nil,Nat.zero_add] at J e2 ⊢
    have uc:gY h id 0 k=n:=by
     simp only [gY,q1 _ _ J]
     rw [Nat.sub_zero,←e2]
     simp only [List.length_nil,Nat.add_zero,U]
     exact Nat.mul_div_cancel _ h1
    rw [uc]
    rw [show Nat.ble (n+m) n=false by
     cases hq:Nat.ble (n+m) n with
     | true=>have:=ay.1 hq; omega
     | false=>rfl,cond_false,I n U.symm,show Nat.ble 2 ((n+m)*k)=true from ay.2 (by
      have:2*1≤(n+m)*k:=Nat.mul_le_mul (by omega) h1
      omega),Bool.and_self,cond_true,vC (q1 _ _ J) (by simpa using e2) (by simp at e2; omega),q1 _ _ J]
    simp only
    obtain ⟨m',r',p1,p2,p3,x1,x2,x3,x4,x5,⟨_,x6⟩,x7⟩:=s.ok
    have uj:x1 id=some (.cells N cs false):=by
     rcases x6 with ⟨x6,_⟩ | ⟨tK,n',Mr,N',O7,x6,x8,x9,Tn,_⟩
     ·cases x6
     ·injection x6 with y1 y2 y3 y4
      subst y1
      rw [x8]
      have:=p1 _ _ (x4 _ _ x8)
      rw [q1 _ _ J] at this
      injection this with this
      rw [this]
    have s0:Sat h (pt id (.cells N cs false)::.arr k w ds::S):=⟨s.wf,m',r',p1,p2,p3,x1,x2,x3,x4,x5,uj,x7⟩
    have:=zy (h.put id none) n _ s0.kill U.symm qL
    rw [List.drop_zero,List.take_of_length_le (by omega)]
    exact ⟨_,_,rfl,this⟩
end
section
variable {P:Program} {h h':H} {S:List ah} {v w x:V} {cs ds:List V} {k:Nat}
theorem Sat.eN {t:TypeId}{j id n:Nat}{l:List V}(s:Sat h S)(J:getA S j=some (pt id (.cells n cs false)))(hs:aY P t=some n)(U:l.length=n)(I:l.all storable=true):
  ∃h₁,fl P h t (.ptr id 0) (.agg l)=some h₁∧Sat h₁ (setA S j (pt id (.cells n l false))):=by
 refine ⟨h.put id (some (.cells n l false)),?_,s.put J⟩
 simp only [fl,hs,V.cells,I,U,Nat.beq_refl,Bool.and_self,cond_true,wrN,s.row J]
 rw [ay.2 (by omega:0+n≤n),cond_true]
theorem jG (s:Sat h S){t e:TypeId}{z:V}(hu:P.underlying t=some (.slice e))(hz:zeroT P e=some z)(hk:aY P e=some k)(J:z.cells.length=k)(h1:1≤k)(h2:k≤65536)(U:x.cells.length=k)(I:x.cells.all storable=true):
  ∃v h',buildSliceV P h t 1 [(0,x)]=some (v,h')∧Sat h' (.arr k v x.cells::S):=by
 refine ⟨.sl h.next 0 1 (.exact 1),newRow h x.cells,?_,?_⟩
 ·simp only [buildSliceV,hu,hk,hz]
  rw [show (Nat.beq z.cells.length k&&Nat.ble (1*k) 65536&&Nat.ble 1 k)=true by rw [J,Nat.beq_refl,ay.2 (by omega),ay.2 h1]; rfl,cond_true]
  have e1:repeatL z.cells 1=z.cells:=by simp [repeatL]
  simp only [fillV,e1,U,J,Nat.beq_refl,Bool.true_and]
  rw [ay.2 (by omega:0*k+k≤k),cond_true]
  have e2:z.cells.take (0*k)++(x.cells++z.cells.drop (0*k+k))=x.cells:=by
   rw [Nat.zero_mul,List.take_zero,List.nil_append,List.drop_eq_nil_of_le (by omega),List.append_nil]
  simp only [e2,I,cond_true]
 ·refine (s.new _).dY fun m r hm=>⟨I,.inr ⟨h.next,1,.exact 1,k,[],rfl,?_,by omega,by simp; omega,rfl,by omega,Nat.le_refl _⟩⟩
  have hm:m h.next=some (.cells x.cells.length x.cells false):=hm
  rw [hm,U,List.append_nil]
end
section
variable {P:Program} {h h':H} {S:List ah} {X:ah} {v w x:V} {l:List Nat} {k:Nat}
theorem eR.slice {m:PM}{a b:Nat}(hv:eR m v l)(nE:a≤b)(hb:b≤l.length): eR m (slR v a b) ((l.take b).drop a):=by
 have U:∀x∈(l.take b).drop a,x<256:=fun x hx=>hv.1 x (List.mem_of_mem_take (List.mem_of_mem_drop hx))
 have hlen:((l.take b).drop a).length=b-a:=by simp; omega
 obtain ⟨hl,tA⟩:=hv
 rcases tA with ⟨rfl | ⟨ea,rfl⟩,rfl⟩ | ⟨id,off,cap,n,cs,st,rfl,hg,h1,h2,h3,h4⟩
 ·simp at hb
  have:b=0:=by omega
  have:a=0:=by omega
  subst_vars
  exact ⟨by simp,.inl ⟨.inl rfl,by simp⟩⟩
 ·simp at hb
  have:b=0:=by omega
  have:a=0:=by omega
  subst_vars
  exact ⟨by simp,.inl ⟨.inr ⟨ea,rfl⟩,by simp⟩⟩
 ·have I:∀o,o=off+a∨b-a=0→(cs.drop o).take (b-a)=ofBytes ((l.take b).drop a):=by
   intro o ho
   rcases ho with rfl | h0
   ·have e:=congrArg (fun q=>(q.take b).drop a) h3
    simp only [ofBytes,←List.map_take,←List.map_drop] at e ⊢
    rw [←e,List.take_take,Nat.min_eq_left hb,List.drop_take,List.drop_drop]
   ·rw [h0,List.take_zero]
    have:((l.take b).drop a)=[]:=List.eq_nil_of_length_eq_zero (by omega)
    rw [this]; rfl
  cases cap with
  | exact c =>
   have hc:l.length≤c:=h4
   refine ⟨U,.inr ⟨id,_,_,n,cs,st,by rw [hlen]; rfl,hg,h1,?_,?_,?_⟩⟩
   ·rw [hlen]
    by_cases J:c=a
    ·rw [eH J,cond_true]; omega
    ·rw [bT J,cond_false]; omega
   ·rw [hlen]
    by_cases J:c=a
    ·rw [eH J,cond_true]; exact I _ (.inr (by omega))
    ·rw [bT J,cond_false,Nat.mul_one]; exact I _ (.inl rfl)
   ·show ((l.take b).drop a).length≤c-a
    rw [hlen]; omega
  | rest e alt =>
   have he:e=1:=h4
   subst he
   exact ⟨U,.inr ⟨id,_,_,n,cs,st,by rw [hlen]; rfl,hg,h1,by rw [hlen]; omega,by rw [hlen,Nat.mul_one]; exact I _ (.inl rfl),rfl⟩⟩
theorem iP {a b:Nat}(U:bU X (bZ v l))(I:a≤b)(J:b≤l.length): bU X (bZ (slR v a b) ((l.take b).drop a)):=fun m r hm =>
 (U m r hm).imp (fun h=>eR.slice h I J) (fun h=>eR.slice h I J)
theorem lU {a:Nat}(I:bU X (bZ v l))(J:a≤l.length): bU X (bZ (slR v a l.length) (l.drop a)):=by
 have:=iP I J (Nat.le_refl _)
 rwa [List.take_length] at this
theorem p9 {b:Nat}(I:bU X (bZ v l))(J:b≤l.length): bU X (bZ (slR v 0 b) (l.take b)):=by
 have:=iP I (Nat.zero_le b) J
 rwa [List.drop_zero] at this
theorem Sat.jZ (s:Sat h S): Sat h (.arr k .aH []::S):=(s.eu trivial).dY fun _ _ _=>⟨rfl,.inl ⟨rfl,rfl⟩⟩
theorem Sat.F2 (s:Sat h S): Sat h (a_ .aH []::S):=(s.eu trivial).dY fun _ _ _=>⟨by simp,.inl ⟨rfl,rfl⟩⟩
theorem Sat.mh (s:Sat h S): Sat h (tP .aH []::S):=(s.eu trivial).dY fun _ _ _=>⟨by simp,.inl ⟨.inl rfl,rfl⟩⟩
theorem rP (s:Sat h S){t e:TypeId}{i:TypeInfo}{z:V}{n:Nat}(hu:P.underlying t=some (.slice e))(hi:P.info? e=some i)(I:zeroT P e=some z)(J:i.size=k)(U:i.bytes≤4096)(hl:z.cells.length=k)
 (h1:1≤k)(hn:n<1073741824):
  ∃id h',makeSliceV P h t (.int .i64 (n:Int)) (.int .i64 (n:Int))=some (.sl id 0 n (.exact n),h')∧Sat h' (pt id (.cells (n*k) (repeatL z.cells n) false)::S):=by
 refine ⟨h.next,h.new (.cells (n*k) (repeatL z.cells n) false),?_,s.new _⟩
 simp only [makeSliceV,hu,hi,I,Int.toNat_natCast,J,hl]
 rw [show (decide ((0:Int)≤(n:Int))&&decide ((n:Int)≤(n:Int))&&decide ((n:Int)<1073741824)&&Nat.ble i.bytes 4096&&Nat.beq k k&&Nat.ble 1 k)=true by
  rw [ay.2 U,ay.2 h1,Nat.beq_refl]; simp; omega,cond_true]
theorem kF {h:H}{t e:TypeId}{i o n:Nat}{c:Cap}{v:V}(I:v=.sl i o n c)(hu:P.underlying t=some (.slice e)): lenV P h t v=some (.int .i64 n):=by subst I; exact zZ hu
theorem RJ {E:List (Nat×V)}{c:Go.Call}{b:Builtin}{args:List V}{r:V}(I:c.callee=.builtin b)(J:lookArgs E c.args.toList=some args)(U:builtinV P h b c.argTypes args=some (r,h')): opE P E h (.call c)=some (r,h'):=by
 simp only [opE,I,J,U]
end
def slR3 (v:V)(a b m:Nat): V:=match v with
 | .sl id off _ _=>.sl id (cond (Nat.beq m a) off (off+a*1)) (b-a) (.exact (m-a))
 | v=>v
section
variable {P:Program} {h h':H} {S:List ah} {X:ah} {v w x:V} {l:List Nat} {k:Nat}
theorem eR.slice3 {m:PM}{a b c:Nat}(hv:eR m v l)(nE:a≤b)(hb:b≤c)(hc:c≤l.length)(hl:1≤l.length): eR m (slR3 v a b c) ((l.take b).drop a):=by
 have U:∀x∈(l.take b).drop a,x<256:=fun x hx=>hv.1 x (List.mem_of_mem_take (List.mem_of_mem_drop hx))
 have hlen:((l.take b).drop a).length=b-a:=by simp; omega
 obtain ⟨_,tA⟩:=hv
 rcases tA with ⟨_,rfl⟩ | ⟨id,off,cap,n,cs,st,rfl,hg,h1,h2,h3,h4⟩
 ·simp at hl
 ·have I:∀o,o=off+a∨b-a=0→(cs.drop o).take (b-a)=ofBytes ((l.take b).drop a):=by
   intro o ho
   rcases ho with rfl | h0
   ·have e:=congrArg (fun q=>(q.take b).drop a) h3
    simp only [ofBytes,←List.map_take,←List.map_drop] at e ⊢
    rw [←e,List.take_take,Nat.min_eq_left (Nat.le_trans hb hc),List.drop_take,List.drop_drop]
   ·rw [h0,List.take_zero]
    have:((l.take b).drop a)=[]:=List.eq_nil_of_length_eq_zero (by omega)
    rw [this]; rfl
  refine ⟨U,.inr ⟨id,_,_,n,cs,st,by rw [hlen]; rfl,hg,h1,?_,?_,?_⟩⟩
  ·rw [hlen]
   by_cases J:c=a
   ·rw [eH J,cond_true]; omega
   ·rw [bT J,cond_false]; omega
  ·rw [hlen]
   by_cases J:c=a
   ·rw [eH J,cond_true]; exact I _ (.inr (by omega))
   ·rw [bT J,cond_false,Nat.mul_one]; exact I _ (.inl rfl)
  ·show ((l.take b).drop a).length≤c-a
   rw [hlen]; omega
theorem F3 {a b c:Nat}(hX:bU X (bZ v l))(I:a≤b)(J:b≤c)(U:c≤l.length)(hl:1≤l.length): bU X (bZ (slR3 v a b c) ((l.take b).drop a)):=fun m r hm =>
 (hX m r hm).imp (fun h=>eR.slice3 h I J U hl) (fun h=>eR.slice3 h I J U hl)
theorem BG {a b c:Nat}(hv:View h v l)(I:a≤b)(hb:b≤c)(hc:c≤l.length)(hl:1≤l.length): sliceV Tryz.prog h 32 v (some a) (some b) (some c)=some (slR3 v a b c):=by
 obtain ⟨_,J⟩:=hv
 rcases J with ⟨_,rfl⟩ | ⟨id,off,cap,n,cs,st,rfl,hg,h1,h2,h3,U⟩
 ·simp at hl
 ·cases cap with
  | exact q =>
   have hq:l.length≤q:=U
   simp only [sliceV,slR3,Tryz.underlying32,dz,Option.getD_some]
   rw [show (Nat.ble a b&&Nat.ble b c&&Nat.ble c q)=true by rw [Bool.and_eq_true,Bool.and_eq_true,ay,ay,ay]; omega,cond_true]
  | rest e alt =>
   have he:e=1:=U
   subst he
   simp only [sliceV,slR3,Tryz.underlying32,dz,Option.getD_some,Nat.beq_refl]
   rw [show (true&&Nat.ble 1 1)=true from rfl,cond_true]
   rw [show (Nat.ble a b&&Nat.ble b c&&(Nat.ble c l.length||Nat.ble c (gY h id off 1))&&Nat.blt 0 l.length)=true by
    rw [Bool.and_eq_true,Bool.and_eq_true,Bool.and_eq_true,Bool.or_eq_true,ay,ay,ay]
    exact ⟨⟨⟨I,hb⟩,.inl hc⟩,by rw [Nat.blt]; exact ay.2 (by omega)⟩,cond_true]
theorem gX (I:View h v l)(J:1≤l.length): ∃id off cap,v=.sl id off l.length cap:=by
 rcases I.2 with ⟨_,rfl⟩ | ⟨id,off,cap,_,_,_,rfl,_⟩
 ·simp at J
 ·exact ⟨id,off,cap,rfl⟩
theorem dN {k:IntKind}{n:Int}(I:0≤n): er (some (V.int k n))=some (some n.toNat):=by
 simp only [er,bndV,decide_eq_true I,cond_true]
end
section
variable {P:Program} {h h':H} {S:List ah} {X:ah} {v w x:V} {cs:List V} {l m:List Nat} {k:Nat}
theorem F4 {t e:TypeId}{i q j:Nat}(s:Sat h S)(J:getA S j=some (.arr q v cs))(hi:i*q+q≤cs.length)(U:1≤q)(hu:P.underlying t=some (.slice e))(I:aY P e=some q):
  ∃id off,indexAddrV P t v (.int .i64 (i:Int))=some (.ptr id off)∧(bx P e=some true→loadV P h e (.ptr id off)=some (.agg ((cs.drop (i*q)).take q))):=by
 obtain ⟨m,r,h1,h2,h3⟩:=s.at J
 rcases h3.2 with ⟨_,rfl⟩ | ⟨id,n,cap,N,rest,rfl,hg,e1,e2,_⟩
 ·simp at hi; omega
 ·refine ⟨id,i*q,?_,fun ht => ?_⟩
  ·simp only [indexAddrV,hu,I,Int.toNat_natCast]
   have:i<n:=by
    have h4:i*q+q=(i+1)*q:=by rw [Nat.add_mul,Nat.one_mul]
    rw [h4,e1] at hi
    exact Nat.lt_of_succ_le (Nat.le_of_mul_le_mul_right hi U)
   rw [show (decide ((0:Int)≤(i:Int))&&decide ((i:Int)<(n:Int)))=true by simp; omega,cond_true]
   simp
  ·rw [J9 ht I (h1 _ _ hg) (by simp; omega) (by omega)]
   rw [List.drop_append_of_le_length (by omega),List.take_append_of_le_length (by simp; omega)]
theorem Sat.Nr (s:Sat h (a_ v l::X::S))(hX:bU X (bZ w m)): ∀i∈rowIds w,i∉rowIds v:=by
 intro i hi iI
 obtain ⟨a,r,h1,h2,h3,b,c,g1,g2,g3,g4,d,e,k1,k2,k3,k4,k5⟩:=s.ok
 have hb:=CD g4 i iI
 have hw:∀q:PM,eR q w m→q i≠none:=fun q J=>by
  rcases J.2 with ⟨rfl | ⟨ea,rfl⟩,_⟩ | ⟨id,off,cap,n,cs,st,rfl,hg,_⟩
  ·simp [rowIds] at hi
  ·simp [rowIds] at hi
  ·simp [rowIds] at hi; subst hi; rw [hg]; simp
 rcases hX _ _ k4 with J | J
 ·have h4:=hw _ J
  cases hd:d i with
  | none=>exact h4 hd
  | some o =>
   rcases g1 i with I | I
   ·exact hb I
   ·rw [k2 _ _ hd] at I; cases I
 ·have h4:=hw _ J
  cases U:b i with
  | none=>exact hb U
  | some o =>
   rcases h3 i with I | I
   ·rw [g2 _ _ U] at I; cases I
   ·exact h4 I
end
end Go.Proofs.YtconhghphklfjaaGreat.Am
