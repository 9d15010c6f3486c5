/- The program's functions compute the plain ones. Conditions: none. Printed by a program (wip/tools/xg.py). -/
import Derived.Test.YtdpifjmggnjagaaGreatTok
import Derived.Test.YtdpifjmggnjagaaGreatSrt
import Derived.Test.YtdpifjmggnjagaaGreatM
import Derived.Test.YtdpifjmggnjagaaGreatAu
set_option linter.unusedVariables false
set_option linter.unusedSimpArgs false
set_option maxRecDepth 4000
namespace Go.Proofs.YtdpifjmggnjagaaGreat
open Go Go.Am Go.Proofs Go.Mx X
open List (map)
noncomputable def CC : Cfg:=cfg (Ct Tryz.prog)
theorem zn : CC.OK:=cfg_ok fun f args v h=>h
abbrev ZN (x:zz):V:=.agg [V.i x.ID,V.i x.Begin,V.i x.Every,V.sl (map V.i x.Heights)]
abbrev YV (x:Y4):V:=.agg [V.i x.From,V.i x.To,V.i x.Add]
abbrev ZL (x:zW):V:=.agg [V.i x.Level,V.sl (map ZN x.Cycles),V.sl (map YV x.Shifts)]
abbrev zX (x:zy):V:=.agg [V.i x.ID,V.i x.Depth]
abbrev zD (x:zB):V:=.agg [V.i x.Lo,V.i x.Hi]
abbrev zJ (x:zN):V:=.agg [V.i x.Water.Level,V.sl (map ZN x.Water.Cycles),V.sl (map YV x.Water.Shifts),V.sl (map zX x.Berths),V.sl (map zD x.Tides),V.i x.Keel]
abbrev ZW (x:zq):V:=.agg [V.i x.ID,V.i x.Room,V.i x.Lever,V.i x.Height]
abbrev zx (x:zf):V:=.agg [V.i x.X,V.i x.Y]
abbrev Ji (x:ZX):V:=.agg [V.sl (map zx x.Knots),V.i x.Err]
abbrev zU (x:zH):V:=.agg [V.i x.ID,V.i x.Light,V.i x.Lever,V.i x.Height,V.sl (map ZW x.Holds),V.sl (map zx x.Mean.Knots),V.i x.Mean.Err,V.sl (map zx x.Mtac.Knots),V.i x.Mtac.Err,V.i x.Turn,V.i x.Least]
abbrev zO (x:zQ):V:=.agg [V.sl (map zD x.Holds),V.i x.All.Lo,V.i x.All.Hi]
abbrev zi (x:ZO):V:=.agg [V.i x.Ship.ID,V.i x.Ship.Light,V.i x.Ship.Lever,V.i x.Ship.Height,V.sl (map ZW x.Ship.Holds),V.sl (map zx x.Ship.Mean.Knots),V.i x.Ship.Mean.Err,V.sl (map zx x.Ship.Mtac.Knots),V.i x.Ship.Mtac.Err,V.i x.Ship.Turn,V.i x.Ship.Least,V.sl (map zD x.Load.Holds),V.i x.Load.All.Lo,V.i x.Load.All.Hi,V.i x.From,V.i x.To,V.i x.Long]
theorem zKf : Ct Tryz.prog 11 [] (zU (zEW)):=by
 refine zP zn rfl ?_
 generalize M:zEW=r
 unfold zEW at M
 refine au 14 ?_
 refine X.opW (H':=[.rows 11 [V.agg [V.i 0,V.i 0,V.i 0,V.i 0,V.nil,V.nil,V.i 0,V.nil,V.i 0,V.i 0,V.i 0]],.rows 4 (map ZW ([(⟨1,400,50,60⟩:zq),(⟨2,400,-50,150⟩:zq)])),.rows 2 (map zx ([(⟨10,100⟩:zf),(⟨30,500⟩:zf)])),.rows 2 [V.agg [V.nil,V.i 0]]]) rfl rfl rfl rfl ?_
 refine X.op0W (H':=[.rows 11 [V.agg [V.i 0,V.i 0,V.i 0,V.i 0,V.nil,V.nil,V.i 0,V.nil,V.i 0,V.i 0,V.i 0]],.rows 4 (map ZW ([(⟨1,400,50,60⟩:zq),(⟨2,400,-50,150⟩:zq)])),.rows 2 (map zx ([(⟨10,100⟩:zf),(⟨30,500⟩:zf)])),.rows 2 [(V.agg [(V.osl 2 0 (List.length ([(⟨10,100⟩:zf),(⟨30,500⟩:zf)]))),V.i 0])]]) rfl rfl rfl (au 4 ?_)
 refine X.opW (H':=[.rows 11 [V.agg [V.i 0,V.i 0,V.i 0,V.i 0,V.nil,V.nil,V.i 0,V.nil,V.i 0,V.i 0,V.i 0]],.rows 4 (map ZW ([(⟨1,400,50,60⟩:zq),(⟨2,400,-50,150⟩:zq)])),.rows 2 (map zx ([(⟨10,100⟩:zf),(⟨30,500⟩:zf)])),.rows 2 [(V.agg [(V.osl 2 0 (List.length ([(⟨10,100⟩:zf),(⟨30,500⟩:zf)]))),V.i 0])],.rows 2 (map zx ([(⟨10,160⟩:zf),(⟨30,140⟩:zf)]))]) rfl rfl rfl rfl ?_
 refine X.q rfl ?_
 refine X.opW (H':=[.rows 11 [V.agg [V.i 0,V.i 0,V.i 0,V.i 0,V.nil,V.nil,V.i 0,V.nil,V.i 0,V.i 0,V.i 0]],.rows 4 (map ZW ([(⟨1,400,50,60⟩:zq),(⟨2,400,-50,150⟩:zq)])),.rows 2 (map zx ([(⟨10,100⟩:zf),(⟨30,500⟩:zf)])),.rows 2 [(V.agg [(V.osl 2 0 (List.length ([(⟨10,100⟩:zf),(⟨30,500⟩:zf)]))),V.i 0])],.rows 2 (map zx ([(⟨10,160⟩:zf),(⟨30,140⟩:zf)])),.rows 2 [V.agg [V.nil,V.i 0]]]) rfl rfl rfl rfl ?_
 refine X.op0W (H':=[.rows 11 [V.agg [V.i 0,V.i 0,V.i 0,V.i 0,V.nil,V.nil,V.i 0,V.nil,V.i 0,V.i 0,V.i 0]],.rows 4 (map ZW ([(⟨1,400,50,60⟩:zq),(⟨2,400,-50,150⟩:zq)])),.rows 2 (map zx ([(⟨10,100⟩:zf),(⟨30,500⟩:zf)])),.rows 2 [(V.agg [(V.osl 2 0 (List.length ([(⟨10,100⟩:zf),(⟨30,500⟩:zf)]))),V.i 0])],.rows 2 (map zx ([(⟨10,160⟩:zf),(⟨30,140⟩:zf)])),.rows 2 [(V.agg [(V.osl 4 0 (List.length ([(⟨10,160⟩:zf),(⟨30,140⟩:zf)]))),V.i 0])]]) rfl rfl rfl ?_
 refine au 6 ?_
 refine X.op0W (H':=[.rows 11 [(V.agg [V.i 1,V.i 400,V.i 0,V.i 100,(V.osl 1 0 (List.length ([(⟨1,400,50,60⟩:zq),(⟨2,400,-50,150⟩:zq)]))),(V.osl 2 0 (List.length ([(⟨10,100⟩:zf),(⟨30,500⟩:zf)]))),V.i 0,(V.osl 4 0 (List.length ([(⟨10,160⟩:zf),(⟨30,140⟩:zf)]))),V.i 0,V.i 10,V.i 30])],.rows 4 (map ZW ([(⟨1,400,50,60⟩:zq),(⟨2,400,-50,150⟩:zq)])),.rows 2 (map zx ([(⟨10,100⟩:zf),(⟨30,500⟩:zf)])),.rows 2 [(V.agg [(V.osl 2 0 (List.length ([(⟨10,100⟩:zf),(⟨30,500⟩:zf)]))),V.i 0])],.rows 2 (map zx ([(⟨10,160⟩:zf),(⟨30,140⟩:zf)])),.rows 2 [(V.agg [(V.osl 4 0 (List.length ([(⟨10,160⟩:zf),(⟨30,140⟩:zf)]))),V.i 0])]]) rfl rfl rfl ?_
 refine GS.ZT ?_
 subst M
 exact X.rt
theorem zF3 (s:zH) (l:zQ):Ct Tryz.prog 13 [zU s,zO l] (V.b (Q7 s l)):=by
 refine zP zn rfl ?_
 generalize M:Q7 s l=r
 unfold Q7 at M
 refine au 6 ?_
 refine X.mid [(4,(V.b ((((((decide ((s.Holds.length:Int)≤6))&&(decide ((s.Mean.Knots.length:Int)≤40)))&&(decide ((s.Mtac.Knots.length:Int)≤40)))&&(decide ((l.Holds.length:Int)≤6)))&&(decide ((w64 (l.All.Hi - l.All.Lo))≤300)))&&(decide (l.All.Lo≤l.All.Hi)))))] ?_ ?_
 ·intro hg
  refine X.split (decide ((s.Holds.length:Int)≤6)) (fun h_1=>?_) (fun h_1=>?_)
  ·refine X.split (decide ((s.Mean.Knots.length:Int)≤40)) (fun h_2=>?_) (fun h_2=>?_)
   ·refine X.split (decide ((s.Mtac.Knots.length:Int)≤40)) (fun h_3=>?_) (fun h_3=>?_)
    ·refine X.split (decide ((l.Holds.length:Int)≤6)) (fun h_4=>?_) (fun h_4=>?_)
     ·refine X.split (decide ((w64 (l.All.Hi - l.All.Lo))≤300)) (fun h_5=>?_) (fun h_5=>?_)
      ·refine au 45 ?_
       exact ng hg rfl (by simp only [h_1,h_2,h_3,h_4,h_5,bb])
      refine au 45 ?_
      exact ng hg rfl (by simp only [h_1,h_2,h_3,h_4,h_5,bb])
     refine au 45 ?_
     exact ng hg rfl (by simp only [h_1,h_2,h_3,h_4,bb])
    refine au 45 ?_
    exact ng hg rfl (by simp only [h_1,h_2,h_3,bb])
   refine au 45 ?_
   exact ng hg rfl (by simp only [h_1,h_2,bb])
  refine au 45 ?_
  exact ng hg rfl (by simp only [h_1,bb])
 subst M
 exact X.rt
theorem zm (n:Int) (lo:Int) (hi:Int):Ct Tryz.prog 49 [V.i n,V.i lo,V.i hi] (V.b (zT n lo hi)):=by
 refine zP zn rfl ?_
 generalize M:zT n lo hi=r
 unfold zT at M
 refine au 4 ?_
 refine X.mid [(6,V.b ((decide (lo≤n))&&(decide (n≤hi))))] ?_ ?_
 ·intro hg
  refine X.split (decide (lo≤n)) (fun h_1=>?_) (fun h_1=>?_)
  ·refine au 10 ?_
   exact ng hg rfl (by simp only [h_1,bb])
  refine au 10 ?_
  exact ng hg rfl (by simp only [h_1,bb])
 subst M
 exact X.rt
theorem zBH (lever:Int) (height:Int):Ct Tryz.prog 62 [V.i lever,V.i height] (V.b (JF lever height)):=by
 refine zP zn rfl ?_
 generalize M:JF lever height=r
 unfold JF at M
 refine au 4 ?_
 refine X.mid [(4,V.b ((zT lever (-20000) 20000)&&(zT height 0 5000)))] ?_ ?_
 ·intro hg
  refine X.split (zT lever (-20000) 20000) (fun h_1=>?_) (fun h_1=>?_)
  ·refine X.q rfl ?_
   refine ca (zm lever (-20000) 20000) (au 2 ?_)
   refine ca (zm height 0 5000) (au 3 ?_)
   exact ng hg rfl (by simp only [h_1,bb])
  refine X.q rfl ?_
  refine ca (zm lever (-20000) 20000) (au 6 ?_)
  exact ng hg rfl (by simp only [h_1,bb])
 subst M
 exact X.rt
theorem zIn (x:zq) (c:zq):Ct Tryz.prog 64 [ZW x,V.fptr [ZW c] 0 0] (V.b (qi x c)):=by
 refine zP zn rfl ?_
 generalize M:qi x c=r
 unfold qi at M
 refine au 12 ?_
 subst M
 exact X.rt
theorem QJ {s:(List zq)} {c:zq} {r:Int} (M:Zn s c=some r):Ct Tryz.prog 99 [V.sl (map ZW s),V.fn 64 [V.fptr [ZW c] 0 0]] (V.i r):=by
 refine zP zn rfl ?_
 unfold Zn at M
 refine au 9 ?_
 refine X.join (τ:=Unit) (fun v=>Z6=some r) (fun v=>⟨[],[],0,none,19⟩) ?_ ?_
 ·intro _ M
  replace M:Z6=some r:=M
  unfold Z6 at M
  refine au 3 ?_
  cases M
  exact X.rt
 intro hj_1
 refine au 1 ?_
 refine gx [] (X.loop (σ:=Int) (fun v=>⟨[(0,V.sl (map ZW s)),(1,V.fn 64 [V.fptr [ZW c] 0 0]),(7,(V.i (s.length:Int))),(8,V.i v)],[],0,none,19⟩) M ?_ rfl)
 intro x1 b_1 M hc_2 hr_1
 rw [jQ] at M
 refine au 3 ?_
 refine GS.seq ?_
 refine cm M (fun h_1 M=>?_) (fun h_1 M=>?_)
 ·obtain ⟨x,h_2,M⟩:=zC M
  refine au 13 ?_
  refine ca (zIn x c) ?_
  refine GS.ZT ?_
  refine cm M (fun h_3 M=>?_) (fun h_3 M=>?_)
  ·refine au 4 ?_
   have hE:=bf M
   replace hE:=hr_1 _ hE.symm
   subst hE
   exact X.rt
  refine au 6 ?_
  have hE:=bf M
  exact gx [] (hc_2 (w64 (x1+1)) hE.symm)
 obtain ⟨y_1,M,hy⟩:=zt M
 rw [hr_1 _ hy.symm] at M
 refine au 1 ?_
 exact gx [] (hj_1 () M)
theorem Yk {s:(List zq)} {c:zq} {r:Bool} (M:Zg s c=some r):Ct Tryz.prog 63 [V.sl (map ZW s),V.fn 64 [V.fptr [ZW c] 0 0]] (V.b r):=by
 refine zP zn rfl ?_
 unfold Zg at M
 obtain ⟨y,h_1,M⟩:=zC M
 refine au 6 ?_
 refine ca (QJ h_1) (au 3 ?_)
 cases M
 exact X.rt
theorem zDp {s:zH} {r:Int} (M:zBq s=some r):Ct Tryz.prog 65 [zU s] (V.i r):=by
 refine zP zn rfl ?_
 unfold zBq at M
 refine au 16 ?_
 refine X.join (τ:=Int) (fun v=>zAS v=some r) (fun v=>⟨[(3,V.i v)],[],0,none,21⟩) ?_ ?_
 ·intro n M
  replace M:zAS n=some r:=M
  unfold zAS at M
  refine au 4 ?_
  cases M
  exact X.rt
 intro hj_1
 refine au 1 ?_
 refine gx [] (X.loop (σ:=(Int×Int)) (fun v=>⟨[(3,V.i v.1),(9,V.sl (map ZW s.Holds)),(10,(V.i (s.Holds.length:Int))),(11,V.i v.2)],[],0,none,21⟩) M ?_ rfl)
 rintro ⟨n1,x1⟩ b_1 M hc_2 hr_1
 rw [zAT] at M
 refine au 3 ?_
 refine GS.seq ?_
 refine cm M (fun h_1 M=>?_) (fun h_1 M=>?_)
 ·obtain ⟨x,h_2,M⟩:=zC M
  refine au 7 ?_
  refine X.op0W rfl rfl rfl (au 13 ?_)
  have hE:=bf M
  exact gx [] (hc_2 (w64 (n1+x.Room),w64 (x1+1)) hE.symm)
 obtain ⟨y_1,M,hy⟩:=zt M
 rw [hr_1 _ hy.symm] at M
 refine au 1 ?_
 exact gx [] (hj_1 n1 M)
theorem zAf (n:Int) (lo:Int) (hi:Int):Ct Tryz.prog 100 [V.i n,V.i lo,V.i hi] (V.b (jc n lo hi)):=by
 refine zP zn rfl ?_
 generalize M:jc n lo hi=r
 unfold jc at M
 refine au 4 ?_
 refine X.mid [(6,V.b ((decide (lo≤n))&&(decide (n≤hi))))] ?_ ?_
 ·intro hg
  refine X.split (decide (lo≤n)) (fun h_1=>?_) (fun h_1=>?_)
  ·refine au 10 ?_
   exact ng hg rfl (by simp only [h_1,bb])
  refine au 10 ?_
  exact ng hg rfl (by simp only [h_1,bb])
 subst M
 exact X.rt
set_option maxHeartbeats 4000000 in
theorem zFI {c:ZX} {r:Int} (M:zA5 c=some r):Ct Tryz.prog 66 [Ji c] (V.i r):=by
 refine zP zn rfl ?_
 unfold zA5 at M
 refine au 13 ?_
 refine cm M (fun h_1 M=>?_) (fun h_1 M=>?_)
 ·refine au 3 ?_
  cases M
  exact X.rt
 refine sq ?_
 refine X.mid [(11,(V.b ((decide ((c.Knots.length:Int)=0))||(!(jc c.Err 0 4000))))),(1,V.ptr 0 0 0)] ?_ ?_
 ·intro hg
  refine X.split (decide ((c.Knots.length:Int)=0)) (fun h_2=>?_) (fun h_2=>?_)
  ·refine au 12 ?_
   exact ng hg rfl (by simp only [h_2,bb])
  refine au 7 ?_
  refine ca (zAf c.Err 0 4000) (au 4 ?_)
  exact ng hg rfl (by simp only [h_2,bb])
 refine cm M (fun h_3 M=>?_) (fun h_3 M=>?_)
 ·refine au 3 ?_
  cases M
  exact X.rt
 refine au 12 ?_
 refine X.join (τ:=Unit) (fun v=>zBW=some r) (fun v=>⟨[],[],0,none,44⟩) ?_ ?_
 ·intro _ M
  replace M:zBW=some r:=M
  unfold zBW at M
  refine au 3 ?_
  cases M
  exact X.rt
 intro hj_1
 refine au 1 ?_
 refine gx [] (X.loop (σ:=(Int×Int)) (fun v=>⟨[(3,V.i v.1),(23,V.sl (map zx c.Knots)),(24,(V.i (c.Knots.length:Int))),(25,V.i v.2)],[],0,none,44⟩) M ?_ rfl)
 rintro ⟨last,x1⟩ b_1 M hc_2 hr_1
 rw [qM] at M
 refine au 3 ?_
 refine GS.seq ?_
 refine cm M (fun h_4 M=>?_) (fun h_4 M=>?_)
 ·obtain ⟨x,h_5,M⟩:=zC M
  refine au 7 ?_
  refine X.op0W rfl rfl rfl (au 3 ?_)
  refine X.mid [(40,(V.b ((!(jc x.X (w64 (last+1)) 2000))||(!(jc x.Y (-65536) 65536))))),(5,V.ptr 0 0 0),(23,V.sl (map zx c.Knots)),(24,(V.i (c.Knots.length:Int))),(25,V.i x1)] ?_ ?_
  ·intro hg
   refine X.split (!(jc x.X (w64 (last+1)) 2000)) (fun h_6=>?_) (fun h_6=>?_)
   ·refine au 4 ?_
    refine ca (zAf x.X (w64 (last+1)) 2000) (au 8 ?_)
    exact ng hg rfl (by simp only [h_6,bb])
   refine au 4 ?_
   refine ca (zAf x.X (w64 (last+1)) 2000) (au 4 ?_)
   refine ca (zAf x.Y (-65536) 65536) (au 3 ?_)
   exact ng hg rfl (by simp only [h_6,bb])
  refine cm M (fun h_7 M=>?_) (fun h_7 M=>?_)
  ·refine au 3 ?_
   have hE:=bf M
   replace hE:=hr_1 _ hE.symm
   subst hE
   exact X.rt
  refine au 11 ?_
  have hE:=bf M
  exact gx [] (hc_2 (x.X,w64 (x1+1)) hE.symm)
 obtain ⟨y_1,M,hy⟩:=zt M
 rw [hr_1 _ hy.symm] at M
 refine au 1 ?_
 exact gx [] (hj_1 () M)
theorem zIp (c:ZX):Ct Tryz.prog 133 [Ji c] (V.fn 145 [V.fptr [Ji (jv c)] 0 0]):=by
 refine zP zn rfl ?_
 generalize M:jv c=r
 unfold jv at M
 refine au 8 ?_
 subst M
 exact X.rt
abbrev zKo (x:Zv):V:=.agg [V.i x.p.X,V.i x.p.Y,V.i x.q.X,V.i x.q.Y]
theorem Ym (x:Zv):Ct Tryz.prog 134 [zKo x] (V.i (ZG x)):=by
 refine zP zn rfl ?_
 generalize M:ZG x=r
 unfold ZG at M
 refine au 14 ?_
 subst M
 exact X.rt
set_option maxHeartbeats 4000000 in
theorem zIo {c:ZX} {r:Int} (M:zBU c=some r):Ct Tryz.prog 101 [Ji c] (V.i r):=by
 refine zP zn rfl ?_
 unfold zBU at M
 refine sq ?_
 refine X.opW rfl rfl rfl rfl (X.q rfl (nq ?_))
 iterate 2 refine X.opW rfl rfl rfl rfl ?_
 iterate 2 refine X.op0W rfl rfl rfl ?_
 refine GS.ZT (GS.seq (sq (X.q rfl ?_)))
 refine X.call (zIp c) rfl rfl rfl (.cons (.shut (n:=9) rfl) .nil) (GS.ZT (GS.block ?_))
 refine X.gc [some 1,some 2] (H':=[.rows 1 [V.b true],.rows 1 [V.b true]]) (K':=[(3,V.ptr 0 0 0),(4,V.ptr 1 0 0),(8,V.fn 145 [V.fptr [Ji (jv c)] 0 0])]) ?_ rfl rfl rfl (ga rfl rfl) (gb9 rfl rfl rfl (gb9 rfl rfl rfl zb))
 refine X.range rfl rfl (jO ⟨9,rfl⟩ (jO ⟨9,rfl⟩ (jO ⟨9,rfl⟩ zFP))) rfl ?_
 intro R_1 hrn_1 hrK_1 hrp_1 hra_1 hrb_1 hlow_1
 refine sq (X.q rfl (GS.ZT (GS.block ?_)))
 refine X.gc [] (X.loop (σ:=(Int×Bool×Bool)) (fun v=>⟨[(0,V.yld 2),(1,V.fptr [Ji (jv c)] 0 0),(3,V.i v.1)],[.rows 1 [V.b v.2.1],.rows 1 [V.b v.2.2],lr R_1 .ready none],0,none,28⟩) M ?_ rfl) rfl rfl rfl (ga rfl rfl) (gb9 rfl rfl rfl (gb9 rfl rfl rfl (jR hlow_1 rfl rfl rfl zb)))
 rintro ⟨i,up,down⟩ b_1 M hc_1 hr_1
 rw [Qe] at M
 refine GS.seq (sq (X.q rfl (X.q rfl (X.q rfl ?_))))
 refine X.opR rfl (lenF rfl rfl rfl) rfl (X.q rfl (GS.ZT ?_))
 refine X.cond rfl (fun h_2=>?_) (fun h_2=>?_)
 ·replace M:=zNP h_2 M
  refine GS.skip (GS.seq (GS.block (GS.seq ?_)))
  obtain ⟨x,h_3,M⟩:=zC M
  obtain ⟨x1,h_4,M⟩:=zC M
  refine X.zMc 15 rfl (by kernel_rfl) (by kernel_rfl) ?_
  iterate 2 refine dop rfl rfl rfl rfl (by kernel_rfl) rfl rfl ?_
  refine dop rfl (X.subE rfl rfl) rfl rfl (by kernel_rfl) rfl rfl ?_
  iterate 3 refine dop rfl rfl rfl rfl (by kernel_rfl) rfl rfl ?_
  refine dop rfl (X.subE rfl rfl) rfl rfl (by kernel_rfl) rfl rfl ?_
  refine dop rfl (YH (f:=zx) h_3 (fun _=>rfl) rfl rfl rfl rfl) rfl rfl (by kernel_rfl) rfl rfl ?_
  refine dop rfl (zDC h_3 rfl rfl rfl) rfl rfl (by kernel_rfl) rfl rfl ?_
  iterate 3 refine dop rfl rfl rfl rfl (by kernel_rfl) rfl rfl ?_
  refine dop rfl (YH (f:=zx) h_4 (fun _=>rfl) rfl rfl rfl rfl) rfl rfl (by kernel_rfl) rfl rfl ?_
  refine dop rfl (zDC h_4 rfl rfl rfl) rfl rfl (by kernel_rfl) rfl rfl ?_
  refine dop rfl rfl rfl rfl (by kernel_rfl) rfl rfl ?_
  refine dnil ?_
  refine X.norm [(0,V.yld 2),(1,V.fptr [Ji (jv c)] 0 0),(3,V.i i),(11,V.yld 2),(13,V.i (w64 (i - 1))),(25,V.agg [V.i x.X,V.i x.Y,V.i x1.X,V.i x1.Y])] ?_ rfl (sr rfl)
  refine X.yld hrn_1 hrK_1 hrp_1 hra_1 hrb_1 rfl rfl rfl rfl rfl rfl (GS.region ?_)
  refine X.opW (H':=[.rows 1 [V.b up],.rows 1 [V.b down],lr R_1 .ready none,.rows 4 [V.agg [V.i 0,V.i 0,V.i 0,V.i 0]]]) rfl rfl rfl rfl ?_
  refine X.op0W (H':=[.rows 1 [V.b up],.rows 1 [V.b down],lr R_1 .ready none,.rows 4 [V.agg [V.i x.X,V.i x.Y,V.i x1.X,V.i x1.Y]]]) rfl rfl rfl (GS.ZT ?_)
  refine GS.nil (begin' rfl rfl ?_ rfl)
  refine GS.block ?_
  refine midS ⟨[],[.rows 1 [(V.b (up&&(decide (0<(ZG (⟨x,x1⟩:Zv))))))],.rows 1 [(V.b (down&&(decide ((ZG (⟨x,x1⟩:Zv))<0))))],lr R_1 .busy none,.dead],0,some 2,27⟩ ?_ ?_
  ·intro hg
   refine X.split (up) (fun h_5=>?_) (fun h_5=>?_)
   ·refine X.split (down) (fun h_6=>?_) (fun h_6=>?_)
    ·refine X.draw (by kernel_rfl) ?_
     iterate 2 refine dop rfl rfl rfl rfl (by kernel_rfl) rfl rfl ?_
     refine dop (on_t rfl rfl rfl h_5) rfl rfl rfl (by kernel_rfl) rfl rfl ?_
     refine dcall (Ym (⟨x,x1⟩:Zv)) (on_t rfl rfl rfl h_5) rfl rfl (by kernel_rfl) rfl (.cons (.shut (n:=9) rfl) .nil) ?_
     refine dop (on_t rfl rfl rfl h_5) rfl rfl rfl (by kernel_rfl) rfl rfl ?_
     refine dop rfl (zFo (y:=decide (0<(ZG (⟨x,x1⟩:Zv)))) rfl h_5 rfl) rfl rfl (by kernel_rfl) rfl rfl ?_
     iterate 2 refine dop rfl rfl rfl rfl (by kernel_rfl) rfl rfl ?_
     refine dop (on_t rfl rfl rfl h_6) rfl rfl rfl (by kernel_rfl) rfl rfl ?_
     refine dcall (Ym (⟨x,x1⟩:Zv)) (on_t rfl rfl rfl h_6) rfl rfl (by kernel_rfl) rfl (.cons (.shut (n:=9) rfl) .nil) ?_
     refine dop (on_t rfl rfl rfl h_6) rfl rfl rfl (by kernel_rfl) rfl rfl ?_
     refine dop rfl (zFo (y:=decide ((ZG (⟨x,x1⟩:Zv))<0)) rfl h_6 rfl) rfl rfl (by kernel_rfl) rfl rfl ?_
     iterate 2 refine dop0 rfl rfl rfl rfl (by kernel_rfl) rfl ?_
     refine dnil ?_
     exact X.gc [] hg rfl rfl rfl (QO) (gb9 rfl rfl rfl (gb9 rfl rfl rfl (jR hlow_1 rfl rfl rfl (zH1 zb))))
    refine X.draw (by kernel_rfl) ?_
    iterate 2 refine dop rfl rfl rfl rfl (by kernel_rfl) rfl rfl ?_
    refine dop (on_t rfl rfl rfl h_5) rfl rfl rfl (by kernel_rfl) rfl rfl ?_
    refine dcall (Ym (⟨x,x1⟩:Zv)) (on_t rfl rfl rfl h_5) rfl rfl (by kernel_rfl) rfl (.cons (.shut (n:=9) rfl) .nil) ?_
    refine dop (on_t rfl rfl rfl h_5) rfl rfl rfl (by kernel_rfl) rfl rfl ?_
    refine dop rfl (zFo (y:=decide (0<(ZG (⟨x,x1⟩:Zv)))) rfl h_5 rfl) rfl rfl (by kernel_rfl) rfl rfl ?_
    iterate 2 refine dop rfl rfl rfl rfl (by kernel_rfl) rfl rfl ?_
    iterate 3 refine doff (zLC rfl rfl rfl h_6) (by kernel_rfl) rfl ?_
    refine dop rfl (zFp (y:=decide ((ZG (⟨x,x1⟩:Zv))<0)) rfl h_6 rfl) rfl rfl (by kernel_rfl) rfl rfl ?_
    iterate 2 refine dop0 rfl rfl rfl rfl (by kernel_rfl) rfl ?_
    refine dnil ?_
    exact X.gc [] hg rfl rfl rfl (QO) (gb9 rfl rfl rfl (gb9 rfl rfl rfl (jR hlow_1 rfl rfl rfl (zH1 zb))))
   refine X.split (down) (fun h_7=>?_) (fun h_7=>?_)
   ·refine X.draw (by kernel_rfl) ?_
    iterate 2 refine dop rfl rfl rfl rfl (by kernel_rfl) rfl rfl ?_
    iterate 3 refine doff (zLC rfl rfl rfl h_5) (by kernel_rfl) rfl ?_
    refine dop rfl (zFp (y:=decide (0<(ZG (⟨x,x1⟩:Zv)))) rfl h_5 rfl) rfl rfl (by kernel_rfl) rfl rfl ?_
    iterate 2 refine dop rfl rfl rfl rfl (by kernel_rfl) rfl rfl ?_
    refine dop (on_t rfl rfl rfl h_7) rfl rfl rfl (by kernel_rfl) rfl rfl ?_
    refine dcall (Ym (⟨x,x1⟩:Zv)) (on_t rfl rfl rfl h_7) rfl rfl (by kernel_rfl) rfl (.cons (.shut (n:=9) rfl) .nil) ?_
    refine dop (on_t rfl rfl rfl h_7) rfl rfl rfl (by kernel_rfl) rfl rfl ?_
    refine dop rfl (zFo (y:=decide ((ZG (⟨x,x1⟩:Zv))<0)) rfl h_7 rfl) rfl rfl (by kernel_rfl) rfl rfl ?_
    iterate 2 refine dop0 rfl rfl rfl rfl (by kernel_rfl) rfl ?_
    refine dnil ?_
    exact X.gc [] hg rfl rfl rfl (QO) (gb9 rfl rfl rfl (gb9 rfl rfl rfl (jR hlow_1 rfl rfl rfl (zH1 zb))))
   refine X.draw (by kernel_rfl) ?_
   iterate 2 refine dop rfl rfl rfl rfl (by kernel_rfl) rfl rfl ?_
   iterate 3 refine doff (zLC rfl rfl rfl h_5) (by kernel_rfl) rfl ?_
   refine dop rfl (zFp (y:=decide (0<(ZG (⟨x,x1⟩:Zv)))) rfl h_5 rfl) rfl rfl (by kernel_rfl) rfl rfl ?_
   iterate 2 refine dop rfl rfl rfl rfl (by kernel_rfl) rfl rfl ?_
   iterate 3 refine doff (zLC rfl rfl rfl h_7) (by kernel_rfl) rfl ?_
   refine dop rfl (zFp (y:=decide ((ZG (⟨x,x1⟩:Zv))<0)) rfl h_7 rfl) rfl rfl (by kernel_rfl) rfl rfl ?_
   iterate 2 refine dop0 rfl rfl rfl rfl (by kernel_rfl) rfl ?_
   refine dnil ?_
   exact X.gc [] hg rfl rfl rfl (QO) (gb9 rfl rfl rfl (gb9 rfl rfl rfl (jR hlow_1 rfl rfl rfl (zH1 zb))))
  refine GS.endB ?_
  refine GS.nil ⟨_,rfl,?_⟩
  refine X.norm (H':=[.rows 1 [(V.b (up&&(decide (0<(ZG (⟨x,x1⟩:Zv))))))],.rows 1 [(V.b (down&&(decide ((ZG (⟨x,x1⟩:Zv))<0))))],lr R_1 .ready none,.dead]) [(0,V.yld 2),(1,V.fptr [Ji (jv c)] 0 0),(3,V.i i),(26,V.b true)] ?_ rfl (sr rfl)
  refine X.q rfl (GS.ZT ?_)
  refine GS.zCR rfl (GS.skip ?_)
  refine GS.endB (GS.region (X.q rfl ?_))
  refine X.opR rfl (X.addE rfl rfl) rfl (X.q rfl (GS.ZT ?_))
  have hE:=bf M
  exact X.gc [] (hc_1 (w64 (i+1),(up&&(decide (0<(ZG (⟨x,x1⟩:Zv))))),(down&&(decide ((ZG (⟨x,x1⟩:Zv))<0)))) hE.symm) rfl rfl rfl (ga rfl rfl) (gb9 rfl rfl rfl (gb9 rfl rfl rfl (jR hlow_1 rfl rfl rfl zb)))
 replace M:=zNQ h_2 M
 refine GS.exit rfl ?_
 refine GS.nil ⟨_,_,rfl,rfl,?_⟩
 refine X.norm (H':=[.rows 1 [V.b up],.rows 1 [V.b down],.dead]) [(3,V.ptr 0 0 0),(4,V.ptr 1 0 0),(8,V.fn 145 [V.fptr [Ji (jv c)] 0 0])] ?_ rfl (sr rfl)
 refine GS.endB (GS.seq (GS.block (sq (X.q rfl (X.q rfl ?_)))))
 refine GS.ZT ?_
 refine X.cond rfl (fun h_8=>?_) (fun h_8=>?_)
 ·replace M:=zNP h_8 M
  refine sq (X.q rfl (GS.ZT ?_))
  have hE:=bf M
  replace hE:=hr_1 _ hE.symm
  subst hE
  exact GS.ret ⟨_,rfl,⟨30,rfl⟩⟩
 replace M:=zNQ h_8 M
 refine sq (X.q rfl (X.q rfl ?_))
 refine GS.ZT ?_
 refine X.cond rfl (fun h_9=>?_) (fun h_9=>?_)
 ·replace M:=zNP h_9 M
  refine sq (X.q rfl (GS.ZT ?_))
  have hE:=bf M
  replace hE:=hr_1 _ hE.symm
  subst hE
  exact GS.ret ⟨_,rfl,⟨30,rfl⟩⟩
 replace M:=zNQ h_9 M
 refine GS.skip ?_
 refine GS.endB (sq (X.q rfl (GS.ZT ?_)))
 have hE:=bf M
 replace hE:=hr_1 _ hE.symm
 subst hE
 exact GS.ret ⟨_,rfl,⟨30,rfl⟩⟩
theorem zIq {c:ZX} {r:Int×Int} (M:zBV c=some r):Ct Tryz.prog 67 [Ji c] (V.tup [V.i r.1,V.i r.2]):=by
 refine zP zn rfl ?_
 unfold zBV at M
 obtain ⟨y,h_1,M⟩:=zC M
 refine au 8 ?_
 refine ca (zFI h_1) (au 6 ?_)
 refine cm M (fun h_2 M=>?_) (fun h_2 M=>?_)
 ·refine au 5 ?_
  cases M
  exact X.rt
 obtain ⟨y1,h_3,M⟩:=zC M
 refine au 3 ?_
 refine ca (zIo h_3) (au 3 ?_)
 cases M
 exact X.rt
abbrev zCo (x:qF):V:=.agg [V.sl (map zx x.Curve.Knots),V.i x.Curve.Err]
theorem zFD {t:qF} {r:zB} (M:YU t=some r):Ct Tryz.prog 102 [zCo t] (zD r):=by
 refine zP zn rfl ?_
 unfold YU at M
 obtain ⟨x,h_1,M⟩:=zC M
 obtain ⟨x1,h_2,M⟩:=zC M
 refine au 4 ?_
 refine GS.seq ?_
 refine X.draw (by kernel_rfl) (au 20 ?_)
 refine dop0 rfl rfl rfl rfl (by kernel_rfl) rfl (au 1 ?_)
 refine X.norm [(2,V.ptr 1 0 0)] ?_ rfl (sr rfl)
 cases M
 exact X.rt
theorem zHr (k:zf):Ct Tryz.prog 104 [zx k] (V.b (Qm k)):=by
 refine zP zn rfl ?_
 generalize M:Qm k=r
 unfold Qm at M
 refine au 10 ?_
 subst M
 exact X.rt
theorem Y5 {s:(List zf)} {r:Int} (M:Zl s=some r):Ct Tryz.prog 107 [V.sl (map zx s),V.fn 104 []] (V.i r):=by
 refine zP zn rfl ?_
 unfold Zl at M
 refine au 9 ?_
 refine X.join (τ:=Unit) (fun v=>Zz=some r) (fun v=>⟨[],[],0,none,19⟩) ?_ ?_
 ·intro _ M
  replace M:Zz=some r:=M
  unfold Zz at M
  refine au 3 ?_
  cases M
  exact X.rt
 intro hj_1
 refine au 1 ?_
 refine gx [] (X.loop (σ:=Int) (fun v=>⟨[(0,V.sl (map zx s)),(1,V.fn 104 []),(7,(V.i (s.length:Int))),(8,V.i v)],[],0,none,19⟩) M ?_ rfl)
 intro x1 b_1 M hc_2 hr_1
 rw [jP] at M
 refine au 3 ?_
 refine GS.seq ?_
 refine cm M (fun h_1 M=>?_) (fun h_1 M=>?_)
 ·obtain ⟨x,h_2,M⟩:=zC M
  refine au 13 ?_
  refine ca (zHr x) ?_
  refine GS.ZT ?_
  refine cm M (fun h_3 M=>?_) (fun h_3 M=>?_)
  ·refine au 4 ?_
   have hE:=bf M
   replace hE:=hr_1 _ hE.symm
   subst hE
   exact X.rt
  refine au 6 ?_
  have hE:=bf M
  exact gx [] (hc_2 (w64 (x1+1)) hE.symm)
 obtain ⟨y_1,M,hy⟩:=zt M
 rw [hr_1 _ hy.symm] at M
 refine au 1 ?_
 exact gx [] (hj_1 () M)
theorem YZ {s:(List zf)} {r:Bool} (M:Ze s=some r):Ct Tryz.prog 103 [V.sl (map zx s),V.fn 104 []] (V.b r):=by
 refine zP zn rfl ?_
 unfold Ze at M
 obtain ⟨y,h_1,M⟩:=zC M
 refine au 6 ?_
 refine ca (Y5 h_1) (au 3 ?_)
 cases M
 exact X.rt
set_option maxHeartbeats 4000000 in
theorem zFC {s:zH} {c:ZX} {r:Int} (M:zAy s c=some r):Ct Tryz.prog 69 [zU s,Ji c] (V.i r):=by
 refine zP zn rfl ?_
 unfold zAy at M
 obtain ⟨y,h_1,M⟩:=zC M
 refine au 8 ?_
 refine ca (zFD h_1) (au 1 ?_)
 refine X.op0W rfl rfl rfl ?_
 obtain ⟨y1,h_2,M⟩:=Yw M
 obtain ⟨y2,h_3,M⟩:=Yw M
 refine au 2 ?_
 refine GS.seq ?_
 refine X.mid [(25,(V.b (((decide (s.Light<y.Lo))||(decide (y.Hi<y1)))||y2)))] ?_ ?_
 ·intro hg
  refine X.split (decide (s.Light<y.Lo)) (fun h_4=>?_) (fun h_4=>?_)
  ·refine au 19 ?_
   exact ng hg rfl (by simp only [h_4,bb])
  refine X.split (decide (y.Hi<y1)) (fun h_5=>?_) (fun h_5=>?_)
  ·refine au 10 ?_
   refine cca (zDp (h_2 (nt h_4))) (au 8 ?_)
   exact ng hg rfl (by simp only [h_4,h_5,bb])
  refine au 10 ?_
  refine cca (zDp (h_2 (nt h_4))) (au 5 ?_)
  refine cca (YZ (h_3 (nt (zDa h_4 h_5)))) (au 2 ?_)
  exact ng hg rfl (by simp only [h_4,h_5,bb])
 refine cm M (fun h_6 M=>?_) (fun h_6 M=>?_)
 ·refine au 3 ?_
  cases M
  exact X.rt
 refine au 4 ?_
 cases M
 exact X.rt
theorem zFz {vals:(List Int)} {r:Int} (M:Y0 vals=some r):Ct Tryz.prog 68 [V.sl (map V.i vals)] (V.i r):=by
 refine zP zn rfl ?_
 unfold Y0 at M
 refine au 12 ?_
 refine X.join (τ:=Unit) (fun v=>Yn=some r) (fun v=>⟨[(3,V.i 0)],[],0,none,18⟩) ?_ ?_
 ·intro _ M
  replace M:Yn=some r:=M
  unfold Yn at M
  refine au 4 ?_
  cases M
  exact X.rt
 intro hj_1
 refine au 1 ?_
 refine gx [] (X.loop (σ:=Int) (fun v=>⟨[(3,V.i 0),(6,V.sl (map V.i vals)),(7,(V.i (vals.length:Int))),(8,V.i v)],[],0,none,18⟩) M ?_ rfl)
 intro x1 b_1 M hc_2 hr_1
 rw [Yo] at M
 refine au 3 ?_
 refine GS.seq ?_
 refine cm M (fun h_1 M=>?_) (fun h_1 M=>?_)
 ·obtain ⟨x,h_2,M⟩:=zC M
  refine au 13 ?_
  refine cm M (fun h_3 M=>?_) (fun h_3 M=>?_)
  ·refine au 4 ?_
   have hE:=bf M
   replace hE:=hr_1 _ hE.symm
   subst hE
   exact X.rt
  refine au 6 ?_
  have hE:=bf M
  exact gx [] (hc_2 (w64 (x1+1)) hE.symm)
 obtain ⟨y_1,M,hy⟩:=zt M
 rw [hr_1 _ hy.symm] at M
 refine au 1 ?_
 exact gx [] (hj_1 () M)
set_option maxHeartbeats 4000000 in
theorem zF7 {s:zH} {r:Int} (M:zBt s=some r):Ct Tryz.prog 33 [zU s] (V.i r):=by
 refine zP zn rfl ?_
 unfold zBt at M
 refine au 6 ?_
 refine X.mid [(39,(V.b (((((!(zT s.ID 1 1099511627776))||(!(zT s.Light 1 65536)))||(!(JF s.Lever s.Height)))||(!(zT s.Turn 1 1048576)))||(!(zT s.Least 0 5000))))),(1,V.ptr 0 0 0)] ?_ ?_
 ·intro hg
  refine X.split (!(zT s.ID 1 1099511627776)) (fun h_1=>?_) (fun h_1=>?_)
  ·refine au 2 ?_
   refine ca (zm s.ID 1 1099511627776) (au 28 ?_)
   exact ng hg rfl (by simp only [h_1,bb])
  refine X.split (!(zT s.Light 1 65536)) (fun h_2=>?_) (fun h_2=>?_)
  ·refine au 2 ?_
   refine ca (zm s.ID 1 1099511627776) (au 4 ?_)
   refine ca (zm s.Light 1 65536) (au 23 ?_)
   exact ng hg rfl (by simp only [h_1,h_2,bb])
  refine X.split (!(JF s.Lever s.Height)) (fun h_3=>?_) (fun h_3=>?_)
  ·refine au 2 ?_
   refine ca (zm s.ID 1 1099511627776) (au 4 ?_)
   refine ca (zm s.Light 1 65536) (au 7 ?_)
   refine ca (zBH s.Lever s.Height) (au 15 ?_)
   exact ng hg rfl (by simp only [h_1,h_2,h_3,bb])
  refine X.split (!(zT s.Turn 1 1048576)) (fun h_4=>?_) (fun h_4=>?_)
  ·refine au 2 ?_
   refine ca (zm s.ID 1 1099511627776) (au 4 ?_)
   refine ca (zm s.Light 1 65536) (au 7 ?_)
   refine ca (zBH s.Lever s.Height) (au 5 ?_)
   refine ca (zm s.Turn 1 1048576) (au 9 ?_)
   exact ng hg rfl (by simp only [h_1,h_2,h_3,h_4,bb])
  refine au 2 ?_
  refine ca (zm s.ID 1 1099511627776) (au 4 ?_)
  refine ca (zm s.Light 1 65536) (au 7 ?_)
  refine ca (zBH s.Lever s.Height) (au 5 ?_)
  refine ca (zm s.Turn 1 1048576) (au 5 ?_)
  refine ca (zm s.Least 0 5000) (au 3 ?_)
  exact ng hg rfl (by simp only [h_1,h_2,h_3,h_4,bb])
 refine cm M (fun h_5 M=>?_) (fun h_5 M=>?_)
 ·refine au 3 ?_
  cases M
  exact X.rt
 refine au 8 ?_
 refine cm M (fun h_6 M=>?_) (fun h_6 M=>?_)
 ·refine au 3 ?_
  cases M
  exact X.rt
 refine au 8 ?_
 refine X.join (τ:=Unit) (fun v=>Qr s=some r) (fun v=>⟨[(1,V.ptr 0 0 0)],[.rows 11 [zU s]],0,none,114⟩) ?_ ?_
 ·intro _ M
  replace M:Qr s=some r:=M
  unfold Qr at M
  obtain ⟨y,h_7,M⟩:=zC M
  refine au 3 ?_
  refine ca (zDp h_7) (au 2 ?_)
  refine cm M (fun h_8 M=>?_) (fun h_8 M=>?_)
  ·refine au 3 ?_
   cases M
   exact X.rt
  refine au 8 ?_
  refine X.opR rfl (lenO (l:=[s.Mean,s.Mtac]) rfl rfl rfl) rfl (au 2 ?_)
  refine X.join (τ:=Unit) (fun v=>Qq s=some r) (fun v=>⟨[(1,V.ptr 0 0 0)],[.rows 11 [zU s]],0,none,114⟩) ?_ ?_
  ·intro _ M
   replace M:Qq s=some r:=M
   unfold Qq at M
   obtain ⟨y1,h_9,M⟩:=zC M
   refine au 4 ?_
   refine ca (zIq h_9) (au 10 ?_)
   refine cm M (fun h_10 M=>?_) (fun h_10 M=>?_)
   ·refine au 3 ?_
    cases M
    exact X.rt
   obtain ⟨y2,h_11,M⟩:=zC M
   obtain ⟨y3,h_12,M⟩:=zC M
   obtain ⟨y4,h_13,M⟩:=zC M
   refine GS.skip (GS.seq ?_)
   refine X.draw (by kernel_rfl) (au 3 ?_)
   refine dca (zFC h_11) (au 3 ?_)
   refine dca (zFC h_12) ?_
   refine dbld rfl rfl rfl rfl rfl (by kernel_rfl) rfl ?_
   refine dca (zFz h_13) (au 2 ?_)
   refine X.norm [(2,V.i y4)] ?_ rfl (sr rfl)
   cases M
   exact X.rt
  intro hj_2
  refine au 1 ?_
  refine gx [some 0,some 1] (X.loop (σ:=Int) (fun v=>⟨[(1,V.ptr 0 0 0),(84,V.osl 1 0 (List.length ([s.Mean,s.Mtac]))),(85,(V.i (([s.Mean,s.Mtac]).length:Int))),(86,V.i v)],[.rows 11 [zU s],.rows 2 (map Ji ([s.Mean,s.Mtac]))],0,none,114⟩) M ?_ rfl)
  intro x1 b_1 M hc_3 hr_1
  rw [zAX] at M
  refine au 3 ?_
  refine GS.seq ?_
  refine cm M (fun h_14 M=>?_) (fun h_14 M=>?_)
  ·obtain ⟨x,h_15,M⟩:=zC M
   refine au 4 ?_
   refine X.opR rfl (jB h_15 rfl rfl rfl rfl rfl) rfl ?_
   refine X.opR rfl (Y9 h_15 rfl rfl rfl rfl) rfl (au 1 ?_)
   refine X.op0W rfl rfl rfl ?_
   obtain ⟨y5,h_16,M⟩:=zC M
   refine au 3 ?_
   refine ca (zFI h_16) (au 6 ?_)
   refine cm M (fun h_17 M=>?_) (fun h_17 M=>?_)
   ·refine au 4 ?_
    have hE:=bf M
    replace hE:=hr_1 _ hE.symm
    subst hE
    exact X.rt
   refine au 6 ?_
   have hE:=bf M
   exact gx [some 0,some 1] (hc_3 (w64 (x1+1)) hE.symm)
  obtain ⟨y_1,M,hy⟩:=zt M
  rw [hr_1 _ hy.symm] at M
  refine au 1 ?_
  exact gx [some 0] (hj_2 () M)
 intro hj_1
 refine au 1 ?_
 refine gx [some 0] (X.loop (σ:=Int) (fun v=>⟨[(1,V.ptr 0 0 0),(45,V.sl (map ZW s.Holds)),(46,(V.i (s.Holds.length:Int))),(47,V.i v)],[.rows 11 [zU s]],0,none,114⟩) M ?_ rfl)
 intro x3 b_1 M hc_4 hr_1
 rw [zAW] at M
 refine au 3 ?_
 refine GS.seq ?_
 refine cm M (fun h_18 M=>?_) (fun h_18 M=>?_)
 ·obtain ⟨x2,h_19,M⟩:=zC M
  refine au 9 ?_
  refine X.op0W rfl rfl rfl (au 3 ?_)
  refine X.mid [(69,(V.b (((!(zT x2.ID 1 1099511627776))||(!(zT x2.Room 0 65536)))||(!(JF x2.Lever x2.Height))))),(1,V.ptr 0 0 0),(3,V.i x3),(4,V.ptr 1 0 0),(45,V.sl (map ZW s.Holds)),(46,(V.i (s.Holds.length:Int))),(47,V.i x3)] ?_ ?_
  ·intro hg
   refine X.split (!(zT x2.ID 1 1099511627776)) (fun h_20=>?_) (fun h_20=>?_)
   ·refine au 2 ?_
    refine ca (zm x2.ID 1 1099511627776) (au 16 ?_)
    exact ng hg rfl (by simp only [h_20,bb])
   refine X.split (!(zT x2.Room 0 65536)) (fun h_21=>?_) (fun h_21=>?_)
   ·refine au 2 ?_
    refine ca (zm x2.ID 1 1099511627776) (au 4 ?_)
    refine ca (zm x2.Room 0 65536) (au 11 ?_)
    exact ng hg rfl (by simp only [h_20,h_21,bb])
   refine au 2 ?_
   refine ca (zm x2.ID 1 1099511627776) (au 4 ?_)
   refine ca (zm x2.Room 0 65536) (au 7 ?_)
   refine ca (zBH x2.Lever x2.Height) (au 3 ?_)
   exact ng hg rfl (by simp only [h_20,h_21,bb])
  refine cm M (fun h_22 M=>?_) (fun h_22 M=>?_)
  ·refine au 3 ?_
   have hE:=bf M
   replace hE:=hr_1 _ hE.symm
   subst hE
   exact X.rt
  obtain ⟨l,h_23,M⟩:=zC M
  obtain ⟨y6,h_24,M⟩:=zC M
  refine au 5 ?_
  refine X.opR rfl (zQW (f:=ZW) h_23 (fun _=>rfl) rfl rfl rfl rfl rfl rfl (zGm rfl)) rfl (X.q rfl ?_)
  refine X.zBk (Yk h_24) rfl rfl rfl (m:=9) rfl (.cons (.shut (n:=9) rfl) (.cons (FR.arg ⟨30,rfl⟩) .nil)) ?_
  refine GS.ZT ?_
  refine cm M (fun h_25 M=>?_) (fun h_25 M=>?_)
  ·refine au 3 ?_
   have hE:=bf M
   replace hE:=hr_1 _ hE.symm
   subst hE
   exact X.rt
  refine au 6 ?_
  have hE:=bf M
  exact gx [some 0] (hc_4 (w64 (x3+1)) hE.symm)
 obtain ⟨y_1,M,hy⟩:=zt M
 rw [hr_1 _ hy.symm] at M
 refine au 1 ?_
 exact gx [some 0] (hj_1 () M)
set_option maxHeartbeats 4000000 in
theorem zHB {l:(List zB)} {r:zB} (M:zCt l=some r):Ct Tryz.prog 60 [V.sl (map zD l)] (zD r):=by
 refine zP zn rfl ?_
 unfold zCt at M
 refine au 12 ?_
 refine X.join (τ:=Int×Int) (fun v=>zBK v.1 v.2=some r) (fun v=>⟨[(2,V.ptr 0 0 0),(3,V.ptr 1 0 0)],[.rows 2 [V.agg [V.i 0,V.i 0]],.rows 2 [V.agg [V.i v.1,V.i v.2]]],0,none,26⟩) ?_ ?_
 ·rintro ⟨Lo,Hi⟩ M
  replace M:zBK Lo Hi=some r:=M
  unfold zBK at M
  refine au 2 ?_
  refine X.op0W rfl rfl rfl ?_
  refine GS.ZT ?_
  cases M
  exact X.rt
 intro hj_1
 refine au 1 ?_
 refine gx [some 0,some 1] (X.loop (σ:=(Int×Int×Int)) (fun v=>⟨[(2,V.ptr 0 0 0),(3,V.ptr 1 0 0),(6,V.sl (map zD l)),(7,(V.i (l.length:Int))),(8,V.i v.1)],[.rows 2 [V.agg [V.i 0,V.i 0]],.rows 2 [V.agg [V.i v.2.1,V.i v.2.2]]],0,none,26⟩) M ?_ rfl)
 rintro ⟨x1,Lo1,Hi1⟩ b_1 M hc_2 hr_1
 rw [zBL] at M
 refine au 3 ?_
 refine GS.seq ?_
 refine cm M (fun h_1 M=>?_) (fun h_1 M=>?_)
 ·obtain ⟨x,h_2,M⟩:=zC M
  refine au 7 ?_
  refine X.op0W rfl rfl rfl ?_
  refine GS.ZT ?_
  refine X.draw (by kernel_rfl) (au 11 ?_)
  refine dop0 rfl rfl rfl rfl (by kernel_rfl) rfl (au 1 ?_)
  refine dop0 rfl rfl rfl rfl (by kernel_rfl) rfl (au 1 ?_)
  refine X.norm [(2,V.ptr 0 0 0),(3,V.ptr 1 0 0),(6,V.sl (map zD l)),(7,(V.i (l.length:Int))),(8,V.i x1)] ?_ rfl (sr rfl)
  refine au 5 ?_
  have hE:=bf M
  exact gx [some 0,some 1] (hc_2 (w64 (x1+1),w64 (Lo1+x.Lo),w64 (Hi1+x.Hi)) hE.symm)
 obtain ⟨y_1,M,hy⟩:=zt M
 rw [hr_1 _ hy.symm] at M
 refine au 1 ?_
 exact gx [some 0,some 1] (hj_1 (Lo1,Hi1) M)
theorem yU (a:Int) (b:Int):Ct Tryz.prog 39 [V.i a,V.i b] (V.i (ZC a b)):=by
 refine zP zn rfl ?_
 generalize M:ZC a b=r
 unfold ZC at M
 refine au 9 ?_
 refine cm M (fun h_1 M=>?_) (fun h_1 M=>?_)
 ·refine au 4 ?_
  subst M
  exact X.rt
 refine au 5 ?_
 subst M
 exact X.rt
theorem zFB {l:zQ} {r:zB} (M:YT l=some r):Ct Tryz.prog 34 [zO l] (zD r):=by
 refine zP zn rfl ?_
 unfold YT at M
 obtain ⟨y,h_1,M⟩:=zC M
 refine au 7 ?_
 refine ca (zHB h_1) (au 1 ?_)
 refine X.op0W rfl rfl rfl ?_
 refine GS.ZT (GS.seq ?_)
 refine X.draw (by kernel_rfl) (au 5 ?_)
 refine dca (yU y.Lo l.All.Lo) (au 7 ?_)
 refine dop0 rfl rfl rfl rfl (by kernel_rfl) rfl (au 1 ?_)
 refine X.norm [(2,V.ptr 1 0 0)] ?_ rfl (sr rfl)
 cases M
 exact X.rt
set_option maxHeartbeats 4000000 in
theorem yH {s:zH} {l:zQ} {r:Int} (M:JK s l=some r):Ct Tryz.prog 14 [zU s,zO l] (V.i r):=by
 refine zP zn rfl ?_
 unfold JK at M
 obtain ⟨y,h_1,M⟩:=zC M
 refine au 8 ?_
 refine ca (zF7 h_1) (au 6 ?_)
 refine cm M (fun h_2 M=>?_) (fun h_2 M=>?_)
 ·refine au 4 ?_
  cases M
  exact X.rt
 refine au 11 ?_
 refine cm M (fun h_3 M=>?_) (fun h_3 M=>?_)
 ·refine au 3 ?_
  cases M
  exact X.rt
 refine au 8 ?_
 refine X.join (τ:=Unit) (fun v=>yI l=some r) (fun v=>⟨[(3,V.ptr 0 0 0)],[.rows 3 [zO l]],0,none,88⟩) ?_ ?_
 ·intro _ M
  replace M:yI l=some r:=M
  unfold yI at M
  obtain ⟨y1,h_4,M⟩:=zC M
  refine au 3 ?_
  refine ca (zFB h_4) (au 1 ?_)
  refine X.op0W rfl rfl rfl (au 3 ?_)
  refine X.mid [(53,(V.b (((decide (l.All.Lo<0))||(decide (l.All.Hi<l.All.Lo)))||(decide (65536<l.All.Hi))))),(3,V.ptr 0 0 0),(8,V.ptr 1 0 0)] ?_ ?_
  ·intro hg
   refine X.split (decide (l.All.Lo<0)) (fun h_5=>?_) (fun h_5=>?_)
   ·refine au 21 ?_
    exact ng hg rfl (by simp only [h_5,bb])
   refine X.split (decide (l.All.Hi<l.All.Lo)) (fun h_6=>?_) (fun h_6=>?_)
   ·refine au 21 ?_
    exact ng hg rfl (by simp only [h_5,h_6,bb])
   refine au 21 ?_
   exact ng hg rfl (by simp only [h_5,h_6,bb])
  refine cm M (fun h_7 M=>?_) (fun h_7 M=>?_)
  ·refine au 3 ?_
   cases M
   exact X.rt
  refine au 11 ?_
  refine cm M (fun h_8 M=>?_) (fun h_8 M=>?_)
  ·refine au 3 ?_
   cases M
   exact X.rt
  refine au 8 ?_
  refine cm M (fun h_9 M=>?_) (fun h_9 M=>?_)
  ·refine au 3 ?_
   cases M
   exact X.rt
  refine au 5 ?_
  cases M
  exact X.rt
 intro hj_1
 refine au 1 ?_
 refine gx [some 0,some 1] (X.loop (σ:=Int) (fun v=>⟨[(2,V.ptr 0 0 0),(3,V.ptr 1 0 0),(22,V.sl (map zD l.Holds)),(23,(V.i (l.Holds.length:Int))),(24,V.i v)],[.rows 11 [zU s],.rows 3 [zO l]],0,none,88⟩) M ?_ rfl)
 intro x2 b_1 M hc_2 hr_1
 rw [yJ] at M
 refine au 3 ?_
 refine GS.seq ?_
 refine cm M (fun h_10 M=>?_) (fun h_10 M=>?_)
 ·obtain ⟨x,h_11,M⟩:=zC M
  refine au 9 ?_
  refine X.op0W rfl rfl rfl ?_
  obtain ⟨x1,h_12,M⟩:=Yw M
  refine GS.ZT (GS.seq ?_)
  refine X.mid [(49,(V.b (((decide (x.Lo<0))||(decide (x.Hi<x.Lo)))||(decide (x1.Room<x.Hi))))),(2,V.ptr 0 0 0),(3,V.ptr 1 0 0),(22,V.sl (map zD l.Holds)),(23,(V.i (l.Holds.length:Int))),(24,V.i x2)] ?_ ?_
  ·intro hg
   refine X.split (decide (x.Lo<0)) (fun h_13=>?_) (fun h_13=>?_)
   ·refine au 23 ?_
    exact ng hg rfl (by simp only [h_13,bb])
   refine X.split (decide (x.Hi<x.Lo)) (fun h_14=>?_) (fun h_14=>?_)
   ·refine au 23 ?_
    exact ng hg rfl (by simp only [h_13,h_14,bb])
   refine au 17 ?_
   refine cop (on_f rfl rfl rfl h_14) (YH (f:=ZW) (h_12 (nt (zDa h_13 h_14))) (fun _=>rfl) rfl rfl rfl rfl) rfl rfl (au 1 ?_)
   refine cop (on_f rfl rfl rfl h_14) (zDC (h_12 (nt (zDa h_13 h_14))) rfl rfl rfl) rfl rfl (au 3 ?_)
   exact ng hg rfl (by simp only [h_13,h_14,bb])
  refine cm M (fun h_15 M=>?_) (fun h_15 M=>?_)
  ·refine au 3 ?_
   have hE:=bf M
   replace hE:=hr_1 _ hE.symm
   subst hE
   exact X.rt
  refine au 6 ?_
  have hE:=bf M
  exact gx [some 0,some 1] (hc_2 (w64 (x2+1)) hE.symm)
 obtain ⟨y_1,M,hy⟩:=zt M
 rw [hr_1 _ hy.symm] at M
 refine au 1 ?_
 exact gx [some 1] (hj_1 () M)
abbrev zL (x:zV):V:=.agg [V.i x.ID,V.i x.Draught,V.i x.From,V.i x.To,V.i x.Long]
theorem zFE {s:zH} {r:(List Int)} (M:zAz s=some r):Ct Tryz.prog 35 [zU s] (V.sl (map V.i r)):=by
 refine zP zn rfl ?_
 unfold zAz at M
 refine au 14 ?_
 refine X.join (τ:=(List Int)) (fun v=>zBO v=some r) (fun v=>⟨[(3,ovl 0 v)],[obl 1 V.i v],0,none,20⟩) ?_ ?_
 ·intro l M
  replace M:zBO l=some r:=M
  unfold zBO at M
  refine au 4 ?_
  have hE:=bf M
  subst hE
  exact GS.ret ⟨_,rfl,FR.ovl (f:=V.i) (l:=l) 9 rfl rfl (fun _=>rfl)⟩
 intro hj_1
 refine au 1 ?_
 refine gx [none] (X.loop (σ:=(Int×(List Int))) (fun v=>⟨[(3,ovl 0 v.2),(7,V.sl (map ZW s.Holds)),(8,(V.i (s.Holds.length:Int))),(9,V.i v.1)],[obl 1 V.i v.2],0,none,20⟩) M ?_ rfl)
 rintro ⟨x1,l2⟩ b_1 M hc_2 hr_1
 rw [qI] at M
 refine au 3 ?_
 refine GS.seq ?_
 refine cm M (fun h_1 M=>?_) (fun h_1 M=>?_)
 ·obtain ⟨x,h_2,M⟩:=zC M
  refine au 7 ?_
  refine X.op0W rfl rfl rfl ?_
  obtain ⟨l1,h_3,M⟩:=zC M
  refine au 6 ?_
  refine appN (f:=V.i) h_3 (fun _=>rfl) (by rfl) (by rfl) (by rfl) (by rfl) (by rfl) (by rfl) (by rfl) (by rfl) (by rfl) (by rfl) (by rfl) (by exact rfl) (by rfl) (by rfl) (au 7 ?_)
  have hE:=bf M
  exact X.gc [some 3] (hc_2 (w64 (x1+1),l1) hE.symm) rfl rfl rfl (zG rfl (qz (jH h_3) rfl) (ga rfl rfl)) (gb_obl' 9 (jH h_3) rfl rfl (fun _=>rfl) zb)
 obtain ⟨y_1,M,hy⟩:=zt M
 rw [hr_1 _ hy.symm] at M
 refine au 1 ?_
 exact gy [some 0] (hj_1 l2 M) (zG rfl (Am.zY rfl) QO)
theorem zL7 (l:zQ):Ct Tryz.prog 36 [zO l] (V.fn 70 [V.fptr [zO (zBr l)] 0 0]):=by
 refine zP zn rfl ?_
 generalize M:zBr l=r
 unfold zBr at M
 refine au 8 ?_
 subst M
 exact X.rt
theorem zD7 (x:Int):Ct Tryz.prog 106 [V.i x] (V.b (cmp_isNaN_int x)):=by
 refine zP zn rfl ?_
 generalize M:cmp_isNaN_int x=r
 unfold cmp_isNaN_int at M
 refine au 9 ?_
 subst M
 exact X.rt
theorem zGY (x:Int) (y:Int):Ct Tryz.prog 73 [V.i x,V.i y] (V.i (cmp_Compare_int x y)):=by
 refine zP zn rfl ?_
 generalize M:cmp_Compare_int x y=r
 unfold cmp_Compare_int at M
 refine au 5 ?_
 refine ca (zD7 x) (au 4 ?_)
 refine ca (zD7 y) (au 6 ?_)
 refine cm M (fun h_1 M=>?_) (fun h_1 M=>?_)
 ·refine au 4 ?_
  refine cm M (fun h_2 M=>?_) (fun h_2 M=>?_)
  ·refine au 3 ?_
   subst M
   exact X.rt
  refine au 4 ?_
  subst M
  exact X.rt
 refine au 5 ?_
 refine cm M (fun h_3 M=>?_) (fun h_3 M=>?_)
 ·refine au 3 ?_
  subst M
  exact X.rt
 refine au 7 ?_
 refine cm M (fun h_4 M=>?_) (fun h_4 M=>?_)
 ·refine au 3 ?_
  subst M
  exact X.rt
 refine au 7 ?_
 refine cm M (fun h_5 M=>?_) (fun h_5 M=>?_)
 ·refine au 3 ?_
  subst M
  exact X.rt
 refine au 4 ?_
 subst M
 exact X.rt
theorem zFF {a:Int} {b:Int} {c:(List Int)} {r:Int} (M:zA0 a b c=some r):Ct Tryz.prog 72 [V.i a,V.i b,V.fptr [V.sl (map V.i c)] 0 0] (V.i r):=by
 refine zP zn rfl ?_
 unfold zA0 at M
 obtain ⟨x,h_1,M⟩:=zC M
 obtain ⟨x1,h_2,M⟩:=zC M
 refine au 13 ?_
 refine cca (zGY x x1) (au 2 ?_)
 refine X.norm [(5,V.i (cmp_Compare_int x x1))] ?_ rfl (sr rfl)
 cases M
 exact X.rt
theorem zDb {x:(List Int)} {r:Int} (M:zBM x=some r):Ct Tryz.prog 74 [V.sl (map V.i x)] (V.i r):=by
 refine zP zn rfl ?_
 unfold zBM at M
 refine au 12 ?_
 refine X.join (τ:=Int) (fun v=>zCK v=some r) (fun v=>⟨[(3,V.i v)],[],0,none,17⟩) ?_ ?_
 ·intro n M
  replace M:zCK n=some r:=M
  unfold zCK at M
  refine au 4 ?_
  cases M
  exact X.rt
 intro hj_1
 refine au 1 ?_
 refine gx [] (X.loop (σ:=(Int×Int)) (fun v=>⟨[(3,V.i v.1),(6,V.sl (map V.i x)),(7,(V.i (x.length:Int))),(8,V.i v.2)],[],0,none,17⟩) M ?_ rfl)
 rintro ⟨n1,x2⟩ b_1 M hc_2 hr_1
 rw [zCL] at M
 refine au 3 ?_
 refine GS.seq ?_
 refine cm M (fun h_1 M=>?_) (fun h_1 M=>?_)
 ·obtain ⟨x1,h_2,M⟩:=zC M
  refine au 19 ?_
  have hE:=bf M
  exact gx [] (hc_2 (w64 (n1+x1),w64 (x2+1)) hE.symm)
 obtain ⟨y_1,M,hy⟩:=zt M
 rw [hr_1 _ hy.symm] at M
 refine au 1 ?_
 exact gx [] (hj_1 n1 M)
set_option maxHeartbeats 4000000 in
theorem zL8 {l:zQ} {form:(List Int)} {total:Int} {r:(List Int)} (M:zCu l form total=some r):Ct Tryz.prog 37 [zO l,V.sl (map V.i form),V.i total] (V.sl (map V.i r)):=by
 refine zP zn rfl ?_
 unfold zCu at M
 refine au 16 ?_
 refine X.join (τ:=(List Int)×(List Int)) (fun v=>qh l form total v.1 v.2=some r) (fun v=>⟨[(2,V.i total),(3,V.ptr 0 0 0),(4,V.ptr 1 0 0),(7,V.ptr 2 0 0),(8,ovl 3 v.1)],[.rows 3 [zO l],.rows 1 [V.sl (map V.i form)],.rows 1 [ovl 4 v.2],obl 1 V.i v.1,obl 1 V.i v.2],0,none,52⟩) ?_ ?_
 ·rintro ⟨l1,l2⟩ M
  replace M:qh l form total l1 l2=some r:=M
  unfold qh at M
  refine au 3 ?_
  refine inl rfl rfl rfl rfl (au 3 ?_)
  refine X.opR rfl (lenN (l:=l1) rfl rfl rfl) rfl (X.q rfl ?_)
  refine X.zPE (τ:=(List Int)) (fun v=>qg l total l1 l2 v=some r) (fun v=>⟨[],[.rows 3 [zO l],.dead,.rows 1 [ovl 4 l2],obl 1 V.i v,obl 1 V.i l2],0,none,9⟩) ?_ ?_
  ·intro l3 M
   replace M:qg l total l1 l2 l3=some r:=M
   unfold qg at M
   obtain ⟨_,h_1,M⟩:=zC M
   refine GS.ZT ?_
   replace h_1:=zGy h_1
   refine GS.nil ⟨_,rfl,?_⟩
   refine X.norm (H':=[.rows 3 [zO l],.dead,.rows 1 [ovl 4 l2],obl 1 V.i l3,obl 1 V.i l2]) [(2,V.i total),(3,V.ptr 0 0 0),(7,V.ptr 2 0 0),(8,ovl 3 l3)] ?_ rfl (W.zEw rfl (W.zEw rfl (W.zEw rfl (zHn rfl (zC5 h_1) W.zGt))))
   obtain ⟨y,h_2,M⟩:=zC M
   refine au 3 ?_
   refine X.opR rfl (v:=(ovl 4 l2)) (by rcases yM (z:=true) 4 l2 with h0 | ⟨n0,h0⟩ <;> simp only [h0] <;> rfl) rfl ?_
   refine X.zBk (zDb h_2) rfl rfl rfl (m:=9) rfl (.cons (FR.arg (FR.ovl (f:=V.i) (l:=l2) 9 rfl rfl (fun _=>rfl))) .nil) (au 1 ?_)
   refine X.opW (H':=[.rows 3 [zO l],.dead,.rows 1 [ovl 4 l2],obl 1 V.i l3,obl 1 V.i l2,.rows 1 [V.i 0]]) rfl rfl rfl rfl ?_
   refine X.op0W (H':=[.rows 3 [zO l],.dead,.rows 1 [ovl 4 l2],obl 1 V.i l3,obl 1 V.i l2,.rows 1 [V.i (w64 (total - y))]]) rfl rfl rfl (au 8 ?_)
   refine X.opR rfl (lenN (l:=l3) rfl rfl rfl) rfl (au 2 ?_)
   refine X.join (τ:=(List Int)) (fun v=>zCl v=some r) (fun v=>⟨[(7,V.ptr 0 0 0)],[.rows 1 [ovl 1 v],obl 1 V.i v],0,none,52⟩) ?_ ?_
   ·intro l4 M
    replace M:zCl l4=some r:=M
    unfold zCl at M
    refine sq ?_
    refine X.opR rfl (v:=(ovl 1 l4)) (by rcases yM (z:=true) 1 l4 with h0 | ⟨n0,h0⟩ <;> simp only [h0] <;> rfl) rfl (au 2 ?_)
    have hE:=bf M
    subst hE
    exact GS.ret ⟨_,rfl,FR.ovl (f:=V.i) (l:=l4) 9 rfl rfl (fun _=>rfl)⟩
   intro hj_3
   refine au 1 ?_
   refine X.gc [some 2,some 5,some 0,some 3,some 4] (X.loop (σ:=(Int×Int×(List Int))) (fun v=>⟨[(7,V.ptr 0 0 0),(12,V.fn 75 [V.ptr 1 0 0,V.ptr 2 0 0,V.ptr 0 0 0]),(41,ovl 3 l3),(42,(V.i (l3.length:Int))),(43,V.i v.1)],[.rows 1 [ovl 4 v.2.2],.rows 1 [V.i v.2.1],.rows 3 [zO l],obl 1 V.i l3,obl 1 V.i v.2.2],0,none,52⟩) M ?_ rfl) rfl rfl rfl (zG rfl ⟨9,rfl⟩ (zG rfl ⟨9,rfl⟩ (zG rfl (Am.zY rfl) (ga rfl rfl)))) (Zj rfl rfl (Am.zY rfl) (gb9 rfl rfl rfl (gb9 rfl rfl rfl (ZB 9 rfl rfl (fun _=>rfl) (ZB 9 rfl rfl (fun _=>rfl) zb)))))
   rintro ⟨x5,left,l5⟩ b_1 M hc_4 hr_1
   rw [zCm] at M
   refine au 3 ?_
   refine GS.seq ?_
   refine cm M (fun h_3 M=>?_) (fun h_3 M=>?_)
   ·obtain ⟨x,h_4,M⟩:=zC M
    refine au 4 ?_
    refine X.opR rfl (JY h_4 rfl rfl rfl rfl rfl) rfl ?_
    refine X.opR rfl (zBh h_4 rfl rfl rfl rfl) rfl (au 5 ?_)
    refine inl rfl rfl rfl rfl ?_
    obtain ⟨x1,h_5,M⟩:=zC M
    obtain ⟨x2,h_6,M⟩:=zC M
    refine au 6 ?_
    refine cop rfl (YH (f:=zD) h_5 (fun _=>rfl) rfl rfl rfl rfl) rfl rfl (au 1 ?_)
    refine cop rfl (zDC h_5 rfl rfl rfl) rfl rfl (au 3 ?_)
    refine cop rfl (YH (f:=zD) h_6 (fun _=>rfl) rfl rfl rfl rfl) rfl rfl (au 1 ?_)
    refine cop rfl (zDC h_6 rfl rfl rfl) rfl rfl (au 4 ?_)
    refine X.norm [(0,V.i x),(1,V.ptr 1 0 0),(3,V.ptr 0 0 0),(5,V.i (min left (w64 (x1.Hi - x2.Lo))))] ?_ rfl (sr rfl)
    obtain ⟨x3,h_7,M⟩:=zC M
    obtain ⟨x4,h_8,M⟩:=zC M
    refine sq ?_
    refine X.opR rfl (v:=(ovl 4 l5)) (by rcases yM (z:=true) 4 l5 with h0 | ⟨n0,h0⟩ <;> simp only [h0] <;> rfl) rfl (X.q rfl ?_)
    refine X.opR rfl (JY h_7 rfl rfl rfl rfl rfl) rfl ?_
    refine X.opR rfl (zBh h_7 rfl rfl rfl rfl) rfl (au 2 ?_)
    refine X.opR rfl (JY h_8 rfl rfl rfl rfl rfl) rfl ?_
    refine X.op0W (H':=[.rows 1 [ovl 4 l5],.rows 1 [V.i left],.rows 3 [zO l],obl 1 V.i l3,obl 1 V.i (put l5 x (w64 (x3+(min left (w64 (x1.Hi - x2.Lo))))))]) rfl (X.Q9 (b:=w64 (x3+(min left (w64 (x1.Hi - x2.Lo))))) h_8 rfl rfl rfl rfl rfl rfl rfl) rfl (au 5 ?_)
    refine X.op0W (H':=[.rows 1 [ovl 4 l5],.rows 1 [V.i (w64 (left - (min left (w64 (x1.Hi - x2.Lo)))))],.rows 3 [zO l],obl 1 V.i l3,obl 1 V.i (put l5 x (w64 (x3+(min left (w64 (x1.Hi - x2.Lo))))))]) rfl rfl rfl ?_
    refine GS.ZT ?_
    refine GS.nil ⟨_,rfl,?_⟩
    refine X.norm (H':=[.rows 1 [ovl 4 l5],.rows 1 [V.i (w64 (left - (min left (w64 (x1.Hi - x2.Lo)))))],.rows 3 [zO l],obl 1 V.i l3,obl 1 V.i (put l5 x (w64 (x3+(min left (w64 (x1.Hi - x2.Lo))))))]) [(7,V.ptr 0 0 0),(12,V.fn 75 [V.ptr 1 0 0,V.ptr 2 0 0,V.ptr 0 0 0]),(41,ovl 3 l3),(42,(V.i (l3.length:Int))),(43,V.i x5)] ?_ rfl (sr rfl)
    refine au 6 ?_
    have hE:=bf M
    exact X.gc [some 0,some 1,some 2,some 3,some 4] (hc_4 (w64 (x5+1),w64 (left - (min left (w64 (x1.Hi - x2.Lo)))),put l5 x (w64 (x3+(min left (w64 (x1.Hi - x2.Lo)))))) hE.symm) rfl rfl rfl (zG rfl ⟨9,rfl⟩ (zG rfl ⟨9,rfl⟩ (zG rfl (Am.zY rfl) (ga rfl rfl)))) (Zj rfl rfl (Yi YS (Am.zY rfl)) (gb9 rfl rfl rfl (gb9 rfl rfl rfl (ZB 9 rfl rfl (fun _=>rfl) (ZB 9 rfl rfl (fun _=>rfl) zb)))))
   obtain ⟨y_1,M,hy⟩:=zt M
   rw [hr_1 _ hy.symm] at M
   refine au 1 ?_
   exact X.gc [some 0,some 4] (hj_3 l5 M) rfl rfl rfl (ga rfl rfl) (Zj rfl rfl (Am.zY rfl) (ZB 9 rfl rfl (fun _=>rfl) zb))
  intro hj_2
  refine inl rfl rfl rfl rfl (au 8 ?_)
  refine GS.seq ?_
  refine X.join (τ:=Int×(List Int)) (fun v=>qf l form total l1 l2 v.1 v.2=some r) (fun v=>⟨[(0,ovl 3 v.2),(1,(V.i (l1.length:Int))),(2,V.fn 72 [V.ptr 1 0 0]),(6,V.i 20),(7,V.i v.1)],[.rows 3 [zO l],.rows 1 [V.sl (map V.i form)],.rows 1 [ovl 4 l2],obl 1 V.i v.2,obl 1 V.i l2],0,none,63⟩) ?_ ?_
  ·rintro ⟨a,l6⟩ M
   replace M:qf l form total l1 l2 a l6=some r:=M
   unfold qf at M
   refine au 5 ?_
   refine X.zPE (τ:=(List Int)) (fun v=>qd l total l1 l2 v=some r) (fun v=>⟨[(0,ovl 3 v),(1,(V.i (l1.length:Int))),(2,V.fn 72 [V.ptr 1 0 0]),(6,V.i 20)],[.rows 3 [zO l],.rows 1 [V.sl (map V.i form)],.rows 1 [ovl 4 l2],obl 1 V.i v,obl 1 V.i l2],0,none,63⟩) ?_ ?_
   ·intro l7 M
    replace M:qd l total l1 l2 l7=some r:=M
    unfold qd at M
    refine au 2 ?_
    refine X.gc [] (X.loop (σ:=Int) (fun v=>⟨[(0,ovl 3 l7),(1,(V.i (l1.length:Int))),(2,V.fn 72 [V.ptr 1 0 0]),(6,V.i v)],[.rows 3 [zO l],.rows 1 [V.sl (map V.i form)],.rows 1 [ovl 4 l2],obl 1 V.i l7,obl 1 V.i l2],0,none,63⟩) M ?_ rfl) rfl rfl rfl (zG rfl (Am.zY rfl) (ga rfl rfl)) (gb9 rfl rfl rfl (gb9 rfl rfl rfl (Zj rfl rfl (Am.zY rfl) (ZB 9 rfl rfl (fun _=>rfl) (ZB 9 rfl rfl (fun _=>rfl) zb)))))
    intro blockSize b_1 M hc_7 hr_1
    rw [zEd] at M
    refine au 6 ?_
    refine cm M (fun h_9 M=>?_) (fun h_9 M=>?_)
    ·refine au 8 ?_
     refine GS.seq ?_
     refine X.join (τ:=Unit) (fun v=>zCk l1 blockSize=some b_1) (fun v=>⟨[(0,ovl 3 l7),(1,(V.i (l1.length:Int))),(2,V.fn 72 [V.ptr 1 0 0]),(6,V.i blockSize),(7,V.i 0)],[.rows 3 [zO l],.rows 1 [V.sl (map V.i form)],.rows 1 [ovl 4 l2],obl 1 V.i l7,obl 1 V.i l2],0,none,63⟩) ?_ ?_
     ·intro _ M
      replace M:zCk l1 blockSize=some b_1:=M
      unfold zCk at M
      refine au 12 ?_
      refine cm M (fun h_10 M=>?_) (fun h_10 M=>?_)
      ·cases M
      refine au 7 ?_
      have hE:=bf M
      exact X.gc [] (hc_7 (w64 (blockSize*2)) hE.symm) rfl rfl rfl (zG rfl (Am.zY rfl) (ga rfl rfl)) (gb9 rfl rfl rfl (gb9 rfl rfl rfl (Zj rfl rfl (Am.zY rfl) (ZB 9 rfl rfl (fun _=>rfl) (ZB 9 rfl rfl (fun _=>rfl) zb)))))
     intro hj_8
     refine au 1 ?_
     refine X.gc [] (X.loop (σ:=Unit) (fun v=>⟨[(0,ovl 3 l7),(1,(V.i (l1.length:Int))),(2,V.fn 72 [V.ptr 1 0 0]),(6,V.i blockSize),(7,V.i 0),(8,V.i (w64 (2*blockSize)))],[.rows 3 [zO l],.rows 1 [V.sl (map V.i form)],.rows 1 [ovl 4 l2],obl 1 V.i l7,obl 1 V.i l2],0,none,63⟩) M ?_ rfl) rfl rfl rfl (zG rfl (Am.zY rfl) (ga rfl rfl)) (gb9 rfl rfl rfl (gb9 rfl rfl rfl (Zj rfl rfl (Am.zY rfl) (ZB 9 rfl rfl (fun _=>rfl) (ZB 9 rfl rfl (fun _=>rfl) zb)))))
     intro _ b_2 M hc_9 hr_2
     rw [zHO] at M
     refine au 6 ?_
     refine cm M (fun h_11 M=>?_) (fun h_11 M=>?_)
     ·refine au 2 ?_
      refine GS.seq ?_
      cases M
     obtain ⟨y_2,M,hy⟩:=zt M
     rw [hr_2 _ hy.symm] at M
     refine au 1 ?_
     exact X.gc [] (hj_8 () M) rfl rfl rfl (zG rfl (Am.zY rfl) (ga rfl rfl)) (gb9 rfl rfl rfl (gb9 rfl rfl rfl (Zj rfl rfl (Am.zY rfl) (ZB 9 rfl rfl (fun _=>rfl) (ZB 9 rfl rfl (fun _=>rfl) zb)))))
    refine au 1 ?_
    refine GS.nil ⟨_,rfl,?_⟩
    refine X.norm (H':=[.rows 3 [zO l],.rows 1 [V.sl (map V.i form)],.rows 1 [ovl 4 l2],obl 1 V.i l7,obl 1 V.i l2]) [] ?_ rfl W.zGt
    obtain ⟨y_1,M,hy⟩:=zt M
    rw [hr_1 _ hy.symm] at M
    exact X.gc [] (hj_2 l7 M) rfl rfl rfl (QO) (gb9 rfl rfl rfl (zH1 (Zj rfl rfl (Am.zY rfl) (ZB 9 rfl rfl (fun _=>rfl) (ZB 9 rfl rfl (fun _=>rfl) zb)))))
   intro hj_6
   refine inl rfl rfl rfl rfl (au 6 ?_)
   refine X.gc [] (X.loop (σ:=(Int×(List Int))) (fun v=>⟨[(0,ovl 3 v.2),(1,V.i a),(2,(V.i (l1.length:Int))),(3,V.fn 72 [V.ptr 1 0 0]),(8,V.i v.1)],[.rows 3 [zO l],.rows 1 [V.sl (map V.i form)],.rows 1 [ovl 4 l2],obl 1 V.i v.2,obl 1 V.i l2],0,none,53⟩) M ?_ rfl) rfl rfl rfl (zG rfl (Am.zY rfl) (ga rfl rfl)) (gb9 rfl rfl rfl (gb9 rfl rfl rfl (Zj rfl rfl (Am.zY rfl) (ZB 9 rfl rfl (fun _=>rfl) (ZB 9 rfl rfl (fun _=>rfl) zb)))))
   rintro ⟨i,l10⟩ b_1 M hc_10 hr_1
   rw [zDu] at M
   refine au 6 ?_
   refine cm M (fun h_12 M=>?_) (fun h_12 M=>?_)
   ·refine au 7 ?_
    refine X.join (τ:=(List Int)) (fun v=>Qn i v=some b_1) (fun v=>⟨[(0,ovl 3 v),(1,V.i a),(2,(V.i (l1.length:Int))),(3,V.fn 72 [V.ptr 1 0 0]),(8,V.i i)],[.rows 3 [zO l],.rows 1 [V.sl (map V.i form)],.rows 1 [ovl 4 l2],obl 1 V.i v,obl 1 V.i l2],0,none,53⟩) ?_ ?_
    ·intro l8 M
     replace M:Qn i l8=some b_1:=M
     unfold Qn at M
     refine au 6 ?_
     have hE:=bf M
     exact X.gc [] (hc_10 (w64 (i+1),l8) hE.symm) rfl rfl rfl (zG rfl (Am.zY rfl) (ga rfl rfl)) (gb9 rfl rfl rfl (gb9 rfl rfl rfl (Zj rfl rfl (Am.zY rfl) (ZB 9 rfl rfl (fun _=>rfl) (ZB 9 rfl rfl (fun _=>rfl) zb)))))
    intro hj_11
    refine au 1 ?_
    refine X.gc [] (X.loop (σ:=(Int×(List Int))) (fun v=>⟨[(0,ovl 3 v.2),(1,V.i a),(2,(V.i (l1.length:Int))),(3,V.fn 72 [V.ptr 1 0 0]),(8,V.i i),(9,V.i v.1)],[.rows 3 [zO l],.rows 1 [V.sl (map V.i form)],.rows 1 [ovl 4 l2],obl 1 V.i v.2,obl 1 V.i l2],0,none,53⟩) M ?_ rfl) rfl rfl rfl (zG rfl (Am.zY rfl) (ga rfl rfl)) (gb9 rfl rfl rfl (gb9 rfl rfl rfl (Zj rfl rfl (Am.zY rfl) (ZB 9 rfl rfl (fun _=>rfl) (ZB 9 rfl rfl (fun _=>rfl) zb)))))
    rintro ⟨j,l9⟩ b_2 M hc_12 hr_2
    rw [yt] at M
    obtain ⟨x6,h_13,M⟩:=Yw M
    obtain ⟨x7,h_14,M⟩:=Yw M
    obtain ⟨y1,h_15,M⟩:=Yw M
    refine au 1 ?_
    refine GS.seq ?_
    refine X.mid [(34,V.b ((decide (a<j))&&(decide (y1<0)))),(0,ovl 3 l9),(1,V.i a),(2,(V.i (l1.length:Int))),(3,V.fn 72 [V.ptr 1 0 0]),(8,V.i i),(9,V.i j)] ?_ ?_
    ·intro hg
     refine X.split (decide (a<j)) (fun h_16=>?_) (fun h_16=>?_)
     ·refine au 8 ?_
      refine cop (on_t rfl rfl rfl h_16) (JY (h_13 h_16) rfl rfl rfl rfl rfl) rfl rfl ?_
      refine cop (on_t rfl rfl rfl h_16) (zBh (h_13 h_16) rfl rfl rfl rfl) rfl rfl (au 3 ?_)
      refine cop (on_t rfl rfl rfl h_16) (JY (h_14 h_16) rfl rfl rfl rfl rfl) rfl rfl ?_
      refine cop (on_t rfl rfl rfl h_16) (zBh (h_14 h_16) rfl rfl rfl rfl) rfl rfl ?_
      refine zRa (zFF (h_15 h_16)) (on_t rfl rfl rfl h_16) rfl rfl rfl (m:=9) rfl (.cons (.shut (n:=9) rfl) (.cons (.shut (n:=9) rfl) (.cons (FR.arg ⟨30,rfl⟩) .nil))) (au 3 ?_)
      exact ng hg rfl (by simp only [h_16,bb])
     refine au 19 ?_
     exact ng hg rfl (by simp only [h_16,bb])
    refine cm M (fun h_17 M=>?_) (fun h_17 M=>?_)
    ·obtain ⟨x8,h_18,M⟩:=zC M
     obtain ⟨x9,h_19,M⟩:=zC M
     obtain ⟨x10,h_20,M⟩:=zC M
     obtain ⟨x11,h_21,M⟩:=zC M
     refine au 3 ?_
     refine X.draw (by kernel_rfl) (au 8 ?_)
     refine dop rfl (JY h_18 rfl rfl rfl rfl rfl) rfl rfl (by kernel_rfl) rfl rfl ?_
     refine dop rfl (zBh h_18 rfl rfl rfl rfl) rfl rfl (by kernel_rfl) rfl rfl (au 2 ?_)
     refine dop rfl (JY h_19 rfl rfl rfl rfl rfl) rfl rfl (by kernel_rfl) rfl rfl ?_
     refine dop rfl (zBh h_19 rfl rfl rfl rfl) rfl rfl (by kernel_rfl) rfl rfl ?_
     refine dop rfl (JY h_20 rfl rfl rfl rfl rfl) rfl rfl (by kernel_rfl) rfl rfl ?_
     refine dop0 rfl (X.Q9 (b:=x8) h_20 rfl rfl rfl rfl rfl rfl rfl) rfl rfl (by kernel_rfl) rfl ?_
     refine dop rfl (JY h_21 rfl rfl (zJw rfl YS) rfl rfl) rfl rfl (by kernel_rfl) rfl rfl ?_
     refine dop0 rfl (X.Q9 (b:=x9) h_21 rfl rfl rfl rfl rfl rfl rfl) rfl rfl (by kernel_rfl) rfl (au 1 ?_)
     refine X.norm [(0,ovl 3 l9),(1,V.i a),(2,(V.i (l1.length:Int))),(3,V.fn 72 [V.ptr 1 0 0]),(8,V.i i),(9,V.i j)] ?_ rfl (sr rfl)
     refine au 6 ?_
     have hE:=bf M
     exact X.gc [] (hc_12 (w64 (j - 1),put (put l9 j x8) (w64 (j - 1)) x9) hE.symm) rfl rfl rfl (zG rfl (Yi (Eq.trans YS YS) (Am.zY rfl)) (ga rfl rfl)) (gb9 rfl rfl rfl (gb9 rfl rfl rfl (Zj rfl rfl (Am.zY rfl) (ZB 9 rfl rfl (fun _=>rfl) (ZB 9 rfl rfl (fun _=>rfl) zb)))))
    obtain ⟨y_2,M,hy⟩:=zt M
    rw [hr_2 _ hy.symm] at M
    refine au 1 ?_
    exact X.gc [] (hj_11 l9 M) rfl rfl rfl (zG rfl (Am.zY rfl) (ga rfl rfl)) (gb9 rfl rfl rfl (gb9 rfl rfl rfl (Zj rfl rfl (Am.zY rfl) (ZB 9 rfl rfl (fun _=>rfl) (ZB 9 rfl rfl (fun _=>rfl) zb)))))
   obtain ⟨_,h_22,M⟩:=zC M
   refine au 1 ?_
   replace h_22:=zGy h_22
   refine GS.nil ⟨_,rfl,?_⟩
   refine X.norm (H':=[.rows 3 [zO l],.rows 1 [V.sl (map V.i form)],.rows 1 [ovl 4 l2],obl 1 V.i l10,obl 1 V.i l2]) [(0,ovl 3 l10),(1,(V.i (l1.length:Int))),(2,V.fn 72 [V.ptr 1 0 0]),(6,V.i 20)] ?_ rfl (zHn rfl (zC5 h_22) (sr rfl))
   obtain ⟨y_1,M,hy⟩:=zt M
   rw [hr_1 _ hy.symm] at M
   exact X.gc [] (hj_6 l10 M) rfl rfl rfl (zG rfl (Am.zY rfl) (ga rfl rfl)) (gb9 rfl rfl rfl (gb9 rfl rfl rfl (Zj rfl rfl (Am.zY rfl) (ZB 9 rfl rfl (fun _=>rfl) (ZB 9 rfl rfl (fun _=>rfl) zb)))))
  intro hj_5
  refine au 1 ?_
  refine X.gc [] (X.loop (σ:=(Int×Int×(List Int))) (fun v=>⟨[(0,ovl 3 v.2.2),(1,(V.i (l1.length:Int))),(2,V.fn 72 [V.ptr 1 0 0]),(6,V.i 20),(7,V.i v.1),(8,V.i v.2.1)],[.rows 3 [zO l],.rows 1 [V.sl (map V.i form)],.rows 1 [ovl 4 l2],obl 1 V.i v.2.2,obl 1 V.i l2],0,none,63⟩) M ?_ rfl) rfl rfl rfl (zG rfl (Am.zY rfl) (ga rfl rfl)) (gb9 rfl rfl rfl (gb9 rfl rfl rfl (Zj rfl rfl (Am.zY rfl) (ZB 9 rfl rfl (fun _=>rfl) (ZB 9 rfl rfl (fun _=>rfl) zb)))))
  rintro ⟨a1,b,l15⟩ b_1 M hc_13 hr_1
  rw [zDt] at M
  refine au 6 ?_
  refine cm M (fun h_23 M=>?_) (fun h_23 M=>?_)
  ·refine au 7 ?_
   refine X.zPE (τ:=(List Int)) (fun v=>zB7 b v=some b_1) (fun v=>⟨[(0,ovl 3 v),(1,(V.i (l1.length:Int))),(2,V.fn 72 [V.ptr 1 0 0]),(6,V.i 20),(8,V.i b)],[.rows 3 [zO l],.rows 1 [V.sl (map V.i form)],.rows 1 [ovl 4 l2],obl 1 V.i v,obl 1 V.i l2],0,none,63⟩) ?_ ?_
   ·intro l11 M
    replace M:zB7 b l11=some b_1:=M
    unfold zB7 at M
    refine au 12 ?_
    have hE:=bf M
    exact X.gc [] (hc_13 (b,w64 (b+20),l11) hE.symm) rfl rfl rfl (zG rfl (Am.zY rfl) (ga rfl rfl)) (gb9 rfl rfl rfl (gb9 rfl rfl rfl (Zj rfl rfl (Am.zY rfl) (ZB 9 rfl rfl (fun _=>rfl) (ZB 9 rfl rfl (fun _=>rfl) zb)))))
   intro hj_14
   refine inl rfl rfl rfl rfl (au 6 ?_)
   refine X.gc [] (X.loop (σ:=(Int×(List Int))) (fun v=>⟨[(0,ovl 3 v.2),(1,V.i a1),(2,V.i b),(3,V.fn 72 [V.ptr 1 0 0]),(8,V.i v.1)],[.rows 3 [zO l],.rows 1 [V.sl (map V.i form)],.rows 1 [ovl 4 l2],obl 1 V.i v.2,obl 1 V.i l2],0,none,53⟩) M ?_ rfl) rfl rfl rfl (zG rfl (Am.zY rfl) (ga rfl rfl)) (gb9 rfl rfl rfl (gb9 rfl rfl rfl (Zj rfl rfl (Am.zY rfl) (ZB 9 rfl rfl (fun _=>rfl) (ZB 9 rfl rfl (fun _=>rfl) zb)))))
   rintro ⟨i1,l14⟩ b_2 M hc_15 hr_2
   rw [zGE] at M
   refine au 6 ?_
   refine cm M (fun h_24 M=>?_) (fun h_24 M=>?_)
   ·refine au 7 ?_
    refine X.join (τ:=(List Int)) (fun v=>zB6 i1 v=some b_2) (fun v=>⟨[(0,ovl 3 v),(1,V.i a1),(2,V.i b),(3,V.fn 72 [V.ptr 1 0 0]),(8,V.i i1)],[.rows 3 [zO l],.rows 1 [V.sl (map V.i form)],.rows 1 [ovl 4 l2],obl 1 V.i v,obl 1 V.i l2],0,none,53⟩) ?_ ?_
    ·intro l12 M
     replace M:zB6 i1 l12=some b_2:=M
     unfold zB6 at M
     refine au 6 ?_
     have hE:=bf M
     exact X.gc [] (hc_15 (w64 (i1+1),l12) hE.symm) rfl rfl rfl (zG rfl (Am.zY rfl) (ga rfl rfl)) (gb9 rfl rfl rfl (gb9 rfl rfl rfl (Zj rfl rfl (Am.zY rfl) (ZB 9 rfl rfl (fun _=>rfl) (ZB 9 rfl rfl (fun _=>rfl) zb)))))
    intro hj_16
    refine au 1 ?_
    refine X.gc [] (X.loop (σ:=(Int×(List Int))) (fun v=>⟨[(0,ovl 3 v.2),(1,V.i a1),(2,V.i b),(3,V.fn 72 [V.ptr 1 0 0]),(8,V.i i1),(9,V.i v.1)],[.rows 3 [zO l],.rows 1 [V.sl (map V.i form)],.rows 1 [ovl 4 l2],obl 1 V.i v.2,obl 1 V.i l2],0,none,53⟩) M ?_ rfl) rfl rfl rfl (zG rfl (Am.zY rfl) (ga rfl rfl)) (gb9 rfl rfl rfl (gb9 rfl rfl rfl (Zj rfl rfl (Am.zY rfl) (ZB 9 rfl rfl (fun _=>rfl) (ZB 9 rfl rfl (fun _=>rfl) zb)))))
    rintro ⟨j1,l13⟩ b_3 M hc_17 hr_3
    rw [zGD] at M
    obtain ⟨x12,h_25,M⟩:=Yw M
    obtain ⟨x13,h_26,M⟩:=Yw M
    obtain ⟨y2,h_27,M⟩:=Yw M
    refine au 1 ?_
    refine GS.seq ?_
    refine X.mid [(34,V.b ((decide (a1<j1))&&(decide (y2<0)))),(0,ovl 3 l13),(1,V.i a1),(2,V.i b),(3,V.fn 72 [V.ptr 1 0 0]),(8,V.i i1),(9,V.i j1)] ?_ ?_
    ·intro hg
     refine X.split (decide (a1<j1)) (fun h_28=>?_) (fun h_28=>?_)
     ·refine au 8 ?_
      refine cop (on_t rfl rfl rfl h_28) (JY (h_25 h_28) rfl rfl rfl rfl rfl) rfl rfl ?_
      refine cop (on_t rfl rfl rfl h_28) (zBh (h_25 h_28) rfl rfl rfl rfl) rfl rfl (au 3 ?_)
      refine cop (on_t rfl rfl rfl h_28) (JY (h_26 h_28) rfl rfl rfl rfl rfl) rfl rfl ?_
      refine cop (on_t rfl rfl rfl h_28) (zBh (h_26 h_28) rfl rfl rfl rfl) rfl rfl ?_
      refine zRa (zFF (h_27 h_28)) (on_t rfl rfl rfl h_28) rfl rfl rfl (m:=9) rfl (.cons (.shut (n:=9) rfl) (.cons (.shut (n:=9) rfl) (.cons (FR.arg ⟨30,rfl⟩) .nil))) (au 3 ?_)
      exact ng hg rfl (by simp only [h_28,bb])
     refine au 19 ?_
     exact ng hg rfl (by simp only [h_28,bb])
    refine cm M (fun h_29 M=>?_) (fun h_29 M=>?_)
    ·obtain ⟨x14,h_30,M⟩:=zC M
     obtain ⟨x15,h_31,M⟩:=zC M
     obtain ⟨x16,h_32,M⟩:=zC M
     obtain ⟨x17,h_33,M⟩:=zC M
     refine au 3 ?_
     refine X.draw (by kernel_rfl) (au 8 ?_)
     refine dop rfl (JY h_30 rfl rfl rfl rfl rfl) rfl rfl (by kernel_rfl) rfl rfl ?_
     refine dop rfl (zBh h_30 rfl rfl rfl rfl) rfl rfl (by kernel_rfl) rfl rfl (au 2 ?_)
     refine dop rfl (JY h_31 rfl rfl rfl rfl rfl) rfl rfl (by kernel_rfl) rfl rfl ?_
     refine dop rfl (zBh h_31 rfl rfl rfl rfl) rfl rfl (by kernel_rfl) rfl rfl ?_
     refine dop rfl (JY h_32 rfl rfl rfl rfl rfl) rfl rfl (by kernel_rfl) rfl rfl ?_
     refine dop0 rfl (X.Q9 (b:=x14) h_32 rfl rfl rfl rfl rfl rfl rfl) rfl rfl (by kernel_rfl) rfl ?_
     refine dop rfl (JY h_33 rfl rfl (zJw rfl YS) rfl rfl) rfl rfl (by kernel_rfl) rfl rfl ?_
     refine dop0 rfl (X.Q9 (b:=x15) h_33 rfl rfl rfl rfl rfl rfl rfl) rfl rfl (by kernel_rfl) rfl (au 1 ?_)
     refine X.norm [(0,ovl 3 l13),(1,V.i a1),(2,V.i b),(3,V.fn 72 [V.ptr 1 0 0]),(8,V.i i1),(9,V.i j1)] ?_ rfl (sr rfl)
     refine au 6 ?_
     have hE:=bf M
     exact X.gc [] (hc_17 (w64 (j1 - 1),put (put l13 j1 x14) (w64 (j1 - 1)) x15) hE.symm) rfl rfl rfl (zG rfl (Yi (Eq.trans YS YS) (Am.zY rfl)) (ga rfl rfl)) (gb9 rfl rfl rfl (gb9 rfl rfl rfl (Zj rfl rfl (Am.zY rfl) (ZB 9 rfl rfl (fun _=>rfl) (ZB 9 rfl rfl (fun _=>rfl) zb)))))
    obtain ⟨y_3,M,hy⟩:=zt M
    rw [hr_3 _ hy.symm] at M
    refine au 1 ?_
    exact X.gc [] (hj_16 l13 M) rfl rfl rfl (zG rfl (Am.zY rfl) (ga rfl rfl)) (gb9 rfl rfl rfl (gb9 rfl rfl rfl (Zj rfl rfl (Am.zY rfl) (ZB 9 rfl rfl (fun _=>rfl) (ZB 9 rfl rfl (fun _=>rfl) zb)))))
   obtain ⟨_,h_34,M⟩:=zC M
   refine au 1 ?_
   replace h_34:=zGy h_34
   refine GS.nil ⟨_,rfl,?_⟩
   refine X.norm (H':=[.rows 3 [zO l],.rows 1 [V.sl (map V.i form)],.rows 1 [ovl 4 l2],obl 1 V.i l14,obl 1 V.i l2]) [(0,ovl 3 l14),(1,(V.i (l1.length:Int))),(2,V.fn 72 [V.ptr 1 0 0]),(6,V.i 20),(8,V.i b)] ?_ rfl (zHn rfl (zC5 h_34) (sr rfl))
   obtain ⟨y_2,M,hy⟩:=zt M
   rw [hr_2 _ hy.symm] at M
   exact X.gc [] (hj_14 l14 M) rfl rfl rfl (zG rfl (Am.zY rfl) (ga rfl rfl)) (gb9 rfl rfl rfl (gb9 rfl rfl rfl (Zj rfl rfl (Am.zY rfl) (ZB 9 rfl rfl (fun _=>rfl) (ZB 9 rfl rfl (fun _=>rfl) zb)))))
  obtain ⟨y_1,M,hy⟩:=zt M
  rw [hr_1 _ hy.symm] at M
  refine au 1 ?_
  exact X.gc [] (hj_5 (a1,l15) M) rfl rfl rfl (zG rfl (Am.zY rfl) (ga rfl rfl)) (gb9 rfl rfl rfl (gb9 rfl rfl rfl (Zj rfl rfl (Am.zY rfl) (ZB 9 rfl rfl (fun _=>rfl) (ZB 9 rfl rfl (fun _=>rfl) zb)))))
 intro hj_1
 refine au 1 ?_
 refine gx [some 0,some 1,some 2,none,none] (X.loop (σ:=(Int×(List Int)×(List Int))) (fun v=>⟨[(2,V.i total),(3,V.ptr 0 0 0),(4,V.ptr 1 0 0),(7,V.ptr 2 0 0),(8,ovl 3 v.2.1),(16,V.sl (map zD l.Holds)),(17,(V.i (l.Holds.length:Int))),(18,V.i v.1)],[.rows 3 [zO l],.rows 1 [V.sl (map V.i form)],.rows 1 [ovl 4 v.2.2],obl 1 V.i v.2.1,obl 1 V.i v.2.2],0,none,52⟩) M ?_ rfl)
 rintro ⟨x19,l18,l19⟩ b_1 M hc_18 hr_1
 rw [zAU] at M
 refine au 3 ?_
 refine GS.seq ?_
 refine cm M (fun h_35 M=>?_) (fun h_35 M=>?_)
 ·obtain ⟨x18,h_36,M⟩:=zC M
  refine au 5 ?_
  refine X.opR rfl (YH (f:=zD) h_36 (fun _=>rfl) rfl rfl rfl rfl) rfl ?_
  refine X.opR rfl (zDC h_36 rfl rfl rfl) rfl ?_
  refine X.opW (H':=[.rows 3 [zO l],.rows 1 [V.sl (map V.i form)],.rows 1 [ovl 4 l19],obl 1 V.i l18,obl 1 V.i l19,.rows 2 [V.agg [V.i 0,V.i 0]]]) rfl rfl rfl rfl (X.q rfl ?_)
  refine X.op0W (H':=[.rows 3 [zO l],.rows 1 [V.sl (map V.i form)],.rows 1 [ovl 4 l19],obl 1 V.i l18,obl 1 V.i l19,.rows 2 [zD x18]]) rfl rfl rfl ?_
  obtain ⟨l16,h_37,M⟩:=zC M
  obtain ⟨l17,h_38,M⟩:=zC M
  refine au 2 ?_
  refine X.opR rfl (v:=(ovl 4 l19)) (by rcases yM (z:=true) 4 l19 with h0 | ⟨n0,h0⟩ <;> simp only [h0] <;> rfl) rfl (au 2 ?_)
  refine X.opW (H':=[.rows 3 [zO l],.rows 1 [V.sl (map V.i form)],.rows 1 [ovl 4 l19],obl 1 V.i l18,obl 1 V.i l19,.rows 2 [zD x18],.rows 1 (map V.i ([x18.Lo]))]) rfl rfl rfl rfl ?_
  refine appN (f:=V.i) h_37 (fun _=>rfl) (by rfl) (by rfl) (by rfl) (by rfl) (by rfl) (by rfl) (by rfl) (by rfl) (by rfl) (by rfl) (by rfl) (by exact rfl) (by rfl) (by rfl) (au 2 ?_)
  refine X.opW (H':=[.rows 3 [zO l],.rows 1 [V.sl (map V.i form)],.rows 1 [ovl 4 l19],obl 1 V.i l18,.dead,.rows 2 [zD x18],.rows 1 (map V.i ([x18.Lo])),.rows 1 (map V.i l16),.rows 1 (map V.i ([x19]))]) rfl rfl rfl rfl ?_
  refine appN (f:=V.i) h_38 (fun _=>rfl) (by rfl) (by rfl) (by rfl) (by rfl) (by rfl) (by rfl) (by rfl) (by rfl) (by rfl) (by rfl) (by rfl) (by exact rfl) (by rfl) (by rfl) ?_
  refine X.op0W (H':=[.rows 3 [zO l],.rows 1 [V.sl (map V.i form)],.rows 1 [V.osl 7 0 (List.length l16)],.dead,.dead,.rows 2 [zD x18],.rows 1 (map V.i ([x18.Lo])),.rows 1 (map V.i l16),.rows 1 (map V.i ([x19])),.rows 1 (map V.i l17)]) rfl (v:=jT) (wr:=[(2,.rows 1 [V.osl 7 0 (List.length l16)])]) (by rcases yM (z:=true) 4 l19 with h0 | ⟨n0,h0⟩ <;> simp only [h0] <;> rfl) rfl (au 7 ?_)
  have hE:=bf M
  exact X.gc [some 0,some 1,some 2,some 9,some 7] (hc_18 (w64 (x19+1),l17,l16) hE.symm) rfl rfl rfl (zG rfl ⟨9,rfl⟩ (zG rfl ⟨9,rfl⟩ (zG rfl ⟨9,rfl⟩ (zG rfl ⟨9,rfl⟩ (zG rfl (qz (jH h_38) rfl) (ga rfl rfl)))))) (gb9 rfl rfl rfl (gb9 rfl rfl rfl (Zj rfl rfl (qz (jH h_37) rfl) (gb_obl' 9 (jH h_38) rfl rfl (fun _=>rfl) (gb_obl' 9 (jH h_37) rfl rfl (fun _=>rfl) zb)))))
 obtain ⟨y_1,M,hy⟩:=zt M
 rw [hr_1 _ hy.symm] at M
 refine au 1 ?_
 exact X.gc [some 0,some 1,some 2,some 3,some 4] (hj_1 (l18,l19) M) rfl rfl rfl (zG rfl ⟨9,rfl⟩ (zG rfl ⟨9,rfl⟩ (zG rfl ⟨9,rfl⟩ (zG rfl ⟨9,rfl⟩ (zG rfl (Am.zY rfl) QO))))) (gb9 rfl rfl rfl (gb9 rfl rfl rfl (Zj rfl rfl (Am.zY rfl) (ZB 9 rfl rfl (fun _=>rfl) (ZB 9 rfl rfl (fun _=>rfl) zb)))))
theorem zGW (k:zf) (c:Int):Ct Tryz.prog 108 [zx k,V.fptr [V.i c] 0 0] (V.b (YJ k c)):=by
 refine zP zn rfl ?_
 generalize M:YJ k c=r
 unfold YJ at M
 refine au 12 ?_
 subst M
 exact X.rt
theorem Yj {s:(List zf)} {c:Int} {r:Int} (M:Zf s c=some r):Ct Tryz.prog 107 [V.sl (map zx s),V.fn 108 [V.fptr [V.i c] 0 0]] (V.i r):=by
 refine zP zn rfl ?_
 unfold Zf at M
 refine au 9 ?_
 refine X.join (τ:=Unit) (fun v=>Zx=some r) (fun v=>⟨[],[],0,none,19⟩) ?_ ?_
 ·intro _ M
  replace M:Zx=some r:=M
  unfold Zx at M
  refine au 3 ?_
  cases M
  exact X.rt
 intro hj_1
 refine au 1 ?_
 refine gx [] (X.loop (σ:=Int) (fun v=>⟨[(0,V.sl (map zx s)),(1,V.fn 108 [V.fptr [V.i c] 0 0]),(7,(V.i (s.length:Int))),(8,V.i v)],[],0,none,19⟩) M ?_ rfl)
 intro x1 b_1 M hc_2 hr_1
 rw [jL] at M
 refine au 3 ?_
 refine GS.seq ?_
 refine cm M (fun h_1 M=>?_) (fun h_1 M=>?_)
 ·obtain ⟨x,h_2,M⟩:=zC M
  refine au 13 ?_
  refine ca (zGW x c) ?_
  refine GS.ZT ?_
  refine cm M (fun h_3 M=>?_) (fun h_3 M=>?_)
  ·refine au 4 ?_
   have hE:=bf M
   replace hE:=hr_1 _ hE.symm
   subst hE
   exact X.rt
  refine au 6 ?_
  have hE:=bf M
  exact gx [] (hc_2 (w64 (x1+1)) hE.symm)
 obtain ⟨y_1,M,hy⟩:=zt M
 rw [hr_1 _ hy.symm] at M
 refine au 1 ?_
 exact gx [] (hj_1 () M)
theorem zD5 {t:qF} {mass:Int} {r:Int×Int} (M:yn t mass=some r):Ct Tryz.prog 76 [zCo t,V.i mass] (V.tup [V.i r.1,V.i r.2]):=by
 refine zP zn rfl ?_
 unfold yn at M
 obtain ⟨y,h_1,M⟩:=zC M
 refine au 11 ?_
 refine X.zBk (Yj h_1) rfl rfl rfl (m:=9) rfl (.cons (.shut (n:=9) rfl) (.cons (FR.arg ⟨30,rfl⟩) .nil)) ?_
 obtain ⟨x,h_2,M⟩:=zC M
 refine au 10 ?_
 refine X.op0W rfl rfl rfl (au 9 ?_)
 refine cm M (fun h_3 M=>?_) (fun h_3 M=>?_)
 ·refine au 6 ?_
  cases M
  exact X.rt
 obtain ⟨x1,h_4,M⟩:=zC M
 refine au 9 ?_
 refine X.opW (H':=[.rows 2 [zCo t],.rows 1 [V.i mass],.rows 2 [zx x],.rows 2 [V.agg [V.i 0,V.i 0]]]) rfl rfl rfl rfl ?_
 refine X.op0W (H':=[.rows 2 [zCo t],.rows 1 [V.i mass],.rows 2 [zx x],.rows 2 [zx x1]]) rfl rfl rfl (au 31 ?_)
 cases M
 exact X.rt
theorem zF5 {form:(List Int)} {x:(List Int)} {r:Int} (M:zBp form x=some r):Ct Tryz.prog 109 [V.sl (map V.i form),V.sl (map V.i x)] (V.i r):=by
 refine zP zn rfl ?_
 unfold zBp at M
 refine au 12 ?_
 refine X.join (τ:=Int) (fun v=>zAQ v=some r) (fun v=>⟨[(5,V.i v)],[],0,none,25⟩) ?_ ?_
 ·intro n M
  replace M:zAQ n=some r:=M
  unfold zAQ at M
  refine au 4 ?_
  cases M
  exact X.rt
 intro hj_1
 refine au 1 ?_
 refine gx [] (X.loop (σ:=(Int×Int)) (fun v=>⟨[(1,V.sl (map V.i x)),(5,V.i v.1),(8,V.sl (map V.i form)),(9,(V.i (form.length:Int))),(10,V.i v.2)],[],0,none,25⟩) M ?_ rfl)
 rintro ⟨n1,x3⟩ b_1 M hc_2 hr_1
 rw [zAR] at M
 refine au 3 ?_
 refine GS.seq ?_
 refine cm M (fun h_1 M=>?_) (fun h_1 M=>?_)
 ·obtain ⟨x1,h_2,M⟩:=zC M
  refine au 10 ?_
  obtain ⟨x2,h_3,M⟩:=zC M
  refine au 16 ?_
  have hE:=bf M
  exact gx [] (hc_2 (w64 (n1+(w64 (x1*x2))),w64 (x3+1)) hE.symm)
 obtain ⟨y_1,M,hy⟩:=zt M
 rw [hr_1 _ hy.symm] at M
 refine au 1 ?_
 exact gx [] (hj_1 n1 M)
theorem zJY {s:zH} {x:(List Int)} {r:Int} (M:zCM s x=some r):Ct Tryz.prog 78 [zU s,V.sl (map V.i x)] (V.i r):=by
 refine zP zn rfl ?_
 unfold zCM at M
 obtain ⟨y,h_1,M⟩:=zC M
 obtain ⟨y1,h_2,M⟩:=zC M
 refine au 12 ?_
 refine cca (zFE h_1) (au 1 ?_)
 refine cca (zF5 h_2) (au 3 ?_)
 refine X.norm [(4,V.i (w64 ((w64 (s.Light*s.Lever))+y1)))] ?_ rfl (sr rfl)
 cases M
 exact X.rt
theorem zF6 {a:Int} {b:Int} {r:Int} (M:zBs a b=some r):Ct Tryz.prog 79 [V.i a,V.i b] (V.i r):=by
 refine zP zn rfl ?_
 unfold zBs at M
 obtain ⟨q,h_1,M⟩:=zC M
 obtain ⟨q1,h_2,M⟩:=zC M
 obtain ⟨q2,h_3,M⟩:=zC M
 refine au 7 ?_
 refine X.opR rfl (remE h_1 rfl rfl) rfl (au 3 ?_)
 refine X.opR rfl (remE h_2 rfl rfl) rfl (au 2 ?_)
 refine X.opR rfl (quoE h_3 rfl rfl) rfl (au 2 ?_)
 cases M
 exact X.rt
theorem zD6 {sign:Int} {c:Int} {c1:zH} {c2:(List Int)} {c3:Int} {r:zB} (M:Qo sign c c1 c2 c3=some r):Ct Tryz.prog 77 [V.i sign,V.fptr [V.i c] 0 0,V.fptr [zU c1] 0 0,V.fptr [V.sl (map V.i c2)] 0 0,V.fptr [V.i c3] 0 0] (zD r):=by
 refine zP zn rfl ?_
 unfold Qo at M
 obtain ⟨y,h_1,M⟩:=zC M
 refine au 13 ?_
 refine cca (zJY h_1) (au 12 ?_)
 refine X.norm [(2,V.fptr [zU c1] 0 0),(6,V.ptr 0 0 0),(7,V.i (w64 ((w64 ((w64 (c*2))*c1.Turn))+(w64 ((w64 (sign*y))*c3))))),(8,V.i (w64 ((w64 (c3*2))*c1.Turn)))] ?_ rfl (sr rfl)
 obtain ⟨y1,h_2,M⟩:=zC M
 obtain ⟨y2,h_3,M⟩:=zC M
 refine GS.seq ?_
 refine X.draw (by kernel_rfl) (au 2 ?_)
 refine dca (zF6 h_2) (au 7 ?_)
 refine dca (zF6 h_3) (au 6 ?_)
 refine dop0 rfl rfl rfl rfl (by kernel_rfl) rfl (au 1 ?_)
 refine X.norm [(6,V.ptr 0 0 0)] ?_ rfl (sr rfl)
 cases M
 exact X.rt
abbrev jE (x:Jf):V:=.agg [V.i x.Fore.Lo,V.i x.Fore.Hi,V.i x.Aft.Lo,V.i x.Aft.Hi]
theorem zFG {s:zH} {x:(List Int)} {r:Jf} (M:zA1 s x=some r):Ct Tryz.prog 38 [zU s,V.sl (map V.i x)] (jE r):=by
 refine zP zn rfl ?_
 unfold zA1 at M
 obtain ⟨y,h_1,M⟩:=zC M
 obtain ⟨y1,h_2,M⟩:=zC M
 refine au 5 ?_
 refine GS.seq ?_
 refine X.draw (by kernel_rfl) (au 6 ?_)
 refine dca (zDb h_1) (au 1 ?_)
 refine dca (zD5 h_2) (au 5 ?_)
 iterate 2 refine dop0 rfl rfl rfl rfl (by kernel_rfl) rfl ?_
 refine au 1 ?_
 refine X.norm [(2,V.ptr 0 0 0),(3,V.ptr 1 0 0),(4,V.ptr 2 0 0),(5,V.ptr 3 0 0),(6,V.ptr 4 0 0)] ?_ rfl (sr rfl)
 obtain ⟨y2,h_3,M⟩:=zC M
 obtain ⟨y3,h_4,M⟩:=zC M
 refine au 6 ?_
 refine X.zBk (zD6 h_3) rfl rfl rfl (m:=9) rfl (.cons (.shut (n:=9) rfl) (.cons (FR.arg ⟨30,rfl⟩) (.cons (FR.arg ⟨30,rfl⟩) (.cons (FR.arg ⟨30,rfl⟩) (.cons (FR.arg ⟨30,rfl⟩) .nil))))) (X.q rfl ?_)
 refine X.zBk (zD6 h_4) rfl rfl rfl (m:=9) rfl (.cons (.shut (n:=9) rfl) (.cons (FR.arg ⟨30,rfl⟩) (.cons (FR.arg ⟨30,rfl⟩) (.cons (FR.arg ⟨30,rfl⟩) (.cons (FR.arg ⟨30,rfl⟩) .nil))))) (X.q rfl ?_)
 refine X.op0W (H':=[.rows 11 [zU s],.rows 1 [V.sl (map V.i x)],.rows 4 [V.agg [V.i y2.Lo,V.i y2.Hi,V.i y3.Lo,V.i y3.Hi]],.rows 1 [V.i y1.1],.rows 1 [V.i y1.2]]) rfl rfl rfl ?_
 refine GS.ZT ?_
 cases M
 exact X.rt
set_option maxHeartbeats 4000000 in
theorem zCX {s:zH} {l:zQ} {r:Int×(List Int)×Int} (M:yh s l=some r):Ct Tryz.prog 15 [zU s,zO l] (V.tup [V.i r.1,V.sl (map V.i r.2.1),V.i r.2.2]):=by
 refine zP zn rfl ?_
 unfold yh at M
 obtain ⟨y,h_1,M⟩:=zC M
 refine au 11 ?_
 refine ca (yH h_1) (au 6 ?_)
 refine cm M (fun h_2 M=>?_) (fun h_2 M=>?_)
 ·refine au 6 ?_
  cases M
  exact X.rt
 obtain ⟨y1,h_3,M⟩:=zC M
 refine au 3 ?_
 refine ca (zFE h_3) (au 1 ?_)
 refine X.op0W rfl rfl rfl (au 2 ?_)
 refine X.opW (H':=[.rows 11 [zU s],.rows 3 [zO l],.rows 1 [V.sl (map V.i y1)],.rows 1 [V.nil]]) rfl rfl rfl rfl (au 7 ?_)
 refine X.join (τ:=(List Int)) (fun v=>YL s l y1 v=some r) (fun v=>⟨[(2,V.ptr 0 0 0),(3,V.ptr 1 0 0),(8,V.ptr 2 0 0),(9,V.ptr 3 0 0)],[.rows 11 [zU s],.rows 3 [zO l],.rows 1 [V.sl (map V.i y1)],.rows 1 [ovl 4 v],obl 1 V.i v],0,none,78⟩) ?_ ?_
 ·intro l1 M
  replace M:YL s l y1 l1=some r:=M
  unfold YL at M
  refine sq ?_
  refine X.opW (H':=[.rows 11 [zU s],.rows 3 [zO l],.rows 1 [V.sl (map V.i y1)],.rows 1 [ovl 4 l1],obl 1 V.i l1,.rows 1 [V.i 0]]) rfl rfl rfl rfl ?_
  refine X.opW (H':=[.rows 11 [zU s],.rows 3 [zO l],.rows 1 [V.sl (map V.i y1)],.rows 1 [ovl 4 l1],obl 1 V.i l1,.rows 1 [V.i 0],.rows 1 [V.nil]]) rfl rfl rfl rfl ?_
  iterate 2 refine X.op0W (H':=[.rows 11 [zU s],.rows 3 [zO l],.rows 1 [V.sl (map V.i y1)],.rows 1 [ovl 4 l1],obl 1 V.i l1,.rows 1 [V.i 0],.rows 1 [V.nil]]) rfl rfl rfl ?_
  refine nilBox (H':=[.rows 11 [zU s],.rows 3 [zO l],.rows 1 [V.sl (map V.i y1)],.rows 1 [ovl 4 l1],obl 1 V.i l1,.rows 1 [V.i 0],.rows 1 [V.sl (map V.i [])]]) 6 rfl rfl rfl (au 2 ?_)
  refine X.opW (H':=[.rows 11 [zU s],.rows 3 [zO l],.rows 1 [V.sl (map V.i y1)],.rows 1 [ovl 4 l1],obl 1 V.i l1,.rows 1 [V.i 0],.rows 1 [V.sl (map V.i [])],.rows 1 [V.b false]]) rfl rfl rfl rfl ?_
  refine X.op0W (H':=[.rows 11 [zU s],.rows 3 [zO l],.rows 1 [V.sl (map V.i y1)],.rows 1 [ovl 4 l1],obl 1 V.i l1,.rows 1 [V.i 0],.rows 1 [V.sl (map V.i [])],.rows 1 [V.b false]]) rfl rfl rfl (au 4 ?_)
  refine ca (zL7 l) (au 2 ?_)
  refine zP9 (z:=true) (f:=V.i) (l:=l1) (es:=1) (H':=[.rows 11 [zU s],.rows 3 [zO l],.rows 1 [V.sl (map V.i y1)],.rows 1 [V.sl (map V.i l1)],.dead,.rows 1 [V.i 0],.rows 1 [V.sl (map V.i [])],.rows 1 [V.b false]]) 3 ctx_id rfl rfl rfl rfl rfl rfl (fun _=>rfl) rfl ?_
  refine X.gc [some 0,some 1,some 2,some 3,some 5,some 6,some 7] (H':=[.rows 11 [zU s],.rows 3 [zO l],.rows 1 [V.sl (map V.i y1)],.rows 1 [V.sl (map V.i l1)],.rows 1 [V.i 0],.rows 1 [V.sl (map V.i [])],.rows 1 [V.b false]]) (K':=[(2,V.ptr 0 0 0),(3,V.ptr 1 0 0),(8,V.ptr 2 0 0),(9,V.ptr 3 0 0),(12,V.ptr 4 0 0),(13,V.ptr 5 0 0),(14,V.ptr 6 0 0),(42,V.fn 70 [V.fptr [zO (zBr l)] 0 0])]) ?_ rfl rfl rfl (ga rfl rfl) (gb9 rfl rfl rfl (gb9 rfl rfl rfl (gb9 rfl rfl rfl (gb9 rfl rfl rfl (gb9 rfl rfl rfl (gb9 rfl rfl rfl (gb9 rfl rfl rfl zb)))))))
  refine X.range rfl rfl (jO ⟨9,rfl⟩ (jO ⟨9,rfl⟩ (jO ⟨9,rfl⟩ (jO ⟨9,rfl⟩ (jO ⟨9,rfl⟩ (jO ⟨9,rfl⟩ (jO ⟨9,rfl⟩ (jO ⟨9,rfl⟩ zFP)))))))) rfl ?_
  intro R_4 hrn_4 hrK_4 hrp_4 hra_4 hrb_4 hlow_4
  obtain ⟨y2,h_5,M⟩:=zC M
  refine au 2 ?_
  refine ca (zFB h_5) ?_
  refine X.opW (H':=[.rows 11 [zU s],.rows 3 [zO l],.rows 1 [V.sl (map V.i y1)],.rows 1 [V.sl (map V.i l1)],.rows 1 [V.i 0],.rows 1 [V.sl (map V.i [])],.rows 1 [V.b false],lr R_4 .ready none,.rows 2 [V.agg [V.i 0,V.i 0]]]) rfl rfl rfl rfl ?_
  refine X.op0W (H':=[.rows 11 [zU s],.rows 3 [zO l],.rows 1 [V.sl (map V.i y1)],.rows 1 [V.sl (map V.i l1)],.rows 1 [V.i 0],.rows 1 [V.sl (map V.i [])],.rows 1 [V.b false],lr R_4 .ready none,.rows 2 [zD y2]]) rfl rfl rfl (au 7 ?_)
  refine X.gc [some 8] (X.loop (σ:=(Int×Int×(List Int)×Bool)) (fun v=>⟨[(0,V.yld 7),(3,V.ptr 8 0 0),(4,V.i v.1)],[.rows 11 [zU s],.rows 3 [zO l],.rows 1 [V.sl (map V.i y1)],.rows 1 [V.sl (map V.i l1)],.rows 1 [V.i v.2.1],.rows 1 [V.sl (map V.i v.2.2.1)],.rows 1 [V.b v.2.2.2],lr R_4 .ready none,.rows 2 [zD y2]],0,none,19⟩) M ?_ rfl) rfl rfl rfl (ga rfl rfl) (gb9 rfl rfl rfl (gb9 rfl rfl rfl (gb9 rfl rfl rfl (gb9 rfl rfl rfl (gb9 rfl rfl rfl (gb9 rfl rfl rfl (gb9 rfl rfl rfl (jR hlow_4 rfl rfl rfl (gb9 rfl rfl rfl zb)))))))))
  rintro ⟨t,deep3,at_3,some_3⟩ b_1 M hc_2 hr_1
  rw [zCa] at M
  refine au 7 ?_
  refine cm M (fun h_6 M=>?_) (fun h_6 M=>?_)
  ·refine au 6 ?_
   refine X.yld hrn_4 hrK_4 hrp_4 hra_4 hrb_4 rfl rfl rfl rfl rfl rfl (au 3 ?_)
   refine GS.nil (begin' rfl rfl ?_ rfl)
   refine au 4 ?_
   refine X.opW (H':=[.rows 11 [zU s],.rows 3 [zO l],.rows 1 [V.sl (map V.i y1)],.rows 1 [V.sl (map V.i l1)],.rows 1 [V.i deep3],.rows 1 [V.sl (map V.i at_3)],.rows 1 [V.b some_3],lr R_4 .busy none,.rows 2 [zD y2],.rows 1 (map (fun l=>V.sl (map V.i l)) ([y1,l1]))]) rfl rfl rfl rfl ?_
   refine X.opR rfl (lenO (l:=[y1,l1]) rfl rfl rfl) rfl (au 2 ?_)
   refine X.join (τ:=Int×(List Int)×Bool) (fun v=>QX t v.1 v.2.1 v.2.2=some b_1) (fun v=>⟨[],[.rows 11 [zU s],.rows 3 [zO l],.rows 1 [V.sl (map V.i y1)],.rows 1 [V.sl (map V.i l1)],.rows 1 [V.i v.1],.rows 1 [V.sl (map V.i v.2.1)],.rows 1 [V.b v.2.2],lr R_4 .busy none,.rows 2 [zD y2]],0,some 7,78⟩) ?_ ?_
   ·rintro ⟨deep,at_,some_⟩ M
    replace M:QX t deep at_ some_=some b_1:=M
    unfold QX at M
    refine au 1 ?_
    refine GS.nil ⟨_,rfl,?_⟩
    refine X.norm (H':=[.rows 11 [zU s],.rows 3 [zO l],.rows 1 [V.sl (map V.i y1)],.rows 1 [V.sl (map V.i l1)],.rows 1 [V.i deep],.rows 1 [V.sl (map V.i at_)],.rows 1 [V.b some_],lr R_4 .ready none,.rows 2 [zD y2]]) [(0,V.yld 7),(3,V.ptr 8 0 0),(4,V.i t),(17,V.b true)] ?_ rfl (sr rfl)
    refine au 2 ?_
    refine GS.zCR rfl (au 7 ?_)
    have hE:=bf M
    exact X.gc [some 8] (hc_2 (w64 (t+1),deep,at_,some_) hE.symm) rfl rfl rfl (ga rfl rfl) (gb9 rfl rfl rfl (gb9 rfl rfl rfl (gb9 rfl rfl rfl (gb9 rfl rfl rfl (gb9 rfl rfl rfl (gb9 rfl rfl rfl (gb9 rfl rfl rfl (jR hlow_4 rfl rfl rfl (gb9 rfl rfl rfl zb)))))))))
   intro hj_3
   refine au 1 ?_
   refine X.gc [some 9] (X.loop (σ:=(Int×Int×(List Int)×Bool)) (fun v=>⟨[(2,V.ptr 0 0 0),(3,V.ptr 1 0 0),(12,V.ptr 4 0 0),(13,V.ptr 5 0 0),(14,V.ptr 6 0 0),(15,V.i t),(46,V.osl 9 0 (List.length ([y1,l1]))),(47,(V.i (([y1,l1]).length:Int))),(48,V.i v.1)],[.rows 11 [zU s],.rows 3 [zO l],.rows 1 [V.sl (map V.i y1)],.rows 1 [V.sl (map V.i l1)],.rows 1 [V.i v.2.1],.rows 1 [V.sl (map V.i v.2.2.1)],.rows 1 [V.b v.2.2.2],lr R_4 .busy none,.rows 2 [zD y2],.rows 1 (map (fun l=>V.sl (map V.i l)) ([y1,l1]))],0,some 7,78⟩) M ?_ rfl) rfl rfl rfl (ga rfl rfl) (gb9 rfl rfl rfl (gb9 rfl rfl rfl (gb9 rfl rfl rfl (gb9 rfl rfl rfl (gb9 rfl rfl rfl (gb9 rfl rfl rfl (gb9 rfl rfl rfl (jR hlow_4 rfl rfl rfl (gb9 rfl rfl rfl (Q0 9 rfl rfl (fun _=>rfl) zb))))))))))
   rintro ⟨x1,deep2,at_2,some_2⟩ b_2 M hc_4 hr_2
   rw [QZ] at M
   refine au 3 ?_
   refine GS.seq ?_
   refine cm M (fun h_7 M=>?_) (fun h_7 M=>?_)
   ·refine GS.skip (GS.seq ?_)
    refine X.join (τ:=Int×(List Int)×Bool) (fun v=>YK x1 v.1 v.2.1 v.2.2=some b_2) (fun v=>⟨[(2,V.ptr 0 0 0),(3,V.ptr 1 0 0),(12,V.ptr 4 0 0),(13,V.ptr 5 0 0),(14,V.ptr 6 0 0),(15,V.i t),(46,V.osl 9 0 (List.length ([y1,l1]))),(47,(V.i (([y1,l1]).length:Int))),(48,V.i x1)],[.rows 11 [zU s],.rows 3 [zO l],.rows 1 [V.sl (map V.i y1)],.rows 1 [V.sl (map V.i l1)],.rows 1 [V.i v.1],.rows 1 [V.sl (map V.i v.2.1)],.rows 1 [V.b v.2.2],lr R_4 .busy none,.rows 2 [zD y2],.rows 1 (map (fun l=>V.sl (map V.i l)) ([y1,l1]))],0,some 7,78⟩) ?_ ?_
    ·rintro ⟨deep1,at_1,some_1⟩ M
     replace M:YK x1 deep1 at_1 some_1=some b_2:=M
     unfold YK at M
     refine au 4 ?_
     have hE:=bf M
     exact X.gc [some 9] (hc_4 (w64 (x1+1),deep1,at_1,some_1) hE.symm) rfl rfl rfl (ga rfl rfl) (gb9 rfl rfl rfl (gb9 rfl rfl rfl (gb9 rfl rfl rfl (gb9 rfl rfl rfl (gb9 rfl rfl rfl (gb9 rfl rfl rfl (gb9 rfl rfl rfl (jR hlow_4 rfl rfl rfl (gb9 rfl rfl rfl (Q0 9 rfl rfl (fun _=>rfl) zb))))))))))
    intro hj_5
    obtain ⟨x,h_8,M⟩:=zC M
    refine au 2 ?_
    refine X.opR rfl (jB h_8 rfl rfl rfl rfl rfl) rfl ?_
    refine X.opR rfl (Y9 h_8 rfl rfl rfl rfl) rfl ?_
    obtain ⟨y3,h_9,M⟩:=zC M
    refine au 6 ?_
    refine ca (zL8 h_9) ?_
    obtain ⟨y4,h_10,M⟩:=zC M
    refine au 5 ?_
    refine ca (zFG h_10) ?_
    refine X.opW (H':=[.rows 11 [zU s],.rows 3 [zO l],.rows 1 [V.sl (map V.i y1)],.rows 1 [V.sl (map V.i l1)],.rows 1 [V.i deep2],.rows 1 [V.sl (map V.i at_2)],.rows 1 [V.b some_2],lr R_4 .busy none,.rows 2 [zD y2],.rows 1 (map (fun l=>V.sl (map V.i l)) ([y1,l1])),.rows 4 [V.agg [V.i 0,V.i 0,V.i 0,V.i 0]]]) rfl rfl rfl rfl ?_
    refine X.op0W (H':=[.rows 11 [zU s],.rows 3 [zO l],.rows 1 [V.sl (map V.i y1)],.rows 1 [V.sl (map V.i l1)],.rows 1 [V.i deep2],.rows 1 [V.sl (map V.i at_2)],.rows 1 [V.b some_2],lr R_4 .busy none,.rows 2 [zD y2],.rows 1 (map (fun l=>V.sl (map V.i l)) ([y1,l1])),.rows 4 [jE y4]]) rfl rfl rfl (au 8 ?_)
    refine ca (yU y4.Fore.Hi y4.Aft.Hi) (au 3 ?_)
    refine X.mid [(72,(V.b ((!some_2)||(decide (deep2<(ZC y4.Fore.Hi y4.Aft.Hi)))))),(2,V.ptr 0 0 0),(3,V.ptr 1 0 0),(12,V.ptr 4 0 0),(13,V.ptr 5 0 0),(14,V.ptr 6 0 0),(15,V.i t),(18,V.sl (map V.i y3)),(20,V.i (ZC y4.Fore.Hi y4.Aft.Hi)),(46,V.osl 9 0 (List.length ([y1,l1]))),(47,(V.i (([y1,l1]).length:Int))),(48,V.i x1)] ?_ ?_
    ·intro hg
     refine X.split (!some_2) (fun h_11=>?_) (fun h_11=>?_)
     ·refine au 8 ?_
      exact ng hg rfl (by simp only [h_11,bb])
     refine au 8 ?_
     exact ng hg rfl (by simp only [h_11,bb])
    refine cm M (fun h_12 M=>?_) (fun h_12 M=>?_)
    ·refine au 3 ?_
     refine X.op0W (H':=[.rows 11 [zU s],.rows 3 [zO l],.rows 1 [V.sl (map V.i y1)],.rows 1 [V.sl (map V.i l1)],.rows 1 [V.i (ZC y4.Fore.Hi y4.Aft.Hi)],.rows 1 [V.sl (map V.i at_2)],.rows 1 [V.b some_2],lr R_4 .busy none,.rows 2 [zD y2],.rows 1 (map (fun l=>V.sl (map V.i l)) ([y1,l1])),.rows 4 [jE y4]]) rfl rfl rfl ?_
     refine X.op0W (H':=[.rows 11 [zU s],.rows 3 [zO l],.rows 1 [V.sl (map V.i y1)],.rows 1 [V.sl (map V.i l1)],.rows 1 [V.i (ZC y4.Fore.Hi y4.Aft.Hi)],.rows 1 [V.sl (map V.i y3)],.rows 1 [V.b some_2],lr R_4 .busy none,.rows 2 [zD y2],.rows 1 (map (fun l=>V.sl (map V.i l)) ([y1,l1])),.rows 4 [jE y4]]) rfl rfl rfl ?_
     refine X.op0W (H':=[.rows 11 [zU s],.rows 3 [zO l],.rows 1 [V.sl (map V.i y1)],.rows 1 [V.sl (map V.i l1)],.rows 1 [V.i (ZC y4.Fore.Hi y4.Aft.Hi)],.rows 1 [V.sl (map V.i y3)],.rows 1 [V.b true],lr R_4 .busy none,.rows 2 [zD y2],.rows 1 (map (fun l=>V.sl (map V.i l)) ([y1,l1])),.rows 4 [jE y4]]) rfl rfl rfl (au 2 ?_)
     exact X.gc [some 9] (hj_5 (ZC y4.Fore.Hi y4.Aft.Hi,y3,true) M) rfl rfl rfl (ga rfl rfl) (gb9 rfl rfl rfl (gb9 rfl rfl rfl (gb9 rfl rfl rfl (gb9 rfl rfl rfl (gb9 rfl rfl rfl (gb9 rfl rfl rfl (gb9 rfl rfl rfl (jR hlow_4 rfl rfl rfl (gb9 rfl rfl rfl (Q0 9 rfl rfl (fun _=>rfl) zb))))))))))
    refine au 2 ?_
    exact X.gc [some 9] (hj_5 (deep2,at_2,some_2) M) rfl rfl rfl (ga rfl rfl) (gb9 rfl rfl rfl (gb9 rfl rfl rfl (gb9 rfl rfl rfl (gb9 rfl rfl rfl (gb9 rfl rfl rfl (gb9 rfl rfl rfl (gb9 rfl rfl rfl (jR hlow_4 rfl rfl rfl (gb9 rfl rfl rfl (Q0 9 rfl rfl (fun _=>rfl) zb))))))))))
   obtain ⟨y_2,M,hy⟩:=zt M
   rw [hr_2 _ hy.symm] at M
   refine au 1 ?_
   exact X.gc [] (hj_3 (deep2,at_2,some_2) M) rfl rfl rfl (QO) (gb9 rfl rfl rfl (gb9 rfl rfl rfl (gb9 rfl rfl rfl (gb9 rfl rfl rfl (gb9 rfl rfl rfl (gb9 rfl rfl rfl (gb9 rfl rfl rfl (jR hlow_4 rfl rfl rfl (gb9 rfl rfl rfl zb)))))))))
  refine au 1 ?_
  refine GS.nil ⟨_,_,rfl,rfl,?_⟩
  refine X.norm (H':=[.rows 11 [zU s],.rows 3 [zO l],.rows 1 [V.sl (map V.i y1)],.rows 1 [V.sl (map V.i l1)],.rows 1 [V.i deep3],.rows 1 [V.sl (map V.i at_3)],.rows 1 [V.b some_3],.dead,.rows 2 [zD y2]]) [(2,V.ptr 0 0 0),(3,V.ptr 1 0 0),(8,V.ptr 2 0 0),(9,V.ptr 3 0 0),(12,V.ptr 4 0 0),(13,V.ptr 5 0 0),(14,V.ptr 6 0 0),(42,V.fn 70 [V.fptr [zO (zBr l)] 0 0])] ?_ rfl (sr rfl)
  refine au 9 ?_
  refine X.norm [(4,V.i deep3),(5,V.sl (map V.i at_3)),(6,V.i 0)] ?_ rfl (sr rfl)
  have hE:=bf M
  replace hE:=hr_1 _ hE.symm
  subst hE
  exact X.rt
 intro hj_1
 refine au 1 ?_
 refine gx [some 0,some 1,some 2,some 3,none] (X.loop (σ:=(Int×(List Int))) (fun v=>⟨[(2,V.ptr 0 0 0),(3,V.ptr 1 0 0),(8,V.ptr 2 0 0),(9,V.ptr 3 0 0),(29,V.sl (map V.i y1)),(30,(V.i (y1.length:Int))),(31,V.i v.1)],[.rows 11 [zU s],.rows 3 [zO l],.rows 1 [V.sl (map V.i y1)],.rows 1 [ovl 4 v.2],obl 1 V.i v.2],0,none,78⟩) M ?_ rfl)
 rintro ⟨x3,l3⟩ b_1 M hc_6 hr_1
 rw [QY] at M
 refine au 3 ?_
 refine GS.seq ?_
 refine cm M (fun h_13 M=>?_) (fun h_13 M=>?_)
 ·obtain ⟨x2,h_14,M⟩:=zC M
  refine au 8 ?_
  obtain ⟨l2,h_15,M⟩:=zC M
  refine GS.region ?_
  refine X.opR rfl (v:=(ovl 4 l3)) (by rcases yM (z:=true) 4 l3 with h0 | ⟨n0,h0⟩ <;> simp only [h0] <;> rfl) rfl (au 2 ?_)
  refine X.opW (H':=[.rows 11 [zU s],.rows 3 [zO l],.rows 1 [V.sl (map V.i y1)],.rows 1 [ovl 4 l3],obl 1 V.i l3,.rows 1 (map V.i ([w64 (0 - x2)]))]) rfl rfl rfl rfl ?_
  refine appN (f:=V.i) h_15 (fun _=>rfl) (by rfl) (by rfl) (by rfl) (by rfl) (by rfl) (by rfl) (by rfl) (by rfl) (by rfl) (by rfl) (by rfl) (by exact rfl) (by rfl) (by rfl) ?_
  refine X.op0W (H':=[.rows 11 [zU s],.rows 3 [zO l],.rows 1 [V.sl (map V.i y1)],.rows 1 [V.osl 6 0 (List.length l2)],.dead,.rows 1 (map V.i ([w64 (0 - x2)])),.rows 1 (map V.i l2)]) rfl (v:=jT) (wr:=[(3,.rows 1 [V.osl 6 0 (List.length l2)])]) (by rcases yM (z:=true) 4 l3 with h0 | ⟨n0,h0⟩ <;> simp only [h0] <;> rfl) rfl (au 6 ?_)
  have hE:=bf M
  exact X.gc [some 0,some 1,some 2,some 3,some 6] (hc_6 (w64 (x3+1),l2) hE.symm) rfl rfl rfl (ga rfl rfl) (gb9 rfl rfl rfl (gb9 rfl rfl rfl (gb9 rfl rfl rfl (Zj rfl rfl (qz (jH h_15) rfl) (gb_obl' 9 (jH h_15) rfl rfl (fun _=>rfl) zb)))))
 obtain ⟨y_1,M,hy⟩:=zt M
 rw [hr_1 _ hy.symm] at M
 refine au 1 ?_
 exact X.gc [some 0,some 1,some 2,some 3,some 4] (hj_1 l3 M) rfl rfl rfl (ga rfl rfl) (gb9 rfl rfl rfl (gb9 rfl rfl rfl (gb9 rfl rfl rfl (Zj rfl rfl (Am.zY rfl) (ZB 9 rfl rfl (fun _=>rfl) zb)))))
set_option maxHeartbeats 4000000 in
theorem zFA {l:(List ZO)} {r:(List zV)×Bool} (M:zAt l=some r):Ct Tryz.prog 5 [V.sl (map zi l)] (V.tup [V.sl (map zL r.1),V.b r.2]):=by
 refine zP zn rfl ?_
 unfold zAt at M
 refine au 13 ?_
 refine X.join (τ:=(List zV)) (fun v=>zA9 v=some r) (fun v=>⟨[(4,ovl 0 v)],[obl 5 zL v],0,none,62⟩) ?_ ?_
 ·intro l1 M
  replace M:zA9 l1=some r:=M
  unfold zA9 at M
  refine au 5 ?_
  have hE:=bf M
  subst hE
  exact GS.ret ⟨_,rfl,FR.tup (.cons (FR.ovl (f:=zL) (l:=l1) 9 rfl rfl (fun _=>rfl)) (.cons ⟨30,rfl⟩ .nil))⟩
 intro hj_1
 refine au 1 ?_
 refine gx [none] (X.loop (σ:=(Int×(List zV))) (fun v=>⟨[(4,ovl 0 v.2),(10,V.sl (map zi l)),(11,(V.i (l.length:Int))),(12,V.i v.1)],[obl 5 zL v.2],0,none,62⟩) M ?_ rfl)
 rintro ⟨x1,l3⟩ b_1 M hc_2 hr_1
 rw [zCy] at M
 refine au 3 ?_
 refine GS.seq ?_
 refine cm M (fun h_1 M=>?_) (fun h_1 M=>?_)
 ·obtain ⟨x,h_2,M⟩:=zC M
  refine au 9 ?_
  refine X.op0W (H':=[obl 5 zL l3,.rows 17 [zi x]]) rfl (stA rfl rfl rfl rfl rfl rfl rfl) rfl ?_
  obtain ⟨y,h_3,M⟩:=Yw M
  refine au 3 ?_
  refine X.mid [(30,(V.b ((!(Q7 x.Ship x.Load))||(!decide (y=0))))),(4,ovl 0 l3),(5,V.i x1),(6,V.ptr 1 0 0),(10,V.sl (map zi l)),(11,(V.i (l.length:Int))),(12,V.i x1)] ?_ ?_
  ·intro hg
   refine X.split (!(Q7 x.Ship x.Load)) (fun h_4=>?_) (fun h_4=>?_)
   ·refine au 4 ?_
    refine ca (zF3 x.Ship x.Load) (au 10 ?_)
    exact ng hg rfl (by simp only [h_4,bb])
   refine au 4 ?_
   refine ca (zF3 x.Ship x.Load) (au 6 ?_)
   refine ca (yH (h_3 (nt h_4))) (au 3 ?_)
   exact ng hg rfl (by simp only [h_4,bb])
  refine cm M (fun h_5 M=>?_) (fun h_5 M=>?_)
  ·refine au 4 ?_
   have hE:=bf M
   replace hE:=hr_1 _ hE.symm
   subst hE
   exact X.rt
  obtain ⟨y1,h_6,M⟩:=zC M
  refine au 6 ?_
  refine ca (zCX h_6) (au 10 ?_)
  refine X.mid [(45,(V.b ((!decide (y1.2.2=0))||(decide (8000<y1.1))))),(4,ovl 0 l3),(5,V.i x1),(6,V.ptr 1 0 0),(7,V.i y1.1),(10,V.sl (map zi l)),(11,(V.i (l.length:Int))),(12,V.i x1)] ?_ ?_
  ·intro hg
   refine X.split (!decide (y1.2.2=0)) (fun h_7=>?_) (fun h_7=>?_)
   ·refine au 7 ?_
    exact ng hg rfl (by simp only [h_7,bb])
   refine au 7 ?_
   exact ng hg rfl (by simp only [h_7,bb])
  refine cm M (fun h_8 M=>?_) (fun h_8 M=>?_)
  ·refine au 4 ?_
   have hE:=bf M
   replace hE:=hr_1 _ hE.symm
   subst hE
   exact X.rt
  obtain ⟨l2,h_9,M⟩:=zC M
  refine au 15 ?_
  refine appN (f:=zL) h_9 (fun _=>rfl) (by rfl) (by rfl) (by rfl) (by rfl) (by rfl) (by rfl) (by rfl) (by rfl) (by rfl) (by rfl) (by rfl) (by exact rfl) (by rfl) (by rfl) (au 7 ?_)
  have hE:=bf M
  exact X.gc [some 3] (hc_2 (w64 (x1+1),l2) hE.symm) rfl rfl rfl (zG rfl (qz (jH h_9) rfl) (ga rfl rfl)) (gb_obl' 9 (jH h_9) rfl rfl (fun _=>rfl) zb)
 obtain ⟨y_1,M,hy⟩:=zt M
 rw [hr_1 _ hy.symm] at M
 refine au 1 ?_
 exact gy [some 0] (hj_1 l3 M) (zG rfl (Am.zY rfl) QO)
theorem zHq : Ct Tryz.prog 12 [] (zJ (zB4)):=by
 refine zP zn rfl ?_
 generalize M:zB4=r
 unfold zB4 at M
 refine au 8 ?_
 refine X.opW (H':=[.rows 6 [V.agg [V.i 0,V.nil,V.nil,V.nil,V.nil,V.i 0]],.rows 1 (map V.i ([0,100,200,100])),.rows 4 [V.agg [V.i 1,V.i 0,V.i 60,V.osl 1 0 (List.length ([0,100,200,100]))]],.rows 3 [V.agg [V.i 0,V.nil,V.nil]]]) rfl rfl rfl rfl ?_
 refine X.op0W (H':=[.rows 6 [V.agg [V.i 0,V.nil,V.nil,V.nil,V.nil,V.i 0]],.rows 1 (map V.i ([0,100,200,100])),.rows 4 [V.agg [V.i 1,V.i 0,V.i 60,V.osl 1 0 (List.length ([0,100,200,100]))]],.rows 3 [V.agg [V.i 500,V.osl 2 0 1,V.nil]]]) rfl rfl rfl (au 5 ?_)
 refine X.opW (H':=[.rows 6 [V.agg [V.i 0,V.nil,V.nil,V.nil,V.nil,V.i 0]],.rows 1 (map V.i ([0,100,200,100])),.rows 4 [V.agg [V.i 1,V.i 0,V.i 60,V.osl 1 0 (List.length ([0,100,200,100]))]],.rows 3 [V.agg [V.i 500,V.osl 2 0 1,V.nil]],.rows 2 (map zX ([(⟨1,300⟩:zy),(⟨2,100⟩:zy)]))]) rfl rfl rfl rfl (au 2 ?_)
 refine X.opW (H':=[.rows 6 [V.agg [V.i 0,V.nil,V.nil,V.nil,V.nil,V.i 0]],.rows 1 (map V.i ([0,100,200,100])),.rows 4 [V.agg [V.i 1,V.i 0,V.i 60,V.osl 1 0 (List.length ([0,100,200,100]))]],.rows 3 [V.agg [V.i 500,V.osl 2 0 1,V.nil]],.rows 2 (map zX ([(⟨1,300⟩:zy),(⟨2,100⟩:zy)])),.rows 2 (map zD ([(⟨0,239⟩:zB),(⟨240,479⟩:zB)]))]) rfl rfl rfl rfl ?_
 refine X.q rfl ?_
 refine X.op0W (H':=[.rows 6 [(V.agg [V.i 500,V.osl 2 0 1,V.nil,(V.osl 4 0 (List.length ([(⟨1,300⟩:zy),(⟨2,100⟩:zy)]))),(V.osl 5 0 (List.length ([(⟨0,239⟩:zB),(⟨240,479⟩:zB)]))),V.i 50])],.rows 1 (map V.i ([0,100,200,100])),.rows 4 [V.agg [V.i 1,V.i 0,V.i 60,V.osl 1 0 (List.length ([0,100,200,100]))]],.rows 3 [V.agg [V.i 500,V.osl 2 0 1,V.nil]],.rows 2 (map zX ([(⟨1,300⟩:zy),(⟨2,100⟩:zy)])),.rows 2 (map zD ([(⟨0,239⟩:zB),(⟨240,479⟩:zB)]))]) rfl rfl rfl ?_
 refine GS.ZT ?_
 subst M
 exact X.rt
theorem Z4 (n:Int) (lo:Int) (hi:Int):Ct Tryz.prog 90 [V.i n,V.i lo,V.i hi] (V.b (zu n lo hi)):=by
 refine zP zn rfl ?_
 generalize M:zu n lo hi=r
 unfold zu at M
 refine au 4 ?_
 refine X.mid [(6,V.b ((decide (lo≤n))&&(decide (n≤hi))))] ?_ ?_
 ·intro hg
  refine X.split (decide (lo≤n)) (fun h_1=>?_) (fun h_1=>?_)
  ·refine au 10 ?_
   exact ng hg rfl (by simp only [h_1,bb])
  refine au 10 ?_
  exact ng hg rfl (by simp only [h_1,bb])
 subst M
 exact X.rt
theorem zDm (n:Int):Ct Tryz.prog 86 [V.i n] (V.b (jZ n)):=by
 refine zP zn rfl ?_
 generalize M:jZ n=r
 unfold jZ at M
 refine au 5 ?_
 refine ca (Z4 n (-4000) 4000) (au 2 ?_)
 subst M
 exact X.rt
theorem qD (tick:Int):Ct Tryz.prog 47 [V.i tick] (V.b (ji tick)):=by
 refine zP zn rfl ?_
 generalize M:ji tick=r
 unfold ji at M
 refine au 5 ?_
 refine ca (Z4 tick 0 1048576) (au 2 ?_)
 subst M
 exact X.rt
theorem zIg (h:Int):Ct Tryz.prog 115 [V.i h] (V.b (Ja h)):=by
 refine zP zn rfl ?_
 generalize M:Ja h=r
 unfold Ja at M
 refine au 5 ?_
 refine ca (zDm h) (au 3 ?_)
 subst M
 exact X.rt
theorem qa {s:(List Int)} {r:Int} (M:Z9 s=some r):Ct Tryz.prog 138 [V.sl (map V.i s),V.fn 115 []] (V.i r):=by
 refine zP zn rfl ?_
 unfold Z9 at M
 refine au 9 ?_
 refine X.join (τ:=Unit) (fun v=>jJ=some r) (fun v=>⟨[],[],0,none,19⟩) ?_ ?_
 ·intro _ M
  replace M:jJ=some r:=M
  unfold jJ at M
  refine au 3 ?_
  cases M
  exact X.rt
 intro hj_1
 refine au 1 ?_
 refine gx [] (X.loop (σ:=Int) (fun v=>⟨[(0,V.sl (map V.i s)),(1,V.fn 115 []),(7,(V.i (s.length:Int))),(8,V.i v)],[],0,none,19⟩) M ?_ rfl)
 intro x1 b_1 M hc_2 hr_1
 rw [jq] at M
 refine au 3 ?_
 refine GS.seq ?_
 refine cm M (fun h_1 M=>?_) (fun h_1 M=>?_)
 ·obtain ⟨x,h_2,M⟩:=zC M
  refine au 13 ?_
  refine ca (zIg x) ?_
  refine GS.ZT ?_
  refine cm M (fun h_3 M=>?_) (fun h_3 M=>?_)
  ·refine au 4 ?_
   have hE:=bf M
   replace hE:=hr_1 _ hE.symm
   subst hE
   exact X.rt
  refine au 6 ?_
  have hE:=bf M
  exact gx [] (hc_2 (w64 (x1+1)) hE.symm)
 obtain ⟨y_1,M,hy⟩:=zt M
 rw [hr_1 _ hy.symm] at M
 refine au 1 ?_
 exact gx [] (hj_1 () M)
theorem Qw {s:(List Int)} {r:Bool} (M:ZR s=some r):Ct Tryz.prog 114 [V.sl (map V.i s),V.fn 115 []] (V.b r):=by
 refine zP zn rfl ?_
 unfold ZR at M
 obtain ⟨y,h_1,M⟩:=zC M
 refine au 6 ?_
 refine ca (qa h_1) (au 3 ?_)
 cases M
 exact X.rt
set_option maxHeartbeats 4000000 in
theorem zKc {c:zz} {r:Bool} (M:zAk c=some r):Ct Tryz.prog 87 [ZN c] (V.b r):=by
 refine zP zn rfl ?_
 unfold zAk at M
 obtain ⟨y,h_1,M⟩:=Yw M
 refine au 5 ?_
 refine X.mid [(2,(V.b (((((zu c.ID 1 1099511627776)&&(ji c.Begin))&&(zu c.Every 1 120))&&(zu (c.Heights.length:Int) 1 60))&&(!y))))] ?_ ?_
 ·intro hg
  refine X.split (zu c.ID 1 1099511627776) (fun h_2=>?_) (fun h_2=>?_)
  ·refine X.split (ji c.Begin) (fun h_3=>?_) (fun h_3=>?_)
   ·refine X.split (zu c.Every 1 120) (fun h_4=>?_) (fun h_4=>?_)
    ·refine X.split ((zu (c.Heights.length:Int) 1 60)) (fun h_5=>?_) (fun h_5=>?_)
     ·refine au 2 ?_
      refine ca (Z4 c.ID 1 1099511627776) (au 3 ?_)
      refine ca (qD c.Begin) (au 4 ?_)
      refine ca (Z4 c.Every 1 120) (au 5 ?_)
      refine ca (Z4 (c.Heights.length:Int) 1 60) (au 4 ?_)
      refine ca (Qw (h_1 (zKO (zKO (zKO h_2 h_3) h_4) h_5))) (au 4 ?_)
      exact ng hg rfl (by simp only [h_2,h_3,h_4,h_5,bb])
     refine au 2 ?_
     refine ca (Z4 c.ID 1 1099511627776) (au 3 ?_)
     refine ca (qD c.Begin) (au 4 ?_)
     refine ca (Z4 c.Every 1 120) (au 5 ?_)
     refine ca (Z4 (c.Heights.length:Int) 1 60) (au 9 ?_)
     exact ng hg rfl (by simp only [h_2,h_3,h_4,h_5,bb])
    refine au 2 ?_
    refine ca (Z4 c.ID 1 1099511627776) (au 3 ?_)
    refine ca (qD c.Begin) (au 4 ?_)
    refine ca (Z4 c.Every 1 120) (au 15 ?_)
    exact ng hg rfl (by simp only [h_2,h_3,h_4,bb])
   refine au 2 ?_
   refine ca (Z4 c.ID 1 1099511627776) (au 3 ?_)
   refine ca (qD c.Begin) (au 20 ?_)
   exact ng hg rfl (by simp only [h_2,h_3,bb])
  refine au 2 ?_
  refine ca (Z4 c.ID 1 1099511627776) (au 24 ?_)
  exact ng hg rfl (by simp only [h_2,bb])
 cases M
 exact X.rt
theorem zIl (x:zz) (c:zz):Ct Tryz.prog 89 [ZN x,V.fptr [ZN c] 0 0] (V.b (QH x c)):=by
 refine zP zn rfl ?_
 generalize M:QH x c=r
 unfold QH at M
 refine au 12 ?_
 subst M
 exact X.rt
theorem Y6 {s:(List zz)} {c:zz} {r:Int} (M:ZJ s c=some r):Ct Tryz.prog 116 [V.sl (map ZN s),V.fn 89 [V.fptr [ZN c] 0 0]] (V.i r):=by
 refine zP zn rfl ?_
 unfold ZJ at M
 refine au 9 ?_
 refine X.join (τ:=Unit) (fun v=>Z0=some r) (fun v=>⟨[],[],0,none,19⟩) ?_ ?_
 ·intro _ M
  replace M:Z0=some r:=M
  unfold Z0 at M
  refine au 3 ?_
  cases M
  exact X.rt
 intro hj_1
 refine au 1 ?_
 refine gx [] (X.loop (σ:=Int) (fun v=>⟨[(0,V.sl (map ZN s)),(1,V.fn 89 [V.fptr [ZN c] 0 0]),(7,(V.i (s.length:Int))),(8,V.i v)],[],0,none,19⟩) M ?_ rfl)
 intro x1 b_1 M hc_2 hr_1
 rw [Zd] at M
 refine au 3 ?_
 refine GS.seq ?_
 refine cm M (fun h_1 M=>?_) (fun h_1 M=>?_)
 ·obtain ⟨x,h_2,M⟩:=zC M
  refine au 13 ?_
  refine ca (zIl x c) ?_
  refine GS.ZT ?_
  refine cm M (fun h_3 M=>?_) (fun h_3 M=>?_)
  ·refine au 4 ?_
   have hE:=bf M
   replace hE:=hr_1 _ hE.symm
   subst hE
   exact X.rt
  refine au 6 ?_
  have hE:=bf M
  exact gx [] (hc_2 (w64 (x1+1)) hE.symm)
 obtain ⟨y_1,M,hy⟩:=zt M
 rw [hr_1 _ hy.symm] at M
 refine au 1 ?_
 exact gx [] (hj_1 () M)
theorem Ya {s:(List zz)} {c:zz} {r:Bool} (M:ZP s c=some r):Ct Tryz.prog 88 [V.sl (map ZN s),V.fn 89 [V.fptr [ZN c] 0 0]] (V.b r):=by
 refine zP zn rfl ?_
 unfold ZP at M
 obtain ⟨y,h_1,M⟩:=zC M
 refine au 6 ?_
 refine ca (Y6 h_1) (au 3 ?_)
 cases M
 exact X.rt
set_option maxHeartbeats 4000000 in
theorem zDn {w:zW} {r:Int} (M:QI w=some r):Ct Tryz.prog 46 [ZL w] (V.i r):=by
 refine zP zn rfl ?_
 unfold QI at M
 refine au 9 ?_
 refine ca (zDm w.Level) (au 3 ?_)
 refine cm M (fun h_1 M=>?_) (fun h_1 M=>?_)
 ·refine au 3 ?_
  cases M
  exact X.rt
 refine sq ?_
 refine X.mid [(13,(V.b ((decide (6<(w.Cycles.length:Int)))||(decide (20<(w.Shifts.length:Int)))))),(1,V.ptr 0 0 0)] ?_ ?_
 ·intro hg
  refine X.split (decide (6<(w.Cycles.length:Int))) (fun h_2=>?_) (fun h_2=>?_)
  ·refine au 12 ?_
   exact ng hg rfl (by simp only [h_2,bb])
  refine au 12 ?_
  exact ng hg rfl (by simp only [h_2,bb])
 refine cm M (fun h_3 M=>?_) (fun h_3 M=>?_)
 ·refine au 3 ?_
  cases M
  exact X.rt
 refine au 9 ?_
 refine X.join (τ:=Unit) (fun v=>ym w=some r) (fun v=>⟨[(1,V.ptr 0 0 0)],[.rows 3 [ZL w]],0,none,71⟩) ?_ ?_
 ·intro _ M
  replace M:ym w=some r:=M
  unfold ym at M
  refine au 10 ?_
  refine X.join (τ:=Unit) (fun v=>zBy=some r) (fun v=>⟨[],[],0,none,71⟩) ?_ ?_
  ·intro _ M
   replace M:zBy=some r:=M
   unfold zBy at M
   refine au 3 ?_
   cases M
   exact X.rt
  intro hj_2
  refine au 1 ?_
  refine gx [] (X.loop (σ:=(Int×Int)) (fun v=>⟨[(5,V.i v.1),(43,V.sl (map YV w.Shifts)),(44,(V.i (w.Shifts.length:Int))),(45,V.i v.2)],[],0,none,71⟩) M ?_ rfl)
  rintro ⟨last,x1⟩ b_1 M hc_3 hr_1
  rw [zAL] at M
  refine au 3 ?_
  refine GS.seq ?_
  refine cm M (fun h_4 M=>?_) (fun h_4 M=>?_)
  ·obtain ⟨x,h_5,M⟩:=zC M
   refine au 7 ?_
   refine X.op0W rfl rfl rfl (au 3 ?_)
   refine X.mid [(67,(V.b (((!(zu x.From (w64 (last+1)) x.To))||(decide (728<x.To)))||(!(jZ x.Add))))),(7,V.ptr 0 0 0),(43,V.sl (map YV w.Shifts)),(44,(V.i (w.Shifts.length:Int))),(45,V.i x1)] ?_ ?_
   ·intro hg
    refine X.split (!(zu x.From (w64 (last+1)) x.To)) (fun h_6=>?_) (fun h_6=>?_)
    ·refine au 6 ?_
     refine ca (Z4 x.From (w64 (last+1)) x.To) (au 13 ?_)
     exact ng hg rfl (by simp only [h_6,bb])
    refine X.split (decide (728<x.To)) (fun h_7=>?_) (fun h_7=>?_)
    ·refine au 6 ?_
     refine ca (Z4 x.From (w64 (last+1)) x.To) (au 13 ?_)
     exact ng hg rfl (by simp only [h_6,h_7,bb])
    refine au 6 ?_
    refine ca (Z4 x.From (w64 (last+1)) x.To) (au 9 ?_)
    refine ca (zDm x.Add) (au 3 ?_)
    exact ng hg rfl (by simp only [h_6,h_7,bb])
   refine cm M (fun h_8 M=>?_) (fun h_8 M=>?_)
   ·refine au 3 ?_
    have hE:=bf M
    replace hE:=hr_1 _ hE.symm
    subst hE
    exact X.rt
   refine au 11 ?_
   have hE:=bf M
   exact gx [] (hc_3 (x.To,w64 (x1+1)) hE.symm)
  obtain ⟨y_1,M,hy⟩:=zt M
  rw [hr_1 _ hy.symm] at M
  refine au 1 ?_
  exact gx [] (hj_2 () M)
 intro hj_1
 refine au 1 ?_
 refine gx [some 0] (X.loop (σ:=Int) (fun v=>⟨[(1,V.ptr 0 0 0),(25,V.sl (map ZN w.Cycles)),(26,(V.i (w.Cycles.length:Int))),(27,V.i v)],[.rows 3 [ZL w]],0,none,71⟩) M ?_ rfl)
 intro x3 b_1 M hc_4 hr_1
 rw [zAK] at M
 refine au 3 ?_
 refine GS.seq ?_
 refine cm M (fun h_9 M=>?_) (fun h_9 M=>?_)
 ·obtain ⟨x2,h_10,M⟩:=zC M
  refine au 9 ?_
  refine X.op0W rfl rfl rfl ?_
  obtain ⟨y,h_11,M⟩:=zC M
  refine au 4 ?_
  refine ca (zKc h_11) (au 2 ?_)
  refine cm M (fun h_12 M=>?_) (fun h_12 M=>?_)
  ·refine au 3 ?_
   have hE:=bf M
   replace hE:=hr_1 _ hE.symm
   subst hE
   exact X.rt
  obtain ⟨l,h_13,M⟩:=zC M
  obtain ⟨y1,h_14,M⟩:=zC M
  refine au 5 ?_
  refine X.opR rfl (zQW (f:=ZN) h_13 (fun _=>rfl) rfl rfl rfl rfl rfl rfl (zGm rfl)) rfl (X.q rfl ?_)
  refine X.zBk (Ya h_14) rfl rfl rfl (m:=9) rfl (.cons (.shut (n:=9) rfl) (.cons (FR.arg ⟨30,rfl⟩) .nil)) ?_
  refine GS.ZT ?_
  refine cm M (fun h_15 M=>?_) (fun h_15 M=>?_)
  ·refine au 3 ?_
   have hE:=bf M
   replace hE:=hr_1 _ hE.symm
   subst hE
   exact X.rt
  refine au 6 ?_
  have hE:=bf M
  exact gx [some 0] (hc_4 (w64 (x3+1)) hE.symm)
 obtain ⟨y_1,M,hy⟩:=zt M
 rw [hr_1 _ hy.symm] at M
 refine au 1 ?_
 exact gx [some 0] (hj_1 () M)
theorem Zo (n:Int) (lo:Int) (hi:Int):Ct Tryz.prog 80 [V.i n,V.i lo,V.i hi] (V.b (Zk n lo hi)):=by
 refine zP zn rfl ?_
 generalize M:Zk n lo hi=r
 unfold Zk at M
 refine au 4 ?_
 refine X.mid [(6,V.b ((decide (lo≤n))&&(decide (n≤hi))))] ?_ ?_
 ·intro hg
  refine X.split (decide (lo≤n)) (fun h_1=>?_) (fun h_1=>?_)
  ·refine au 10 ?_
   exact ng hg rfl (by simp only [h_1,bb])
  refine au 10 ?_
  exact ng hg rfl (by simp only [h_1,bb])
 subst M
 exact X.rt
theorem zHs (b:zy):Ct Tryz.prog 82 [zX b] (V.i (zAb b)):=by
 refine zP zn rfl ?_
 generalize M:zAb b=r
 unfold zAb at M
 refine au 9 ?_
 subst M
 exact X.rt
theorem QT (x:zy) (c:Int):Ct Tryz.prog 111 [zX x,V.fptr [V.fn 82 []] 0 0,V.fptr [V.i c] 0 0] (V.b (jF x c)):=by
 refine zP zn rfl ?_
 generalize M:jF x c=r
 unfold jF at M
 refine au 8 ?_
 refine cca (zHs x) (au 4 ?_)
 refine X.norm [(4,V.b (decide ((zAb x)=c)))] ?_ rfl (sr rfl)
 subst M
 exact X.rt
theorem JG {s:(List zy)} {c:Int} {r:Int} (M:ZF s c=some r):Ct Tryz.prog 110 [V.sl (map zX s),V.fn 111 [V.fptr [V.fn 82 []] 0 0,V.fptr [V.i c] 0 0]] (V.i r):=by
 refine zP zn rfl ?_
 unfold ZF at M
 refine au 9 ?_
 refine X.join (τ:=Unit) (fun v=>ZA=some r) (fun v=>⟨[],[],0,none,19⟩) ?_ ?_
 ·intro _ M
  replace M:ZA=some r:=M
  unfold ZA at M
  refine au 3 ?_
  cases M
  exact X.rt
 intro hj_1
 refine au 1 ?_
 refine gx [] (X.loop (σ:=Int) (fun v=>⟨[(0,V.sl (map zX s)),(1,V.fn 111 [V.fptr [V.fn 82 []] 0 0,V.fptr [V.i c] 0 0]),(7,(V.i (s.length:Int))),(8,V.i v)],[],0,none,19⟩) M ?_ rfl)
 intro x1 b_1 M hc_2 hr_1
 rw [zh] at M
 refine au 3 ?_
 refine GS.seq ?_
 refine cm M (fun h_1 M=>?_) (fun h_1 M=>?_)
 ·obtain ⟨x,h_2,M⟩:=zC M
  refine au 13 ?_
  refine ca (QT x c) ?_
  refine GS.ZT ?_
  refine cm M (fun h_3 M=>?_) (fun h_3 M=>?_)
  ·refine au 4 ?_
   have hE:=bf M
   replace hE:=hr_1 _ hE.symm
   subst hE
   exact X.rt
  refine au 6 ?_
  have hE:=bf M
  exact gx [] (hc_2 (w64 (x1+1)) hE.symm)
 obtain ⟨y_1,M,hy⟩:=zt M
 rw [hr_1 _ hy.symm] at M
 refine au 1 ?_
 exact gx [] (hj_1 () M)
theorem Q6 {l:(List zy)} {id:Int} {r:Int} (M:Z5 l id=some r):Ct Tryz.prog 81 [V.sl (map zX l),V.i id,V.fn 82 []] (V.i r):=by
 refine zP zn rfl ?_
 unfold Z5 at M
 obtain ⟨y,h_1,M⟩:=zC M
 refine au 8 ?_
 refine X.zBk (JG h_1) rfl rfl rfl (m:=9) rfl (.cons (.shut (n:=9) rfl) (.cons (FR.arg ⟨30,rfl⟩) .nil)) (au 2 ?_)
 cases M
 exact X.rt
theorem zFJ (s:zB):Ct Tryz.prog 83 [zD s] (V.b (QD s)):=by
 refine zP zn rfl ?_
 generalize M:QD s=r
 unfold QD at M
 refine au 5 ?_
 refine X.mid [(2,V.b ((((decide (0≤s.Lo))&&(decide (s.Lo≤s.Hi)))&&(decide (s.Hi≤1048576)))&&(decide ((w64 (s.Hi - s.Lo))<1440))))] ?_ ?_
 ·intro hg
  refine X.split (decide (0≤s.Lo)) (fun h_1=>?_) (fun h_1=>?_)
  ·refine X.split (decide (s.Lo≤s.Hi)) (fun h_2=>?_) (fun h_2=>?_)
   ·refine X.split (decide (s.Hi≤1048576)) (fun h_3=>?_) (fun h_3=>?_)
    ·refine au 25 ?_
     exact ng hg rfl (by simp only [h_1,h_2,h_3,bb])
    refine au 25 ?_
    exact ng hg rfl (by simp only [h_1,h_2,h_3,bb])
   refine au 25 ?_
   exact ng hg rfl (by simp only [h_1,h_2,bb])
  refine au 25 ?_
  exact ng hg rfl (by simp only [h_1,bb])
 subst M
 exact X.rt
set_option maxHeartbeats 4000000 in
theorem zJc {h:zN} {r:Int} (M:zCT h=some r):Ct Tryz.prog 40 [zJ h] (V.i r):=by
 refine zP zn rfl ?_
 unfold zCT at M
 obtain ⟨y,h_1,M⟩:=zC M
 refine au 8 ?_
 refine ca (zDn h_1) (au 6 ?_)
 refine cm M (fun h_2 M=>?_) (fun h_2 M=>?_)
 ·refine au 4 ?_
  cases M
  exact X.rt
 refine au 3 ?_
 refine X.mid [(24,(V.b ((decide (6<(h.Berths.length:Int)))||(decide (12<(h.Tides.length:Int)))))),(1,V.ptr 0 0 0)] ?_ ?_
 ·intro hg
  refine X.split (decide (6<(h.Berths.length:Int))) (fun h_3=>?_) (fun h_3=>?_)
  ·refine au 11 ?_
   exact ng hg rfl (by simp only [h_3,bb])
  refine au 11 ?_
  exact ng hg rfl (by simp only [h_3,bb])
 refine cm M (fun h_4 M=>?_) (fun h_4 M=>?_)
 ·refine au 3 ?_
  cases M
  exact X.rt
 refine au 8 ?_
 refine X.join (τ:=Unit) (fun v=>qR h=some r) (fun v=>⟨[(1,V.ptr 0 0 0)],[.rows 6 [zJ h]],0,none,74⟩) ?_ ?_
 ·intro _ M
  replace M:qR h=some r:=M
  unfold qR at M
  refine au 10 ?_
  refine X.join (τ:=Unit) (fun v=>qQ h=some r) (fun v=>⟨[(1,V.ptr 0 0 0)],[.rows 6 [zJ h]],0,none,74⟩) ?_ ?_
  ·intro _ M
   replace M:qQ h=some r:=M
   unfold qQ at M
   refine au 4 ?_
   refine ca (Zo h.Keel 0 8000) (au 2 ?_)
   refine cm M (fun h_5 M=>?_) (fun h_5 M=>?_)
   ·refine au 3 ?_
    cases M
    exact X.rt
   refine au 4 ?_
   cases M
   exact X.rt
  intro hj_2
  refine au 1 ?_
  refine gx [some 0] (X.loop (σ:=(Int×Int)) (fun v=>⟨[(1,V.ptr 0 0 0),(6,V.i v.1),(52,V.sl (map zD h.Tides)),(53,(V.i (h.Tides.length:Int))),(54,V.i v.2)],[.rows 6 [zJ h]],0,none,74⟩) M ?_ rfl)
  rintro ⟨last,x1⟩ b_1 M hc_3 hr_1
  rw [zBb] at M
  refine au 3 ?_
  refine GS.seq ?_
  refine cm M (fun h_6 M=>?_) (fun h_6 M=>?_)
  ·obtain ⟨x,h_7,M⟩:=zC M
   refine au 7 ?_
   refine X.op0W rfl rfl rfl (au 3 ?_)
   refine X.mid [(66,(V.b ((!(QD x))||(decide (x.Lo≤last))))),(1,V.ptr 0 0 0),(8,V.ptr 1 0 0),(52,V.sl (map zD h.Tides)),(53,(V.i (h.Tides.length:Int))),(54,V.i x1)] ?_ ?_
   ·intro hg
    refine X.split (!(QD x)) (fun h_8=>?_) (fun h_8=>?_)
    ·refine X.q rfl ?_
     refine ca (zFJ x) (au 8 ?_)
     exact ng hg rfl (by simp only [h_8,bb])
    refine X.q rfl ?_
    refine ca (zFJ x) (au 8 ?_)
    exact ng hg rfl (by simp only [h_8,bb])
   refine cm M (fun h_9 M=>?_) (fun h_9 M=>?_)
   ·refine au 3 ?_
    have hE:=bf M
    replace hE:=hr_1 _ hE.symm
    subst hE
    exact X.rt
   refine au 11 ?_
   have hE:=bf M
   exact gx [some 0] (hc_3 (x.Hi,w64 (x1+1)) hE.symm)
  obtain ⟨y_1,M,hy⟩:=zt M
  rw [hr_1 _ hy.symm] at M
  refine au 1 ?_
  exact gx [some 0] (hj_2 () M)
 intro hj_1
 refine au 1 ?_
 refine gx [some 0] (X.loop (σ:=Int) (fun v=>⟨[(1,V.ptr 0 0 0),(26,V.sl (map zX h.Berths)),(27,(V.i (h.Berths.length:Int))),(28,V.i v)],[.rows 6 [zJ h]],0,none,74⟩) M ?_ rfl)
 intro x3 b_1 M hc_4 hr_1
 rw [zBa] at M
 refine au 3 ?_
 refine GS.seq ?_
 refine cm M (fun h_10 M=>?_) (fun h_10 M=>?_)
 ·obtain ⟨x2,h_11,M⟩:=zC M
  refine au 9 ?_
  refine X.op0W rfl rfl rfl (au 3 ?_)
  refine X.mid [(42,(V.b ((!(Zk x2.ID 1 1099511627776))||(!(Zk x2.Depth 0 8000))))),(1,V.ptr 0 0 0),(4,V.i x3),(5,V.ptr 1 0 0),(26,V.sl (map zX h.Berths)),(27,(V.i (h.Berths.length:Int))),(28,V.i x3)] ?_ ?_
  ·intro hg
   refine X.split (!(Zk x2.ID 1 1099511627776)) (fun h_12=>?_) (fun h_12=>?_)
   ·refine au 2 ?_
    refine ca (Zo x2.ID 1 1099511627776) (au 8 ?_)
    exact ng hg rfl (by simp only [h_12,bb])
   refine au 2 ?_
   refine ca (Zo x2.ID 1 1099511627776) (au 4 ?_)
   refine ca (Zo x2.Depth 0 8000) (au 3 ?_)
   exact ng hg rfl (by simp only [h_12,bb])
  refine cm M (fun h_13 M=>?_) (fun h_13 M=>?_)
  ·refine au 3 ?_
   have hE:=bf M
   replace hE:=hr_1 _ hE.symm
   subst hE
   exact X.rt
  obtain ⟨y1,h_14,M⟩:=zC M
  refine au 6 ?_
  refine ca (Q6 h_14) (au 3 ?_)
  refine cm M (fun h_15 M=>?_) (fun h_15 M=>?_)
  ·refine au 3 ?_
   have hE:=bf M
   replace hE:=hr_1 _ hE.symm
   subst hE
   exact X.rt
  refine au 6 ?_
  have hE:=bf M
  exact gx [some 0] (hc_4 (w64 (x3+1)) hE.symm)
 obtain ⟨y_1,M,hy⟩:=zt M
 rw [hr_1 _ hy.symm] at M
 refine au 1 ?_
 exact gx [some 0] (hj_1 () M)
end Go.Proofs.YtdpifjmggnjagaaGreat
